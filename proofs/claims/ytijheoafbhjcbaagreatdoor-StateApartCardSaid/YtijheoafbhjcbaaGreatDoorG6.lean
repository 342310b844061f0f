/- Lemmas for the claim. -/
import Derived.Test.YtijheoafbhjcbaaGreatDoorG5
import Derived.Test.YtijheoafbhjcbaaGreatDoorG3
import Derived.Lib.ItoaLen
import Derived.Lib.Join
set_option linter.all false
section
open Go Go.PG Go.PL
set_option linter.unusedVariables false
namespace Go.PL
theorem insA_length (x : At) : ∀ l : List At, (insA x l).length = l.length + 1
  | [] => rfl
  | y :: l => by simp only [insA]; split <;> simp [insA_length x l]
theorem addA_length (l : List At) (x : At) : (addA l x).length ≤ l.length + 1 := by
  unfold addA; split
  · rw [insA_length]; exact Nat.le_refl _
  · omega
theorem fold_length : ∀ (l acc : List At), (l.foldl addA acc).length ≤ acc.length + l.length
  | [], acc => by simp
  | x :: l, acc => by
    have h1 := fold_length l (addA acc x)
    have h2 := addA_length acc x
    simp only [List.foldl_cons, List.length_cons]
    omega
theorem norm_length (l : List At) : (norm l).length ≤ l.length := by
  have := fold_length l []
  simpa [norm] using this
theorem at_norm' (x : List At) (hx : x.length ≤ 8796093022100) : atoms_Norm K x = some (norm x) := at_norm x (by omega) (by omega)
theorem at_clone (k : Nat) (x : List At) (hx : x.length ≤ 8796093022100) : slCloneAtom k x = some x := by
  unfold slCloneAtom
  have hroom : P.room (P.add (P.len (P.nil (Int × Int))) (P.len x)) 16 = true := by
    rw [show P.len (P.nil (Int × Int)) = ((0 : Nat) : Int) from rfl, len_eq, room_nat]
    omega
  try dsimp only
  rw [hroom, cond_true, show P.app [] x = x from rfl]
  by_cases h0 : P.ilt ((0 : Int)) (P.len x) = true
  · rw [h0]; rfl
  · rw [Bool.eq_false_iff.2 h0, cond_false]
    have : x = [] := by
      rw [ilt_iff, len_eq] at h0
      exact List.length_eq_zero_iff.1 (by omega)
    subst this
    simp [P.amb]
theorem eq_iff_getD {a b : List At} (h : a.length = b.length) : (∀ i, i < a.length → a.getD i dA = b.getD i dA) ↔ a = b := by
  constructor
  · intro q
    refine List.ext_getElem h fun i h1 h2 => ?_
    have := q i h1
    simpa [List.getD_eq_getElem?_getD, h1, h2] using this
  · rintro rfl i _; rfl
theorem at_equal (a b : List At) (ha : a.length ≤ 8796093022100) : slEqualAtom K (a, b) = some (decide (a = b)) := by
  unfold slEqualAtom
  try dsimp only
  by_cases hl : a.length = b.length
  · rw [show P.ieq (P.len a) (P.len b) = true from ieq_iff.2 (by simp [len_eq, hl]), show P.not true = false from rfl, cond_false]
    rw [iter_all (n := a.length) (e := .inl ()) (r := .inr false) (fun i => a.getD i dA = b.getD i dA) K ?_ ?_ (by unfold K; omega)]
    · rw [bind_some]
      by_cases h : ∀ i, i < a.length → a.getD i dA = b.getD i dA
      · rw [if_pos h, either_inl, decide_eq_true ((eq_iff_getD hl).1 h)]
      · rw [if_neg h, either_inr, decide_eq_false fun q => h ((eq_iff_getD hl).2 q)]
    · intro i hi
      try dsimp only
      rw [show P.ilt (i : Int) (P.len a) = true from ilt_iff.2 (by rw [len_eq]; omega), cond_true, show P.inb (i : Int) (P.len a) = true from inb_iff.2 (by rw [len_eq]; omega), cond_true, show P.inb (i : Int) (P.len b) = true from inb_iff.2 (by rw [len_eq]; omega), cond_true, get_nat, get_nat, wrap_succ (by omega)]
      by_cases q : a.getD i dA = b.getD i dA
      · rw [show P.and (P.ieq (a.getD i dA).1 (b.getD i dA).1) (P.ieq (a.getD i dA).2 (b.getD i dA).2) = true from eqA_iff.2 q, if_pos q]; rfl
      · rw [show P.and (P.ieq (a.getD i dA).1 (b.getD i dA).1) (P.ieq (a.getD i dA).2 (b.getD i dA).2) = false from by rw [Bool.eq_false_iff]; exact fun z => q (eqA_iff.1 z), if_neg q]; rfl
    · try dsimp only
      rw [show P.ilt (a.length : Int) (P.len a) = false from by rw [Bool.eq_false_iff, Ne, ilt_iff, len_eq]; omega]; rfl
  · rw [show P.ieq (P.len a) (P.len b) = false from by rw [Bool.eq_false_iff, Ne, ieq_iff, len_eq, len_eq]; omega, show P.not false = true from rfl, cond_true, decide_eq_false fun q => hl (by rw [q])]
theorem ref_same (a b : List At) (ha : a.length ≤ 8796093022100) : ref06_Same K (a, b) = some (decide (a = b)) := by
  unfold ref06_Same
  try dsimp only
  by_cases hl : a.length = b.length
  · rw [show P.ieq (P.len a) (P.len b) = true from ieq_iff.2 (by simp [len_eq, hl]), show P.not true = false from rfl, cond_false]
    rw [iter_all (n := a.length) (e := .inl ()) (r := .inr false) (fun i => a.getD i dA = b.getD i dA) K ?_ ?_ (by unfold K; omega)]
    · rw [bind_some]
      by_cases h : ∀ i, i < a.length → a.getD i dA = b.getD i dA
      · rw [if_pos h, either_inl, decide_eq_true ((eq_iff_getD hl).1 h)]
      · rw [if_neg h, either_inr, decide_eq_false fun q => h ((eq_iff_getD hl).2 q)]
    · intro i hi
      try dsimp only
      rw [show P.ilt (i : Int) (P.len a) = true from ilt_iff.2 (by rw [len_eq]; omega), cond_true, show P.inb (i : Int) (P.len a) = true from inb_iff.2 (by rw [len_eq]; omega), cond_true, show P.inb (i : Int) (P.len b) = true from inb_iff.2 (by rw [len_eq]; omega), cond_true, get_nat, get_nat, wrap_succ (by omega)]
      by_cases q : a.getD i dA = b.getD i dA
      · rw [show P.and (P.ieq (a.getD i dA).1 (b.getD i dA).1) (P.ieq (a.getD i dA).2 (b.getD i dA).2) = true from eqA_iff.2 q, if_pos q]; rfl
      · rw [show P.and (P.ieq (a.getD i dA).1 (b.getD i dA).1) (P.ieq (a.getD i dA).2 (b.getD i dA).2) = false from by rw [Bool.eq_false_iff]; exact fun z => q (eqA_iff.1 z), if_neg q]; rfl
    · try dsimp only
      rw [show P.ilt (a.length : Int) (P.len a) = false from by rw [Bool.eq_false_iff, Ne, ilt_iff, len_eq]; omega]; rfl
  · rw [show P.ieq (P.len a) (P.len b) = false from by rw [Bool.eq_false_iff, Ne, ieq_iff, len_eq, len_eq]; omega, show P.not false = true from rfl, cond_true, decide_eq_false fun q => hl (by rw [q])]
theorem mem_iff_getD {l : List At} {x : At} : x ∈ l ↔ ∃ i, i < l.length ∧ l.getD i dA = x := by
  rw [List.mem_iff_getElem]
  constructor
  · rintro ⟨i, h, rfl⟩; exact ⟨i, h, by simp [List.getD_eq_getElem?_getD, h]⟩
  · rintro ⟨i, h, rfl⟩; exact ⟨i, h, by simp [List.getD_eq_getElem?_getD, h]⟩
theorem ref_has (l : List At) (x : At) (hl : l.length ≤ 8796093022100) : ref06_Has K (l, x) = some (decide (x ∈ l)) := by
  unfold ref06_Has
  try dsimp only
  rw [iter_all (n := l.length) (e := .inl ()) (r := .inr true) (fun i => l.getD i dA ≠ x) K ?_ ?_ (by unfold K; omega)]
  · rw [bind_some]
    by_cases h : ∀ i, i < l.length → l.getD i dA ≠ x
    · rw [if_pos h, either_inl, decide_eq_false]
      intro q
      obtain ⟨i, h1, h2⟩ := mem_iff_getD.1 q
      exact h i h1 h2
    · rw [if_neg h, either_inr, decide_eq_true]
      refine mem_iff_getD.2 (Classical.byContradiction fun q => h fun i hi e => q ⟨i, hi, e⟩)
  · intro i hi
    try dsimp only
    rw [show P.ilt (i : Int) (P.len l) = true from ilt_iff.2 (by rw [len_eq]; omega), cond_true, show P.inb (i : Int) (P.len l) = true from inb_iff.2 (by rw [len_eq]; omega), cond_true, get_nat, wrap_succ (by omega)]
    by_cases q : l.getD i dA = x
    · rw [show P.and (P.ieq (l.getD i dA).1 x.1) (P.ieq (l.getD i dA).2 x.2) = true from eqA_iff.2 q, if_neg (fun z => z q)]; rfl
    · rw [show P.and (P.ieq (l.getD i dA).1 x.1) (P.ieq (l.getD i dA).2 x.2) = false from by rw [Bool.eq_false_iff]; exact fun z => q (eqA_iff.1 z), if_pos q]; rfl
  · try dsimp only
    rw [show P.ilt (l.length : Int) (P.len l) = false from by rw [Bool.eq_false_iff, Ne, ilt_iff, len_eq]; omega]; rfl
theorem at_has (l : List At) (x : At) (hl : l.length ≤ 8796093022100) : atoms_Has K (l, x) = some (decide (x ∈ l)) := by
  unfold atoms_Has slContainsAtom slIndexAtom
  try dsimp only
  rw [iter_find0 (n := l.length) (e := .inl ()) (fun i => if l.getD i dA = x then some (.inr (i : Int)) else none) K ?_ ?_ (by unfold K; omega)]
  · rw [bind_some]
    cases hq : (List.range l.length).findSome? (fun i => if l.getD i dA = x then some (Sum.inr (i : Int) : Unit ⊕ Int) else none) with
    | none =>
      rw [List.findSome?_eq_none_iff] at hq
      simp only [Option.getD_none, either_inl, bind_some]
      have hn : x ∉ l := fun q => by
        obtain ⟨i, h1, h2⟩ := mem_iff_getD.1 q
        have := hq i (List.mem_range.2 h1)
        rw [if_pos h2] at this
        cases this
      rw [decide_eq_false hn]
      rfl
    | some r =>
      obtain ⟨i, h1, h2⟩ := List.exists_of_findSome?_eq_some hq
      by_cases q : l.getD i dA = x
      · rw [if_pos q] at h2
        injection h2 with h2
        subst h2
        simp only [Option.getD_some, either_inr, bind_some]
        rw [decide_eq_true (mem_iff_getD.2 ⟨i, List.mem_range.1 h1, q⟩), show P.ile ((0 : Int)) (i : Int) = true from ile_iff.2 (by omega)]
      · rw [if_neg q] at h2; cases h2
  · intro i hi
    try dsimp only
    rw [show P.ilt (i : Int) (P.len l) = true from ilt_iff.2 (by rw [len_eq]; omega), cond_true, show P.inb (i : Int) (P.len l) = true from inb_iff.2 (by rw [len_eq]; omega), cond_true, get_nat, wrap_succ (by omega)]
    by_cases q : l.getD i dA = x
    · rw [show P.and (P.ieq x.1 (l.getD i dA).1) (P.ieq x.2 (l.getD i dA).2) = true from eqA_iff.2 q.symm, if_pos q]; rfl
    · rw [show P.and (P.ieq x.1 (l.getD i dA).1) (P.ieq x.2 (l.getD i dA).2) = false from by rw [Bool.eq_false_iff]; exact fun z => q (eqA_iff.1 z).symm, if_neg q]; rfl
  · try dsimp only
    rw [show P.ilt (l.length : Int) (P.len l) = false from by rw [Bool.eq_false_iff, Ne, ilt_iff, len_eq]; omega]; rfl
def Within (a b : List At) : Prop := ∀ z, z ∈ a → z ∈ b
instance (a b : List At) : Decidable (Within a b) := by unfold Within; exact inferInstance
theorem within_iff {a b : List At} : (∀ i, i < a.length → a.getD i dA ∈ b) ↔ Within a b := by
  constructor
  · intro h z hz
    obtain ⟨i, h1, rfl⟩ := mem_iff_getD.1 hz
    exact h i h1
  · intro h i hi
    exact h _ (mem_iff_getD.2 ⟨i, hi, rfl⟩)
theorem within_gen (H : Nat → List At × At → Option Bool) (a b : List At) (ha : a.length ≤ 8796093022100) (hh : ∀ x, H K (b, x) = some (decide (x ∈ b))) :
    P.bind (P.iter K (fun (y : Int) => P.cond (P.ilt y (P.len a)) (P.cond (P.inb y (P.len a)) (P.bind (H K (b, P.get a y ((0 : Int), (0 : Int)))) fun (r : Bool) => P.cond (P.not r) (some (Sum.inr (Sum.inr false))) (some (Sum.inl (P.wrap IntKind.i64 (P.add y ((1 : Int))))))) none) (some (Sum.inr (Sum.inl PUnit.unit)))) ((0 : Int))) (P.either (fun (z : PUnit) => some true) fun (r : Bool) => some r) = some (decide (Within a b)) := by
  rw [iter_all (n := a.length) (e := .inl ()) (r := .inr false) (fun i => a.getD i dA ∈ b) K ?_ ?_ (by unfold K; omega)]
  · rw [bind_some]
    by_cases h : ∀ i, i < a.length → a.getD i dA ∈ b
    · rw [if_pos h, either_inl, decide_eq_true (within_iff.1 h)]
    · rw [if_neg h, either_inr, decide_eq_false fun q => h (within_iff.2 q)]
  · intro i hi
    try dsimp only
    rw [show P.ilt (i : Int) (P.len a) = true from ilt_iff.2 (by rw [len_eq]; omega), cond_true, show P.inb (i : Int) (P.len a) = true from inb_iff.2 (by rw [len_eq]; omega), cond_true, get_nat, hh, bind_some, wrap_succ (by omega)]
    by_cases q : a.getD i dA ∈ b
    · rw [if_pos q, decide_eq_true q]; rfl
    · rw [if_neg q, decide_eq_false q]; rfl
  · try dsimp only
    rw [show P.ilt (a.length : Int) (P.len a) = false from by rw [Bool.eq_false_iff, Ne, ilt_iff, len_eq]; omega]; rfl
theorem at_within (a b : List At) (ha : a.length ≤ 8796093022100) (hb : b.length ≤ 8796093022100) : atoms_Within K (a, b) = some (decide (Within a b)) := within_gen atoms_Has a b ha fun x => at_has b x hb
theorem at_may (l : List At) (hl : l.length ≤ 8796093022100) : atoms_May K l = some (decide (l = norm l)) := by
  unfold atoms_May
  rw [at_norm' l hl, bind_some, at_equal l _ hl, bind_some]
end Go.PL
end
section
open Go Go.PG Go.PL
set_option linter.unusedVariables false
namespace Go.PL
theorem ref_right (k : Nat) (a : At) : ref06_Right k a = some (decide (RightA a)) := by
  obtain ⟨a, b⟩ := a
  unfold ref06_Right
  dsimp only
  simp only [cond_eq, ieq_iff, ile_iff]
  repeat' split
  all_goals
    rw [Option.some.injEq, Bool.eq_iff_iff, decide_eq_true_eq]
    simp only [RightA, ieq_iff, ile_iff, Bool.false_eq_true, false_iff]
    omega
theorem ref_less (k : Nat) (a b : At) : ref06_Less k (a, b) = some (decide (ltA a b)) := by
  obtain ⟨a1, a2⟩ := a; obtain ⟨b1, b2⟩ := b
  unfold ref06_Less
  dsimp only
  simp only [cond_eq, ieq_iff, ilt_iff]
  repeat' split
  all_goals
    rw [Option.some.injEq, Bool.eq_iff_iff, decide_eq_true_eq]
    simp only [ltA, ilt_iff, true_iff, Bool.false_eq_true, false_iff]
    omega
theorem room1 (l : List At) (x : At) (h : l.length ≤ 8796093022200) : P.room (P.add (P.len l) (P.len [x])) 16 = true := by
  rw [len_eq, len_eq, room_nat]; simp; omega
def stepA (x : At) (s : List At × Bool) (y : At) : List At × Bool := if s.2 = false ∧ ltA x y then (s.1 ++ [x] ++ [y], true) else (s.1 ++ [y], s.2)
def finA (x : At) (s : List At × Bool) : List At := if s.2 = true then s.1 else s.1 ++ [x]
def layA (x : At) (l : List At) (i : Nat) : List At × Bool := (l.take i).foldl (stepA x) ([], false)
theorem layA_succ {x : At} {l : List At} {i : Nat} (h : i < l.length) : layA x l (i + 1) = stepA x (layA x l i) (l.getD i dA) := by
  unfold layA
  rw [take_getD h, List.foldl_append]
  rfl
theorem lay_len (x : At) (l : List At) : ∀ i, i ≤ l.length → (layA x l i).1.length ≤ i + 1 ∧ ((layA x l i).2 = false → (layA x l i).1.length ≤ i)
  | 0, _ => by simp [layA]
  | i + 1, h => by
    obtain ⟨h1, h2⟩ := lay_len x l i (by omega)
    rw [layA_succ (by omega)]
    unfold stepA
    split
    · rename_i q
      have := h2 q.1
      simp; omega
    · simp
      exact ⟨h1, fun q => h2 q⟩
theorem step_true (x : At) : ∀ (l acc : List At), l.foldl (stepA x) (acc, true) = (acc ++ l, true)
  | [], acc => by simp
  | y :: l, acc => by
    rw [List.foldl_cons, show stepA x (acc, true) y = (acc ++ [y], true) from by simp [stepA], step_true x l]
    simp
theorem step_false (x : At) : ∀ (l acc : List At), finA x (l.foldl (stepA x) (acc, false)) = acc ++ insA x l
  | [], acc => by simp [insA, finA]
  | y :: l, acc => by
    rw [List.foldl_cons]
    unfold insA
    by_cases q : ltA x y
    · rw [show stepA x (acc, false) y = (acc ++ [x] ++ [y], true) from by simp [stepA, q], step_true, if_pos q]; simp [finA]
    · rw [show stepA x (acc, false) y = (acc ++ [y], false) from by simp [stepA, q], step_false x l, if_neg q]; simp
theorem lay_all (x : At) (l : List At) : finA x (layA x l l.length) = insA x l := by
  have := step_false x l []
  unfold layA
  rw [List.take_length]
  simpa using this
theorem ref_add (l : List At) (x : At) (hl : l.length ≤ 8796093022100) : ref06_add K (l, x) = some (addA l x) := by
  unfold ref06_add
  dsimp only
  rw [ref_right, bind_some]
  by_cases h1 : RightA x
  · rw [decide_eq_true h1, show P.not true = false from rfl, cond_false, ref_has l x hl, bind_some]
    by_cases h2 : x ∈ l
    · rw [decide_eq_true h2, cond_true]
      unfold addA
      rw [if_neg (fun q => q.2 h2)]
    · rw [decide_eq_false h2, cond_false]
      unfold addA
      rw [if_pos ⟨h1, h2⟩, ← lay_all]
      have run : ∀ f : List At × Bool × Int → Option ((List At × Bool × Int) ⊕ ((List At × Bool) ⊕ List At)),
          (∀ i, i < l.length → f ((layA x l i).1, (layA x l i).2, (i : Int)) = some (.inl ((layA x l (i + 1)).1, (layA x l (i + 1)).2, ((i + 1 : Nat) : Int)))) →
          f ((layA x l l.length).1, (layA x l l.length).2, (l.length : Int)) = some (.inr (.inl (layA x l l.length))) → P.iter K f ([], false, (0 : Int)) = some (.inl (layA x l l.length)) := by
        intro f hs he
        exact iter_run (fun i => ((layA x l i).1, (layA x l i).2, (i : Int))) _ l.length 0 K (by unfold K; omega) (fun j hj => by simpa using hs j hj) (by simpa using he)
      rw [run _ (fun i hi => ?_) ?_]
      · rw [bind_some, either_inl]
        cases hb : (layA x l l.length).2
        · rw [show P.not false = true from rfl, cond_true, room1 _ _ (by have := (lay_len x l l.length (Nat.le_refl _)).1; omega), cond_true]
          unfold finA
          rw [if_neg (by simp [hb])]; rfl
        · rw [show P.not true = false from rfl, cond_false]
          unfold finA
          rw [if_pos hb]
      · try dsimp only
        rw [show P.ilt (l.length : Int) (P.len l) = false from by rw [Bool.eq_false_iff, Ne, ilt_iff, len_eq]; omega]; rfl
      · try dsimp only
        have hr := (lay_len x l i (by omega)).1
        have r1 : P.room (P.add (P.len (layA x l i).1) (P.len [x])) 16 = true := room1 _ _ (by omega)
        have r2 : P.room (P.add (P.len (layA x l i).1) (P.len [l.getD i dA])) 16 = true := room1 _ _ (by omega)
        have r3 : P.room (P.add (P.len (P.app (layA x l i).1 [x])) (P.len [l.getD i dA])) 16 = true := room1 _ _ (by simp [P.app]; omega)
        simp only [show P.ilt (i : Int) (P.len l) = true from ilt_iff.2 (by rw [len_eq]; omega), show P.inb (i : Int) (P.len l) = true from inb_iff.2 (by rw [len_eq]; omega), cond_true, get_nat, wrap_succ (show i + 1 < 9223372036854775808 by omega), r1, r2, r3]
        rw [ref_less, bind_some, layA_succ hi]
        unfold stepA
        cases hb : (layA x l i).2
        · rw [show P.not false = true from rfl, cond_true]
          by_cases q : ltA x (l.getD i dA)
          · rw [decide_eq_true q, cond_true, if_pos ⟨rfl, q⟩]; rfl
          · rw [decide_eq_false q, cond_false, if_neg (fun z => q z.2)]; rfl
        · rw [show P.not true = false from rfl, cond_false, if_neg (fun z => by cases z.1)]; rfl
  · rw [decide_eq_false h1, show P.not false = true from rfl, cond_true]
    unfold addA
    rw [if_neg (fun q => h1 q.1)]
theorem fold_add (l acc : List At) (h : acc.length + l.length ≤ 8796093022000) :
    P.bind (P.iter K (fun (y : List (Int × Int) × Int) => P.cond (P.ilt y.snd (P.len l)) (P.cond (P.inb y.snd (P.len l)) (P.bind (ref06_add K (y.fst, P.get l y.snd ((0 : Int), (0 : Int)))) fun (r : List (Int × Int)) => some (Sum.inl (r, P.wrap IntKind.i64 (P.add y.snd ((1 : Int)))))) none) (some (Sum.inr (Sum.inl y.fst)))) (acc, (0 : Int))) (P.either (fun (z : List (Int × Int)) => some z) fun (r : List (Int × Int)) => some r) = some (l.foldl addA acc) := by
  have run : ∀ f : List At × Int → Option ((List At × Int) ⊕ (List At ⊕ List At)),
      (∀ i, i < l.length → f ((l.take i).foldl addA acc, (i : Int)) = some (.inl ((l.take (i + 1)).foldl addA acc, ((i + 1 : Nat) : Int)))) →
      f (l.foldl addA acc, (l.length : Int)) = some (.inr (.inl (l.foldl addA acc))) → P.iter K f (acc, (0 : Int)) = some (.inl (l.foldl addA acc)) := by
    intro f hs he
    exact iter_run (fun i => ((l.take i).foldl addA acc, (i : Int))) _ l.length 0 K (by unfold K; omega) (fun j hj => by simpa using hs j hj) (by simpa using he)
  rw [run _ (fun i hi => ?_) ?_]
  · rfl
  · try dsimp only
    rw [show P.ilt (l.length : Int) (P.len l) = false from by rw [Bool.eq_false_iff, Ne, ilt_iff, len_eq]; omega]; rfl
  · try dsimp only
    have hr := fold_length (l.take i) acc
    rw [List.length_take] at hr
    rw [show P.ilt (i : Int) (P.len l) = true from ilt_iff.2 (by rw [len_eq]; omega), cond_true, show P.inb (i : Int) (P.len l) = true from inb_iff.2 (by rw [len_eq]; omega), cond_true, get_nat, wrap_succ (by omega), ref_add _ _ (by omega), bind_some, take_getD hi, List.foldl_append]
    rfl
theorem ref_norm (l : List At) (h : l.length ≤ 8796093022000) : ref06_Norm K l = some (norm l) := fold_add l [] (by simpa using h)
theorem ref_may (l : List At) (h : l.length ≤ 8796093022000) : ref06_May K l = some (decide (l = norm l)) := by
  unfold ref06_May
  rw [ref_norm l h, bind_some, ref_same l _ (by omega), bind_some]
theorem norm_append (a b : List At) : norm (a ++ b) = b.foldl addA (norm a) := by unfold norm; rw [List.foldl_append]
theorem ref_union (a b : List At) (h : a.length + b.length ≤ 8796093022000) : ref06_Union K (a, b) = some (norm (a ++ b)) := by
  unfold ref06_Union
  dsimp only
  rw [ref_norm a (by omega), bind_some, norm_append]
  exact fold_add b (norm a) (by have := norm_length a; omega)
end Go.PL
end
section
open Go Go.PG Go.PL
set_option linter.unusedVariables false
namespace Go.PL
theorem wrap0 : P.wrap IntKind.i64 (P.sub ((0 : Int)) ((0 : Int))) = 0 := by rw [wrap_i64 (by decide) (by decide)]; rfl
theorem wrap_sub0 {n : Nat} (h : n < 9223372036854775808) : P.wrap IntKind.i64 (P.sub (n : Int) (0 : Int)) = (n : Int) := by
  rw [show P.sub (n : Int) (0 : Int) = n from by simp [P.sub], wrap_nat h]
theorem at_concat (a b : List At) (h : a.length + b.length ≤ 8796093022000) : slConcatAtom K [a, b] = some (a ++ b) := by
  have run1 : ∀ f : Int × Int → Option ((Int × Int) ⊕ (Int ⊕ List At)), f (0, 0) = some (.inl ((a.length : Int), 1)) → f ((a.length : Int), 1) = some (.inl (((a.length + b.length : Nat) : Int), 2)) →
      f (((a.length + b.length : Nat) : Int), 2) = some (.inr (.inl ((a.length + b.length : Nat) : Int))) → P.iter K f (0, 0) = some (.inl ((a.length + b.length : Nat) : Int)) := by
    intro f h1 h2 h3
    rw [iter_step (by unfold K; omega) h1, iter_step (by unfold K; omega) h2, iter_done (by unfold K; omega) h3]
  have run2 : ∀ f : List At × Int → Option ((List At × Int) ⊕ (List At ⊕ List At)), f ([], 0) = some (.inl (a, 1)) → f (a, 1) = some (.inl (a ++ b, 2)) →
      f (a ++ b, 2) = some (.inr (.inl (a ++ b))) → P.iter K f ([], 0) = some (.inl (a ++ b)) := by
    intro f h1 h2 h3
    rw [iter_step (by unfold K; omega) h1, iter_step (by unfold K; omega) h2, iter_done (by unfold K; omega) h3]
  have l0 : P.ilt (0 : Int) (P.len [a, b]) = true := rfl
  have l1 : P.ilt (1 : Int) (P.len [a, b]) = true := rfl
  have l2 : P.ilt (2 : Int) (P.len [a, b]) = false := rfl
  have i0 : P.inb (0 : Int) (P.len [a, b]) = true := rfl
  have i1 : P.inb (1 : Int) (P.len [a, b]) = true := rfl
  have g0 : P.get [a, b] (0 : Int) [] = a := rfl
  have g1 : P.get [a, b] (1 : Int) [] = b := rfl
  have w1 : P.wrap IntKind.i64 (P.add (0 : Int) (1 : Int)) = 1 := by rw [wrap_i64 (by decide) (by decide)]; rfl
  have w2 : P.wrap IntKind.i64 (P.add (1 : Int) (1 : Int)) = 2 := by rw [wrap_i64 (by decide) (by decide)]; rfl
  have s1 : P.wrap IntKind.i64 (P.add (0 : Int) (P.len a)) = (a.length : Int) := by rw [show P.add (0 : Int) (P.len a) = ((a.length : Nat) : Int) from by simp [P.add, P.len], wrap_nat (by omega)]
  have s2 : P.wrap IntKind.i64 (P.add (a.length : Int) (P.len b)) = ((a.length + b.length : Nat) : Int) := by rw [show P.add (a.length : Int) (P.len b) = ((a.length + b.length : Nat) : Int) from by simp [P.add, P.len], wrap_nat (by omega)]
  have loop : ∀ E : List At, E = [] → P.bind (P.iter K (fun (y : List (Int × Int) × Int) => P.cond (P.ilt y.snd (P.len [a, b])) (P.cond (P.inb y.snd (P.len [a, b])) (P.cond (P.room (P.add (P.len y.fst) (P.len (P.get [a, b] y.snd []))) 16) (some (Sum.inl (P.app y.fst (P.get [a, b] y.snd []), P.wrap IntKind.i64 (P.add y.snd ((1 : Int)))))) none) none) (some (Sum.inr (Sum.inl y.fst)))) (E, (0 : Int))) (P.either (fun (z : List (Int × Int)) => some z) fun (r : List (Int × Int)) => some r) = some (a ++ b) := by
    rintro E rfl
    rw [run2 _ ?_ ?_ ?_]
    · rfl
    · try dsimp only
      rw [l0, cond_true, i0, cond_true, g0, w1, show P.room (P.add (P.len ([] : List At)) (P.len a)) 16 = true from by rw [len_eq, len_eq, room_nat]; simp; omega]; rfl
    · try dsimp only
      rw [l1, cond_true, i1, cond_true, g1, w2, show P.room (P.add (P.len a) (P.len b)) 16 = true from by rw [len_eq, len_eq, room_nat]; omega]; rfl
    · try dsimp only
      rw [l2]; rfl
  unfold slConcatAtom
  rw [run1 _ ?_ ?_ ?_]
  · rw [bind_some, either_inl, show P.ilt (((a.length + b.length : Nat) : Int)) (0 : Int) = false from by rw [Bool.eq_false_iff, Ne, ilt_iff]; omega, cond_false, wrap0, wrap_sub0 (by omega)]
    by_cases h0 : P.ilt (0 : Int) (((a.length + b.length : Nat) : Int)) = true
    · rw [h0, cond_true, show P.cut (0 : Int) 0 0 = true from by decide, cond_true, cond_true, show P.room (((a.length + b.length : Nat) : Int)) 16 = true from by rw [room_iff]; omega, cond_true, show P.cut (0 : Int) 0 (P.len (P.rep (((a.length + b.length : Nat) : Int)) (((0 : Int), (0 : Int)) : At))) = true from by rw [cut_iff, len_eq]; omega, cond_true]
      exact loop _ (by simp [P.sub_])
    · rw [Bool.eq_false_iff.2 h0, cond_false]
      exact loop _ rfl
  · try dsimp only
    rw [l0, cond_true, i0, cond_true, g0, w1, s1, show P.ilt (a.length : Int) (0 : Int) = false from by rw [Bool.eq_false_iff, Ne, ilt_iff]; omega]; rfl
  · try dsimp only
    rw [l1, cond_true, i1, cond_true, g1, w2, s2, show P.ilt (((a.length + b.length : Nat) : Int)) (0 : Int) = false from by rw [Bool.eq_false_iff, Ne, ilt_iff]; omega]; rfl
  · try dsimp only
    rw [l2]; rfl
theorem at_union (a b : List At) (h : a.length + b.length ≤ 8796093022000) : atoms_Union K (a, b) = some (norm (a ++ b)) := by
  unfold atoms_Union
  dsimp only
  rw [at_concat a b h, bind_some, at_norm' _ (by simp; omega), bind_some]
def renA (s : Int) (x : At) : At := if x = (4, s) then (5, s) else x
end Go.PL
end
section
open Go Go.PG Go.PL
set_option linter.unusedVariables false
namespace Go.PL
end Go.PL
end
section
open Go Go.PG Go.PL
set_option linter.unusedVariables false
namespace Go.PL
abbrev Fd := ByteArray × Bool × List At
abbrev Sp := List Fd × List At
abbrev dF : Fd := (⟨#[]⟩, false, [])
abbrev RisesF (l : List Fd) : Prop := l.Pairwise fun a b => ltS a.1 b.1
def get (l : List Fd) (n : ByteArray) : Option Fd := l.find? fun f => decide (f.1 = n)
theorem get_name {l : List Fd} {n : ByteArray} {f : Fd} (h : get l n = some f) : f.1 = n := by
  have := List.find?_some h
  exact of_decide_eq_true this
theorem get_mem {l : List Fd} {n : ByteArray} {f : Fd} (h : get l n = some f) : f ∈ l := List.mem_of_find?_eq_some h
theorem get_none {l : List Fd} {n : ByteArray} : get l n = none ↔ ∀ f, f ∈ l → f.1 ≠ n := by
  unfold get
  rw [List.find?_eq_none]
  constructor
  · intro h f hf e
    exact h f hf (decide_eq_true e)
  · intro h f hf e
    exact h f hf (of_decide_eq_true e)
theorem risesF_inj {l : List Fd} (h : RisesF l) {f g : Fd} (hf : f ∈ l) (hg : g ∈ l) (e : f.1 = g.1) : f = g := by
  induction l with
  | nil => cases hf
  | cons a l ih =>
    obtain ⟨h1, h2⟩ := List.pairwise_cons.1 h
    rcases List.mem_cons.1 hf with rfl | hf'
    · rcases List.mem_cons.1 hg with rfl | hg'
      · rfl
      · exact absurd (h1 g hg') (by rw [e]; exact ltS_irrefl _)
    · rcases List.mem_cons.1 hg with rfl | hg'
      · exact absurd (h1 f hf') (by rw [e]; exact ltS_irrefl _)
      · exact ih h2 hf' hg'
theorem get_of_mem {l : List Fd} (h : RisesF l) {f : Fd} (hf : f ∈ l) : get l f.1 = some f := by
  cases q : get l f.1 with
  | none => exact absurd rfl (get_none.1 q f hf)
  | some g => rw [risesF_inj h (get_mem q) hf (get_name q)]
theorem risesF_ext : ∀ {l m : List Fd}, RisesF l → RisesF m → (∀ n, get l n = get m n) → l = m := by
  intro l
  induction l with
  | nil =>
    intro m _ _ h
    cases m with
    | nil => rfl
    | cons b m =>
      have := h b.1
      simp [get] at this
  | cons a l ih =>
    intro m hl hm h
    cases m with
    | nil =>
      have := h a.1
      simp [get] at this
    | cons b m =>
      obtain ⟨h1, h2⟩ := List.pairwise_cons.1 hl
      obtain ⟨h3, h4⟩ := List.pairwise_cons.1 hm
      have ea := h a.1
      rw [get_of_mem hl (by simp)] at ea
      have eb := h b.1
      rw [get_of_mem hm (by simp)] at eb
      have hab : a = b := by
        rcases List.mem_cons.1 (get_mem ea.symm) with q | q
        · exact q
        · rcases List.mem_cons.1 (get_mem eb) with q' | q'
          · exact q'.symm
          · exact absurd (ltS_trans (h3 a q) (h1 b q')) (ltS_irrefl _)
      subst hab
      congr 1
      refine ih h2 h4 fun n => ?_
      by_cases q : a.1 = n
      · subst q
        have n1 : get l a.1 = none := get_none.2 fun f hf e => absurd (h1 f hf) (by rw [e]; exact ltS_irrefl _)
        have n2 : get m a.1 = none := get_none.2 fun f hf e => absurd (h3 f hf) (by rw [e]; exact ltS_irrefl _)
        rw [n1, n2]
      · have := h n
        simpa [get, q] using this
def put (l : List Fd) (f : Fd) : List Fd := match l with
  | [] => [f]
  | g :: r => if ltS f.1 g.1 then f :: g :: r else if f.1 = g.1 then f :: r else g :: put r f
theorem put_names {f g : Fd} : ∀ {l : List Fd}, g ∈ put l f → g = f ∨ (g ∈ l ∧ True) := by
  intro l
  induction l with
  | nil => intro h; simp only [put, List.mem_singleton] at h; exact .inl h
  | cons a l ih =>
    intro h
    simp only [put] at h
    split at h
    · rcases List.mem_cons.1 h with h | h
      · exact .inl h
      · exact .inr ⟨h, trivial⟩
    · split at h
      · rcases List.mem_cons.1 h with h | h
        · exact .inl h
        · exact .inr ⟨List.mem_cons_of_mem _ h, trivial⟩
      · rcases List.mem_cons.1 h with h | h
        · exact .inr ⟨by rw [h]; simp, trivial⟩
        · rcases ih h with q | q
          · exact .inl q
          · exact .inr ⟨List.mem_cons_of_mem _ q.1, trivial⟩
theorem put_rises {f : Fd} : ∀ {l : List Fd}, RisesF l → RisesF (put l f) := by
  intro l
  induction l with
  | nil => intro _; exact List.pairwise_singleton _ _
  | cons a l ih =>
    intro h
    obtain ⟨h1, h2⟩ := List.pairwise_cons.1 h
    simp only [put]
    split
    · rename_i q
      refine List.pairwise_cons.2 ⟨fun g hg => ?_, h⟩
      rcases List.mem_cons.1 hg with rfl | hg
      · exact q
      · exact ltS_trans q (h1 g hg)
    · rename_i q
      split
      · rename_i e
        exact List.pairwise_cons.2 ⟨fun g hg => by rw [e]; exact h1 g hg, h2⟩
      · rename_i e
        refine List.pairwise_cons.2 ⟨fun g hg => ?_, ih h2⟩
        rcases put_names hg with rfl | hg
        · rcases ltS_tri g.1 a.1 with z | z | z
          · exact absurd z q
          · exact absurd z e
          · exact z
        · exact h1 g hg.1
theorem get_put {f : Fd} {n : ByteArray} : ∀ {l : List Fd}, RisesF l → get (put l f) n = if f.1 = n then some f else get l n := by
  intro l
  induction l with
  | nil => intro _; simp only [put, get, List.find?_cons, List.find?_nil]; by_cases q : f.1 = n <;> simp [q]
  | cons a l ih =>
    intro h
    obtain ⟨h1, h2⟩ := List.pairwise_cons.1 h
    simp only [put]
    split
    · simp only [get, List.find?_cons]
      by_cases q : f.1 = n <;> simp [q]
    · split
      · rename_i e
        simp only [get, List.find?_cons]
        by_cases q : f.1 = n
        · simp [q]
        · have : ¬ a.1 = n := by rw [← e]; exact q
          simp [q, this]
      · rename_i e1 e
        have := ih h2
        simp only [get, List.find?_cons] at this ⊢
        by_cases q : a.1 = n
        · have : ¬ f.1 = n := by rw [← q]; exact e
          simp [q, this]
        · simp only [q, decide_false]
          exact this
end Go.PL
end
section
open Go Go.PG Go.PL
set_option linter.unusedVariables false
namespace Go.PL
def pos (l : List Fd) (n : ByteArray) : Nat := match l with
  | [] => 0
  | f :: r => if ltS f.1 n then pos r n + 1 else 0
theorem pos_le (n : ByteArray) : ∀ l : List Fd, pos l n ≤ l.length
  | [] => Nat.le_refl _
  | f :: r => by
    simp only [pos]; split
    · simp; exact pos_le n r
    · simp
theorem lt_pos {n : ByteArray} : ∀ {l : List Fd}, RisesF l → ∀ i, i < l.length → (i < pos l n ↔ ltS (l.getD i dF).1 n) := by
  intro l
  induction l with
  | nil => intro _ i h; simp at h
  | cons f r ih =>
    intro h i hi
    obtain ⟨h1, h2⟩ := List.pairwise_cons.1 h
    simp only [pos]
    cases i with
    | zero =>
      split
      · rename_i q; simp [q]
      · rename_i q; simp [q]
    | succ i =>
      simp only [List.length_cons] at hi
      have := ih h2 i (by omega)
      simp only [List.getD_cons_succ]
      split
      · rw [← this]; omega
      · rename_i q
        refine ⟨fun z => by omega, fun z => ?_⟩
        exfalso
        have hm : r.getD i dF ∈ r := by
          rw [List.getD_eq_getElem?_getD, List.getElem?_eq_getElem (by omega)]
          exact List.getElem_mem _
        exact q (ltS_trans (h1 _ hm) z)
theorem at_pos {n : ByteArray} : ∀ {l : List Fd}, RisesF l → (get l n).isSome = (decide (pos l n < l.length) && decide ((l.getD (pos l n) dF).1 = n)) := by
  intro l
  induction l with
  | nil => intro _; simp [get, pos]
  | cons f r ih =>
    intro h
    obtain ⟨h1, h2⟩ := List.pairwise_cons.1 h
    simp only [pos]
    split
    · rename_i q
      have hne : f.1 ≠ n := fun e => by rw [e] at q; exact ltS_irrefl _ q
      have := ih h2
      simp only [get, List.find?_cons, hne, decide_false, List.getD_cons_succ, List.length_cons] at this ⊢
      rw [this]
      simp
    · rename_i q
      simp only [List.getD_cons_zero, List.length_cons]
      by_cases e : f.1 = n
      · simp [get, e]
      · have : get (f :: r) n = none := get_none.2 fun g hg e' => by
          rcases List.mem_cons.1 hg with rfl | hg
          · exact e e'
          · exact q (by rw [← e']; exact h1 g hg)
        rw [this]
        simp [e]
theorem get_at_pos {n : ByteArray} {l : List Fd} (h : RisesF l) (hs : (get l n).isSome = true) : get l n = some (l.getD (pos l n) dF) := by
  rw [at_pos h, Bool.and_eq_true, decide_eq_true_eq, decide_eq_true_eq] at hs
  have hm : l.getD (pos l n) dF ∈ l := by
    rw [List.getD_eq_getElem?_getD, List.getElem?_eq_getElem hs.1]
    exact List.getElem_mem _
  have := get_of_mem h hm
  rwa [hs.2] at this
theorem put_eq {f : Fd} : ∀ {l : List Fd}, RisesF l → put l f = if (get l f.1).isSome = true then l.set (pos l f.1) f else l.take (pos l f.1) ++ [f] ++ l.drop (pos l f.1) := by
  intro l
  induction l with
  | nil => intro _; simp [put, get, pos]
  | cons a r ih =>
    intro h
    obtain ⟨h1, h2⟩ := List.pairwise_cons.1 h
    simp only [put, pos]
    split
    · rename_i q
      have n1 : ¬ ltS a.1 f.1 := ltS_asymm q
      have : get (a :: r) f.1 = none := get_none.2 fun g hg e => by
        rcases List.mem_cons.1 hg with rfl | hg
        · rw [e] at q; exact ltS_irrefl _ q
        · exact ltS_irrefl f.1 (by have := ltS_trans q (h1 g hg); rwa [e] at this)
      rw [this, if_neg n1]
      simp
    · rename_i q
      split
      · rename_i e
        have : (get (a :: r) f.1).isSome = true := by simp [get, e]
        rw [if_pos this, if_neg (show ¬ ltS a.1 f.1 by rw [e]; exact ltS_irrefl _)]
        simp
      · rename_i e
        have lt : ltS a.1 f.1 := by
          rcases ltS_tri f.1 a.1 with z | z | z
          · exact absurd z q
          · exact absurd z e
          · exact z
        rw [if_pos lt, ih h2]
        have : (get (a :: r) f.1).isSome = (get r f.1).isSome := by
          simp [get, Ne.symm e]
        rw [this]
        split
        · simp
        · simp
theorem half {i j : Nat} (h : i + j < 9223372036854775808) : P.wrap IntKind.i64 (P.shrk IntKind.u64 (P.wrap IntKind.u64 (P.wrap IntKind.i64 (P.add (i : Int) (j : Int)))) (1 : Int)) = (((i + j) / 2 : Nat) : Int) := by
  rw [show P.add (i : Int) (j : Int) = ((i + j : Nat) : Int) from by simp [P.add], wrap_nat h, wrap_u64 (by omega) (by omega)]
  have : P.shrk IntKind.u64 ((i + j : Nat) : Int) (1 : Int) = (((i + j) / 2 : Nat) : Int) := by
    simp only [P.shrk]
    rw [show (2 : Int) ^ min (1 : Int).toNat IntKind.u64.bits = 2 from by decide, Int.fdiv_eq_ediv_of_nonneg _ (by decide)]
    omega
  rw [this, wrap_nat (by omega)]
theorem find_spec (l : List Fd) (n : ByteArray) (h : RisesF l) (hl : l.length ≤ 1000000) : object_find K (l, n) = some ((pos l n : Int), (get l n).isSome) := by
  unfold object_find
  try dsimp only
  have loop : ∀ (f : Int × Int → Option ((Int × Int) ⊕ (Int ⊕ (Int × Bool)))),
      (∀ i j : Nat, i < j → j ≤ l.length → f ((i : Int), (j : Int)) = some (.inl (if ltS (l.getD ((i + j) / 2) dF).1 n then ((((i + j) / 2 + 1 : Nat) : Int), (j : Int)) else ((i : Int), (((i + j) / 2 : Nat) : Int))))) →
      (∀ i : Nat, f ((i : Int), (i : Int)) = some (.inr (.inl (i : Int)))) →
      ∀ (d i j k : Nat), j - i ≤ d → d < k → i ≤ pos l n → pos l n ≤ j → j ≤ l.length → P.iter k f ((i : Int), (j : Int)) = some (.inl (pos l n : Int)) := by
    intro f hs he d
    induction d with
    | zero =>
      intro i j k hd hk h1 h2 h3
      have : j = i := by omega
      subst this
      have : pos l n = j := by omega
      rw [this]
      exact iter_done (by omega) (he j)
    | succ d ih =>
      intro i j k hd hk h1 h2 h3
      by_cases hij : i = j
      · subst hij
        have : pos l n = i := by omega
        rw [this]
        exact iter_done (by omega) (he i)
      · have hstep := hs i j (by omega) h3
        have hlt := lt_pos (n := n) h ((i + j) / 2) (by omega)
        by_cases q : ltS (l.getD ((i + j) / 2) dF).1 n
        · rw [if_pos q] at hstep
          rw [iter_step (by omega) hstep]
          have := hlt.2 q
          exact ih _ _ (k - 1) (by omega) (by omega) (by omega) h2 h3
        · rw [if_neg q] at hstep
          rw [iter_step (by omega) hstep]
          have : ¬ (i + j) / 2 < pos l n := fun z => q (hlt.1 z)
          exact ih _ _ (k - 1) (by omega) (by omega) h1 (by omega) (by omega)
  have hrun := fun f hs he => loop f hs he l.length 0 l.length K (by omega) (by unfold K; omega) (by omega) (pos_le n l) (Nat.le_refl _)
  rw [show ((0 : Nat) : Int) = (0 : Int) from rfl] at hrun
  rw [len_eq, hrun _ ?_ ?_]
  · rw [bind_some, either_inl]
    rw [at_pos h]
    by_cases q : pos l n < l.length
    · rw [show P.ilt (pos l n : Int) (l.length : Int) = true from ilt_iff.2 (by omega), cond_true, show P.inb (pos l n : Int) (l.length : Int) = true from inb_iff.2 (by omega), cond_true, get_nat]
      unfold strings_Compare
      rw [bind_some, decide_eq_true q, Bool.true_and]
      congr 2
      rw [Bool.eq_iff_iff, ieq_iff, decide_eq_true_eq]
      exact cmpS_eq
    · rw [show P.ilt (pos l n : Int) (l.length : Int) = false from by rw [Bool.eq_false_iff, Ne, ilt_iff]; omega, cond_false, decide_eq_false q, Bool.false_and]
  · intro i j hij hj
    try dsimp only
    rw [show P.ilt (i : Int) (j : Int) = true from ilt_iff.2 (by omega), cond_true, show P.ile ((0 : Int)) ((1 : Int)) = true from by decide, cond_true, half (by omega), show P.inb (((i + j) / 2 : Nat) : Int) (l.length : Int) = true from inb_iff.2 (by omega), cond_true, get_nat]
    unfold strings_Compare
    rw [bind_some, wrap_succ (by omega)]
    by_cases q : ltS (l.getD ((i + j) / 2) dF).1 n
    · rw [show P.ilt (Lib.compareBytes (l.getD ((i + j) / 2) dF).1.data.toList n.data.toList) ((0 : Int)) = true from ilt_iff.2 (cmpS_lt.2 q), cond_true, if_pos q]
    · rw [show P.ilt (Lib.compareBytes (l.getD ((i + j) / 2) dF).1.data.toList n.data.toList) ((0 : Int)) = false from by rw [Bool.eq_false_iff]; exact fun z => q (cmpS_lt.1 (ilt_iff.1 z)), cond_false, if_neg q]
  · intro i
    try dsimp only
    rw [show P.ilt (i : Int) (i : Int) = false from by rw [Bool.eq_false_iff, Ne, ilt_iff]; omega]
    rfl
end Go.PL
end
section
open Go Go.PG Go.PL
set_option linter.unusedVariables false
namespace Go.PL
def FewS (s : Sp) : Prop := s.1.length ≤ 100000 ∧ (∀ f, f ∈ s.1 → f.2.2.length ≤ 100000) ∧ s.2.length ≤ 100000
theorem range_map {α : Type} (l : List α) (d : α) : (List.range l.length).map (fun i => l.getD i d) = l := by
  apply List.ext_getElem
  · simp
  · intro i h1 h2
    simp at h1
    simp [List.getD_eq_getElem?_getD, h1]
theorem mem_getD {l : List Fd} {i : Nat} (h : i < l.length) : l.getD i dF ∈ l := by
  rw [List.getD_eq_getElem?_getD, List.getElem?_eq_getElem h]
  exact List.getElem_mem _
def getR (l : List Fd) (n : ByteArray) : Fd × Bool := match get l n with
  | some f => (f, true)
  | none => (dF, false)
end Go.PL
end
section
open Go Go.PG Go.PL
set_option linter.unusedVariables false
namespace Go.PL
def MayO (s : Sp) : Prop := RisesF s.1 ∧ (∀ f, f ∈ s.1 → f.2.2 = norm f.2.2) ∧ s.2 = norm s.2
instance (s : Sp) : Decidable (MayO s) := by unfold MayO; exact inferInstance
def StepO (l : List Fd) (i : Nat) : Prop := (l.getD i dF).2.2 = norm (l.getD i dF).2.2 ∧ (0 < i → ltS (l.getD (i - 1) dF).1 (l.getD i dF).1)
instance (l : List Fd) (i : Nat) : Decidable (StepO l i) := by unfold StepO; exact inferInstance
theorem rises_of_steps {l : List Fd} (h : ∀ i, i < l.length → 0 < i → ltS (l.getD (i - 1) dF).1 (l.getD i dF).1) : RisesF l := by
  have key : ∀ d i, i + d + 1 < l.length → ltS (l.getD i dF).1 (l.getD (i + d + 1) dF).1 := by
    intro d
    induction d with
    | zero => intro i hi; have := h (i + 1) (by omega) (by omega); simpa using this
    | succ d ih =>
      intro i hi
      have h1 := ih i (by omega)
      have h2 := h (i + (d + 1) + 1) (by omega) (by omega)
      rw [show i + (d + 1) + 1 - 1 = i + d + 1 by omega] at h2
      exact ltS_trans h1 h2
  refine List.pairwise_iff_getElem.2 fun i j hi hj hij => ?_
  have := key (j - i - 1) i (by omega)
  rw [show i + (j - i - 1) + 1 = j by omega] at this
  simpa [List.getD_eq_getElem?_getD, hi, hj] using this
theorem steps_of_rises {l : List Fd} (h : RisesF l) (i : Nat) (hi : i < l.length) (h0 : 0 < i) : ltS (l.getD (i - 1) dF).1 (l.getD i dF).1 := by
  have := List.pairwise_iff_getElem.1 h (i - 1) i (by omega) hi (by omega)
  simpa [List.getD_eq_getElem?_getD, hi, show i - 1 < l.length by omega] using this
theorem steps_iff {l : List Fd} : (∀ i, i < l.length → StepO l i) ↔ RisesF l ∧ ∀ f, f ∈ l → f.2.2 = norm f.2.2 := by
  constructor
  · intro h
    refine ⟨rises_of_steps fun i hi h0 => (h i hi).2 h0, fun f hf => ?_⟩
    obtain ⟨i, hi, rfl⟩ := List.getElem_of_mem hf
    have := (h i hi).1
    simpa [List.getD_eq_getElem?_getD, hi] using this
  · intro h i hi
    exact ⟨h.2 _ (mem_getD hi), fun h0 => steps_of_rises h.1 i hi h0⟩
theorem ob_may (s : Sp) (h : FewS s) : object_May K s = some (decide (MayO s)) := by
  unfold object_May
  try dsimp only
  obtain ⟨h1, h2, h3⟩ := h
  rw [iter_all (n := s.1.length) (e := .inl ()) (r := .inr false) (fun i => StepO s.1 i) K ?_ ?_ (by unfold K; omega)]
  · rw [bind_some]
    by_cases q : ∀ i, i < s.1.length → StepO s.1 i
    · rw [if_pos q, either_inl, at_may _ (by omega), bind_some]
      congr 1
      rw [Bool.eq_iff_iff, decide_eq_true_eq, decide_eq_true_eq]
      have := steps_iff.1 q
      exact ⟨fun z => ⟨this.1, this.2, z⟩, fun z => z.2.2⟩
    · rw [if_neg q, either_inr, decide_eq_false fun z => q (steps_iff.2 ⟨z.1, z.2.1⟩)]
  · intro i hi
    try dsimp only
    rw [show P.ilt (i : Int) (P.len s.1) = true from ilt_iff.2 (by rw [len_eq]; omega), cond_true, show P.inb (i : Int) (P.len s.1) = true from inb_iff.2 (by rw [len_eq]; omega), cond_true, get_nat, at_may (s.1.getD i dF).2.2 (by have := h2 _ (mem_getD hi); omega), bind_some, wrap_succ (by omega)]
    by_cases q : (s.1.getD i dF).2.2 = norm (s.1.getD i dF).2.2
    · rw [decide_eq_true q, show P.not true = false from rfl, cond_false]
      by_cases h0 : 0 < i
      · rw [show P.ilt ((0 : Int)) (i : Int) = true from ilt_iff.2 (by omega), cond_true, wrap_pred h0 (by omega), show P.inb ((i - 1 : Nat) : Int) (P.len s.1) = true from inb_iff.2 (by rw [len_eq]; omega), cond_true, get_nat]
        by_cases z : ltS (s.1.getD (i - 1) dF).1 (s.1.getD i dF).1
        · rw [show P.slt (s.1.getD (i - 1) dF).1 (s.1.getD i dF).1 = true from slt_iff.2 z, if_pos (show StepO s.1 i from ⟨q, fun _ => z⟩)]; rfl
        · rw [show P.slt (s.1.getD (i - 1) dF).1 (s.1.getD i dF).1 = false from by rw [Bool.eq_false_iff]; exact fun y => z (slt_iff.1 y), if_neg (show ¬ StepO s.1 i from fun y => z (y.2 h0))]; rfl
      · rw [show P.ilt ((0 : Int)) (i : Int) = false from by rw [Bool.eq_false_iff, Ne, ilt_iff]; omega, cond_false, if_pos (show StepO s.1 i from ⟨q, fun z => absurd z h0⟩)]
    · rw [decide_eq_false q, show P.not false = true from rfl, cond_true, if_neg (show ¬ StepO s.1 i from fun z => q z.1)]
  · try dsimp only
    rw [show P.ilt (s.1.length : Int) (P.len s.1) = false from by rw [Bool.eq_false_iff, Ne, ilt_iff, len_eq]; omega]; rfl
theorem ref_may7 (s : Sp) (h : FewS s) : ref07_May K s = some (decide (MayO s)) := by
  unfold ref07_May
  try dsimp only
  obtain ⟨h1, h2, h3⟩ := h
  rw [iter_all (n := s.1.length) (e := .inl ()) (r := .inr false) (fun i => StepO s.1 i) K ?_ ?_ (by unfold K; omega)]
  · rw [bind_some]
    by_cases q : ∀ i, i < s.1.length → StepO s.1 i
    · rw [if_pos q, either_inl, ref_may _ (by omega), bind_some]
      congr 1
      rw [Bool.eq_iff_iff, decide_eq_true_eq, decide_eq_true_eq]
      have := steps_iff.1 q
      exact ⟨fun z => ⟨this.1, this.2, z⟩, fun z => z.2.2⟩
    · rw [if_neg q, either_inr, decide_eq_false fun z => q (steps_iff.2 ⟨z.1, z.2.1⟩)]
  · intro i hi
    try dsimp only
    rw [show P.ilt (i : Int) (P.len s.1) = true from ilt_iff.2 (by rw [len_eq]; omega), cond_true, show P.inb (i : Int) (P.len s.1) = true from inb_iff.2 (by rw [len_eq]; omega), cond_true, get_nat, ref_may (s.1.getD i dF).2.2 (by have := h2 _ (mem_getD hi); omega), bind_some, wrap_succ (by omega)]
    by_cases q : (s.1.getD i dF).2.2 = norm (s.1.getD i dF).2.2
    · rw [decide_eq_true q, show P.not true = false from rfl, cond_false]
      by_cases h0 : 0 < i
      · rw [show P.ilt ((0 : Int)) (i : Int) = true from ilt_iff.2 (by omega), cond_true, wrap_pred h0 (by omega), show P.inb ((i - 1 : Nat) : Int) (P.len s.1) = true from inb_iff.2 (by rw [len_eq]; omega), cond_true, cond_true, get_nat]
        by_cases z : ltS (s.1.getD (i - 1) dF).1 (s.1.getD i dF).1
        · rw [show P.slt (s.1.getD (i - 1) dF).1 (s.1.getD i dF).1 = true from slt_iff.2 z, if_pos (show StepO s.1 i from ⟨q, fun _ => z⟩)]; rfl
        · rw [show P.slt (s.1.getD (i - 1) dF).1 (s.1.getD i dF).1 = false from by rw [Bool.eq_false_iff]; exact fun y => z (slt_iff.1 y), if_neg (show ¬ StepO s.1 i from fun y => z (y.2 h0))]; rfl
      · rw [show P.ilt ((0 : Int)) (i : Int) = false from by rw [Bool.eq_false_iff, Ne, ilt_iff]; omega, cond_false, if_pos (show StepO s.1 i from ⟨q, fun z => absurd z h0⟩)]
    · rw [decide_eq_false q, show P.not false = true from rfl, cond_true, if_neg (show ¬ StepO s.1 i from fun z => q z.1)]
  · try dsimp only
    rw [show P.ilt (s.1.length : Int) (P.len s.1) = false from by rw [Bool.eq_false_iff, Ne, ilt_iff, len_eq]; omega]; rfl
end Go.PL
end
section
open Go Go.PG Go.PL
set_option linter.unusedVariables false
namespace Go.PL
theorem take_getF {l : List Fd} {j : Nat} (h : j < l.length) : l.take (j + 1) = l.take j ++ [l.getD j dF] := by
  rw [List.take_add_one, List.getElem?_eq_getElem h]
  simp [List.getD_eq_getElem?_getD, h]
theorem copy_run {ρ : Type} (l : List Fd) (p : List At) (hl : l.length ≤ 1000000) (f : Int × List Fd × List At → Option ((Int × List Fd × List At) ⊕ ((List Fd × List At) ⊕ ρ)))
    (hs : ∀ i : Nat, i < l.length → f ((i : Int), l.take i, p) = some (.inl (((i + 1 : Nat) : Int), l.take i ++ [l.getD i dF], p))) (he : f ((l.length : Int), l, p) = some (.inr (.inl (l, p)))) : P.iter K f (0, [], p) = some (.inl (l, p)) := by
  refine iter_run (fun i => ((i : Int), l.take i, p)) _ l.length 0 K (by unfold K; omega) (fun j hj => ?_) (by simpa using he)
  have := hs j hj
  simp only [Nat.zero_add]
  rw [this, take_getF hj]
theorem room48 (l : List Fd) (x : Fd) (h : l.length ≤ 4000000) : P.room (P.add (P.len l) (P.len [x])) 48 = true := by
  rw [len_eq, len_eq, room_nat]; simp; omega
theorem put_run (l : List Fd) (p : List At) (F : Fd) (h : RisesF l) (hl : l.length ≤ 1000000) :
    P.cond (get l F.1).isSome (P.cond (P.inb (pos l F.1 : Int) (P.len l)) (some (P.set l (pos l F.1 : Int) F, p)) none) (P.cond (P.ilt ((0 : Int)) (P.len [F])) (P.cond (P.cut ((0 : Int)) (pos l F.1 : Int) (P.len l)) (P.cond (P.room (P.add (P.len l) (P.len [F])) 48) (some (P.insAt l (pos l F.1 : Int) [F], p)) none) none) none) = some (put l F, p) := by
  rw [put_eq h]
  have hp := pos_le F.1 l
  cases q : (get l F.1).isSome
  · rw [cond_false, show P.ilt ((0 : Int)) (P.len [F]) = true from ilt_iff.2 (by rw [len_eq]; simp), cond_true, show P.cut ((0 : Int)) (pos l F.1 : Int) (P.len l) = true from cut_iff.2 (by rw [len_eq]; omega), cond_true, room48 _ _ (by omega), cond_true, if_neg (by decide)]
    rfl
  · rw [at_pos h, Bool.and_eq_true, decide_eq_true_eq] at q
    rw [cond_true, show P.inb (pos l F.1 : Int) (P.len l) = true from inb_iff.2 (by rw [len_eq]; omega), cond_true, if_pos rfl]
    rfl
end Go.PL
namespace Go.PL
def strong (s : Sp) (n : ByteArray) (v : List At) : Sp := if MayO s then (put s.1 (n, true, norm v), s.2) else ([], [])
def weak (s : Sp) (n : ByteArray) (v : List At) : Sp := if MayO s then (put s.1 (n, (getR s.1 n).1.2.1, norm ((getR s.1 n).1.2.2 ++ v)), s.2) else ([], [])
theorem getR_few {s : Sp} (h : FewS s) (n : ByteArray) : (getR s.1 n).1.2.2.length ≤ 100000 := by
  unfold getR
  cases q : get s.1 n with
  | none => simp
  | some f => exact h.2.1 f (get_mem q)
theorem copy_step (l : List Fd) (hl : l.length ≤ 1000000) (hv : ∀ f, f ∈ l → f.2.2.length ≤ 100000) (p : List At) {ρ : Type} (i : Nat) (hi : i < l.length) :
    (P.cond (P.ilt (i : Int) (P.len l)) (P.cond (P.inb (i : Int) (P.len l)) (P.bind (slCloneAtom K (P.get l (i : Int) ((ByteArray.mk #[]), false, [])).snd.snd) fun (r : List (Int × Int)) => P.cond (P.room (P.add (P.len (l.take i)) (P.len [((P.get l (i : Int) ((ByteArray.mk #[]), false, [])).fst, (P.get l (i : Int) ((ByteArray.mk #[]), false, [])).snd.fst, r)])) 48) (some (Sum.inl (P.wrap IntKind.i64 (P.add (i : Int) ((1 : Int))), P.app (l.take i) [((P.get l (i : Int) ((ByteArray.mk #[]), false, [])).fst, (P.get l (i : Int) ((ByteArray.mk #[]), false, [])).snd.fst, r)], p))) none) none) (some (Sum.inr (Sum.inl (l.take i, p)))) : Option ((Int × List Fd × List At) ⊕ ((List Fd × List At) ⊕ ρ))) = some (.inl (((i + 1 : Nat) : Int), l.take i ++ [l.getD i dF], p)) := by
  rw [show P.ilt (i : Int) (P.len l) = true from ilt_iff.2 (by rw [len_eq]; omega), cond_true, show P.inb (i : Int) (P.len l) = true from inb_iff.2 (by rw [len_eq]; omega), cond_true, get_nat, at_clone K (l.getD i dF).2.2 (by have := hv _ (mem_getD hi); omega), bind_some, room48 _ _ (by rw [List.length_take]; omega), cond_true, wrap_succ (by omega)]
  rfl
theorem copy_end {α : Type} (l : List Fd) (A : Option α) (B : Option α) : P.cond (P.ilt (l.length : Int) (P.len l)) A B = B := by
  rw [show P.ilt (l.length : Int) (P.len l) = false from by rw [Bool.eq_false_iff, Ne, ilt_iff, len_eq]; omega]; rfl
end Go.PL
end
section
open Go Go.PG Go.PL
set_option linter.unusedVariables false
namespace Go.PL
end Go.PL
end
section
open Go Go.PG Go.PL
set_option linter.unusedVariables false
namespace Go.PL
def renF (s : Int) (f : Fd) : Fd := (f.1, f.2.1, norm (f.2.2.map (renA s)))
def rename (o : Sp) (s : Int) : Sp := if MayO o then (o.1.map (renF s), norm (o.2.map (renA s))) else ([], [])
theorem drop_getF {l : List Fd} {j : Nat} (h : j < l.length) : l.drop j = l.getD j dF :: l.drop (j + 1) := by
  rw [List.drop_eq_getElem_cons h]
  simp [List.getD_eq_getElem?_getD, h]
theorem eq_iff_getF {a b : List Fd} (h : a.length = b.length) : (∀ i, i < a.length → a.getD i dF = b.getD i dF) ↔ a = b := by
  constructor
  · intro q
    refine List.ext_getElem h fun i h1 h2 => ?_
    have := q i h1
    simpa [List.getD_eq_getElem?_getD, h1, h2] using this
  · rintro rfl i _; rfl
theorem ref_same7 (a b : Sp) (h : FewS a) : ref07_Same K (a, b) = some (decide (a = b)) := by
  obtain ⟨l, p⟩ := a; obtain ⟨m, q⟩ := b
  obtain ⟨h1, h2, h3⟩ := h
  simp only at h1 h2 h3
  unfold ref07_Same
  try dsimp only
  by_cases hl : l.length = m.length
  · rw [show P.ieq (P.len l) (P.len m) = true from ieq_iff.2 (by simp [len_eq, hl]), show P.not true = false from rfl, cond_false, ref_same p q (by omega), bind_some]
    by_cases hp : p = q
    · rw [decide_eq_true hp, show P.not true = false from rfl, cond_false]
      rw [iter_all (n := l.length) (e := .inl ()) (r := .inr false) (fun i => l.getD i dF = m.getD i dF) K ?_ ?_ (by unfold K; omega)]
      · rw [bind_some]
        by_cases z : ∀ i, i < l.length → l.getD i dF = m.getD i dF
        · rw [if_pos z, either_inl, decide_eq_true]
          rw [(eq_iff_getF hl).1 z, hp]
        · rw [if_neg z, either_inr, decide_eq_false]
          intro y
          exact z ((eq_iff_getF hl).2 (congrArg Prod.fst y))
      · intro i hi
        try dsimp only
        rw [show P.ilt (i : Int) (P.len l) = true from ilt_iff.2 (by rw [len_eq]; omega), cond_true, show P.inb (i : Int) (P.len l) = true from inb_iff.2 (by rw [len_eq]; omega), cond_true, show P.inb (i : Int) (P.len m) = true from inb_iff.2 (by rw [len_eq]; omega), cond_true, get_nat, get_nat, ref_same (l.getD i dF).2.2 (m.getD i dF).2.2 (by have := h2 _ (mem_getD hi); omega), bind_some, wrap_succ (by omega)]
        generalize l.getD i dF = f
        generalize m.getD i dF = g
        obtain ⟨f1, f2, f3⟩ := f; obtain ⟨g1, g2, g3⟩ := g
        simp only [cond_eq, not_iff, seq_iff, beq_iff, decide_eq_true_eq, Prod.mk.injEq]
        by_cases e1 : f1 = g1
        · by_cases e2 : f2 = g2
          · by_cases e3 : f3 = g3
            · simp [e1, e2, e3]
            · simp [e1, e2, e3]
          · simp [e1, e2]
        · simp [e1]
      · try dsimp only
        rw [show P.ilt (l.length : Int) (P.len l) = false from by rw [Bool.eq_false_iff, Ne, ilt_iff, len_eq]; omega]; rfl
    · rw [decide_eq_false hp, show P.not false = true from rfl, cond_true, decide_eq_false]
      intro y; exact hp (congrArg Prod.snd y)
  · rw [show P.ieq (P.len l) (P.len m) = false from by rw [Bool.eq_false_iff, Ne, ieq_iff, len_eq, len_eq]; omega, show P.not false = true from rfl, cond_true, decide_eq_false]
    intro y
    exact hl (congrArg (fun z : Sp => z.1.length) y)
end Go.PL
end
section
open Go Go.PG Go.PL
set_option linter.unusedVariables false
namespace Go.PL
def FldIn (b : List Fd) (f : Fd) : Prop := (getR b f.1).2 = true ∧ Within f.2.2 (getR b f.1).1.2.2 ∧ ((getR b f.1).1.2.1 = true → f.2.1 = true)
instance (b : List Fd) (f : Fd) : Decidable (FldIn b f) := by unfold FldIn; exact inferInstance
def SureIn (a : List Fd) (g : Fd) : Prop := g.2.1 = true → (getR a g.1).2 = true
instance (a : List Fd) (g : Fd) : Decidable (SureIn a g) := by unfold SureIn; exact inferInstance
def WithinO (a b : Sp) : Prop := MayO a ∧ MayO b ∧ Within a.2 b.2 ∧ (∀ f, f ∈ a.1 → FldIn b.1 f) ∧ ∀ g, g ∈ b.1 → SureIn a.1 g
instance (a b : Sp) : Decidable (WithinO a b) := by unfold WithinO; exact inferInstance
theorem all_getD {l : List Fd} {p : Fd → Prop} : (∀ i, i < l.length → p (l.getD i dF)) ↔ ∀ f, f ∈ l → p f := by
  constructor
  · intro h f hf
    obtain ⟨i, hi, rfl⟩ := List.getElem_of_mem hf
    have := h i hi
    simpa [List.getD_eq_getElem?_getD, hi] using this
  · intro h i hi; exact h _ (mem_getD hi)
theorem getR_snd (l : List Fd) (n : ByteArray) : (getR l n).2 = (get l n).isSome := by unfold getR; cases get l n <;> rfl
theorem getR_pos {l : List Fd} {n : ByteArray} (h : RisesF l) (hs : (get l n).isSome = true) : (getR l n).1 = l.getD (pos l n) dF := by
  unfold getR; rw [get_at_pos h hs]
end Go.PL
end
section
open Go Go.PG Go.PL
set_option linter.unusedVariables false
namespace Go.PL
theorem ob_within (a b : Sp) (ha : FewS a) (hb : FewS b) : object_Within K (a, b) = some (decide (WithinO a b)) := by
  unfold object_Within
  try dsimp only
  have hal := ha.1; have hbl := hb.1
  rw [ob_may a ha, bind_some]
  by_cases m1 : MayO a
  · rw [decide_eq_true m1, show P.not true = false from rfl, cond_false, ob_may b hb, bind_some]
    by_cases m2 : MayO b
    · rw [decide_eq_true m2, show P.not true = false from rfl, cond_false, at_within a.2 b.2 (by have := ha.2.2; omega) (by have := hb.2.2; omega), bind_some]
      by_cases m3 : Within a.2 b.2
      · rw [decide_eq_true m3, show P.not true = false from rfl, cond_false]
        rw [iter_all (n := a.1.length) (e := .inl ()) (r := .inr false) (fun i => FldIn b.1 (a.1.getD i dF)) K ?_ ?_ (by unfold K; omega)]
        · rw [bind_some]
          by_cases q1 : ∀ i, i < a.1.length → FldIn b.1 (a.1.getD i dF)
          · rw [if_pos q1, either_inl]
            rw [iter_all (n := b.1.length) (e := .inl ()) (r := .inr false) (fun i => SureIn a.1 (b.1.getD i dF)) K ?_ ?_ (by unfold K; omega)]
            · rw [bind_some]
              by_cases q2 : ∀ i, i < b.1.length → SureIn a.1 (b.1.getD i dF)
              · rw [if_pos q2, either_inl, decide_eq_true ⟨m1, m2, m3, all_getD.1 q1, all_getD.1 q2⟩]; rfl
              · rw [if_neg q2, either_inr, decide_eq_false fun z => q2 (all_getD.2 z.2.2.2.2)]
            · intro i hi
              try dsimp only
              simp only [show P.ilt (i : Int) (P.len b.1) = true from ilt_iff.2 (by rw [len_eq]; omega), cond_true, show P.inb (i : Int) (P.len b.1) = true from inb_iff.2 (by rw [len_eq]; omega), get_nat, wrap_succ (show i + 1 < 9223372036854775808 by omega), show P.ile ((0 : Int)) (i : Int) = true from ile_iff.2 (by omega), show P.not true = false from rfl]
              rw [find_spec a.1 _ m1.1 (by omega), bind_some]
              generalize hg : b.1.getD i dF = g
              simp only [cond_eq, not_iff, ← getR_snd]
              by_cases s1 : g.2.1 = true
              · by_cases s2 : (getR a.1 g.1).2 = true
                · rw [if_pos (show SureIn a.1 g from fun _ => s2)]; simp [s1, s2]
                · rw [if_neg (show ¬ SureIn a.1 g from fun z => s2 (z s1))]; simp [s1, s2]
              · rw [if_pos (show SureIn a.1 g from fun z => absurd z s1)]; simp [s1]
            · try dsimp only
              exact copy_end _ _ _
          · rw [if_neg q1, either_inr, decide_eq_false fun z => q1 (all_getD.2 z.2.2.2.1)]
        · intro i hi
          try dsimp only
          simp only [show P.ilt (i : Int) (P.len a.1) = true from ilt_iff.2 (by rw [len_eq]; omega), cond_true, show P.inb (i : Int) (P.len a.1) = true from inb_iff.2 (by rw [len_eq]; omega), get_nat, wrap_succ (show i + 1 < 9223372036854775808 by omega)]
          rw [find_spec b.1 _ m2.1 (by omega), bind_some]
          have hv := ha.2.1 _ (mem_getD hi)
          generalize hg : a.1.getD i dF = f at hv
          have hw := getR_few hb f.1
          by_cases s1 : (getR b.1 f.1).2 = true
          · have s1' : (get b.1 f.1).isSome = true := by rw [← getR_snd]; exact s1
            have hp := at_pos (n := f.1) m2.1
            rw [s1', eq_comm, Bool.and_eq_true, decide_eq_true_eq] at hp
            rw [s1', show P.not true = false from rfl, cond_false]
            simp only [show P.inb (pos b.1 f.1 : Int) (P.len b.1) = true from inb_iff.2 (by rw [len_eq]; omega), cond_true, get_nat]
            have e := getR_pos m2.1 s1'
            generalize hG : b.1.getD (pos b.1 f.1) dF = G at e
            rw [e] at hw
            rw [at_within f.2.2 G.2.2 (by omega) (by omega), bind_some]
            simp only [cond_eq, not_iff, decide_eq_true_eq]
            by_cases s2 : Within f.2.2 G.2.2
            · by_cases s3 : G.2.1 = true
              · by_cases s4 : f.2.1 = true
                · rw [if_pos (show FldIn b.1 f from ⟨s1, by rw [e]; exact s2, fun _ => s4⟩)]; simp [s2, s3, s4]
                · rw [if_neg (show ¬ FldIn b.1 f from fun z => s4 (z.2.2 (by rw [e]; exact s3)))]; simp [s2, s3, s4]
              · rw [if_pos (show FldIn b.1 f from ⟨s1, by rw [e]; exact s2, fun z => absurd (by rw [e] at z; exact z) s3⟩)]; simp [s2, s3]
            · rw [if_neg (show ¬ FldIn b.1 f from fun z => s2 (by have := z.2.1; rw [e] at this; exact this))]; simp [s2]
          · rw [if_neg (show ¬ FldIn b.1 f from fun z => s1 z.1), ← getR_snd, Bool.eq_false_iff.2 s1]; rfl
        · try dsimp only
          exact copy_end _ _ _
      · rw [decide_eq_false m3, show P.not false = true from rfl, cond_true, decide_eq_false fun z => m3 z.2.2.1]
    · rw [decide_eq_false m2, show P.not false = true from rfl, cond_true, decide_eq_false fun z => m2 z.2.1]
  · rw [decide_eq_false m1, show P.not false = true from rfl, cond_true, decide_eq_false fun z => m1 z.1]
end Go.PL
end
section
open Go Go.PG Go.PL
set_option linter.unusedVariables false
namespace Go.PL
def SmallS (s : Sp) : Prop := (∀ f, f ∈ s.1 → f.2.2.length ≤ 60) ∧ s.1.length ≤ 60 ∧ s.2.length ≤ 60
instance (s : Sp) : Decidable (SmallS s) := by unfold SmallS; exact inferInstance
end Go.PL
end
section
open Go Go.PG Go.PL
set_option linter.unusedVariables false
namespace Go.PL
def joinF (a b : List Fd) (n : ByteArray) : Fd := (n, (getR a n).2 && (getR b n).2 && (getR a n).1.2.1 && (getR b n).1.2.1, norm ((getR a n).1.2.2 ++ (getR b n).1.2.2))
def foldJ (a b l acc : List Fd) : List Fd := l.foldl (fun out f => put out (joinF a b f.1)) acc
def has (l : List Fd) (n : ByteArray) : Bool := (get l n).isSome
theorem has_cons (f : Fd) (l : List Fd) (n : ByteArray) : has (f :: l) n = (decide (f.1 = n) || has l n) := by
  unfold has get
  rw [List.find?_cons]
  by_cases q : f.1 = n <;> simp [q]
theorem has_append (l m : List Fd) (n : ByteArray) : has (l ++ m) n = (has l n || has m n) := by
  induction l with
  | nil => simp [has, get]
  | cons f l ih => rw [List.cons_append, has_cons, has_cons, ih, Bool.or_assoc]
theorem foldJ_spec (a b : List Fd) : ∀ (l acc : List Fd), RisesF acc → RisesF (foldJ a b l acc) ∧ ∀ n, get (foldJ a b l acc) n = if has l n = true then some (joinF a b n) else get acc n := by
  intro l
  induction l with
  | nil => intro acc h; exact ⟨h, fun n => by simp [foldJ, has, get]⟩
  | cons f l ih =>
    intro acc h
    obtain ⟨h1, h2⟩ := ih (put acc (joinF a b f.1)) (put_rises h)
    refine ⟨h1, fun n => ?_⟩
    show get (foldJ a b l (put acc (joinF a b f.1))) n = _
    rw [h2, get_put h, has_cons]
    by_cases q : has l n = true
    · rw [if_pos q, if_pos (by rw [q]; simp)]
    · rw [if_neg q]
      by_cases e : f.1 = n
      · rw [if_pos (show (joinF a b f.1).1 = n from e), if_pos (by simp [e]), e]
      · rw [if_neg (show ¬ (joinF a b f.1).1 = n from e), if_neg (by simp [e, q])]
def joinL (a b : List Fd) : List Fd := foldJ a b (a ++ b) []
theorem joinL_rises (a b : List Fd) : RisesF (joinL a b) := (foldJ_spec a b _ [] List.Pairwise.nil).1
theorem get_joinL (a b : List Fd) (n : ByteArray) : get (joinL a b) n = if (has a n || has b n) = true then some (joinF a b n) else none := by
  unfold joinL
  rw [(foldJ_spec a b _ [] List.Pairwise.nil).2, has_append]
  rfl
def join (a b : Sp) : Sp := if MayO a ∧ MayO b then (joinL a.1 b.1, norm (a.2 ++ b.2)) else ([], [])
end Go.PL
end
section
open Go Go.PG Go.PL
set_option linter.unusedVariables false
namespace Go.PL
theorem foldJ_length (a b : List Fd) : ∀ (l acc : List Fd), (foldJ a b l acc).length ≤ acc.length + l.length := by
  have hput : ∀ (f : Fd) (l : List Fd), (put l f).length ≤ l.length + 1 := by
    intro f l
    induction l with
    | nil => simp [put]
    | cons g l ih =>
      unfold put
      split
      · simp
      · split
        · simp
        · simp; exact ih
  intro l
  induction l with
  | nil => intro acc; simp [foldJ]
  | cons f l ih =>
    intro acc
    have h1 := ih (put acc (joinF a b f.1))
    have h2 := hput (joinF a b f.1) acc
    show (foldJ a b l (put acc (joinF a b f.1))).length ≤ _
    simp only [List.length_cons]
    omega
end Go.PL
end
section
open Go Go.PG Go.PL
set_option linter.unusedVariables false
namespace Go.PL
end Go.PL
end
section
open Go Go.PG Go.PL
set_option linter.unusedVariables false
namespace Go.PL
theorem find_cont {ρ : Type} (l : List Fd) (n : ByteArray) (f : Int → Option (Int ⊕ (Unit ⊕ ρ))) (C : Nat → Option ρ) (A T : Option ρ) (hl : l.length ≤ 1000000)
    (hs : ∀ i : Nat, i < l.length → f (i : Int) = if (l.getD i dF).1 = n then P.map (fun r => Sum.inr (Sum.inr r)) (C i) else some (.inl ((i + 1 : Nat) : Int))) (he : f (l.length : Int) = some (.inr (.inl ())))
    (hC : ∀ i, i < l.length → (l.getD i dF).1 = n → C i = T) (hA : (∀ i, i < l.length → (l.getD i dF).1 ≠ n) → A = T) : P.bind (P.iter K f 0) (P.either (fun (z : Unit) => A) fun r => some r) = T := by
  have key : ∀ (d i k : Nat), i + d = l.length → d < k → (∀ j, j < i → (l.getD j dF).1 ≠ n) → P.bind (P.iter k f (i : Int)) (P.either (fun (z : Unit) => A) fun r => some r) = T := by
    intro d
    induction d with
    | zero =>
      intro i k hi hk hn
      obtain rfl : i = l.length := by omega
      rw [iter_done (by omega) he, bind_some, either_inl]
      exact hA hn
    | succ d ih =>
      intro i k hi hk hn
      have h := hs i (by omega)
      by_cases q : (l.getD i dF).1 = n
      · rw [if_pos q, hC i (by omega) q] at h
        cases T with
        | none =>
          obtain ⟨m, rfl⟩ : ∃ m, k = m + 1 := ⟨k - 1, by omega⟩
          rw [iter_succ, h]
          rfl
        | some r => rw [iter_done (by omega) h, bind_some, either_inr]
      · rw [if_neg q] at h
        rw [iter_step (by omega) h]
        exact ih (i + 1) (k - 1) (by omega) (by omega) (fun j hj => by
          by_cases e : j = i
          · rw [e]; exact q
          · exact hn j (by omega))
  exact key l.length 0 K (by omega) (by unfold K; omega) (fun j hj => by omega)
end Go.PL
end
section
open Go Go.PG Go.PL
set_option linter.unusedVariables false
namespace Go.PL
noncomputable def contJ (k : Nat) (bl out : List Fd) (p : List At) (i y_1 : Int) : Option ((Int × Sp) ⊕ (Sp ⊕ Sp)) := (P.cond (P.ilt y_1 ((0 : Int))) (P.bind (atoms_Union k ([], (P.get bl i ((ByteArray.mk #[]), false, [])).snd.snd)) fun (r : List (Int × Int)) => P.bind (object_find k (out, (P.get bl i ((ByteArray.mk #[]), false, [])).fst)) fun (r_1 : Int × Bool) => P.cond r_1.snd (P.cond (P.inb r_1.fst (P.len out)) (some (Sum.inl (P.wrap IntKind.i64 (P.add i ((1 : Int))), P.set out r_1.fst ((P.get bl i ((ByteArray.mk #[]), false, [])).fst, false, r), p))) none) (P.cond (P.ilt ((0 : Int)) (P.len [((P.get bl i ((ByteArray.mk #[]), false, [])).fst, false, r)])) (P.cond (P.cut ((0 : Int)) r_1.fst (P.len out)) (P.cond (P.room (P.add (P.len out) (P.len [((P.get bl i ((ByteArray.mk #[]), false, [])).fst, false, r)])) 48) (some (Sum.inl (P.wrap IntKind.i64 (P.add i ((1 : Int))), P.insAt out r_1.fst [((P.get bl i ((ByteArray.mk #[]), false, [])).fst, false, r)], p))) none) none) none)) (P.cond (P.inb y_1 (P.len out)) (P.bind (slCloneAtom k (P.get out y_1 ((ByteArray.mk #[]), false, [])).snd.snd) fun (r : List (Int × Int)) => P.cond (P.get out y_1 ((ByteArray.mk #[]), false, [])).snd.fst (P.bind (atoms_Union k (r, (P.get bl i ((ByteArray.mk #[]), false, [])).snd.snd)) fun (r : List (Int × Int)) => P.bind (object_find k (out, (P.get bl i ((ByteArray.mk #[]), false, [])).fst)) fun (r_1 : Int × Bool) => P.cond r_1.snd (P.cond (P.inb r_1.fst (P.len out)) (some (Sum.inl (P.wrap IntKind.i64 (P.add i ((1 : Int))), P.set out r_1.fst ((P.get bl i ((ByteArray.mk #[]), false, [])).fst, (P.get bl i ((ByteArray.mk #[]), false, [])).snd.fst, r), p))) none) (P.cond (P.ilt ((0 : Int)) (P.len [((P.get bl i ((ByteArray.mk #[]), false, [])).fst, (P.get bl i ((ByteArray.mk #[]), false, [])).snd.fst, r)])) (P.cond (P.cut ((0 : Int)) r_1.fst (P.len out)) (P.cond (P.room (P.add (P.len out) (P.len [((P.get bl i ((ByteArray.mk #[]), false, [])).fst, (P.get bl i ((ByteArray.mk #[]), false, [])).snd.fst, r)])) 48) (some (Sum.inl (P.wrap IntKind.i64 (P.add i ((1 : Int))), P.insAt out r_1.fst [((P.get bl i ((ByteArray.mk #[]), false, [])).fst, (P.get bl i ((ByteArray.mk #[]), false, [])).snd.fst, r)], p))) none) none) none)) (P.bind (atoms_Union k (r, (P.get bl i ((ByteArray.mk #[]), false, [])).snd.snd)) fun (r : List (Int × Int)) => P.bind (object_find k (out, (P.get bl i ((ByteArray.mk #[]), false, [])).fst)) fun (r_1 : Int × Bool) => P.cond r_1.snd (P.cond (P.inb r_1.fst (P.len out)) (some (Sum.inl (P.wrap IntKind.i64 (P.add i ((1 : Int))), P.set out r_1.fst ((P.get bl i ((ByteArray.mk #[]), false, [])).fst, false, r), p))) none) (P.cond (P.ilt ((0 : Int)) (P.len [((P.get bl i ((ByteArray.mk #[]), false, [])).fst, false, r)])) (P.cond (P.cut ((0 : Int)) r_1.fst (P.len out)) (P.cond (P.room (P.add (P.len out) (P.len [((P.get bl i ((ByteArray.mk #[]), false, [])).fst, false, r)])) 48) (some (Sum.inl (P.wrap IntKind.i64 (P.add i ((1 : Int))), P.insAt out r_1.fst [((P.get bl i ((ByteArray.mk #[]), false, [])).fst, false, r)], p))) none) none) none))) none))
noncomputable def innerJ (k : Nat) (bl out : List Fd) (p : List At) (i : Int) : Option ((Int × Sp) ⊕ (Sp ⊕ Sp)) := (P.bind (P.iter k (fun (y_1 : Int) => P.cond (P.ilt y_1 (P.len out)) (P.cond (P.inb y_1 (P.len out)) (P.cond (P.seq (P.get out y_1 ((ByteArray.mk #[]), false, [])).fst (P.get bl i ((ByteArray.mk #[]), false, [])).fst) (P.map (fun (r : Int × List (ByteArray × Bool × List (Int × Int)) × List (Int × Int) ⊕ List (ByteArray × Bool × List (Int × Int)) × List (Int × Int) ⊕ List (ByteArray × Bool × List (Int × Int)) × List (Int × Int)) => Sum.inr (Sum.inr r)) (contJ k bl out p i y_1)) (some (Sum.inl (P.wrap IntKind.i64 (P.add y_1 ((1 : Int))))))) none) (some (Sum.inr (Sum.inl PUnit.unit)))) ((0 : Int))) (P.either (fun (z : PUnit) => P.cond (P.ilt ((-1 : Int)) ((0 : Int))) (P.bind (atoms_Union k ([], (P.get bl i ((ByteArray.mk #[]), false, [])).snd.snd)) fun (r : List (Int × Int)) => P.bind (object_find k (out, (P.get bl i ((ByteArray.mk #[]), false, [])).fst)) fun (r_1 : Int × Bool) => P.cond r_1.snd (P.cond (P.inb r_1.fst (P.len out)) (some (Sum.inl (P.wrap IntKind.i64 (P.add i ((1 : Int))), P.set out r_1.fst ((P.get bl i ((ByteArray.mk #[]), false, [])).fst, false, r), p))) none) (P.cond (P.ilt ((0 : Int)) (P.len [((P.get bl i ((ByteArray.mk #[]), false, [])).fst, false, r)])) (P.cond (P.cut ((0 : Int)) r_1.fst (P.len out)) (P.cond (P.room (P.add (P.len out) (P.len [((P.get bl i ((ByteArray.mk #[]), false, [])).fst, false, r)])) 48) (some (Sum.inl (P.wrap IntKind.i64 (P.add i ((1 : Int))), P.insAt out r_1.fst [((P.get bl i ((ByteArray.mk #[]), false, [])).fst, false, r)], p))) none) none) none)) (P.cond (P.inb ((-1 : Int)) (P.len out)) (P.bind (slCloneAtom k (P.get out ((-1 : Int)) ((ByteArray.mk #[]), false, [])).snd.snd) fun (r : List (Int × Int)) => P.cond (P.get out ((-1 : Int)) ((ByteArray.mk #[]), false, [])).snd.fst (P.bind (atoms_Union k (r, (P.get bl i ((ByteArray.mk #[]), false, [])).snd.snd)) fun (r : List (Int × Int)) => P.bind (object_find k (out, (P.get bl i ((ByteArray.mk #[]), false, [])).fst)) fun (r_1 : Int × Bool) => P.cond r_1.snd (P.cond (P.inb r_1.fst (P.len out)) (some (Sum.inl (P.wrap IntKind.i64 (P.add i ((1 : Int))), P.set out r_1.fst ((P.get bl i ((ByteArray.mk #[]), false, [])).fst, (P.get bl i ((ByteArray.mk #[]), false, [])).snd.fst, r), p))) none) (P.cond (P.ilt ((0 : Int)) (P.len [((P.get bl i ((ByteArray.mk #[]), false, [])).fst, (P.get bl i ((ByteArray.mk #[]), false, [])).snd.fst, r)])) (P.cond (P.cut ((0 : Int)) r_1.fst (P.len out)) (P.cond (P.room (P.add (P.len out) (P.len [((P.get bl i ((ByteArray.mk #[]), false, [])).fst, (P.get bl i ((ByteArray.mk #[]), false, [])).snd.fst, r)])) 48) (some (Sum.inl (P.wrap IntKind.i64 (P.add i ((1 : Int))), P.insAt out r_1.fst [((P.get bl i ((ByteArray.mk #[]), false, [])).fst, (P.get bl i ((ByteArray.mk #[]), false, [])).snd.fst, r)], p))) none) none) none)) (P.bind (atoms_Union k (r, (P.get bl i ((ByteArray.mk #[]), false, [])).snd.snd)) fun (r : List (Int × Int)) => P.bind (object_find k (out, (P.get bl i ((ByteArray.mk #[]), false, [])).fst)) fun (r_1 : Int × Bool) => P.cond r_1.snd (P.cond (P.inb r_1.fst (P.len out)) (some (Sum.inl (P.wrap IntKind.i64 (P.add i ((1 : Int))), P.set out r_1.fst ((P.get bl i ((ByteArray.mk #[]), false, [])).fst, false, r), p))) none) (P.cond (P.ilt ((0 : Int)) (P.len [((P.get bl i ((ByteArray.mk #[]), false, [])).fst, false, r)])) (P.cond (P.cut ((0 : Int)) r_1.fst (P.len out)) (P.cond (P.room (P.add (P.len out) (P.len [((P.get bl i ((ByteArray.mk #[]), false, [])).fst, false, r)])) 48) (some (Sum.inl (P.wrap IntKind.i64 (P.add i ((1 : Int))), P.insAt out r_1.fst [((P.get bl i ((ByteArray.mk #[]), false, [])).fst, false, r)], p))) none) none) none))) none)) fun (r : Int × List (ByteArray × Bool × List (Int × Int)) × List (Int × Int) ⊕ List (ByteArray × Bool × List (Int × Int)) × List (Int × Int) ⊕ List (ByteArray × Bool × List (Int × Int)) × List (Int × Int)) => some r))
theorem join_form (k : Nat) (x : Sp × Sp) : object_Join k x = P.bind (object_May k x.fst) fun (r : Bool) => P.cond (P.not r) (some ([], [])) (P.bind (object_May k x.snd) fun (r : Bool) => P.cond (P.not r) (some ([], [])) (P.bind (slCloneAtom k x.fst.snd) fun (r : List (Int × Int)) => P.bind (P.iter k (fun (y : Int × List (ByteArray × Bool × List (Int × Int)) × List (Int × Int)) => P.cond (P.ilt y.fst (P.len x.fst.fst)) (P.cond (P.inb y.fst (P.len x.fst.fst)) (P.bind (slCloneAtom k (P.get x.fst.fst y.fst ((ByteArray.mk #[]), false, [])).snd.snd) fun (r : List (Int × Int)) => P.cond (P.room (P.add (P.len y.snd.fst) (P.len [((P.get x.fst.fst y.fst ((ByteArray.mk #[]), false, [])).fst, (P.get x.fst.fst y.fst ((ByteArray.mk #[]), false, [])).snd.fst, r)])) 48) (some (Sum.inl (P.wrap IntKind.i64 (P.add y.fst ((1 : Int))), P.app y.snd.fst [((P.get x.fst.fst y.fst ((ByteArray.mk #[]), false, [])).fst, (P.get x.fst.fst y.fst ((ByteArray.mk #[]), false, [])).snd.fst, r)], y.snd.snd))) none) none) (some (Sum.inr (Sum.inl (y.snd.fst, y.snd.snd))))) ((0 : Int), [], r)) (P.either (fun (z : List (ByteArray × Bool × List (Int × Int)) × List (Int × Int)) => P.bind (atoms_Union k (x.fst.snd, x.snd.snd)) fun (r : List (Int × Int)) => P.bind (P.iter k (fun (y : Int × List (ByteArray × Bool × List (Int × Int))) => P.cond (P.ilt y.fst (P.len z.fst)) (P.cond (P.inb y.fst (P.len y.snd)) (P.bind (object_find k (x.snd.fst, (P.get y.snd y.fst ((ByteArray.mk #[]), false, [])).fst)) fun (r : Int × Bool) => P.cond (P.get y.snd y.fst ((ByteArray.mk #[]), false, [])).snd.fst (P.cond (P.inb y.fst (P.len y.snd)) (some (Sum.inl (P.wrap IntKind.i64 (P.add y.fst ((1 : Int))), P.set y.snd y.fst ((P.get y.snd y.fst ((ByteArray.mk #[]), false, [])).fst, r.snd, (P.get y.snd y.fst ((ByteArray.mk #[]), false, [])).snd.snd)))) none) (P.cond (P.inb y.fst (P.len y.snd)) (some (Sum.inl (P.wrap IntKind.i64 (P.add y.fst ((1 : Int))), P.set y.snd y.fst ((P.get y.snd y.fst ((ByteArray.mk #[]), false, [])).fst, false, (P.get y.snd y.fst ((ByteArray.mk #[]), false, [])).snd.snd)))) none)) none) (some (Sum.inr (Sum.inl y.snd)))) ((0 : Int), z.fst)) (P.either (fun (z : List (ByteArray × Bool × List (Int × Int))) => P.bind (P.iter k (fun (y : Int × List (ByteArray × Bool × List (Int × Int)) × List (Int × Int)) => P.cond (P.ilt y.fst (P.len x.snd.fst)) (P.cond (P.inb y.fst (P.len x.snd.fst)) (innerJ k x.snd.fst y.snd.fst y.snd.snd y.fst) none) (some (Sum.inr (Sum.inl (y.snd.fst, y.snd.snd))))) ((0 : Int), z, r)) (P.either (fun (z : List (ByteArray × Bool × List (Int × Int)) × List (Int × Int)) => some (z.fst, z.snd)) fun (r : List (ByteArray × Bool × List (Int × Int)) × List (Int × Int)) => some r)) fun (r : List (ByteArray × Bool × List (Int × Int)) × List (Int × Int)) => some r)) fun (r : List (ByteArray × Bool × List (Int × Int)) × List (Int × Int)) => some r))) := rfl
end Go.PL
end
section
open Go Go.PG Go.PL
set_option linter.unusedVariables false
namespace Go.PL
theorem put_run2 {ρ : Type} (l : List Fd) (p : List At) (F : Fd) (h : RisesF l) (hl : l.length ≤ 1000000) (i : Int) :
    (P.cond (get l F.1).isSome (P.cond (P.inb (pos l F.1 : Int) (P.len l)) (some (Sum.inl (i, P.set l (pos l F.1 : Int) F, p))) none) (P.cond (P.ilt ((0 : Int)) (P.len [F])) (P.cond (P.cut ((0 : Int)) (pos l F.1 : Int) (P.len l)) (P.cond (P.room (P.add (P.len l) (P.len [F])) 48) (some (Sum.inl (i, P.insAt l (pos l F.1 : Int) [F], p))) none) none) none) : Option ((Int × Sp) ⊕ ρ)) = some (.inl (i, put l F, p)) := by
  have := put_run l p F h hl
  rw [put_eq h] at this ⊢
  have hp := pos_le F.1 l
  cases q : (get l F.1).isSome
  · rw [cond_false, show P.ilt ((0 : Int)) (P.len [F]) = true from ilt_iff.2 (by rw [len_eq]; simp), cond_true, show P.cut ((0 : Int)) (pos l F.1 : Int) (P.len l) = true from cut_iff.2 (by rw [len_eq]; omega), cond_true, room48 _ _ (by omega), cond_true, if_neg (by decide)]
    rfl
  · rw [at_pos h, Bool.and_eq_true, decide_eq_true_eq] at q
    rw [cond_true, show P.inb (pos l F.1 : Int) (P.len l) = true from inb_iff.2 (by rw [len_eq]; omega), cond_true, if_pos rfl]
    rfl
def sndF (out : List Fd) (h : Fd) : Fd := (h.1, (getR out h.1).2 && (getR out h.1).1.2.1 && h.2.1, norm ((getR out h.1).1.2.2 ++ h.2.2))
theorem inner_spec (bl out : List Fd) (p : List At) (i : Nat) (hi : i < bl.length) (hb : bl.length ≤ 100000) (hbv : ∀ f, f ∈ bl → f.2.2.length ≤ 100000) (ho : RisesF out) (hl : out.length ≤ 900000) (hov : ∀ f, f ∈ out → f.2.2.length ≤ 300000) :
    innerJ K bl out p (i : Int) = some (.inl (((i + 1 : Nat) : Int), put out (sndF out (bl.getD i dF)), p)) := by
  have hg : P.get bl (i : Int) ((ByteArray.mk #[]), false, []) = bl.getD i dF := get_nat _ _ _
  have hhv := hbv _ (mem_getD hi)
  unfold innerJ
  rw [hg, wrap_succ (by omega)]
  generalize hh : bl.getD i dF = h at hhv ⊢
  refine find_cont out h.1 _ (fun j => contJ K bl out p (i : Int) (j : Int)) _ _ (by omega) (fun j hj => ?_) ?_ (fun j hj hn => ?_) (fun hn => ?_)
  · try dsimp only
    rw [show P.ilt (j : Int) (P.len out) = true from ilt_iff.2 (by rw [len_eq]; omega), cond_true, show P.inb (j : Int) (P.len out) = true from inb_iff.2 (by rw [len_eq]; omega), cond_true, get_nat, wrap_succ (by omega)]
    by_cases q : (out.getD j dF).1 = h.1
    · rw [if_pos q, show P.seq (out.getD j dF).1 h.1 = true from seq_iff.2 q, cond_true]
    · rw [if_neg q, show P.seq (out.getD j dF).1 h.1 = false from by rw [Bool.eq_false_iff]; exact fun z => q (seq_iff.1 z)]; rfl
  · try dsimp only
    exact copy_end _ _ _
  · have hgo : getR out h.1 = (out.getD j dF, true) := by
      unfold getR
      rw [← hn, get_of_mem ho (mem_getD hj)]
    have hv := hov _ (mem_getD hj)
    unfold contJ
    rw [hg, hh, wrap_succ (by omega), show P.ilt (j : Int) ((0 : Int)) = false from by rw [Bool.eq_false_iff, Ne, ilt_iff]; omega, cond_false, show P.inb (j : Int) (P.len out) = true from inb_iff.2 (by rw [len_eq]; omega), cond_true, get_nat]
    have hs : sndF out h = (h.1, (out.getD j dF).2.1 && h.2.1, norm ((out.getD j dF).2.2 ++ h.2.2)) := by
      unfold sndF; rw [hgo]; simp
    rw [hs]
    generalize out.getD j dF = g at hv
    rw [at_clone K g.2.2 (by omega), bind_some, at_union g.2.2 h.2.2 (by omega), bind_some, bind_some, find_spec out h.1 ho (by omega), bind_some, bind_some]
    cases hb2 : g.2.1
    · rw [cond_false]
      exact put_run2 out p (h.1, false, norm (g.2.2 ++ h.2.2)) ho (by omega) _
    · rw [cond_true]
      exact put_run2 out p (h.1, h.2.1, norm (g.2.2 ++ h.2.2)) ho (by omega) _
  · have hgo : getR out h.1 = (dF, false) := by
      unfold getR
      rw [get_none.2 fun f hf e => by
        obtain ⟨j, hj, rfl⟩ := List.getElem_of_mem hf
        have := hn j hj
        simp [List.getD_eq_getElem?_getD, hj] at this
        exact this e]
    have hs : sndF out h = (h.1, false, norm ([] ++ h.2.2)) := by
      unfold sndF; rw [hgo]; simp
    rw [hs, show P.ilt ((-1 : Int)) ((0 : Int)) = true from by decide, cond_true, at_union [] h.2.2 (by simp; omega), bind_some, find_spec out h.1 ho (by omega), bind_some]
    exact put_run2 out p (h.1, false, norm ([] ++ h.2.2)) ho (by omega) _
end Go.PL
end
section
open Go Go.PG Go.PL
set_option linter.unusedVariables false
namespace Go.PL
def fstF (b : List Fd) (f : Fd) : Fd := (f.1, f.2.1 && has b f.1, f.2.2)
theorem get_map {l : List Fd} {g : Fd → Fd} (hg : ∀ f, (g f).1 = f.1) (n : ByteArray) : get (l.map g) n = (get l n).map g := by
  induction l with
  | nil => rfl
  | cons f l ih =>
    simp only [get, List.map_cons, List.find?_cons, hg] at ih ⊢
    by_cases q : f.1 = n
    · simp only [q, decide_true, Option.map_some]
    · simp only [q, decide_false]
      exact ih
theorem rises_map {l : List Fd} {g : Fd → Fd} (hg : ∀ f, (g f).1 = f.1) (h : RisesF l) : RisesF (l.map g) := by
  refine List.pairwise_map.2 (h.imp fun {a b} q => ?_)
  rw [hg, hg]; exact q
def foldS (l acc : List Fd) : List Fd := l.foldl (fun out g => put out (sndF out g)) acc
theorem foldS_spec (a b : List Fd) (hb : RisesF b) : ∀ (l m acc : List Fd), b = m ++ l → RisesF acc → (∀ n, get acc n = if has m n = true then some (joinF a b n) else (get a n).map (fstF b)) →
    RisesF (foldS l acc) ∧ ∀ n, get (foldS l acc) n = if has b n = true then some (joinF a b n) else (get a n).map (fstF b) := by
  intro l
  induction l with
  | nil =>
    intro m acc hm hr hg
    rw [List.append_nil] at hm
    subst hm
    exact ⟨hr, hg⟩
  | cons g l ih =>
    intro m acc hm hr hg
    have hgm : has m g.1 = false := by
      cases q : has m g.1
      · rfl
      · exfalso
        unfold has at q
        obtain ⟨f, hf⟩ := Option.isSome_iff_exists.1 q
        rw [hm] at hb
        have := (List.pairwise_append.1 hb).2.2 f (get_mem hf) g (by simp)
        rw [get_name hf] at this
        exact ltS_irrefl _ this
    have hgb : get b g.1 = some g := get_of_mem hb (by rw [hm]; simp)
    have hs : sndF acc g = joinF a b g.1 := by
      unfold sndF joinF
      have e1 : getR b g.1 = (g, true) := by unfold getR; rw [hgb]
      have e2 := hg g.1
      rw [hgm] at e2
      simp only [Bool.false_eq_true, if_false] at e2
      rw [e1]
      unfold getR
      rw [e2]
      have hhas : has b g.1 = true := by unfold has; rw [hgb]; rfl
      cases q : get a g.1 with
      | none => simp
      | some f => simp [fstF, get_name q, hhas]
    refine ih (m ++ [g]) (put acc (sndF acc g)) (by rw [hm]; simp) (put_rises hr) fun n => ?_
    rw [get_put hr, hs, hg, has_append, has_cons]
    by_cases e : g.1 = n
    · rw [if_pos (show (joinF a b g.1).1 = n from e), if_pos (by simp [e]), e]
    · rw [if_neg (show ¬ (joinF a b g.1).1 = n from e)]
      have : has [] n = false := rfl
      simp [e, this]
theorem joined {a b : List Fd} (ha : RisesF a) (hb : RisesF b) (hv : ∀ f, f ∈ a → f.2.2 = norm f.2.2) : foldS b (a.map (fstF b)) = joinL a b := by
  obtain ⟨h1, h2⟩ := foldS_spec a b hb b [] (a.map (fstF b)) rfl (rises_map (g := fstF b) (fun _ => rfl) ha) (fun n => by
    rw [get_map (g := fstF b) (fun _ => rfl)]; simp [has, get])
  refine risesF_ext h1 (joinL_rises a b) fun n => ?_
  rw [h2, get_joinL]
  cases q : has b n
  · simp only [Bool.false_eq_true, if_false, Bool.or_false]
    have hn : get b n = none := by
      unfold has at q
      exact Option.not_isSome_iff_eq_none.1 (by rw [q]; simp)
    cases q2 : get a n with
    | none => simp [has, q2]
    | some f =>
      have : has a n = true := by unfold has; rw [q2]; rfl
      rw [if_pos this]
      have e1 : getR b n = (dF, false) := by unfold getR; rw [hn]
      have e2 : getR a n = (f, true) := by unfold getR; rw [q2]
      simp only [Option.map_some, joinF, fstF, e1, e2, get_name q2, q]
      have := hv f (get_mem q2)
      simp
      exact this
  · simp
end Go.PL
end
section
open Go Go.PG Go.PL
set_option linter.unusedVariables false
namespace Go.PL
def outJ (a b : List Fd) (i : Nat) : List Fd := foldS (b.take i) (a.map (fstF b))
theorem outJ_succ (a b : List Fd) {i : Nat} (h : i < b.length) : outJ a b (i + 1) = put (outJ a b i) (sndF (outJ a b i) (b.getD i dF)) := by
  unfold outJ foldS
  rw [take_getF h, List.foldl_append]
  rfl
theorem outJ_spec {a b : List Fd} (ha : RisesF a) (hb : RisesF b) : ∀ i, i ≤ b.length → RisesF (outJ a b i) ∧ (∀ n, get (outJ a b i) n = if has (b.take i) n = true then some (joinF a b n) else (get a n).map (fstF b)) ∧ (outJ a b i).length ≤ a.length + i := by
  have hput : ∀ (f : Fd) (l : List Fd), (put l f).length ≤ l.length + 1 := by
    intro f l
    induction l with
    | nil => simp [put]
    | cons g l ih =>
      unfold put
      split
      · simp
      · split
        · simp
        · simp; exact ih
  intro i
  induction i with
  | zero =>
    intro _
    refine ⟨rises_map (g := fstF b) (fun _ => rfl) ha, fun n => ?_, by simp [outJ, foldS]⟩
    show get (a.map (fstF b)) n = _
    rw [get_map (g := fstF b) (fun _ => rfl)]; simp [has, get]
  | succ i ih =>
    intro hi
    obtain ⟨h1, h2, h3⟩ := ih (by omega)
    have hgb : get b (b.getD i dF).1 = some (b.getD i dF) := get_of_mem hb (mem_getD (by omega))
    have hgm : has (b.take i) (b.getD i dF).1 = false := by
      cases q : has (b.take i) (b.getD i dF).1
      · rfl
      · exfalso
        unfold has at q
        obtain ⟨f, hf⟩ := Option.isSome_iff_exists.1 q
        have hb' := hb
        rw [show b = b.take i ++ b.drop i from (List.take_append_drop i b).symm, drop_getF (show i < b.length by omega)] at hb'
        have := (List.pairwise_append.1 hb').2.2 f (get_mem hf) (b.getD i dF) (by simp)
        rw [get_name hf] at this
        exact ltS_irrefl _ this
    have hs : sndF (outJ a b i) (b.getD i dF) = joinF a b (b.getD i dF).1 := by
      generalize b.getD i dF = g at hgb hgm
      unfold sndF joinF
      have e1 : getR b g.1 = (g, true) := by unfold getR; rw [hgb]
      have e2 := h2 g.1
      rw [hgm] at e2
      simp only [Bool.false_eq_true, if_false] at e2
      rw [e1]
      unfold getR
      rw [e2]
      have hhas : has b g.1 = true := by unfold has; rw [hgb]; rfl
      cases q : get a g.1 with
      | none => simp
      | some f => simp [fstF, get_name q, hhas]
    rw [outJ_succ a b (by omega)]
    refine ⟨put_rises h1, fun n => ?_, by have := hput (sndF (outJ a b i) (b.getD i dF)) (outJ a b i); omega⟩
    rw [get_put h1, hs, h2, take_getF (show i < b.length by omega), has_append, has_cons]
    by_cases e : (b.getD i dF).1 = n
    · rw [if_pos (show (joinF a b (b.getD i dF).1).1 = n from e), if_pos (by rw [decide_eq_true e]; simp), e]
    · rw [if_neg (show ¬ (joinF a b (b.getD i dF).1).1 = n from e)]
      have : has [] n = false := rfl
      rw [this, decide_eq_false e]
      simp
theorem outJ_few {a b : Sp} (ha : RisesF a.1) (hb : RisesF b.1) (fa : FewS a) (fb : FewS b) (i : Nat) (hi : i ≤ b.1.length) : ∀ f, f ∈ outJ a.1 b.1 i → f.2.2.length ≤ 300000 := by
  intro f hf
  obtain ⟨h1, h2, _⟩ := outJ_spec ha hb i hi
  have h := get_of_mem h1 hf
  rw [h2] at h
  have w1 := getR_few fa f.1
  have w2 := getR_few fb f.1
  by_cases q : has (b.1.take i) f.1 = true
  · rw [if_pos q] at h
    have h := Option.some.inj h
    rw [← h]
    have := norm_length ((getR a.1 f.1).1.2.2 ++ (getR b.1 f.1).1.2.2)
    rw [List.length_append] at this
    show (norm ((getR a.1 f.1).1.2.2 ++ (getR b.1 f.1).1.2.2)).length ≤ _
    omega
  · rw [if_neg q] at h
    cases z : get a.1 f.1 with
    | none => rw [z] at h; cases h
    | some g =>
      rw [z] at h
      have h := Option.some.inj h
      rw [← h]
      have := fa.2.1 g (get_mem z)
      show g.2.2.length ≤ _
      omega
def mixJ (b l : List Fd) (i : Nat) : List Fd := (l.take i).map (fstF b) ++ l.drop i
theorem mixJ_len (b l : List Fd) (i : Nat) : (mixJ b l i).length = l.length := by simp [mixJ]; omega
theorem mixJ_get (b l : List Fd) {i : Nat} (h : i < l.length) : (mixJ b l i).getD i dF = l.getD i dF := by
  have hl : ((l.take i).map (fstF b)).length = i := by rw [List.length_map, List.length_take]; omega
  simp only [mixJ, List.getD_eq_getElem?_getD]
  rw [List.getElem?_append_right (by omega), hl, Nat.sub_self, List.getElem?_drop, Nat.add_zero]
theorem mixJ_set (b l : List Fd) {i : Nat} (h : i < l.length) : (mixJ b l i).set i (fstF b (l.getD i dF)) = mixJ b l (i + 1) := by
  have hl : ((l.take i).map (fstF b)).length = i := by rw [List.length_map, List.length_take]; omega
  unfold mixJ
  rw [List.set_append_right _ _ (by omega), hl, Nat.sub_self, drop_getF h, List.set_cons_zero, take_getF h, List.map_append]
  simp
theorem ob_join (a b : Sp) (ha : FewS a) (hb : FewS b) : object_Join K (a, b) = some (join a b) := by
  rw [join_form]
  unfold join
  try dsimp only
  have hal := ha.1; have hbl := hb.1
  rw [ob_may a ha, bind_some]
  by_cases m1 : MayO a
  · rw [decide_eq_true m1, show P.not true = false from rfl, cond_false, ob_may b hb, bind_some]
    by_cases m2 : MayO b
    · rw [decide_eq_true m2, show P.not true = false from rfl, cond_false, if_pos ⟨m1, m2⟩, at_clone K a.2 (by have := ha.2.2; omega), bind_some, copy_run a.1 a.2 (by omega) _ (fun i hi => copy_step a.1 (by omega) ha.2.1 a.2 i hi) (copy_end _ _ _), bind_some, either_inl, at_union a.2 b.2 (by have := ha.2.2; have := hb.2.2; omega), bind_some]
      have run : ∀ f : Int × List Fd → Option ((Int × List Fd) ⊕ (List Fd ⊕ Sp)),
          (∀ i : Nat, i < a.1.length → f ((i : Int), mixJ b.1 a.1 i) = some (.inl (((i + 1 : Nat) : Int), (mixJ b.1 a.1 i).set i (fstF b.1 (a.1.getD i dF))))) →
          f ((a.1.length : Int), mixJ b.1 a.1 a.1.length) = some (.inr (.inl (mixJ b.1 a.1 a.1.length))) →
          P.iter K f (0, a.1) = some (.inl (a.1.map (fstF b.1))) := by
        intro f hs he
        have e0 : mixJ b.1 a.1 0 = a.1 := by simp [mixJ]
        have en : mixJ b.1 a.1 a.1.length = a.1.map (fstF b.1) := by simp [mixJ]
        have := iter_run (f := f) (fun i => ((i : Int), mixJ b.1 a.1 i)) _ a.1.length 0 K (by unfold K; omega) (fun j hj => by simp only [Nat.zero_add]; rw [hs j hj, mixJ_set b.1 a.1 hj]) (by simpa using he)
        rw [e0] at this
        rw [show ((0 : Nat) : Int) = 0 from rfl] at this
        rw [this, en]
      rw [run _ ?_ ?_]
      · rw [bind_some, either_inl]
        have run2 : ∀ f : Int × Sp → Option ((Int × Sp) ⊕ (Sp ⊕ Sp)),
            (∀ i : Nat, i < b.1.length → f ((i : Int), outJ a.1 b.1 i, norm (a.2 ++ b.2)) = some (.inl (((i + 1 : Nat) : Int), put (outJ a.1 b.1 i) (sndF (outJ a.1 b.1 i) (b.1.getD i dF)), norm (a.2 ++ b.2)))) →
            f ((b.1.length : Int), outJ a.1 b.1 b.1.length, norm (a.2 ++ b.2)) = some (.inr (.inl (outJ a.1 b.1 b.1.length, norm (a.2 ++ b.2)))) →
            P.iter K f (0, a.1.map (fstF b.1), norm (a.2 ++ b.2)) = some (.inl (outJ a.1 b.1 b.1.length, norm (a.2 ++ b.2))) := by
          intro f hs he
          have := iter_run (f := f) (fun i => ((i : Int), outJ a.1 b.1 i, norm (a.2 ++ b.2))) _ b.1.length 0 K (by unfold K; omega) (fun j hj => by simp only [Nat.zero_add]; rw [hs j hj, outJ_succ a.1 b.1 hj]) (by simpa using he)
          have e0 : outJ a.1 b.1 0 = a.1.map (fstF b.1) := by simp [outJ, foldS]
          rw [e0] at this
          rw [show ((0 : Nat) : Int) = 0 from rfl] at this
          exact this
        rw [run2 _ ?_ ?_]
        · rw [bind_some, either_inl]
          have : outJ a.1 b.1 b.1.length = joinL a.1 b.1 := by
            unfold outJ
            rw [List.take_length]
            exact joined m1.1 m2.1 m1.2.1
          rw [this]
        · intro i hi
          obtain ⟨h1, _, h3⟩ := outJ_spec m1.1 m2.1 i (by omega)
          try dsimp only
          rw [show P.ilt (i : Int) (P.len b.1) = true from ilt_iff.2 (by rw [len_eq]; omega), cond_true, show P.inb (i : Int) (P.len b.1) = true from inb_iff.2 (by rw [len_eq]; omega), cond_true]
          exact inner_spec b.1 (outJ a.1 b.1 i) (norm (a.2 ++ b.2)) i hi hbl hb.2.1 h1 (by omega) (outJ_few m1.1 m2.1 ha hb i (by omega))
        · try dsimp only
          exact copy_end _ _ _
      · intro i hi
        try dsimp only
        rw [show P.ilt (i : Int) (P.len a.1) = true from ilt_iff.2 (by rw [len_eq]; omega), cond_true, show P.inb (i : Int) (P.len (mixJ b.1 a.1 i)) = true from inb_iff.2 (by rw [len_eq, mixJ_len]; omega), cond_true, get_nat, mixJ_get b.1 a.1 hi, find_spec b.1 _ m2.1 (by omega), bind_some]
        have e : fstF b.1 (a.1.getD i dF) = ((a.1.getD i dF).1, (a.1.getD i dF).2.1 && (get b.1 (a.1.getD i dF).1).isSome, (a.1.getD i dF).2.2) := rfl
        rw [e]
        cases q : (a.1.getD i dF).2.1
        · rw [cond_false, cond_true, wrap_succ (by omega)]; rfl
        · rw [cond_true, cond_true, wrap_succ (by omega)]; rfl
      · try dsimp only
        exact copy_end _ _ _
    · rw [decide_eq_false m2, show P.not false = true from rfl, cond_true, if_neg fun z => m2 z.2]
  · rw [decide_eq_false m1, show P.not false = true from rfl, cond_true, if_neg fun z => m1 z.1]
end Go.PL
end
section
open Go Go.PG Go.PL
set_option linter.unusedVariables false
namespace Go.PL
instance (s : Sp) : Decidable (FewS s) := by unfold FewS; exact inferInstance
end Go.PL
end
section
open Go Go.PG Go.PL
set_option linter.unusedVariables false
namespace Go.PL
def pr (l : List Fd) (n : ByteArray) : Bool := (getR l n).2
def su (l : List Fd) (n : ByteArray) : Bool := (getR l n).1.2.1
def va (l : List Fd) (n : ByteArray) : List At := (getR l n).1.2.2
theorem get_view (l : List Fd) (n : ByteArray) : get l n = if pr l n = true then some (n, su l n, va l n) else none := by
  unfold pr su va getR
  cases q : get l n with
  | none => rfl
  | some f =>
    have := get_name q
    simp only [if_true]
    rw [← this]
theorem view_none {l : List Fd} {n : ByteArray} (h : pr l n = false) : su l n = false ∧ va l n = [] := by
  unfold pr su va getR at *
  cases q : get l n with
  | none => simp
  | some f => rw [q] at h; simp at h
theorem view_of_get {l : List Fd} {n : ByteArray} {p s : Bool} {v : List At} (h : get l n = if p = true then some (n, s, v) else none) (hn : p = false → s = false ∧ v = []) : pr l n = p ∧ su l n = s ∧ va l n = v := by
  unfold pr su va getR
  rw [h]
  cases p
  · obtain ⟨h1, h2⟩ := hn rfl; simp [h1, h2]
  · simp
theorem su_pr {l : List Fd} {n : ByteArray} (h : su l n = true) : pr l n = true := by
  cases q : pr l n
  · rw [(view_none q).1] at h; cases h
  · rfl
theorem view_ext {l m : List Fd} (hl : RisesF l) (hm : RisesF m) (h : ∀ n, pr l n = pr m n ∧ su l n = su m n ∧ va l n = va m n) : l = m :=
  risesF_ext hl hm fun n => by rw [get_view, get_view, (h n).1, (h n).2.1, (h n).2.2]
theorem has_pr (l : List Fd) (n : ByteArray) : has l n = pr l n := (getR_snd l n).symm
theorem va_canon {s : Sp} (h : MayO s) (n : ByteArray) : Canon (va s.1 n) := by
  unfold va getR
  cases q : get s.1 n with
  | none => exact canon_iff.1 rfl
  | some f => exact canon_iff.1 (h.2.1 f (get_mem q))
theorem may_of_view {s : Sp} (h : RisesF s.1) (hv : ∀ n, Canon (va s.1 n)) (hp : Canon s.2) : MayO s := by
  refine ⟨h, fun f hf => canon_iff.2 ?_, canon_iff.2 hp⟩
  have := hv f.1
  unfold va getR at this
  rw [get_of_mem h hf] at this
  exact this
theorem sp_ext {a b : Sp} (ha : MayO a) (hb : MayO b) (hp : a.2 = b.2) (h : ∀ n, pr a.1 n = pr b.1 n ∧ su a.1 n = su b.1 n ∧ va a.1 n = va b.1 n) : a = b :=
  Prod.ext (view_ext ha.1 hb.1 h) hp
theorem canon_ext {l m : List At} (hl : Canon l) (hm : Canon m) (h : ∀ z, z ∈ l ↔ z ∈ m) : l = m := rises_ext hl.1 hm.1 h
def WinV (a b : List Fd) (n : ByteArray) : Prop := (pr a n = true → pr b n = true) ∧ Within (va a n) (va b n) ∧ (su b n = true → su a n = true)
theorem within_view {a b : Sp} : WithinO a b ↔ MayO a ∧ MayO b ∧ Within a.2 b.2 ∧ ∀ n, WinV a.1 b.1 n := by
  unfold WithinO
  constructor
  · rintro ⟨h1, h2, h3, h4, h5⟩
    refine ⟨h1, h2, h3, fun n => ?_⟩
    have key : pr a.1 n = true → FldIn b.1 (n, su a.1 n, va a.1 n) := fun h => by
      have := get_view a.1 n
      rw [if_pos h] at this
      exact h4 _ (get_mem this)
    have sk : su b.1 n = true → pr a.1 n = true := fun h => by
      have := get_view b.1 n
      rw [if_pos (su_pr h)] at this
      exact h5 _ (get_mem this) h
    refine ⟨fun h => (key h).1, ?_, fun h => (key (sk h)).2.2 h⟩
    by_cases q : pr a.1 n = true
    · exact (key q).2.1
    · rw [(view_none (Bool.not_eq_true _ ▸ q)).2]; intro z hz; cases hz
  · rintro ⟨h1, h2, h3, h4⟩
    refine ⟨h1, h2, h3, fun f hf => ?_, fun g hg hs => ?_⟩
    · have e := get_of_mem h1.1 hf
      have p1 : pr a.1 f.1 = true := by unfold pr getR; rw [e]
      have p2 : su a.1 f.1 = f.2.1 := by unfold su getR; rw [e]
      have p3 : va a.1 f.1 = f.2.2 := by unfold va getR; rw [e]
      obtain ⟨q1, q2, q3⟩ := h4 f.1
      rw [p2] at q3; rw [p3] at q2
      exact ⟨q1 p1, q2, q3⟩
    · have e := get_of_mem h2.1 hg
      have p2 : su b.1 g.1 = g.2.1 := by unfold su getR; rw [e]
      exact su_pr ((h4 g.1).2.2 (by rw [p2]; exact hs))
theorem join_view (a b : List Fd) (n : ByteArray) : pr (joinL a b) n = (pr a n || pr b n) ∧ su (joinL a b) n = (su a n && su b n) ∧ va (joinL a b) n = norm (va a n ++ va b n) := by
  refine view_of_get ?_ fun h => ?_
  · rw [get_joinL, has_pr, has_pr]
    have : joinF a b n = (n, (su a n && su b n), norm (va a n ++ va b n)) := by
      show (n, pr a n && pr b n && su a n && su b n, norm (va a n ++ va b n)) = _
      congr 2
      cases q1 : su a n
      · simp
      · cases q2 : su b n
        · simp
        · simp [su_pr q1, su_pr q2]
    rw [this]
  · rw [Bool.or_eq_false_iff] at h
    rw [(view_none h.1).1, (view_none h.1).2, (view_none h.2).2]
    exact ⟨rfl, rfl⟩
theorem join_eq {a b : Sp} (ha : MayO a) (hb : MayO b) : join a b = (joinL a.1 b.1, norm (a.2 ++ b.2)) := by unfold join; rw [if_pos ⟨ha, hb⟩]
theorem join_may {a b : Sp} (ha : MayO a) (hb : MayO b) : MayO (join a b) := by
  rw [join_eq ha hb]
  refine may_of_view (joinL_rises _ _) (fun n => ?_) (norm_canon _)
  show Canon (va (joinL a.1 b.1) n)
  rw [(join_view a.1 b.1 n).2.2]
  exact norm_canon _
theorem mem_normA {l m : List At} (hl : Canon l) (hm : Canon m) {z : At} : z ∈ norm (l ++ m) ↔ z ∈ l ∨ z ∈ m := by
  rw [mem_norm, List.mem_append]
  exact ⟨fun h => h.1, fun h => ⟨h, h.elim (hl.2 z) (hm.2 z)⟩⟩
theorem prot_canon {s : Sp} (h : MayO s) : Canon s.2 := canon_iff.1 h.2.2
theorem within_join_left {a b : Sp} (ha : MayO a) (hb : MayO b) : WithinO a (join a b) := by
  rw [within_view]
  refine ⟨ha, join_may ha hb, ?_, fun n => ?_⟩
  · rw [join_eq ha hb]; exact fun z hz => (mem_normA (prot_canon ha) (prot_canon hb)).2 (.inl hz)
  · rw [join_eq ha hb]
    obtain ⟨h1, h2, h3⟩ := join_view a.1 b.1 n
    unfold WinV
    show (_ → pr (joinL a.1 b.1) n = true) ∧ Within _ (va (joinL a.1 b.1) n) ∧ (su (joinL a.1 b.1) n = true → _)
    rw [h1, h2, h3]
    exact ⟨fun h => by rw [h]; rfl, fun z hz => (mem_normA (va_canon ha n) (va_canon hb n)).2 (.inl hz), fun h => (Bool.and_eq_true _ _ ▸ h).1⟩
theorem join_comm {a b : Sp} (ha : MayO a) (hb : MayO b) : join a b = join b a := by
  have key : ∀ {l m : List At}, Canon l → Canon m → norm (l ++ m) = norm (m ++ l) := fun hl hm => canon_ext (norm_canon _) (norm_canon _) fun z => by rw [mem_normA hl hm, mem_normA hm hl, or_comm]
  refine sp_ext (join_may ha hb) (join_may hb ha) ?_ fun n => ?_
  · rw [join_eq ha hb, join_eq hb ha]; exact key (prot_canon ha) (prot_canon hb)
  · rw [join_eq ha hb, join_eq hb ha]
    obtain ⟨h1, h2, h3⟩ := join_view a.1 b.1 n
    obtain ⟨g1, g2, g3⟩ := join_view b.1 a.1 n
    show pr (joinL a.1 b.1) n = pr (joinL b.1 a.1) n ∧ su (joinL a.1 b.1) n = su (joinL b.1 a.1) n ∧ va (joinL a.1 b.1) n = va (joinL b.1 a.1) n
    rw [h1, h2, h3, g1, g2, g3, Bool.or_comm, Bool.and_comm]
    exact ⟨rfl, rfl, key (va_canon ha n) (va_canon hb n)⟩
theorem within_join_right {a b : Sp} (ha : MayO a) (hb : MayO b) : WithinO b (join a b) := by
  rw [join_comm ha hb]; exact within_join_left hb ha
theorem within_refl {a : Sp} (ha : MayO a) : WithinO a a := within_view.2 ⟨ha, ha, fun _ h => h, fun n => ⟨id, fun _ h => h, id⟩⟩
theorem within_antisymm {a b : Sp} (h1 : WithinO a b) (h2 : WithinO b a) : a = b := by
  obtain ⟨ha, hb, p1, q1⟩ := within_view.1 h1
  obtain ⟨_, _, p2, q2⟩ := within_view.1 h2
  refine sp_ext ha hb (canon_ext (prot_canon ha) (prot_canon hb) fun z => ⟨p1 z, p2 z⟩) fun n => ⟨?_, ?_, canon_ext (va_canon ha n) (va_canon hb n) fun z => ⟨(q1 n).2.1 z, (q2 n).2.1 z⟩⟩
  · exact Bool.eq_iff_iff.2 ⟨(q1 n).1, (q2 n).1⟩
  · exact Bool.eq_iff_iff.2 ⟨(q2 n).2.2, (q1 n).2.2⟩
theorem join_least {a b c : Sp} (h1 : WithinO a c) (h2 : WithinO b c) : WithinO (join a b) c := by
  obtain ⟨ha, hc, p1, q1⟩ := within_view.1 h1
  obtain ⟨hb, _, p2, q2⟩ := within_view.1 h2
  refine within_view.2 ⟨join_may ha hb, hc, ?_, fun n => ?_⟩
  · rw [join_eq ha hb]; exact fun z hz => ((mem_normA (prot_canon ha) (prot_canon hb)).1 hz).elim (p1 z) (p2 z)
  · rw [join_eq ha hb]
    obtain ⟨g1, g2, g3⟩ := join_view a.1 b.1 n
    unfold WinV
    show (pr (joinL a.1 b.1) n = true → _) ∧ Within (va (joinL a.1 b.1) n) _ ∧ (_ → su (joinL a.1 b.1) n = true)
    rw [g1, g2, g3]
    refine ⟨fun h => by rw [Bool.or_eq_true] at h; exact h.elim (q1 n).1 (q2 n).1, fun z hz => ((mem_normA (va_canon ha n) (va_canon hb n)).1 hz).elim ((q1 n).2.1 z) ((q2 n).2.1 z), fun h => by rw [(q1 n).2.2 h, (q2 n).2.2 h]; rfl⟩
theorem within_trans {a b c : Sp} (h1 : WithinO a b) (h2 : WithinO b c) : WithinO a c := by
  obtain ⟨ha, hb, p1, q1⟩ := within_view.1 h1
  obtain ⟨_, hc, p2, q2⟩ := within_view.1 h2
  exact within_view.2 ⟨ha, hc, fun z hz => p2 z (p1 z hz), fun n => ⟨fun h => (q2 n).1 ((q1 n).1 h), fun z hz => (q2 n).2.1 z ((q1 n).2.1 z hz), fun h => (q1 n).2.2 ((q2 n).2.2 h)⟩⟩
theorem join_absorb {a b : Sp} (h : WithinO b a) : join a b = a := by
  have hb := h.1; have ha := h.2.1
  exact within_antisymm (join_least (within_refl ha) h) (within_join_left ha hb)
theorem join_assoc {a b c : Sp} (ha : MayO a) (hb : MayO b) (hc : MayO c) : join (join a b) c = join a (join b c) := by
  have h1 := join_may ha hb
  have h2 := join_may hb hc
  refine within_antisymm (join_least (join_least (within_join_left ha h2) (within_trans (within_join_left hb hc) (within_join_right ha h2))) (within_trans (within_join_right hb hc) (within_join_right ha h2))) (join_least (within_trans (within_join_left ha hb) (within_join_left h1 hc)) (join_least (within_trans (within_join_right ha hb) (within_join_left h1 hc)) (within_join_right h1 hc)))
end Go.PL
end
section
open Go Go.PG Go.PL
set_option linter.unusedVariables false
namespace Go.PL
def Bd (k : Nat) (s : Sp) : Prop := s.1.length ≤ k ∧ (∀ f, f ∈ s.1 → f.2.2.length ≤ k) ∧ s.2.length ≤ k
theorem bd_few {s : Sp} {k : Nat} (h : Bd k s) (hk : k ≤ 100000) : FewS s := ⟨Nat.le_trans h.1 hk, fun f hf => Nat.le_trans (h.2.1 f hf) hk, Nat.le_trans h.2.2 hk⟩
theorem bd_va {s : Sp} {k : Nat} (h : Bd k s) (n : ByteArray) : (va s.1 n).length ≤ k := by
  unfold va getR
  cases q : get s.1 n with
  | none => simp
  | some f => exact h.2.1 f (get_mem q)
theorem bd_empty (k : Nat) : Bd k (([], []) : Sp) := ⟨by simp, by simp, by simp⟩
theorem join_bd {a b : Sp} {i j : Nat} (h1 : Bd i a) (h2 : Bd j b) : Bd (i + j) (join a b) := by
  unfold join
  split
  · refine ⟨?_, fun f hf => ?_, ?_⟩
    · have := foldJ_length a.1 b.1 (a.1 ++ b.1) []
      rw [List.length_append] at this
      have := h1.1; have := h2.1
      show (foldJ a.1 b.1 (a.1 ++ b.1) []).length ≤ _
      simp only [List.length_nil] at *
      omega
    · have h := get_of_mem (joinL_rises a.1 b.1) hf
      have e : va (joinL a.1 b.1) f.1 = f.2.2 := by unfold va getR; rw [h]
      rw [← e, (join_view a.1 b.1 f.1).2.2]
      have := norm_length (va a.1 f.1 ++ va b.1 f.1)
      rw [List.length_append] at this
      have := bd_va h1 f.1; have := bd_va h2 f.1
      omega
    · have := norm_length (a.2 ++ b.2)
      rw [List.length_append] at this
      have := h1.2.2; have := h2.2.2
      show (norm (a.2 ++ b.2)).length ≤ _
      omega
  · exact bd_empty _
end Go.PL
end
section
open Go Go.PG Go.PL
set_option linter.unusedVariables false
namespace Go.PL
theorem beq_refl (b : Bool) : P.beq b b = true := beq_iff.2 rfl
end Go.PL
end
section
open Go Go.PG Go.PL
set_option linter.unusedVariables false
namespace Go.PL
theorem lt_max {n : Nat} (h : n ≤ maxLen) : n < 9223372036854775808 := by simp only [maxLen] at h; omega
end Go.PL
end
section
open Go Go.PG Go.PL
set_option linter.all false
namespace Go.PL
abbrev Bv := ByteArray × List At
abbrev Lc := At × Sp
abbrev Sta := Bool × List Bv × List Lc
abbrev dB : Bv := (⟨#[]⟩, [])
abbrev dL : Lc := ((0, 0), [], [])
theorem getD_mem {α : Type} {l : List α} {i : Nat} (h : i < l.length) (d : α) : l.getD i d ∈ l := by
  simp [List.getD_eq_getElem?_getD, h]
theorem forall_getD {α : Type} {l : List α} (d : α) {p : α → Prop} : (∀ i, i < l.length → p (l.getD i d)) ↔ ∀ f, f ∈ l → p f := by
  constructor
  · intro h f hf
    obtain ⟨i, hi, rfl⟩ := List.getElem_of_mem hf
    have := h i hi
    simpa [List.getD_eq_getElem?_getD, hi] using this
  · intro h i hi; exact h _ (getD_mem hi d)
theorem pair_steps {α : Type} {R : α → α → Prop} (tr : ∀ {a b c}, R a b → R b c → R a c) (l : List α) (d : α) : (∀ i, i < l.length → 0 < i → R (l.getD (i - 1) d) (l.getD i d)) ↔ l.Pairwise R := by
  constructor
  · intro h
    have key : ∀ k i, i + k + 1 < l.length → R (l.getD i d) (l.getD (i + k + 1) d) := by
      intro k
      induction k with
      | zero => intro i hi; have := h (i + 1) hi (by omega); simpa using this
      | succ k ih =>
        intro i hi
        have h1 := ih i (by omega)
        have h2 := h (i + (k + 1) + 1) hi (by omega)
        rw [show i + (k + 1) + 1 - 1 = i + k + 1 by omega] at h2
        exact tr h1 h2
    refine List.pairwise_iff_getElem.2 fun i j hi hj hij => ?_
    have := key (j - i - 1) i (by omega)
    rw [show i + (j - i - 1) + 1 = j by omega] at this
    simpa [List.getD_eq_getElem?_getD, hi, hj] using this
  · intro h i hi h0
    have := List.pairwise_iff_getElem.1 h (i - 1) i (by omega) hi (by omega)
    simpa [List.getD_eq_getElem?_getD, hi, show i - 1 < l.length by omega] using this
theorem ext_getD {α : Type} {a b : List α} (d : α) (h : a.length = b.length) : (∀ i, i < a.length → a.getD i d = b.getD i d) ↔ a = b := by
  constructor
  · intro q
    refine List.ext_getElem h fun i h1 h2 => ?_
    have := q i h1
    simpa [List.getD_eq_getElem?_getD, h1, h2] using this
  · rintro rfl _ _; rfl
theorem take_getD' {α : Type} {l : List α} {j : Nat} (h : j < l.length) (d : α) : l.take (j + 1) = l.take j ++ [l.getD j d] := by
  rw [List.take_add_one, List.getElem?_eq_getElem h]
  simp [List.getD_eq_getElem?_getD, h]
theorem ilt_len {α : Type} {l : List α} {i : Nat} (h : i < l.length) : P.ilt (i : Int) (P.len l) = true := ilt_iff.2 (by rw [len_eq]; omega)
theorem ilt_end {α : Type} (l : List α) : P.ilt (l.length : Int) (P.len l) = false := by rw [Bool.eq_false_iff, Ne, ilt_iff, len_eq]; omega
theorem inb_len {α : Type} {l : List α} {i : Nat} (h : i < l.length) : P.inb (i : Int) (P.len l) = true := inb_iff.2 (by rw [len_eq]; omega)
theorem not_true : P.not true = false := rfl
theorem not_false' : P.not false = true := rfl
theorem cond_dec {α : Type} (p : Prop) [Decidable p] (x y : α) : P.cond (decide p) x y = if p then x else y := by
  by_cases h : p
  · rw [decide_eq_true h, if_pos h]; rfl
  · rw [decide_eq_false h, if_neg h]; rfl
theorem cond_ndec {α : Type} (p : Prop) [Decidable p] (x y : α) : P.cond (P.not (decide p)) x y = if p then y else x := by
  by_cases h : p
  · rw [decide_eq_true h, if_pos h]; rfl
  · rw [decide_eq_false h, if_neg h]; rfl
theorem slt_dec (a b : ByteArray) : P.slt a b = decide (ltS a b) := by rw [Bool.eq_iff_iff, slt_iff, decide_eq_true_eq]
theorem seq_dec (a b : ByteArray) : P.seq a b = decide (a = b) := by rw [Bool.eq_iff_iff, seq_iff, decide_eq_true_eq]
theorem ilt_dec (a b : Int) : P.ilt a b = decide (a < b) := rfl
theorem ile_dec (a b : Int) : P.ile a b = decide (a ≤ b) := rfl
theorem eqA_dec (a b : At) : P.and (P.ieq a.1 b.1) (P.ieq a.2 b.2) = decide (a = b) := by rw [Bool.eq_iff_iff, eqA_iff, decide_eq_true_eq]
theorem beq_dec (a b : Bool) : P.beq a b = decide (a = b) := by cases a <;> cases b <;> rfl
theorem loop_all {ρ σ : Type} (n : Nat) (p : Nat → Prop) [DecidablePred p] {f : Int → Option (Int ⊕ (Unit ⊕ ρ))} {A : Option σ} {B : ρ → Option σ} {r : ρ} (hn : n ≤ 1000000000)
    (hs : ∀ i : Nat, i < n → f (i : Int) = some (if p i then .inl ((i + 1 : Nat) : Int) else .inr (.inr r))) (he : f (n : Int) = some (.inr (.inl ()))) :
    P.bind (P.iter K f 0) (P.either (fun (_ : Unit) => A) B) = if ∀ i, i < n → p i then A else B r := by
  rw [iter_all (n := n) (e := .inl ()) (r := .inr r) p K hs he (by unfold K; omega), bind_some]
  by_cases q : ∀ i, i < n → p i
  · rw [if_pos q, if_pos q]; rfl
  · rw [if_neg q, if_neg q]; rfl
theorem loop_fold {τ ρ σ : Type} (n : Nat) (s : Nat → τ) {f : Int × τ → Option ((Int × τ) ⊕ (τ ⊕ ρ))} {A : τ → Option σ} {B : ρ → Option σ} (hn : n ≤ 1000000000)
    (hs : ∀ i : Nat, i < n → f ((i : Int), s i) = some (.inl (((i + 1 : Nat) : Int), s (i + 1)))) (he : f ((n : Int), s n) = some (.inr (.inl (s n)))) :
    P.bind (P.iter K f (0, s 0)) (P.either A B) = A (s n) := by
  have := iter_run (f := f) (fun i => ((i : Int), s i)) _ n 0 K (by unfold K; omega) (fun j hj => by simp only [Nat.zero_add]; exact hs j hj) (by simpa using he)
  rw [show ((0 : Nat) : Int) = 0 from rfl] at this
  rw [this, bind_some, either_inl]
def PlaceA (a : At) : Prop := (a.1 = 4 ∨ a.1 = 5) ∧ 0 ≤ a.2
instance (a : At) : Decidable (PlaceA a) := by unfold PlaceA; exact inferInstance
abbrev RisesB (l : List Bv) : Prop := l.Pairwise fun a b => ltS a.1 b.1
abbrev RisesL (l : List Lc) : Prop := l.Pairwise fun a b => ltA a.1 b.1
def MayS (s : Sta) : Prop := (RisesB s.2.1 ∧ ∀ b, b ∈ s.2.1 → b.2 = norm b.2) ∧ (RisesL s.2.2 ∧ ∀ l, l ∈ s.2.2 → PlaceA l.1 ∧ MayO l.2) ∧ (s.1 = true → s.2.1 = [] ∧ s.2.2 = [])
instance (s : Sta) : Decidable (MayS s) := by unfold MayS; exact inferInstance
def FewT (s : Sta) : Prop := s.2.1.length ≤ 100000 ∧ (∀ b, b ∈ s.2.1 → b.2.length ≤ 100000) ∧ s.2.2.length ≤ 100000 ∧ ∀ l, l ∈ s.2.2 → FewS l.2
instance (s : Sta) : Decidable (FewT s) := by unfold FewT; exact inferInstance
theorem ref_place (k : Nat) (a : At) : ref08_Place k a = some (decide (PlaceA a)) := by
  unfold ref08_Place
  obtain ⟨x, y⟩ := a
  try dsimp only
  simp only [PlaceA, ieq_eq, ile_dec, cond_dec]
  by_cases h4 : x = 4
  · rw [if_pos h4]; simp [h4]
  · by_cases h5 : x = 5
    · rw [if_neg h4, if_pos h5]; simp [h5]
    · rw [if_neg h4, if_neg h5]; simp [h4, h5]
theorem norm_one {a : At} : [a] = norm [a] ↔ RightA a := by
  rw [canon_iff]
  exact ⟨fun h => h.2 a (by simp), fun h => ⟨List.pairwise_singleton _ _, fun z hz => by rw [List.mem_singleton] at hz; rw [hz]; exact h⟩⟩
theorem st_place (a : At) : state_place K a = some (decide (PlaceA a)) := by
  unfold state_place
  try dsimp only
  rw [at_may [a] (by simp), bind_some]
  have e : decide ([a] = norm [a]) = decide (RightA a) := by rw [decide_eq_decide]; exact norm_one
  rw [e]
  obtain ⟨x, y⟩ := a
  simp only [PlaceA, RightA, ieq_eq, cond_dec]
  by_cases h4 : x = 4
  · rw [if_pos h4]; simp [h4]
  · by_cases h5 : x = 5
    · rw [if_neg h4, if_pos h5]; simp [h5]
    · rw [if_neg h4, if_neg h5]; simp [h4, h5]
theorem cmp_int (k : Nat) (x y : Int) : cmp_Compare_int k (x, y) = some (if x < y then -1 else if y < x then 1 else 0) := by
  unfold cmp_Compare_int
  try dsimp only
  have h : ∀ z : Int, cmp_isNaN_int k z = some false := by
    intro z
    unfold cmp_isNaN_int
    simp [P.not, P.ieq]
  rw [h, bind_some, h, bind_some, cond_false, cond_false, ilt_dec, ilt_dec, cond_dec, cond_dec]
  repeat' split
  all_goals first | rfl | omega
theorem at_compare (a b : At) : ∃ r : Int, atoms_Compare K (a, b) = some r ∧ (0 ≤ r ↔ ¬ ltA a b) := by
  unfold atoms_Compare
  try dsimp only
  rw [cmp_int, bind_some, cmp_int, bind_some]
  have hor : ∀ x y : Int, cmp_Or_int K [x, y] = some (if x = 0 then y else x) := by
    intro x y
    unfold cmp_Or_int
    try dsimp only
    have hK : ∃ m, K = m + 3 := ⟨18446744073709551613, rfl⟩
    obtain ⟨m, hm⟩ := hK
    rw [hm]
    by_cases hx : x = 0
    · subst hx
      by_cases hy : y = 0
      · subst hy; rfl
      · rw [iter_succ]
        simp [P.ilt, P.inb, P.len, P.cond, P.get, P.ieq, P.not, P.wrap, P.add, IntKind.wrap, IntKind.bits, IntKind.signed]
        rw [iter_succ]
        have hy' : (y == 0) = false := by simp [hy]
        simp [P.ilt, P.inb, P.len, P.cond, P.get, P.ieq, P.not, P.bind, P.either, hy']
    · rw [iter_succ]
      have hx' : (x == 0) = false := by simp [hx]
      simp [P.ilt, P.inb, P.len, P.cond, P.get, P.ieq, P.not, P.bind, P.either, hx, hx']
  rw [hor, bind_some]
  refine ⟨_, rfl, ?_⟩
  unfold ltA
  repeat' split
  all_goals omega
end Go.PL
end
section
open Go Go.PG Go.PL
set_option linter.all false
namespace Go.PL
def StepB (l : List Bv) (i : Nat) : Prop := (l.getD i dB).2 = norm (l.getD i dB).2 ∧ (0 < i → ltS (l.getD (i - 1) dB).1 (l.getD i dB).1)
instance (l : List Bv) (i : Nat) : Decidable (StepB l i) := by unfold StepB; exact inferInstance
def StepL (l : List Lc) (i : Nat) : Prop := (PlaceA (l.getD i dL).1 ∧ MayO (l.getD i dL).2) ∧ (0 < i → ltA (l.getD (i - 1) dL).1 (l.getD i dL).1)
instance (l : List Lc) (i : Nat) : Decidable (StepL l i) := by unfold StepL; exact inferInstance
theorem stepsB_iff {l : List Bv} : (∀ i, i < l.length → StepB l i) ↔ RisesB l ∧ ∀ f, f ∈ l → f.2 = norm f.2 := by
  have e1 := pair_steps (R := fun a b : Bv => ltS a.1 b.1) (fun h1 h2 => ltS_trans h1 h2) l dB
  have e2 := forall_getD (l := l) dB (p := fun f : Bv => f.2 = norm f.2)
  exact ⟨fun h => ⟨e1.1 fun i hi => (h i hi).2, e2.1 fun i hi => (h i hi).1⟩, fun h i hi => ⟨e2.2 h.2 i hi, e1.2 h.1 i hi⟩⟩
theorem stepsL_iff {l : List Lc} : (∀ i, i < l.length → StepL l i) ↔ RisesL l ∧ ∀ f, f ∈ l → PlaceA f.1 ∧ MayO f.2 := by
  have e1 := pair_steps (R := fun a b : Lc => ltA a.1 b.1) (fun h1 h2 => ltA_trans h1 h2) l dL
  have e2 := forall_getD (l := l) dL (p := fun f : Lc => PlaceA f.1 ∧ MayO f.2)
  exact ⟨fun h => ⟨e1.1 fun i hi => (h i hi).2, e2.1 fun i hi => (h i hi).1⟩, fun h i hi => ⟨e2.2 h.2 i hi, e1.2 h.1 i hi⟩⟩
theorem may_tail (s : Sta) (A : Option Bool) (hA : A = some (decide (s.1 = true → s.2.1 = [] ∧ s.2.2 = []))) :
    (if ∀ i, i < s.2.1.length → StepB s.2.1 i then (if ∀ i, i < s.2.2.length → StepL s.2.2 i then A else some false) else some false) = some (decide (MayS s)) := by
  subst hA
  by_cases q1 : ∀ i, i < s.2.1.length → StepB s.2.1 i
  · by_cases q2 : ∀ i, i < s.2.2.length → StepL s.2.2 i
    · rw [if_pos q1, if_pos q2]
      congr 1
      rw [decide_eq_decide]
      exact ⟨fun h => ⟨stepsB_iff.1 q1, stepsL_iff.1 q2, h⟩, fun h => h.2.2⟩
    · rw [if_pos q1, if_neg q2, decide_eq_false fun h : MayS s => q2 (stepsL_iff.2 h.2.1)]
  · rw [if_neg q1, decide_eq_false fun h : MayS s => q1 (stepsB_iff.2 h.1)]
theorem ref_may8 (s : Sta) (h : FewT s) : ref08_May K s = some (decide (MayS s)) := by
  unfold ref08_May
  try dsimp only
  obtain ⟨h1, h2, h3, h4⟩ := h
  rw [loop_all s.2.1.length (StepB s.2.1) (r := false) (by omega) ?_ ?_]
  · rw [loop_all s.2.2.length (StepL s.2.2) (r := false) (by omega) ?_ ?_]
    · refine may_tail s _ ?_
      cases s.1
      · simp [P.not, P.cond]
      · rw [not_true, cond_false, ieq_eq, cond_dec, ieq_eq, len_eq, len_eq]
        by_cases q : s.2.1 = []
        · rw [if_pos (by simp [q])]; simp [q]
        · rw [if_neg (by simp [q])]; simp [q]
    · intro i hi
      try dsimp only
      have hm := getD_mem hi dL
      rw [ilt_len hi, cond_true, inb_len hi, cond_true, get_nat, ref_place, bind_some, cond_ndec, cond_true, ref_may7 _ (h4 _ hm), bind_some, cond_ndec, wrap_succ (by omega)]
      by_cases q1 : PlaceA (s.2.2.getD i dL).1
      · by_cases q2 : MayO (s.2.2.getD i dL).2
        · rw [if_pos q1, if_pos q2]
          by_cases h0 : 0 < i
          · rw [show P.ilt ((0 : Int)) (i : Int) = true from ilt_iff.2 (by omega), cond_true, wrap_pred h0 (by omega), inb_len (show i - 1 < s.2.2.length by omega), cond_true, get_nat, ref_less, bind_some, cond_true, cond_ndec]
            by_cases z : ltA (s.2.2.getD (i - 1) dL).1 (s.2.2.getD i dL).1
            · rw [if_pos z, if_pos (show StepL s.2.2 i from ⟨⟨q1, q2⟩, fun _ => z⟩)]
            · rw [if_neg z, if_neg (show ¬ StepL s.2.2 i from fun y => z (y.2 h0))]
          · rw [show P.ilt ((0 : Int)) (i : Int) = false from by rw [Bool.eq_false_iff, Ne, ilt_iff]; omega, cond_false, if_pos (show StepL s.2.2 i from ⟨⟨q1, q2⟩, fun z => absurd z h0⟩)]
        · rw [if_pos q1, if_neg q2, if_neg (show ¬ StepL s.2.2 i from fun z => q2 z.1.2)]
      · rw [if_neg q1, if_neg (show ¬ StepL s.2.2 i from fun z => q1 z.1.1)]
    · try dsimp only
      rw [ilt_end]; rfl
  · intro i hi
    try dsimp only
    have hm := getD_mem hi dB
    rw [ilt_len hi, cond_true, inb_len hi, cond_true, get_nat, ref_may (s.2.1.getD i dB).2 (by have := h2 _ hm; omega), bind_some, cond_ndec, wrap_succ (by omega)]
    by_cases q : (s.2.1.getD i dB).2 = norm (s.2.1.getD i dB).2
    · rw [if_pos q]
      by_cases h0 : 0 < i
      · rw [show P.ilt ((0 : Int)) (i : Int) = true from ilt_iff.2 (by omega), cond_true, wrap_pred h0 (by omega), inb_len (show i - 1 < s.2.1.length by omega), cond_true, cond_true, get_nat, slt_dec, cond_ndec]
        by_cases z : ltS (s.2.1.getD (i - 1) dB).1 (s.2.1.getD i dB).1
        · rw [if_pos z, if_pos (show StepB s.2.1 i from ⟨q, fun _ => z⟩)]
        · rw [if_neg z, if_neg (show ¬ StepB s.2.1 i from fun y => z (y.2 h0))]
      · rw [show P.ilt ((0 : Int)) (i : Int) = false from by rw [Bool.eq_false_iff, Ne, ilt_iff]; omega, cond_false, if_pos (show StepB s.2.1 i from ⟨q, fun z => absurd z h0⟩)]
    · rw [if_neg q, if_neg (show ¬ StepB s.2.1 i from fun z => q z.1)]
  · try dsimp only
    rw [ilt_end]; rfl
theorem st_may (s : Sta) (h : FewT s) : state_May K s = some (decide (MayS s)) := by
  unfold state_May
  try dsimp only
  obtain ⟨h1, h2, h3, h4⟩ := h
  rw [loop_all s.2.1.length (StepB s.2.1) (r := false) (by omega) ?_ ?_]
  · rw [loop_all s.2.2.length (StepL s.2.2) (r := false) (by omega) ?_ ?_]
    · refine may_tail s _ ?_
      cases s.1
      · simp [P.not, P.cond]
      · rw [not_true, cond_false, ieq_eq, len_eq, len_eq, show P.add (s.2.1.length : Int) (s.2.2.length : Int) = ((s.2.1.length + s.2.2.length : Nat) : Int) from by simp [P.add], wrap_nat (by omega)]
        congr 1
        rw [decide_eq_decide, ← List.length_eq_zero_iff, ← List.length_eq_zero_iff]
        exact ⟨fun h _ => by omega, fun h => by have := h rfl; omega⟩
    · intro i hi
      try dsimp only
      have hm := getD_mem hi dL
      rw [ilt_len hi, cond_true, inb_len hi, cond_true, get_nat, st_place, bind_some, cond_ndec, ob_may _ (h4 _ hm), bind_some, cond_ndec, wrap_succ (by omega)]
      by_cases q1 : PlaceA (s.2.2.getD i dL).1
      · by_cases q2 : MayO (s.2.2.getD i dL).2
        · rw [if_pos q1, if_pos q2]
          by_cases h0 : 0 < i
          · obtain ⟨r, hr, hlt⟩ := at_compare (s.2.2.getD (i - 1) dL).1 (s.2.2.getD i dL).1
            rw [show P.ilt ((0 : Int)) (i : Int) = true from ilt_iff.2 (by omega), cond_true, wrap_pred h0 (by omega), inb_len (show i - 1 < s.2.2.length by omega), cond_true, get_nat, hr, bind_some, ile_dec, cond_dec]
            by_cases z : ltA (s.2.2.getD (i - 1) dL).1 (s.2.2.getD i dL).1
            · rw [if_neg (fun y => hlt.1 y z), if_pos (show StepL s.2.2 i from ⟨⟨q1, q2⟩, fun _ => z⟩)]
            · rw [if_pos (hlt.2 z), if_neg (show ¬ StepL s.2.2 i from fun y => z (y.2 h0))]
          · rw [show P.ilt ((0 : Int)) (i : Int) = false from by rw [Bool.eq_false_iff, Ne, ilt_iff]; omega, cond_false, if_pos (show StepL s.2.2 i from ⟨⟨q1, q2⟩, fun z => absurd z h0⟩)]
        · rw [if_pos q1, if_neg q2, if_neg (show ¬ StepL s.2.2 i from fun z => q2 z.1.2)]
      · rw [if_neg q1, if_neg (show ¬ StepL s.2.2 i from fun z => q1 z.1.1)]
    · try dsimp only
      rw [ilt_end]; rfl
  · intro i hi
    try dsimp only
    have hm := getD_mem hi dB
    rw [ilt_len hi, cond_true, inb_len hi, cond_true, get_nat, at_may (s.2.1.getD i dB).2 (by have := h2 _ hm; omega), bind_some, cond_ndec, wrap_succ (by omega)]
    by_cases q : (s.2.1.getD i dB).2 = norm (s.2.1.getD i dB).2
    · rw [if_pos q]
      by_cases h0 : 0 < i
      · rw [show P.ilt ((0 : Int)) (i : Int) = true from ilt_iff.2 (by omega), cond_true, wrap_pred h0 (by omega), inb_len (show i - 1 < s.2.1.length by omega), cond_true, get_nat, slt_dec, cond_ndec]
        by_cases z : ltS (s.2.1.getD (i - 1) dB).1 (s.2.1.getD i dB).1
        · rw [if_pos z, if_pos (show StepB s.2.1 i from ⟨q, fun _ => z⟩)]
        · rw [if_neg z, if_neg (show ¬ StepB s.2.1 i from fun y => z (y.2 h0))]
      · rw [show P.ilt ((0 : Int)) (i : Int) = false from by rw [Bool.eq_false_iff, Ne, ilt_iff]; omega, cond_false, if_pos (show StepB s.2.1 i from ⟨q, fun z => absurd z h0⟩)]
    · rw [if_neg q, if_neg (show ¬ StepB s.2.1 i from fun z => q z.1)]
  · try dsimp only
    rw [ilt_end]; rfl
instance decSp : DecidableEq Sp := fun a b => inferInstance
instance decLc : DecidableEq Lc := fun a b => decidable_of_iff (a.1 = b.1 ∧ a.2 = b.2) ⟨fun h => Prod.ext h.1 h.2, fun h => by rw [h]; exact ⟨rfl, rfl⟩⟩
instance decSta : DecidableEq Sta := fun a b => decidable_of_iff (a.1 = b.1 ∧ a.2.1 = b.2.1 ∧ a.2.2 = b.2.2) ⟨fun h => Prod.ext h.1 (Prod.ext h.2.1 h.2.2), fun h => by rw [h]; exact ⟨rfl, rfl, rfl⟩⟩
theorem ieq_len {α β : Type} (a : List α) (b : List β) : P.ieq (P.len a) (P.len b) = decide (a.length = b.length) := by
  rw [ieq_eq, len_eq, len_eq, decide_eq_decide]; omega
theorem ref_same8 (a b : Sta) (h : FewT a) : ref08_Same K (a, b) = some (decide (a = b)) := by
  obtain ⟨h1, h2, h3, h4⟩ := h
  unfold ref08_Same
  try dsimp only
  rw [beq_dec, cond_ndec, ieq_len, cond_ndec, ieq_len, cond_ndec]
  by_cases q1 : a.1 = b.1
  · by_cases q2 : a.2.1.length = b.2.1.length
    · by_cases q3 : a.2.2.length = b.2.2.length
      · rw [if_pos q1, if_pos q2, if_pos q3, loop_all a.2.1.length (fun i => a.2.1.getD i dB = b.2.1.getD i dB) (r := false) (by omega) ?_ ?_]
        · rw [loop_all a.2.2.length (fun i => a.2.2.getD i dL = b.2.2.getD i dL) (r := false) (by omega) ?_ ?_]
          · by_cases z1 : a.2.1 = b.2.1
            · by_cases z2 : a.2.2 = b.2.2
              · rw [if_pos ((ext_getD dB q2).2 z1), if_pos ((ext_getD dL q3).2 z2), decide_eq_true (Prod.ext q1 (Prod.ext z1 z2))]
              · rw [if_pos ((ext_getD dB q2).2 z1), if_neg (fun z => z2 ((ext_getD dL q3).1 z)), decide_eq_false (fun z : a = b => z2 (by rw [z]))]
            · rw [if_neg (fun z => z1 ((ext_getD dB q2).1 z)), decide_eq_false (fun z : a = b => z1 (by rw [z]))]
          · intro i hi
            try dsimp only
            have hm := getD_mem hi dL
            rw [ilt_len hi, cond_true, inb_len hi, cond_true, inb_len (show i < b.2.2.length by omega), cond_true, get_nat, get_nat, eqA_dec, cond_ndec, cond_true, cond_true, ref_same7 _ _ (h4 _ hm), bind_some, cond_ndec, wrap_succ (by omega)]
            by_cases z1 : (a.2.2.getD i dL).1 = (b.2.2.getD i dL).1
            · by_cases z2 : (a.2.2.getD i dL).2 = (b.2.2.getD i dL).2
              · rw [if_pos z1, if_pos z2, if_pos (Prod.ext z1 z2)]
              · rw [if_pos z1, if_neg z2, if_neg (fun z : a.2.2.getD i dL = b.2.2.getD i dL => z2 (by rw [z]))]
            · rw [if_neg z1, if_neg (fun z : a.2.2.getD i dL = b.2.2.getD i dL => z1 (by rw [z]))]
          · try dsimp only
            rw [ilt_end]; rfl
        · intro i hi
          try dsimp only
          have hm := getD_mem hi dB
          rw [ilt_len hi, cond_true, inb_len hi, cond_true, inb_len (show i < b.2.1.length by omega), cond_true, get_nat, get_nat, seq_dec, cond_ndec, cond_true, cond_true, ref_same (a.2.1.getD i dB).2 (b.2.1.getD i dB).2 (by have := h2 _ hm; omega), bind_some, cond_ndec, wrap_succ (by omega)]
          by_cases z1 : (a.2.1.getD i dB).1 = (b.2.1.getD i dB).1
          · by_cases z2 : (a.2.1.getD i dB).2 = (b.2.1.getD i dB).2
            · rw [if_pos z1, if_pos z2, if_pos (Prod.ext z1 z2)]
            · rw [if_pos z1, if_neg z2, if_neg (fun z : a.2.1.getD i dB = b.2.1.getD i dB => z2 (by rw [z]))]
          · rw [if_neg z1, if_neg (fun z : a.2.1.getD i dB = b.2.1.getD i dB => z1 (by rw [z]))]
        · try dsimp only
          rw [ilt_end]; rfl
      · rw [if_pos q1, if_pos q2, if_neg q3, decide_eq_false (fun z : a = b => q3 (by rw [z]))]
    · rw [if_pos q1, if_neg q2, decide_eq_false (fun z : a = b => q2 (by rw [z]))]
  · rw [if_neg q1, decide_eq_false (fun z : a = b => q1 (by rw [z]))]
end Go.PL
end
section
open Go Go.PG Go.PL
set_option linter.all false
namespace Go.PL
theorem range_findSome {α ρ : Type} (l : List α) (d : α) (h : α → Option ρ) : (List.range l.length).findSome? (fun i => h (l.getD i d)) = l.findSome? h := by
  conv => rhs; rw [← range_map l d]
  rw [List.findSome?_map]; rfl
theorem findSome_if {α ρ : Type} (q : α → Prop) [DecidablePred q] (g : α → ρ) : ∀ l : List α, l.findSome? (fun x => if q x then some (g x) else none) = (l.find? fun x => decide (q x)).map g := by
  intro l
  induction l with
  | nil => rfl
  | cons a l ih =>
    rw [List.findSome?_cons, List.find?_cons]
    by_cases h : q a
    · rw [if_pos h, decide_eq_true h]; rfl
    · rw [if_neg h, decide_eq_false h]; exact ih
theorem loop_find {α ρ σ : Type} (l : List α) (d : α) (q : α → Prop) [DecidablePred q] (g : α → ρ) {f : Int → Option (Int ⊕ (Unit ⊕ ρ))} {A : Option σ} {B : ρ → Option σ} (hn : l.length ≤ 1000000000)
    (hs : ∀ i : Nat, i < l.length → f (i : Int) = some (if q (l.getD i d) then .inr (.inr (g (l.getD i d))) else .inl ((i + 1 : Nat) : Int))) (he : f (l.length : Int) = some (.inr (.inl ()))) :
    P.bind (P.iter K f 0) (P.either (fun (_ : Unit) => A) B) = match l.find? fun x => decide (q x) with
      | some x => B (g x)
      | none => A := by
  rw [iter_find0 (n := l.length) (e := .inl ()) (fun i => if q (l.getD i d) then some (.inr (g (l.getD i d))) else none) K (fun i hi => by
    rw [hs i hi]
    by_cases h : q (l.getD i d)
    · rw [if_pos h, if_pos h]
    · rw [if_neg h, if_neg h]) he (by unfold K; omega)]
  rw [range_findSome l d (fun x => if q x then some (Sum.inr (g x) : Unit ⊕ ρ) else none), findSome_if q (fun x => (Sum.inr (g x) : Unit ⊕ ρ)) l, bind_some]
  cases l.find? fun x => decide (q x) with
  | none => rfl
  | some x => rfl
def getV (l : List Bv) (n : ByteArray) : Option Bv := l.find? fun b => decide (b.1 = n)
def var (l : List Bv) (n : ByteArray) : List At := match getV l n with
  | some b => b.2
  | none => [(0, 0)]
def getL (l : List Lc) (x : At) : Option Lc := l.find? fun b => decide (b.1 = x)
def locR (l : List Lc) (x : At) : Sp × Bool := match getL l x with
  | some b => (b.2, true)
  | none => (([], []), false)
theorem ref_var (s : Sta) (n : ByteArray) (h : s.2.1.length ≤ 1000000) : ref08_Var K (s, n) = some (var s.2.1 n) := by
  unfold ref08_Var
  try dsimp only
  rw [loop_find s.2.1 dB (fun b => b.1 = n) (fun b => b.2) (by omega) ?_ ?_]
  · unfold var getV
    cases s.2.1.find? fun b => decide (b.1 = n) with
    | none => rfl
    | some b => rfl
  · intro i hi
    try dsimp only
    rw [ilt_len hi, cond_true, inb_len hi, cond_true, cond_true, get_nat, seq_dec, cond_dec, wrap_succ (by omega)]
    by_cases q : (s.2.1.getD i dB).1 = n
    · rw [if_pos q, if_pos q]
    · rw [if_neg q, if_neg q]
  · try dsimp only
    rw [ilt_end]; rfl
def SmallL (l : Lc) : Prop := l.2.1.length ≤ 40 ∧ l.2.2.length ≤ 40 ∧ ∀ f, f ∈ l.2.1 → f.2.2.length ≤ 40
instance (l : Lc) : Decidable (SmallL l) := by unfold SmallL; exact inferInstance
def SmallT (s : Sta) : Prop := s.2.1.length ≤ 40 ∧ s.2.2.length ≤ 40 ∧ (∀ b, b ∈ s.2.1 → b.2.length ≤ 40) ∧ ∀ l, l ∈ s.2.2 → SmallL l
instance (s : Sta) : Decidable (SmallT s) := by unfold SmallT; exact inferInstance
theorem small_fewL {l : Lc} (h : SmallL l) : FewS l.2 := ⟨by have := h.1; omega, fun f hf => by have := h.2.2 f hf; omega, by have := h.2.1; omega⟩
theorem small_fewT {s : Sta} (h : SmallT s) : FewT s := ⟨by have := h.1; omega, fun b hb => by have := h.2.2.1 b hb; omega, by have := h.2.1; omega, fun l hl => small_fewL (h.2.2.2 l hl)⟩
theorem ilt_dec40 {α : Type} (l : List α) : P.ilt (40 : Int) (P.len l) = decide (¬ l.length ≤ 40) := by rw [ilt_dec, len_eq, decide_eq_decide]; omega
theorem ref_small8 (s : Sta) : ref08_Small K s = some (decide (SmallT s)) := by
  unfold ref08_Small
  try dsimp only
  rw [ilt_dec40, cond_dec, ilt_dec40, cond_dec]
  by_cases q1 : s.2.1.length ≤ 40
  · by_cases q2 : s.2.2.length ≤ 40
    · rw [if_neg (fun z => z q1), if_neg (fun z => z q2), loop_all s.2.1.length (fun i => (s.2.1.getD i dB).2.length ≤ 40) (r := false) (by omega) ?_ ?_]
      · rw [loop_all s.2.2.length (fun i => SmallL (s.2.2.getD i dL)) (r := false) (by omega) ?_ ?_]
        · have e1 := forall_getD (l := s.2.1) dB (p := fun b => b.2.length ≤ 40)
          have e2 := forall_getD (l := s.2.2) dL (p := SmallL)
          by_cases z1 : ∀ i, i < s.2.1.length → (s.2.1.getD i dB).2.length ≤ 40
          · by_cases z2 : ∀ i, i < s.2.2.length → SmallL (s.2.2.getD i dL)
            · rw [if_pos z1, if_pos z2, decide_eq_true (show SmallT s from ⟨q1, q2, e1.1 z1, e2.1 z2⟩)]
            · rw [if_pos z1, if_neg z2, decide_eq_false (fun z : SmallT s => z2 (e2.2 z.2.2.2))]
          · rw [if_neg z1, decide_eq_false (fun z : SmallT s => z1 (e1.2 z.2.2.1))]
        · intro i hi
          try dsimp only
          rw [ilt_len hi, cond_true, inb_len hi, cond_true, cond_true, get_nat, ilt_dec40, cond_dec, ilt_dec40, cond_dec, wrap_succ (by omega)]
          generalize s.2.2.getD i dL = l
          by_cases y1 : l.2.1.length ≤ 40
          · by_cases y2 : l.2.2.length ≤ 40
            · rw [if_neg (fun z => z y1), if_neg (fun z => z y2), loop_all l.2.1.length (fun j => (l.2.1.getD j dF).2.2.length ≤ 40) (r := .inr (.inr false)) (by omega) ?_ ?_]
              · have e3 := forall_getD (l := l.2.1) dF (p := fun f => f.2.2.length ≤ 40)
                by_cases y3 : ∀ j, j < l.2.1.length → (l.2.1.getD j dF).2.2.length ≤ 40
                · rw [if_pos y3, if_pos (show SmallL l from ⟨y1, y2, e3.1 y3⟩)]
                · rw [if_neg y3, if_neg (fun z : SmallL l => y3 (e3.2 z.2.2))]
              · intro j hj
                try dsimp only
                rw [cond_true, ilt_len hj, cond_true, cond_true, inb_len hj, cond_true, get_nat, ilt_dec40, cond_dec, wrap_succ (by omega)]
                by_cases y3 : (l.2.1.getD j dF).2.2.length ≤ 40
                · rw [if_neg (fun z => z y3), if_pos y3]
                · rw [if_pos y3, if_neg y3]
              · try dsimp only
                rw [cond_true, ilt_end]; rfl
            · rw [if_neg (fun z => z y1), if_pos y2, if_neg (fun z : SmallL l => y2 z.2.1)]
          · rw [if_pos y1, if_neg (fun z : SmallL l => y1 z.1)]
        · try dsimp only
          rw [ilt_end]; rfl
      · intro i hi
        try dsimp only
        rw [ilt_len hi, cond_true, inb_len hi, cond_true, get_nat, ilt_dec40, cond_dec, wrap_succ (by omega)]
        by_cases y3 : (s.2.1.getD i dB).2.length ≤ 40
        · rw [if_neg (fun z => z y3), if_pos y3]
        · rw [if_pos y3, if_neg y3]
      · try dsimp only
        rw [ilt_end]; rfl
    · rw [if_neg (fun z => z q1), if_pos q2, decide_eq_false (fun z : SmallT s => q2 z.2.1)]
  · rw [if_pos q1, decide_eq_false (fun z : SmallT s => q1 z.1)]
def WithinT (a b : Sta) : Prop := MayS a ∧ MayS b ∧ (a.1 = true ∨ (b.1 = false ∧ (∀ v, v ∈ a.2.1 → Within v.2 (var b.2.1 v.1)) ∧ (∀ v, v ∈ b.2.1 → Within (var a.2.1 v.1) v.2) ∧ ∀ l, l ∈ a.2.2 → (locR b.2.2 l.1).2 = true ∧ WithinO l.2 (locR b.2.2 l.1).1))
instance (a b : Sta) : Decidable (WithinT a b) := by unfold WithinT; exact inferInstance
theorem var_few {s : Sta} (h : FewT s) (n : ByteArray) : (var s.2.1 n).length ≤ 100000 := by
  unfold var getV
  cases q : s.2.1.find? fun b => decide (b.1 = n) with
  | none => simp
  | some b => exact h.2.1 b (List.mem_of_find?_eq_some q)
theorem loc_few {s : Sta} (h : FewT s) (x : At) : FewS (locR s.2.2 x).1 := by
  unfold locR getL
  cases q : s.2.2.find? fun b => decide (b.1 = x) with
  | none => exact ⟨by simp, by simp, by simp⟩
  | some b => exact h.2.2.2 b (List.mem_of_find?_eq_some q)
end Go.PL
end
section
open Go Go.PG Go.PL
set_option linter.all false
namespace Go.PL
theorem loop_st {τ ρ σ : Type} (n : Nat) (s : Nat → τ) (s0 e : τ) {f : Int × τ → Option ((Int × τ) ⊕ (τ ⊕ ρ))} {A : τ → Option σ} {B : ρ → Option σ} (hn : n ≤ 1000000000) (h0 : s 0 = s0) (h1 : s n = e)
    (hs : ∀ i : Nat, i < n → f ((i : Int), s i) = some (.inl (((i + 1 : Nat) : Int), s (i + 1)))) (he : f ((n : Int), e) = some (.inr (.inl e))) :
    P.bind (P.iter K f (0, s0)) (P.either A B) = A e := by
  subst h0; subst h1
  exact loop_fold n s hn hs he
theorem room_one {α : Type} (l : List α) (x : α) (b : Nat) (h : l.length ≤ 1000000) (hb : b ≤ 64) : P.room (P.add (P.len l) (P.len [x])) b = true := by
  rw [len_eq, len_eq, room_nat]
  have : (l.length + [x].length) * b ≤ 1000001 * 64 := Nat.mul_le_mul (by simp; omega) hb
  omega
theorem take_len {α : Type} (l : List α) (i : Nat) (h : l.length ≤ 1000000) : (l.take i).length ≤ 1000000 := by rw [List.length_take]; omega
theorem app_take {α : Type} {l : List α} {i : Nat} (h : i < l.length) (d : α) : P.app (l.take i) [l.getD i d] = l.take (i + 1) := (take_getD' h d).symm
theorem ob_copy (o : Sp) (h : FewS o) : object_Copy K o = some o := by
  unfold object_Copy
  try dsimp only
  rw [at_clone K o.2 (by have := h.2.2; omega), bind_some, copy_run o.1 o.2 (by have := h.1; omega) _ (fun i hi => copy_step o.1 (by have := h.1; omega) h.2.1 o.2 i hi) (copy_end _ _ _), bind_some, either_inl]
theorem drop_getD' {α : Type} {l : List α} {j : Nat} (h : j < l.length) (d : α) : l.drop j = l.getD j d :: l.drop (j + 1) := by
  rw [List.drop_eq_getElem_cons h]; simp [List.getD_eq_getElem?_getD, h]
def stg (v : List At) : Prop := (norm v).length = 1 ∧ ((norm v).getD 0 dA).1 = 4
instance (v : List At) : Decidable (stg v) := by unfold stg; exact inferInstance
def hits (v : List At) (x : At) : Prop := (6, 0) ∈ norm v ∨ x ∈ norm v
instance (v : List At) (x : At) : Decidable (hits v x) := by unfold hits; exact inferInstance
def wr (v : List At) (n : ByteArray) (w : List At) (o : Sp) : Sp := if stg v then strong o n w else weak o n w
theorem norm_norm (l : List At) : norm (norm l) = norm l := (canon_iff.2 (norm_canon l)).symm
theorem copy_vars {ρ σ : Type} (s : Sta) (h : FewT s) {f : Int × Sta → Option ((Int × Sta) ⊕ (Sta ⊕ ρ))} {A : Sta → Option σ} {B : ρ → Option σ}
    (hs : ∀ i : Nat, i < s.2.1.length → f ((i : Int), s.1, s.2.1.take i, []) = (P.bind (slCloneAtom K (P.get s.2.1 (i : Int) ((ByteArray.mk #[]), [])).snd) fun (r : List (Int × Int)) => P.cond (P.room (P.add (P.len (s.2.1.take i)) (P.len [((P.get s.2.1 (i : Int) ((ByteArray.mk #[]), [])).fst, r)])) 40) (some (Sum.inl (P.wrap IntKind.i64 (P.add (i : Int) (1 : Int)), s.1, P.app (s.2.1.take i) [((P.get s.2.1 (i : Int) ((ByteArray.mk #[]), [])).fst, r)], []))) none))
    (he : f ((s.2.1.length : Int), s.1, s.2.1, []) = some (.inr (.inl (s.1, s.2.1, [])))) :
    P.bind (P.iter K f (0, s.1, [], [])) (P.either A B) = A (s.1, s.2.1, []) := by
  obtain ⟨h1, h2, h3, h4⟩ := h
  refine loop_st s.2.1.length (fun i => (s.1, s.2.1.take i, [])) _ _ (by omega) (by simp) (by simp) (fun i hi => ?_) he
  have hm := getD_mem hi dB
  rw [hs i hi, get_nat, at_clone K (s.2.1.getD i dB).2 (by have := h2 _ hm; omega), bind_some, room_one _ _ 40 (take_len _ _ (by omega)) (by omega), cond_true, wrap_succ (by omega)]
  rw [show P.app (s.2.1.take i) [((s.2.1.getD i dB).1, (s.2.1.getD i dB).2)] = s.2.1.take (i + 1) from app_take hi dB]
theorem copy_locs {ρ σ : Type} (s : Sta) (h : FewT s) {f : Int × Sta → Option ((Int × Sta) ⊕ (Sta ⊕ ρ))} {A : Sta → Option σ} {B : ρ → Option σ}
    (hs : ∀ i : Nat, i < s.2.2.length → f ((i : Int), s.1, s.2.1, s.2.2.take i) = (P.bind (object_Copy K (P.get s.2.2 (i : Int) (((0 : Int), (0 : Int)), [], [])).snd) fun (r : Sp) => P.cond (P.room (P.add (P.len (s.2.2.take i)) (P.len [((P.get s.2.2 (i : Int) (((0 : Int), (0 : Int)), [], [])).fst, r)])) 64) (some (Sum.inl (P.wrap IntKind.i64 (P.add (i : Int) (1 : Int)), s.1, s.2.1, P.app (s.2.2.take i) [((P.get s.2.2 (i : Int) (((0 : Int), (0 : Int)), [], [])).fst, r)]))) none))
    (he : f ((s.2.2.length : Int), s.1, s.2.1, s.2.2) = some (.inr (.inl (s.1, s.2.1, s.2.2)))) :
    P.bind (P.iter K f (0, s.1, s.2.1, [])) (P.either A B) = A (s.1, s.2.1, s.2.2) := by
  obtain ⟨h1, h2, h3, h4⟩ := h
  refine loop_st s.2.2.length (fun i => (s.1, s.2.1, s.2.2.take i)) _ _ (by omega) (by simp) (by simp) (fun i hi => ?_) he
  have hm := getD_mem hi dL
  rw [hs i hi, get_nat, ob_copy (s.2.2.getD i dL).2 (h4 _ hm), bind_some, room_one _ _ 64 (take_len _ _ (by omega)) (by omega), cond_true, wrap_succ (by omega)]
  rw [show P.app (s.2.2.take i) [((s.2.2.getD i dL).1, (s.2.2.getD i dL).2)] = s.2.2.take (i + 1) from app_take hi dL]
theorem get_dL (l : List Lc) (i : Nat) : P.get l (i : Int) (((0 : Int), (0 : Int)), [], []) = l.getD i dL := get_nat _ _ _
theorem get_dB (l : List Bv) (i : Nat) : P.get l (i : Int) ((ByteArray.mk #[]), []) = l.getD i dB := get_nat _ _ _
end Go.PL
end
section
open Go Go.PG Go.PL
set_option linter.all false
namespace Go.PL
def BdT (k : Nat) (s : Sta) : Prop := s.2.1.length ≤ k ∧ (∀ b, b ∈ s.2.1 → b.2.length ≤ k) ∧ s.2.2.length ≤ k ∧ ∀ l, l ∈ s.2.2 → Bd k l.2
theorem small_bdT {s : Sta} (h : SmallT s) : BdT 40 s := ⟨h.1, h.2.2.1, h.2.1, fun l hl => ⟨(h.2.2.2 l hl).1, (h.2.2.2 l hl).2.2, (h.2.2.2 l hl).2.1⟩⟩
theorem bd_fewT {s : Sta} {k : Nat} (h : BdT k s) (hk : k ≤ 100000) : FewT s := ⟨Nat.le_trans h.1 hk, fun b hb => Nat.le_trans (h.2.1 b hb) hk, Nat.le_trans h.2.2.1 hk, fun l hl => bd_few (h.2.2.2 l hl) hk⟩
end Go.PL
end
section
open Go Go.PG Go.PL
set_option linter.all false
namespace Go.PL
theorem getL_mem {l : List Lc} {x : At} {b : Lc} (h : getL l x = some b) : b ∈ l ∧ b.1 = x := ⟨List.mem_of_find?_eq_some h, of_decide_eq_true (by have := List.find?_some h; exact this)⟩
theorem risesL_inj {l : List Lc} (h : RisesL l) {f g : Lc} (hf : f ∈ l) (hg : g ∈ l) (e : f.1 = g.1) : f = g := by
  induction l with
  | nil => cases hf
  | cons a l ih =>
    obtain ⟨h1, h2⟩ := List.pairwise_cons.1 h
    rcases List.mem_cons.1 hf with rfl | hf'
    · rcases List.mem_cons.1 hg with rfl | hg'
      · rfl
      · exact absurd (h1 g hg') (by rw [e]; exact ltA_irrefl _)
    · rcases List.mem_cons.1 hg with rfl | hg'
      · exact absurd (h1 f hf') (by rw [e]; exact ltA_irrefl _)
      · exact ih h2 hf' hg'
theorem getL_none {l : List Lc} {x : At} (h : getL l x = none) {f : Lc} (hf : f ∈ l) : f.1 ≠ x := by
  unfold getL at h
  rw [List.find?_eq_none] at h
  intro e
  exact h f hf (decide_eq_true e)
theorem getL_of_mem {l : List Lc} (h : RisesL l) {f : Lc} (hf : f ∈ l) : getL l f.1 = some f := by
  cases q : getL l f.1 with
  | none => exact absurd rfl (getL_none q hf)
  | some g => rw [risesL_inj h (getL_mem q).1 hf (getL_mem q).2]
theorem locR_of_mem {l : List Lc} (h : RisesL l) {f : Lc} (hf : f ∈ l) : locR l f.1 = (f.2, true) := by unfold locR; rw [getL_of_mem h hf]
end Go.PL
end
section
open Go Go.PG Go.PL
set_option linter.all false
namespace Go.PL
theorem getV_mem {l : List Bv} {n : ByteArray} {b : Bv} (h : getV l n = some b) : b ∈ l ∧ b.1 = n := ⟨List.mem_of_find?_eq_some h, of_decide_eq_true (by have := List.find?_some h; exact this)⟩
theorem getV_none {l : List Bv} {n : ByteArray} (h : getV l n = none) {f : Bv} (hf : f ∈ l) : f.1 ≠ n := by
  unfold getV at h
  rw [List.find?_eq_none] at h
  intro e
  exact h f hf (decide_eq_true e)
theorem risesB_inj {l : List Bv} (h : RisesB l) {f g : Bv} (hf : f ∈ l) (hg : g ∈ l) (e : f.1 = g.1) : f = g := by
  induction l with
  | nil => cases hf
  | cons a l ih =>
    obtain ⟨h1, h2⟩ := List.pairwise_cons.1 h
    rcases List.mem_cons.1 hf with rfl | hf'
    · rcases List.mem_cons.1 hg with rfl | hg'
      · rfl
      · exact absurd (h1 g hg') (by rw [e]; exact ltS_irrefl _)
    · rcases List.mem_cons.1 hg with rfl | hg'
      · exact absurd (h1 f hf') (by rw [e]; exact ltS_irrefl _)
      · exact ih h2 hf' hg'
theorem getV_of_mem {l : List Bv} (h : RisesB l) {f : Bv} (hf : f ∈ l) : getV l f.1 = some f := by
  cases q : getV l f.1 with
  | none => exact absurd rfl (getV_none q hf)
  | some g => rw [risesB_inj h (getV_mem q).1 hf (getV_mem q).2]
theorem var_of_mem {l : List Bv} (h : RisesB l) {f : Bv} (hf : f ∈ l) : var l f.1 = f.2 := by unfold var; rw [getV_of_mem h hf]
theorem withinT_refl {s : Sta} (h : MayS s) : WithinT s s := by
  refine ⟨h, h, ?_⟩
  cases hd : s.1
  · refine .inr ⟨rfl, fun v hv => ?_, fun v hv => ?_, fun l hl => ?_⟩
    · rw [var_of_mem h.1.1 hv]; exact fun _ z => z
    · rw [var_of_mem h.1.1 hv]; exact fun _ z => z
    · rw [locR_of_mem h.2.1.1 hl]; exact ⟨rfl, within_refl (h.2.1.2 l hl).2⟩
  · exact .inl rfl
end Go.PL
end
section
open Go Go.PG Go.PL
set_option linter.all false
namespace Go.PL
structure Ord {κ : Type} (lt : κ → κ → Prop) : Prop where
  irr : ∀ a, ¬ lt a a
  tr : ∀ {a b c}, lt a b → lt b c → lt a c
  tri : ∀ a b, lt a b ∨ a = b ∨ lt b a
theorem ordS : Ord ltS := ⟨ltS_irrefl, ltS_trans, ltS_tri⟩
theorem ordA : Ord ltA := ⟨ltA_irrefl, ltA_trans, ltA_tri⟩
section
variable {α κ : Type} {lt : κ → κ → Prop} [DecidableRel lt] {key : α → κ}
abbrev Up (lt : κ → κ → Prop) (key : α → κ) (l : List α) : Prop := l.Pairwise fun a b => lt (key a) (key b)
def insK (lt : κ → κ → Prop) [DecidableRel lt] (key : α → κ) (l : List α) (x : α) : List α := l.filter (fun a => decide (lt (key a) (key x))) ++ x :: l.filter (fun a => decide (lt (key x) (key a)))
theorem insK_mem (O : Ord lt) {l : List α} {x a : α} : a ∈ insK lt key l x ↔ a = x ∨ (a ∈ l ∧ key a ≠ key x) := by
  unfold insK
  simp only [List.mem_append, List.mem_cons, List.mem_filter, decide_eq_true_eq]
  constructor
  · rintro (⟨h1, h2⟩ | rfl | ⟨h1, h2⟩)
    · exact .inr ⟨h1, fun e => O.irr (key x) (by rw [e] at h2; exact h2)⟩
    · exact .inl rfl
    · exact .inr ⟨h1, fun e => O.irr (key x) (by rw [e] at h2; exact h2)⟩
  · rintro (rfl | ⟨h1, h2⟩)
    · exact .inr (.inl rfl)
    · rcases O.tri (key a) (key x) with h | h | h
      · exact .inl ⟨h1, h⟩
      · exact absurd h h2
      · exact .inr (.inr ⟨h1, h⟩)
theorem insK_up (O : Ord lt) {l : List α} (h : Up lt key l) (x : α) : Up lt key (insK lt key l x) := by
  unfold insK Up
  rw [List.pairwise_append, List.pairwise_cons]
  refine ⟨h.filter _, ⟨fun b hb => ?_, h.filter _⟩, fun a ha b hb => ?_⟩
  · exact of_decide_eq_true (List.mem_filter.1 hb).2
  · have h1 := of_decide_eq_true (List.mem_filter.1 ha).2
    rcases List.mem_cons.1 hb with rfl | hb
    · exact h1
    · exact O.tr h1 (of_decide_eq_true (List.mem_filter.1 hb).2)
theorem insK_length (l : List α) (x : α) : (insK lt key l x).length ≤ l.length + l.length + 1 := by
  unfold insK
  have h1 := List.length_filter_le (fun a => decide (lt (key a) (key x))) l
  have h2 := List.length_filter_le (fun a => decide (lt (key x) (key a))) l
  simp only [List.length_append, List.length_cons]
  omega
theorem up_ext (O : Ord lt) : ∀ {a b : List α}, Up lt key a → Up lt key b → (∀ x, x ∈ a ↔ x ∈ b) → a = b := by
  intro a
  induction a with
  | nil =>
    intro b _ _ h
    cases b with
    | nil => rfl
    | cons y b => exact absurd ((h y).2 (by simp)) (by simp)
  | cons x a ih =>
    intro b ha hb h
    cases b with
    | nil => exact absurd ((h x).1 (by simp)) (by simp)
    | cons y b =>
      obtain ⟨ha1, ha2⟩ := List.pairwise_cons.1 ha
      obtain ⟨hb1, hb2⟩ := List.pairwise_cons.1 hb
      have e : x = y := by
        rcases List.mem_cons.1 ((h x).1 (by simp)) with e | hx
        · exact e
        · rcases List.mem_cons.1 ((h y).2 (by simp)) with e | hy
          · exact e.symm
          · exact absurd (O.tr (ha1 y hy) (hb1 x hx)) (O.irr _)
      subst e
      congr 1
      refine ih ha2 hb2 fun z => ⟨fun hz => ?_, fun hz => ?_⟩
      · rcases List.mem_cons.1 ((h z).1 (by simp [hz])) with e | hz'
        · subst e; exact absurd (ha1 z hz) (O.irr _)
        · exact hz'
      · rcases List.mem_cons.1 ((h z).2 (by simp [hz])) with e | hz'
        · subst e; exact absurd (hb1 z hz) (O.irr _)
        · exact hz'
theorem insK_end (O : Ord lt) {l : List α} {x : α} (h : ∀ a, a ∈ l → lt (key a) (key x)) : insK lt key l x = l ++ [x] := by
  unfold insK
  rw [List.filter_eq_self.2 fun a ha => decide_eq_true (h a ha), List.filter_eq_nil_iff.2 fun a ha q => O.irr _ (O.tr (h a ha) (of_decide_eq_true q))]
theorem split_at (O : Ord lt) {l : List α} (hu : Up lt key l) (d x : α) (m : Nat) (hm : m ≤ l.length) (h1 : ∀ i, i < m → lt (key (l.getD i d)) (key x)) (h2 : m < l.length → ¬ lt (key (l.getD m d)) (key x)) :
    l.take m = l.filter (fun a => decide (lt (key a) (key x))) ∧
    (m < l.length → key (l.getD m d) = key x → l.drop (m + 1) = l.filter (fun a => decide (lt (key x) (key a)))) ∧
    ((m < l.length → key (l.getD m d) ≠ key x) → l.drop m = l.filter (fun a => decide (lt (key x) (key a)))) := by
  have ht : ∀ a, a ∈ l.take m → lt (key a) (key x) := fun a ha => by
    obtain ⟨i, hi, rfl⟩ := List.getElem_of_mem ha
    rw [List.length_take] at hi
    have := h1 i (by omega)
    rw [List.getElem_take]
    simpa [List.getD_eq_getElem?_getD, show i < l.length by omega] using this
  have hp : ∀ a b, a ∈ l.take m → b ∈ l.drop m → lt (key a) (key b) := fun a b ha hb => by
    have : Up lt key (l.take m ++ l.drop m) := by rw [List.take_append_drop]; exact hu
    exact (List.pairwise_append.1 this).2.2 a ha b hb
  have hd : ∀ a, a ∈ l.drop m → ¬ lt (key a) (key x) := fun a ha => by
    have hlt : m < l.length := by
      apply Classical.byContradiction
      intro q
      rw [List.drop_eq_nil_of_le (by omega)] at ha
      cases ha
    rw [drop_getD' hlt d] at ha
    have hud : Up lt key (l.getD m d :: l.drop (m + 1)) := by rw [← drop_getD' hlt d]; exact hu.sublist (List.drop_sublist _ _)
    rcases List.mem_cons.1 ha with rfl | ha
    · exact h2 hlt
    · intro q
      exact h2 hlt (O.tr ((List.pairwise_cons.1 hud).1 a ha) q)
  have e : ∀ p : α → Bool, l.filter p = (l.take m).filter p ++ (l.drop m).filter p := fun p => by rw [← List.filter_append, List.take_append_drop]
  refine ⟨?_, fun hlt hk => ?_, fun hk => ?_⟩
  · rw [e, List.filter_eq_self.2 fun a ha => decide_eq_true (ht a ha), List.filter_eq_nil_iff.2 fun a ha q => hd a ha (of_decide_eq_true q), List.append_nil]
  · have hud : Up lt key (l.getD m d :: l.drop (m + 1)) := by rw [← drop_getD' hlt d]; exact hu.sublist (List.drop_sublist _ _)
    rw [e, List.filter_eq_nil_iff.2 fun a ha q => O.irr _ (O.tr (ht a ha) (of_decide_eq_true q)), List.nil_append, drop_getD' hlt d, List.filter_cons_of_neg (by
      rw [decide_eq_true_eq, hk]; exact O.irr _), List.filter_eq_self.2 fun a ha => decide_eq_true (by rw [← hk]; exact (List.pairwise_cons.1 hud).1 a ha)]
  · rw [e, List.filter_eq_nil_iff.2 fun a ha q => O.irr _ (O.tr (ht a ha) (of_decide_eq_true q)), List.nil_append]
    refine (List.filter_eq_self.2 fun a ha => decide_eq_true ?_).symm
    rcases O.tri (key x) (key a) with q | q | q
    · exact q
    · exfalso
      have hlt : m < l.length := by
        apply Classical.byContradiction
        intro z
        rw [List.drop_eq_nil_of_le (by omega)] at ha
        cases ha
      rw [drop_getD' hlt d] at ha
      have hud : Up lt key (l.getD m d :: l.drop (m + 1)) := by rw [← drop_getD' hlt d]; exact hu.sublist (List.drop_sublist _ _)
      rcases List.mem_cons.1 ha with rfl | ha
      · exact hk hlt q.symm
      · have := (List.pairwise_cons.1 hud).1 a ha
        rw [← q] at this
        exact h2 hlt this
    · exact absurd q (hd a ha)
def fstK (lt : κ → κ → Prop) [DecidableRel lt] (key : α → κ) (l : List α) (x : κ) : Nat := (l.takeWhile fun a => decide (lt (key a) x)).length
theorem fstK_le (l : List α) (x : κ) : fstK lt key l x ≤ l.length := (List.takeWhile_sublist _).length_le
theorem fstK_lt (d : α) : ∀ (l : List α) (x : κ) (i : Nat), i < fstK lt key l x → lt (key (l.getD i d)) x := by
  intro l
  induction l with
  | nil => intro x i hi; simp [fstK] at hi
  | cons a l ih =>
    intro x i hi
    unfold fstK at hi
    by_cases q : lt (key a) x
    · rw [List.takeWhile_cons, if_pos (decide_eq_true q)] at hi
      cases i with
      | zero => simpa using q
      | succ i => simpa using ih x i (by simpa [fstK] using hi)
    · rw [List.takeWhile_cons, if_neg (by simpa using q)] at hi
      simp at hi
theorem fstK_at (d : α) : ∀ (l : List α) (x : κ), fstK lt key l x < l.length → ¬ lt (key (l.getD (fstK lt key l x) d)) x := by
  intro l
  induction l with
  | nil => intro x hi; simp at hi
  | cons a l ih =>
    intro x hi
    by_cases q : lt (key a) x
    · have e : fstK lt key (a :: l) x = fstK lt key l x + 1 := by unfold fstK; rw [List.takeWhile_cons, if_pos (decide_eq_true q)]; rfl
      rw [e] at hi ⊢
      simpa using ih x (by simpa using hi)
    · have e : fstK lt key (a :: l) x = 0 := by unfold fstK; rw [List.takeWhile_cons, if_neg (by simpa using q)]; rfl
      rw [e]
      simpa using q
def refK (lt : κ → κ → Prop) [DecidableRel lt] (key : α → κ) (t : List α) (x : α) : Bool × List α := if ∀ a, a ∈ t → lt (key a) (key x) then (false, t) else (true, insK lt key t x)
theorem refK_step (O : Ord lt) {t : List α} {y : α} (hu : Up lt key (t ++ [y])) (x : α) :
    (lt (key y) (key x) → (∀ a, a ∈ t → lt (key a) (key x)) ∧ refK lt key (t ++ [y]) x = (false, t ++ [y])) ∧
    (¬ lt (key y) (key x) → (∀ a, a ∈ t → lt (key a) (key x)) → (key y = key x → refK lt key (t ++ [y]) x = (true, t ++ [x])) ∧ (key y ≠ key x → refK lt key (t ++ [y]) x = (true, t ++ [x] ++ [y]))) ∧
    (¬ (∀ a, a ∈ t → lt (key a) (key x)) → key y ≠ key x ∧ refK lt key (t ++ [y]) x = (true, insK lt key t x ++ [y])) := by
  have hp := (List.pairwise_append.1 hu).2.2
  refine ⟨fun h => ?_, fun h h2 => ?_, fun h => ?_⟩
  · have ha : ∀ a, a ∈ t → lt (key a) (key x) := fun a ha => O.tr (hp a ha y (by simp)) h
    exact ⟨ha, by
      unfold refK
      rw [if_pos fun a q => ?_]
      rcases List.mem_append.1 q with q | q
      · exact ha a q
      · rw [List.mem_singleton] at q; subst q; exact h⟩
  · have e1 : refK lt key (t ++ [y]) x = (true, insK lt key (t ++ [y]) x) := by unfold refK; rw [if_neg fun q => h (q y (by simp))]
    have e2 : (t ++ [y]).filter (fun a => decide (lt (key a) (key x))) = t := by
      rw [List.filter_append, List.filter_eq_self.2 fun a ha => decide_eq_true (h2 a ha), List.filter_cons_of_neg (by simpa using h)]; simp
    have e3 : t.filter (fun a => decide (lt (key x) (key a))) = [] := List.filter_eq_nil_iff.2 fun a ha q => O.irr _ (O.tr (h2 a ha) (of_decide_eq_true q))
    refine ⟨fun q => ?_, fun q => ?_⟩
    · rw [e1, insK, e2, List.filter_append, e3, List.filter_cons_of_neg (by rw [decide_eq_true_eq, q]; exact O.irr _)]; simp
    · rw [e1, insK, e2, List.filter_append, e3, List.filter_cons_of_pos (by
        rw [decide_eq_true_eq]
        rcases O.tri (key x) (key y) with z | z | z
        · exact z
        · exact absurd z.symm q
        · exact absurd z h)]
      simp
  · have hy : lt (key x) (key y) := by
      apply Classical.byContradiction
      intro q
      refine h fun a ha => ?_
      have := hp a ha y (by simp)
      rcases O.tri (key x) (key y) with z | z | z
      · exact absurd z q
      · rw [z]; exact this
      · exact O.tr this z
    refine ⟨fun e => O.irr (key x) (by rw [e] at hy; exact hy), ?_⟩
    unfold refK
    rw [if_neg fun q => h fun a ha => q a (by simp [ha])]
    congr 1
    unfold insK
    rw [List.filter_append, List.filter_append, List.filter_cons_of_neg (by rw [decide_eq_true_eq]; exact fun z => O.irr _ (O.tr hy z)), List.filter_cons_of_pos (by rw [decide_eq_true_eq]; exact hy)]
    simp
theorem refK_end (O : Ord lt) {l : List α} (x : α) : (if (refK lt key l x).1 then (refK lt key l x).2 else (refK lt key l x).2 ++ [x]) = insK lt key l x := by
  unfold refK
  by_cases h : ∀ a, a ∈ l → lt (key a) (key x)
  · rw [if_pos h]; simp [insK_end O h]
  · rw [if_neg h]; simp
end
instance : DecidableRel ltA := fun a b => by unfold ltA; exact inferInstance
theorem loop_first {ρ σ : Type} (m : Nat) (r : Unit ⊕ ρ) {f : Int → Option (Int ⊕ (Unit ⊕ ρ))} {A : Unit → Option σ} {B : ρ → Option σ} (hm : m ≤ 1000000000)
    (hs : ∀ i : Nat, i < m → f (i : Int) = some (.inl ((i + 1 : Nat) : Int))) (he : f (m : Int) = some (.inr r)) : P.bind (P.iter K f 0) (P.either A B) = P.either A B r := by
  have := iter_run (f := f) (fun i => (i : Int)) r m 0 K (by unfold K; omega) (fun j hj => by simp only [Nat.zero_add]; exact hs j hj) (by simpa using he)
  rw [show ((0 : Nat) : Int) = 0 from rfl] at this
  rw [this, bind_some]
end Go.PL
end
section
open Go Go.PG Go.PL
set_option linter.all false
namespace Go.PL
abbrev insB (l : List Bv) (x : Bv) : List Bv := insK ltS (fun b : Bv => b.1) l x
abbrev insL (l : List Lc) (x : Lc) : List Lc := insK ltA (fun b : Lc => b.1) l x
abbrev kB (l : List Bv) (n : ByteArray) : Nat := fstK ltS (fun b : Bv => b.1) l n
def setT (s : Sta) (n : ByteArray) (v : List At) : Sta := if MayS s then (if s.1 = true then (true, [], []) else (s.1, insB s.2.1 (n, norm v), s.2.2)) else (false, [], [])
def putT (s : Sta) (x : At) (o : Sp) : Sta := if MayS s then (if PlaceA x then (if MayO o then (if s.1 = true then (true, [], []) else (s.1, s.2.1, insL s.2.2 (x, o))) else (false, [], [])) else (false, [], [])) else (false, [], [])
theorem cond_of {α : Type} {b : Bool} (h : b = true) (x y : α) : P.cond b x y = x := by rw [h]; rfl
theorem cond_of' {α : Type} {b : Bool} (h : ¬ b = true) (x y : α) : P.cond b x y = y := by
  cases b with
  | false => rfl
  | true => exact absurd rfl h
theorem delAt_one {α : Type} (l : List α) (m : Nat) : P.delAt l (m : Int) ((m + 1 : Nat) : Int) = l.take m ++ l.drop (m + 1) := rfl
theorem delAt_len {α : Type} {l : List α} {m : Nat} (h : m < l.length) : (P.delAt l (m : Int) ((m + 1 : Nat) : Int)).length = l.length - 1 := by
  rw [delAt_one]; simp; omega
theorem del_ins {α : Type} {l : List α} {m : Nat} (h : m < l.length) (x : α) : P.insAt (P.delAt l (m : Int) ((m + 1 : Nat) : Int)) (m : Int) [x] = l.take m ++ x :: l.drop (m + 1) := by
  rw [delAt_one]
  have hl : (l.take m).length = m := by rw [List.length_take]; omega
  unfold P.insAt
  rw [Int.toNat_natCast, List.take_left' hl, List.drop_left' hl]
  simp
theorem ins_at {α : Type} (l : List α) (m : Nat) (x : α) : P.insAt l (m : Int) [x] = l.take m ++ x :: l.drop m := by
  unfold P.insAt
  rw [Int.toNat_natCast]
  simp
theorem map_some' {α β : Type} (f : α → β) (x : α) : P.map f (some x) = some (f x) := rfl
theorem lt_one {α : Type} (x : α) : P.ilt (0 : Int) (P.len [x]) = true := rfl
theorem st_set (s : Sta) (n : ByteArray) (v : List At) (h : FewT s) (hv : v.length ≤ 1000000) : state_Set K (s, n, v) = some (setT s n v) := by
  unfold state_Set setT
  try dsimp only
  rw [st_may s h, bind_some, cond_ndec]
  by_cases m : MayS s
  · rw [if_pos m, if_pos m]
    by_cases hd : s.1 = true
    · rw [if_pos hd, cond_of hd]
    · rw [if_neg hd, cond_of' hd, copy_vars s h ?_ ?_]
      · rw [copy_locs s h ?_ ?_]
        · try dsimp only
          have h1 := h.1
          have hkl := fstK_le (lt := ltS) (key := fun b : Bv => b.1) s.2.1 n
          have hlo := fstK_lt (lt := ltS) (key := fun b : Bv => b.1) dB s.2.1 n
          have hat := fstK_at (lt := ltS) (key := fun b : Bv => b.1) dB s.2.1 n
          generalize fstK ltS (fun b : Bv => b.1) s.2.1 n = j at hkl hlo hat
          obtain ⟨q1, q2, q3⟩ := split_at ordS (key := fun b : Bv => b.1) m.1.1 dB (n, norm v) j hkl hlo hat
          have hstep : ∀ i : Nat, i < j → i < s.2.1.length := fun i hi => by omega
          by_cases hl : j < s.2.1.length
          · rw [loop_first j (.inr (s.1, insB s.2.1 (n, norm v), s.2.2)) (by omega) ?_ ?_]
            · rw [either_inr]
            · intro i hi
              have hi2 := hstep i hi
              try dsimp only
              rw [ilt_len hi2, cond_true, inb_len hi2, cond_true, get_dB, slt_dec, cond_ndec, if_pos (hlo i hi), wrap_succ (by omega)]
            · try dsimp only
              rw [ilt_len hl, cond_true, inb_len hl, cond_true, get_dB, slt_dec, cond_ndec, if_neg (hat hl), show P.ile (0 : Int) (j : Int) = true from ile_iff.2 (by omega), cond_true, cond_true, cond_true, seq_dec, cond_dec, at_norm' v (by omega), bind_some, bind_some, lt_one, cond_true, cond_true, wrap_succ (by omega)]
              by_cases e : (s.2.1.getD j dB).1 = n
              · rw [if_pos e, show P.cut (j : Int) ((j + 1 : Nat) : Int) (P.len s.2.1) = true from cut_iff.2 (by rw [len_eq]; omega), cond_true, show P.cut (0 : Int) (j : Int) (P.len (P.delAt s.2.1 (j : Int) ((j + 1 : Nat) : Int))) = true from cut_iff.2 (by rw [len_eq, delAt_len hl]; omega), cond_true,
                  room_one _ _ 40 (by rw [delAt_len hl]; omega) (by omega), cond_true, map_some', del_ins hl, q1, q2 hl e]
                rfl
              · rw [if_neg e, show P.cut (0 : Int) (j : Int) (P.len s.2.1) = true from cut_iff.2 (by rw [len_eq]; omega), cond_true, room_one _ _ 40 (by omega) (by omega), cond_true, map_some', ins_at, q1, q3 (fun _ => e)]
                rfl
          · have hj : j = s.2.1.length := by omega
            subst hj
            rw [loop_first s.2.1.length (.inl ()) (by omega) ?_ ?_]
            · rw [either_inl, show P.ile (0 : Int) (-1 : Int) = false from rfl, cond_false, show P.ilt (P.len s.2.1) (P.len s.2.1) = false from by rw [Bool.eq_false_iff, Ne, ilt_iff]; omega, cond_false, at_norm' v (by omega), bind_some, lt_one, cond_true, show P.cut (0 : Int) (P.len s.2.1) (P.len s.2.1) = true from cut_iff.2 (by rw [len_eq]; omega), cond_true,
                room_one _ _ 40 (by omega) (by omega), cond_true, len_eq, ins_at, q1, q3 (fun z => absurd z (by omega))]
              rfl
            · intro i hi
              have hi2 := hstep i hi
              try dsimp only
              rw [ilt_len hi2, cond_true, inb_len hi2, cond_true, get_dB, slt_dec, cond_ndec, if_pos (hlo i hi), wrap_succ (by omega)]
            · try dsimp only
              rw [ilt_end, cond_false]
        · intro i hi
          try dsimp only
          rw [ilt_len hi, cond_true, inb_len hi, cond_true]
        · try dsimp only
          rw [ilt_end]; rfl
      · intro i hi
        try dsimp only
        rw [ilt_len hi, cond_true, inb_len hi, cond_true]
      · try dsimp only
        rw [ilt_end]; rfl
  · rw [if_neg m, if_neg m]
theorem st_put (s : Sta) (x : At) (o : Sp) (h : FewT s) (ho : FewS o) : state_Put K (s, x, o) = some (putT s x o) := by
  unfold state_Put putT
  try dsimp only
  rw [st_may s h, bind_some, cond_ndec]
  by_cases m : MayS s
  · rw [if_pos m, if_pos m, st_place, bind_some, cond_ndec]
    by_cases mp : PlaceA x
    · rw [if_pos mp, if_pos mp, ob_may o ho, bind_some, cond_ndec]
      by_cases mo : MayO o
      · rw [if_pos mo, if_pos mo]
        by_cases hd : s.1 = true
        · rw [if_pos hd, cond_of hd]
        · rw [if_neg hd, cond_of' hd, copy_vars s h ?_ ?_]
          · rw [copy_locs s h ?_ ?_]
            · try dsimp only
              have h1 := h.2.2.1
              have hkl := fstK_le (lt := ltA) (key := fun b : Lc => b.1) s.2.2 x
              have hlo := fstK_lt (lt := ltA) (key := fun b : Lc => b.1) dL s.2.2 x
              have hat := fstK_at (lt := ltA) (key := fun b : Lc => b.1) dL s.2.2 x
              generalize fstK ltA (fun b : Lc => b.1) s.2.2 x = j at hkl hlo hat
              obtain ⟨q1, q2, q3⟩ := split_at ordA (key := fun b : Lc => b.1) m.2.1.1 dL (x, o) j hkl hlo hat
              have hstep : ∀ i : Nat, i < j → i < s.2.2.length := fun i hi => by omega
              by_cases hl : j < s.2.2.length
              · rw [loop_first j (.inr (s.1, s.2.1, insL s.2.2 (x, o))) (by omega) ?_ ?_]
                · rw [either_inr]
                · intro i hi
                  have hi2 := hstep i hi
                  obtain ⟨r, hr, hlt⟩ := at_compare (s.2.2.getD i dL).1 x
                  try dsimp only
                  rw [ilt_len hi2, cond_true, inb_len hi2, cond_true, get_dL, hr, bind_some, show P.ile (0 : Int) r = false from by rw [Bool.eq_false_iff, Ne, ile_iff]; exact fun z => hlt.1 z (hlo i hi), cond_false, wrap_succ (by omega)]
                · obtain ⟨r, hr, hlt⟩ := at_compare (s.2.2.getD j dL).1 x
                  try dsimp only
                  rw [ilt_len hl, cond_true, inb_len hl, cond_true, get_dL, hr, bind_some, show P.ile (0 : Int) r = true from ile_iff.2 (hlt.2 (hat hl)), cond_true, show P.ile (0 : Int) (j : Int) = true from ile_iff.2 (by omega), cond_true, cond_true, cond_true, eqA_dec, cond_dec, ob_copy o ho, bind_some, bind_some, lt_one, cond_true, cond_true, wrap_succ (by omega)]
                  by_cases e : (s.2.2.getD j dL).1 = x
                  · rw [if_pos e, show P.cut (j : Int) ((j + 1 : Nat) : Int) (P.len s.2.2) = true from cut_iff.2 (by rw [len_eq]; omega), cond_true, show P.cut (0 : Int) (j : Int) (P.len (P.delAt s.2.2 (j : Int) ((j + 1 : Nat) : Int))) = true from cut_iff.2 (by rw [len_eq, delAt_len hl]; omega), cond_true,
                      room_one _ _ 64 (by rw [delAt_len hl]; omega) (by omega), cond_true, map_some', del_ins hl, q1, q2 hl e]
                    rfl
                  · rw [if_neg e, show P.cut (0 : Int) (j : Int) (P.len s.2.2) = true from cut_iff.2 (by rw [len_eq]; omega), cond_true, room_one _ _ 64 (by omega) (by omega), cond_true, map_some', ins_at, q1, q3 (fun _ => e)]
                    rfl
              · have hj : j = s.2.2.length := by omega
                subst hj
                rw [loop_first s.2.2.length (.inl ()) (by omega) ?_ ?_]
                · rw [either_inl, show P.ile (0 : Int) (-1 : Int) = false from rfl, cond_false, show P.ilt (P.len s.2.2) (P.len s.2.2) = false from by rw [Bool.eq_false_iff, Ne, ilt_iff]; omega, cond_false, ob_copy o ho, bind_some, lt_one, cond_true, show P.cut (0 : Int) (P.len s.2.2) (P.len s.2.2) = true from cut_iff.2 (by rw [len_eq]; omega), cond_true,
                    room_one _ _ 64 (by omega) (by omega), cond_true, len_eq, ins_at, q1, q3 (fun z => absurd z (by omega))]
                  rfl
                · intro i hi
                  have hi2 := hstep i hi
                  obtain ⟨r, hr, hlt⟩ := at_compare (s.2.2.getD i dL).1 x
                  try dsimp only
                  rw [ilt_len hi2, cond_true, inb_len hi2, cond_true, get_dL, hr, bind_some, show P.ile (0 : Int) r = false from by rw [Bool.eq_false_iff, Ne, ile_iff]; exact fun z => hlt.1 z (hlo i hi), cond_false, wrap_succ (by omega)]
                · try dsimp only
                  rw [ilt_end, cond_false]
            · intro i hi
              try dsimp only
              rw [ilt_len hi, cond_true, inb_len hi, cond_true]
            · try dsimp only
              rw [ilt_end]; rfl
          · intro i hi
            try dsimp only
            rw [ilt_len hi, cond_true, inb_len hi, cond_true]
          · try dsimp only
            rw [ilt_end]; rfl
      · rw [if_neg mo, if_neg mo]
    · rw [if_neg mp, if_neg mp]
  · rw [if_neg m, if_neg m]
end Go.PL
end
section
open Go Go.PG Go.PL
set_option linter.all false
namespace Go.PL
theorem loop_gen {τ ε ρ σ : Type} (n : Nat) (s : Nat → τ) (s0 : τ) (e : ε) {f : τ → Option (τ ⊕ (ε ⊕ ρ))} {A : ε → Option σ} {B : ρ → Option σ} (hn : n ≤ 1000000000) (h0 : s 0 = s0)
    (hs : ∀ i : Nat, i < n → f (s i) = some (.inl (s (i + 1)))) (he : f (s n) = some (.inr (.inl e))) :
    P.bind (P.iter K f s0) (P.either A B) = A e := by
  have := iter_run (f := f) s (.inl e) n 0 K (by unfold K; omega) (fun j hj => by simp only [Nat.zero_add]; exact hs j hj) (by simpa using he)
  rw [h0] at this
  rw [this, bind_some, either_inl]
theorem sle_not (a b : ByteArray) : P.sle a b = decide (¬ ltS b a) := by
  rw [Bool.eq_iff_iff, sle_iff, decide_eq_true_eq]
  constructor
  · rintro (h | rfl)
    · exact ltS_asymm h
    · exact ltS_irrefl _
  · intro h
    rcases ltS_tri a b with q | q | q
    · exact .inl q
    · exact .inr q
    · exact absurd q h
theorem refK_nil {α κ : Type} {lt : κ → κ → Prop} [DecidableRel lt] {key : α → κ} (x : α) : refK lt key [] x = (false, []) := by
  unfold refK; rw [if_pos (by simp)]
theorem refK_len {α κ : Type} {lt : κ → κ → Prop} [DecidableRel lt] {key : α → κ} (t : List α) (x : α) : (refK lt key t x).2.length ≤ t.length + t.length + 1 := by
  unfold refK
  split
  · show t.length ≤ _; omega
  · exact insK_length t x
theorem app_eq {α : Type} (a b : List α) : P.app a b = a ++ b := rfl
theorem up_take {α κ : Type} {lt : κ → κ → Prop} {key : α → κ} {l : List α} (h : Up lt key l) {i : Nat} (hi : i < l.length) (d : α) : Up lt key (l.take i ++ [l.getD i d]) := by
  rw [← take_getD' hi d]; exact h.sublist (List.take_sublist _ _)
theorem ref_set (s : Sta) (n : ByteArray) (v : List At) (h : FewT s) (hv : v.length ≤ 1000000) : ref08_Set K (s, n, v) = some (setT s n v) := by
  unfold ref08_Set setT
  try dsimp only
  rw [ref_may8 s h, bind_some, cond_ndec]
  by_cases m : MayS s
  · rw [if_pos m, if_pos m]
    by_cases hd : s.1 = true
    · rw [if_pos hd, cond_of hd]
      obtain ⟨e1, e2⟩ := m.2.2 hd
      congr 1
      exact Prod.ext hd (Prod.ext e1 e2)
    · rw [if_neg hd, cond_of' hd, ref_norm v (by omega), bind_some]
      have h1 := h.1
      have hu : Up ltS (fun b : Bv => b.1) s.2.1 := m.1.1
      have hs1 : s.1 = false := by simpa using hd
      rw [loop_gen s.2.1.length (fun i => ((refK ltS (fun b : Bv => b.1) (s.2.1.take i) (n, norm v)).1, (i : Int), false, (refK ltS (fun b : Bv => b.1) (s.2.1.take i) (n, norm v)).2, s.2.2)) _ ((refK ltS (fun b : Bv => b.1) s.2.1 (n, norm v)).1, false, (refK ltS (fun b : Bv => b.1) s.2.1 (n, norm v)).2, s.2.2) (by omega) ?_ ?_ ?_]
      · have hE := refK_end (lt := ltS) (key := fun b : Bv => b.1) ordS (l := s.2.1) (n, norm v)
        have hL := refK_len (lt := ltS) (key := fun b : Bv => b.1) s.2.1 (n, norm v)
        try dsimp only
        rw [show insB s.2.1 (n, norm v) = _ from hE.symm, hs1]
        generalize refK ltS (fun b : Bv => b.1) s.2.1 (n, norm v) = R at hL
        obtain ⟨b, t⟩ := R
        cases b
        · rw [not_false', cond_true, room_one _ _ 40 (by simp only at hL ⊢; omega) (by omega), cond_true]; rfl
        · rw [not_true, cond_false]; rfl
      · show ((refK ltS (fun b : Bv => b.1) [] (n, norm v)).1, _, _, (refK ltS (fun b : Bv => b.1) [] (n, norm v)).2, _) = _
        rw [refK_nil]; rfl
      · intro i hi
        have hui := up_take hu hi dB
        have e1 := take_getD' hi dB
        obtain ⟨t1, t2, t3⟩ := refK_step ordS hui (n, norm v)
        have htl : (s.2.1.take i).length ≤ 100000 := by rw [List.length_take]; omega
        have hL := refK_len (lt := ltS) (key := fun b : Bv => b.1) (s.2.1.take i) (n, norm v)
        try dsimp only
        rw [ilt_len hi, cond_true, inb_len hi, e1, wrap_succ (by omega)]
        simp only [cond_true, get_dB, sle_not, seq_dec]
        by_cases all : ∀ a, a ∈ s.2.1.take i → ltS a.1 n
        · have r0 : refK ltS (fun b : Bv => b.1) (s.2.1.take i) (n, norm v) = (false, s.2.1.take i) := by unfold refK; rw [if_pos all]
          rw [r0]
          simp only [not_false', cond_true]
          rw [cond_dec]
          by_cases hy : ltS (s.2.1.getD i dB).1 n
          · rw [if_neg (fun z => z hy), cond_ndec, if_neg (fun e : (s.2.1.getD i dB).1 = n => ltS_irrefl n (by rw [e] at hy; exact hy)), room_one _ _ 40 (by omega) (by omega), cond_true, (t1 hy).2, app_eq]
          · rw [if_pos hy, room_one _ _ 40 (by omega) (by omega), cond_true, cond_ndec, app_eq, app_eq]
            by_cases e : (s.2.1.getD i dB).1 = n
            · rw [if_pos e, (t2 hy all).1 e]
            · rw [if_neg e, room_one _ _ 40 (by simp; omega) (by omega), cond_true, (t2 hy all).2 e]
        · have r0 : refK ltS (fun b : Bv => b.1) (s.2.1.take i) (n, norm v) = (true, insB (s.2.1.take i) (n, norm v)) := by unfold refK; rw [if_neg all]
          rw [r0] at hL ⊢
          simp only [not_true, cond_false]
          rw [cond_ndec, if_neg (t3 all).1, room_one _ _ 40 (by simp only at hL ⊢; omega) (by omega), cond_true, (t3 all).2, app_eq]
      · try dsimp only
        rw [ilt_end, cond_false, List.take_length]
  · rw [if_neg m, if_neg m]
theorem ref_put (s : Sta) (x : At) (o : Sp) (h : FewT s) (ho : FewS o) : ref08_Put K (s, x, o) = some (putT s x o) := by
  unfold ref08_Put putT
  try dsimp only
  rw [ref_may8 s h, bind_some, cond_ndec]
  by_cases m : MayS s
  · rw [if_pos m, if_pos m, ref_place, bind_some, cond_ndec]
    by_cases mp : PlaceA x
    · rw [if_pos mp, if_pos mp, ref_may7 o ho, bind_some, cond_ndec]
      by_cases mo : MayO o
      · rw [if_pos mo, if_pos mo]
        by_cases hd : s.1 = true
        · rw [if_pos hd, cond_of hd]
          obtain ⟨e1, e2⟩ := m.2.2 hd
          congr 1
          exact Prod.ext hd (Prod.ext e1 e2)
        · rw [if_neg hd, cond_of' hd]
          have h1 := h.2.2.1
          have hu : Up ltA (fun b : Lc => b.1) s.2.2 := m.2.1.1
          have hs1 : s.1 = false := by simpa using hd
          rw [loop_gen s.2.2.length (fun i => ((refK ltA (fun b : Lc => b.1) (s.2.2.take i) (x, o)).1, (i : Int), false, s.2.1, (refK ltA (fun b : Lc => b.1) (s.2.2.take i) (x, o)).2)) _ ((refK ltA (fun b : Lc => b.1) s.2.2 (x, o)).1, false, s.2.1, (refK ltA (fun b : Lc => b.1) s.2.2 (x, o)).2) (by omega) ?_ ?_ ?_]
          · have hE := refK_end (lt := ltA) (key := fun b : Lc => b.1) ordA (l := s.2.2) (x, o)
            have hL := refK_len (lt := ltA) (key := fun b : Lc => b.1) s.2.2 (x, o)
            try dsimp only
            rw [show insL s.2.2 (x, o) = _ from hE.symm, hs1]
            generalize refK ltA (fun b : Lc => b.1) s.2.2 (x, o) = R at hL
            obtain ⟨b, t⟩ := R
            cases b
            · rw [not_false', cond_true, room_one _ _ 64 (by simp only at hL ⊢; omega) (by omega), cond_true]; rfl
            · rw [not_true, cond_false]; rfl
          · show ((refK ltA (fun b : Lc => b.1) [] (x, o)).1, _, _, _, (refK ltA (fun b : Lc => b.1) [] (x, o)).2) = _
            rw [refK_nil]; rfl
          · intro i hi
            have hui := up_take hu hi dL
            have e1 := take_getD' hi dL
            obtain ⟨t1, t2, t3⟩ := refK_step ordA hui (x, o)
            have htl : (s.2.2.take i).length ≤ 100000 := by rw [List.length_take]; omega
            have hL := refK_len (lt := ltA) (key := fun b : Lc => b.1) (s.2.2.take i) (x, o)
            try dsimp only
            rw [ilt_len hi, cond_true, inb_len hi, e1, wrap_succ (by omega)]
            simp only [cond_true, get_dL, eqA_dec, ref_less, bind_some]
            by_cases all : ∀ a, a ∈ s.2.2.take i → ltA a.1 x
            · have r0 : refK ltA (fun b : Lc => b.1) (s.2.2.take i) (x, o) = (false, s.2.2.take i) := by unfold refK; rw [if_pos all]
              rw [r0]
              simp only [not_false', cond_true]
              rw [ref_less, bind_some, cond_ndec]
              by_cases hy : ltA (s.2.2.getD i dL).1 x
              · rw [if_pos hy, cond_ndec, if_neg (fun e : (s.2.2.getD i dL).1 = x => ltA_irrefl x (by rw [e] at hy; exact hy)), room_one _ _ 64 (by omega) (by omega), cond_true, (t1 hy).2, app_eq]
              · rw [if_neg hy, room_one _ _ 64 (by omega) (by omega), cond_true, cond_ndec, app_eq, app_eq]
                by_cases e : (s.2.2.getD i dL).1 = x
                · rw [if_pos e, (t2 hy all).1 e]
                · rw [if_neg e, room_one _ _ 64 (by simp; omega) (by omega), cond_true, (t2 hy all).2 e]
            · have r0 : refK ltA (fun b : Lc => b.1) (s.2.2.take i) (x, o) = (true, insL (s.2.2.take i) (x, o)) := by unfold refK; rw [if_neg all]
              rw [r0] at hL ⊢
              simp only [not_true, cond_false]
              rw [cond_ndec, if_neg (t3 all).1, room_one _ _ 64 (by simp only at hL ⊢; omega) (by omega), cond_true, (t3 all).2, app_eq]
          · try dsimp only
            rw [ilt_end, cond_false, List.take_length]
      · rw [if_neg mo, if_neg mo]
    · rw [if_neg mp, if_neg mp]
  · rw [if_neg m, if_neg m]
theorem st_loc (s : Sta) (x : At) (h : FewT s) : state_Loc K (s, x) = some (locR s.2.2 x) := by
  unfold state_Loc
  try dsimp only
  have h3 := h.2.2.1
  rw [loop_find s.2.2 dL (fun b => b.1 = x) (fun b => (b.2, true)) (by omega) ?_ ?_]
  · unfold locR getL
    cases s.2.2.find? fun b => decide (b.1 = x) with
    | none => rfl
    | some b => rfl
  · intro i hi
    have hm := getD_mem hi dL
    try dsimp only
    rw [ilt_len hi, cond_true, inb_len hi, cond_true, get_dL, eqA_dec, cond_dec, wrap_succ (by omega)]
    by_cases q : (s.2.2.getD i dL).1 = x
    · rw [if_pos q, if_pos q, show P.ile (0 : Int) (i : Int) = true from ile_iff.2 (by omega), cond_true, cond_true, ob_copy _ (h.2.2.2 _ hm), bind_some, map_some']
    · rw [if_neg q, if_neg q]
  · try dsimp only
    rw [ilt_end]; rfl
end Go.PL
end
section
open Go Go.PG Go.PL
set_option linter.all false
namespace Go.PL
def renL (i : Int) (b : Lc) : Lc := (b.1, rename b.2 i)
def base (i : Int) (l : List Lc) : List Lc := (l.filter fun b => decide (b.1 ≠ (4, i))).map (renL i)
theorem getL_no {l : List Lc} {x : At} (h : ∀ b, b ∈ l → b.1 ≠ x) : getL l x = none := by
  unfold getL
  rw [List.find?_eq_none]
  intro b hb q
  exact h b hb (of_decide_eq_true q)
end Go.PL
end
section
open Go Go.PG Go.PL
set_option linter.all false
namespace Go.PL
theorem mayS_mk {V : List Bv} {L : List Lc} (h1 : RisesB V ∧ ∀ b, b ∈ V → b.2 = norm b.2) (h2 : RisesL L ∧ ∀ l, l ∈ L → PlaceA l.1 ∧ MayO l.2) : MayS (false, V, L) := ⟨h1, h2, fun z => by cases z⟩
theorem setT_ok {V : List Bv} {L : List Lc} (h : MayS (false, V, L)) (n : ByteArray) (v : List At) : setT (false, V, L) n v = (false, insB V (n, norm v), L) := by
  unfold setT; rw [if_pos h, if_neg (by simp)]
theorem take_all {α : Type} {p : α → Prop} {l : List α} (h : ∀ b, b ∈ l → p b) (j : Nat) : ∀ b, b ∈ l.take j → p b := fun b hb => h b (List.mem_of_mem_take hb)
end Go.PL
end
section
open Go Go.PG Go.PL
set_option linter.all false
namespace Go.PL
end Go.PL
end
section
open Go Go.PG Go.PL
set_option linter.all false
namespace Go.PL
def t9 : Sta := (false, [(⟨#[120]⟩, [(5, 0)]), (⟨#[121]⟩, [(4, 0)])], [((4, 0), ([], [(5, 0)])), ((5, 0), ([(⟨#[112]⟩, true, [(2, 0)])], [(0, 0)]))])
def u9 : Sta := (false, [(⟨#[120]⟩, [(5, 0)])], [((5, 0), ([(⟨#[112]⟩, true, [(2, 0)])], [(0, 0)]))])
end Go.PL
end
section
open Go Go.PG Go.PL
set_option linter.all false
namespace Go.PL
end Go.PL
end
section
open Go Go.PG Go.PL
set_option linter.all false
namespace Go.PL
def gl (l : List Lc) (x : At) : Option Sp := (getL l x).map fun b => b.2
theorem gl_some {l : List Lc} {x : At} {o : Sp} : gl l x = some o → (x, o) ∈ l := by
  intro h
  unfold gl at h
  cases g : getL l x with
  | none => rw [g] at h; cases h
  | some b =>
    rw [g] at h
    injection h with h
    obtain ⟨h1, h2⟩ := getL_mem g
    rw [← h, ← h2]; exact h1
theorem gl_mem {l : List Lc} (h : RisesL l) {x : At} {o : Sp} (hm : (x, o) ∈ l) : gl l x = some o := by
  unfold gl
  rw [getL_of_mem h hm]; rfl
theorem gl_none {l : List Lc} {x : At} : gl l x = none ↔ ∀ b, b ∈ l → b.1 ≠ x := by
  constructor
  · intro h b hb
    unfold gl at h
    cases g : getL l x with
    | none => exact getL_none g hb
    | some b => rw [g] at h; cases h
  · intro h; unfold gl; rw [getL_no h]; rfl
theorem gl_ext {l m : List Lc} (hl : RisesL l) (hm : RisesL m) (h : ∀ x, gl l x = gl m x) : l = m :=
  up_ext (lt := ltA) (key := fun b : Lc => b.1) ordA hl hm fun b => ⟨fun hb => gl_some (x := b.1) (o := b.2) (by rw [← h]; exact gl_mem hl hb), fun hb => gl_some (x := b.1) (o := b.2) (by rw [h]; exact gl_mem hm hb)⟩
theorem gl_locR (l : List Lc) (x : At) : locR l x = match gl l x with
    | some o => (o, true)
    | none => (([], []), false) := by
  unfold locR gl
  cases getL l x <;> rfl
theorem gl_ins {l : List Lc} (h : RisesL l) (y : Lc) (x : At) : gl (insL l y) x = if x = y.1 then some y.2 else gl l x := by
  have hu := insK_up (lt := ltA) (key := fun b : Lc => b.1) ordA h y
  by_cases q : x = y.1
  · rw [if_pos q, q]
    exact gl_mem hu ((insK_mem ordA).2 (.inl rfl))
  · rw [if_neg q]
    cases g : gl l x with
    | none =>
      rw [gl_none] at g ⊢
      intro b hb
      rcases (insK_mem ordA).1 hb with rfl | ⟨h1, _⟩
      · exact fun z => q z.symm
      · exact g b h1
    | some o => exact gl_mem hu ((insK_mem ordA).2 (.inr ⟨gl_some g, q⟩))
theorem gl_ok {l : List Lc} (h : ∀ b, b ∈ l → PlaceA b.1 ∧ MayO b.2) {x : At} {o : Sp} (g : gl l x = some o) : MayO o := (h _ (gl_some g)).2
end Go.PL
end
section
open Go Go.PG Go.PL
set_option linter.all false
namespace Go.PL
def SpeakL (x : At) (l : Lc) : Prop := l.1 = x ∨ x ∈ l.2.2 ∨ ∃ f, f ∈ l.2.1 ∧ x ∈ f.2.2
instance (x : At) (l : Lc) : Decidable (SpeakL x l) := by unfold SpeakL; exact inferInstance
def Speaks (s : Sta) (x : At) : Prop := (∃ b, b ∈ s.2.1 ∧ x ∈ b.2) ∨ ∃ l, l ∈ s.2.2 ∧ SpeakL x l
instance (s : Sta) (x : At) : Decidable (Speaks s x) := by unfold Speaks; exact inferInstance
end Go.PL
end
section
open Go Go.PG Go.PL
set_option linter.all false
namespace Go.PL
theorem lt_bytes9 {l : Nat} (h : l * BAtom TAtom ≤ reachBytes) : l ≤ 8796093022000 := by
  have e : BAtom TAtom = 16 := rfl
  rw [e] at h
  unfold reachBytes at h
  omega
theorem ref_may7B (s : Sp) (h1 : s.1.length < 9223372036854775808) (h2 : ∀ f, f ∈ s.1 → f.2.2.length ≤ 8796093022000) (h3 : s.2.length ≤ 8796093022000) : ref07_May K s = some (decide (MayO s)) := by
  unfold ref07_May
  try dsimp only
  rw [iter_all (n := s.1.length) (e := .inl ()) (r := .inr false) (fun i => StepO s.1 i) K ?_ ?_ (by unfold K; omega)]
  · rw [bind_some]
    by_cases q : ∀ i, i < s.1.length → StepO s.1 i
    · rw [if_pos q, either_inl, ref_may _ (by omega), bind_some]
      congr 1
      rw [Bool.eq_iff_iff, decide_eq_true_eq, decide_eq_true_eq]
      have := steps_iff.1 q
      exact ⟨fun z => ⟨this.1, this.2, z⟩, fun z => z.2.2⟩
    · rw [if_neg q, either_inr, decide_eq_false fun z => q (steps_iff.2 ⟨z.1, z.2.1⟩)]
  · intro i hi
    try dsimp only
    rw [show P.ilt (i : Int) (P.len s.1) = true from ilt_iff.2 (by rw [len_eq]; omega), cond_true, show P.inb (i : Int) (P.len s.1) = true from inb_iff.2 (by rw [len_eq]; omega), cond_true, get_nat, ref_may (s.1.getD i dF).2.2 (by have := h2 _ (mem_getD hi); omega), bind_some, wrap_succ (by omega)]
    by_cases q : (s.1.getD i dF).2.2 = norm (s.1.getD i dF).2.2
    · rw [decide_eq_true q, show P.not true = false from rfl, cond_false]
      by_cases h0 : 0 < i
      · rw [show P.ilt ((0 : Int)) (i : Int) = true from ilt_iff.2 (by omega), cond_true, wrap_pred h0 (by omega), show P.inb ((i - 1 : Nat) : Int) (P.len s.1) = true from inb_iff.2 (by rw [len_eq]; omega), cond_true, cond_true, get_nat]
        by_cases z : ltS (s.1.getD (i - 1) dF).1 (s.1.getD i dF).1
        · rw [show P.slt (s.1.getD (i - 1) dF).1 (s.1.getD i dF).1 = true from slt_iff.2 z, if_pos (show StepO s.1 i from ⟨q, fun _ => z⟩)]; rfl
        · rw [show P.slt (s.1.getD (i - 1) dF).1 (s.1.getD i dF).1 = false from by rw [Bool.eq_false_iff]; exact fun y => z (slt_iff.1 y), if_neg (show ¬ StepO s.1 i from fun y => z (y.2 h0))]; rfl
      · rw [show P.ilt ((0 : Int)) (i : Int) = false from by rw [Bool.eq_false_iff, Ne, ilt_iff]; omega, cond_false, if_pos (show StepO s.1 i from ⟨q, fun z => absurd z h0⟩)]
    · rw [decide_eq_false q, show P.not false = true from rfl, cond_true, if_neg (show ¬ StepO s.1 i from fun z => q z.1)]
  · try dsimp only
    rw [show P.ilt (s.1.length : Int) (P.len s.1) = false from by rw [Bool.eq_false_iff, Ne, ilt_iff, len_eq]; omega]; rfl
end Go.PL
end
section
open Go Go.PG Go.PL
set_option linter.all false
namespace Go.PL
def gv (l : List Bv) (n : ByteArray) : Option (List At) := (getV l n).map fun b => b.2
theorem var_gv (l : List Bv) (n : ByteArray) : var l n = (gv l n).getD [(0, 0)] := by
  unfold var gv
  cases getV l n <;> rfl
theorem gv_some {l : List Bv} {n : ByteArray} {v : List At} (h : gv l n = some v) : (n, v) ∈ l := by
  unfold gv at h
  cases g : getV l n with
  | none => rw [g] at h; cases h
  | some b =>
    rw [g] at h
    injection h with h
    obtain ⟨h1, h2⟩ := getV_mem g
    rw [← h, ← h2]; exact h1
theorem gv_mem {l : List Bv} (h : RisesB l) {n : ByteArray} {v : List At} (hm : (n, v) ∈ l) : gv l n = some v := by
  unfold gv
  rw [getV_of_mem h hm]; rfl
theorem gv_none {l : List Bv} {n : ByteArray} : gv l n = none ↔ ∀ b, b ∈ l → b.1 ≠ n := by
  constructor
  · intro h b hb
    unfold gv at h
    cases g : getV l n with
    | none => exact getV_none g hb
    | some b => rw [g] at h; cases h
  · intro h
    unfold gv getV
    rw [List.find?_eq_none.2 fun b hb q => h b hb (of_decide_eq_true q)]; rfl
theorem gv_ext {l m : List Bv} (hl : RisesB l) (hm : RisesB m) (h : ∀ n, gv l n = gv m n) : l = m :=
  up_ext (lt := ltS) (key := fun b : Bv => b.1) ordS hl hm fun b => ⟨fun hb => gv_some (n := b.1) (v := b.2) (by rw [← h]; exact gv_mem hl hb), fun hb => gv_some (n := b.1) (v := b.2) (by rw [h]; exact gv_mem hm hb)⟩
theorem gv_ins {l : List Bv} (h : RisesB l) (y : Bv) (n : ByteArray) : gv (insB l y) n = if n = y.1 then some y.2 else gv l n := by
  have hu := insK_up (lt := ltS) (key := fun b : Bv => b.1) ordS h y
  by_cases q : n = y.1
  · rw [if_pos q, q]
    exact gv_mem hu ((insK_mem ordS).2 (.inl rfl))
  · rw [if_neg q]
    cases g : gv l n with
    | none =>
      rw [gv_none] at g ⊢
      intro b hb
      rcases (insK_mem ordS).1 hb with rfl | ⟨h1, _⟩
      · exact fun z => q z.symm
      · exact g b h1
    | some o => exact gv_mem hu ((insK_mem ordS).2 (.inr ⟨gv_some g, q⟩))
def both (a b : List Bv) (n : ByteArray) : List At := norm (var a n ++ var b n)
def setJ (a b : List Bv) (V l : List Bv) : List Bv := l.foldl (fun V v => insB V (v.1, both a b v.1)) V
theorem setJ_spec (a b : List Bv) : ∀ (l V : List Bv), RisesB V → RisesB (setJ a b V l) ∧ ∀ n, gv (setJ a b V l) n = if ∃ v, v ∈ l ∧ v.1 = n then some (both a b n) else gv V n := by
  intro l
  induction l with
  | nil => intro V h; exact ⟨h, fun n => by rw [if_neg (by simp)]; rfl⟩
  | cons y l ih =>
    intro V h
    obtain ⟨h1, h2⟩ := ih (insB V (y.1, both a b y.1)) (insK_up ordS h _)
    refine ⟨h1, fun n => ?_⟩
    show gv (setJ a b (insB V (y.1, both a b y.1)) l) n = _
    rw [h2, gv_ins h]
    by_cases q : ∃ v, v ∈ l ∧ v.1 = n
    · rw [if_pos q, if_pos (by obtain ⟨v, g1, g2⟩ := q; exact ⟨v, List.mem_cons_of_mem _ g1, g2⟩)]
    · rw [if_neg q]
      by_cases e : n = y.1
      · rw [if_pos e, if_pos ⟨y, by simp, e.symm⟩, e]
      · rw [if_neg e, if_neg]
        rintro ⟨v, g1, g2⟩
        rcases List.mem_cons.1 g1 with rfl | g1
        · exact e g2.symm
        · exact q ⟨v, g1, g2⟩
def oneJ (a : List Lc) (y : Lc) : Lc := (y.1, match gl a y.1 with
  | some o => join o y.2
  | none => y.2)
def putJ (a : List Lc) (L l : List Lc) : List Lc := l.foldl (fun L y => insL L (oneJ a y)) L
theorem putJ_up (a : List Lc) : ∀ (l L : List Lc), RisesL L → RisesL (putJ a L l) := by
  intro l
  induction l with
  | nil => intro L h; exact h
  | cons y l ih => intro L h; exact ih _ (insK_up ordA h _)
theorem putJ_spec (a : List Lc) : ∀ (l L : List Lc), RisesL L → RisesL l → ∀ x, gl (putJ a L l) x = match gl l x with
    | some o => some (oneJ a (x, o)).2
    | none => gl L x := by
  intro l
  induction l with
  | nil => intro L _ _ x; rfl
  | cons y l ih =>
    intro L h hl x
    obtain ⟨p1, p2⟩ := List.pairwise_cons.1 hl
    show gl (putJ a (insL L (oneJ a y)) l) x = _
    rw [ih _ (insK_up ordA h _) p2, gl_ins h]
    by_cases e : x = y.1
    · have g1 : gl l x = none := gl_none.2 fun b hb z => by
        have := p1 b hb
        rw [z, e] at this
        exact ltA_irrefl _ this
      have g2 : gl (y :: l) x = some y.2 := by rw [e]; exact gl_mem hl (by simp)
      rw [g1, g2]
      show (if x = y.1 then some (oneJ a y).2 else gl L x) = some (oneJ a (x, y.2)).2
      rw [if_pos e, e]
    · have g3 : gl (y :: l) x = gl l x := by
        unfold gl getL
        rw [List.find?_cons, decide_eq_false (fun z => e z.symm)]
      rw [g3]
      cases gl l x with
      | none => exact if_neg e
      | some o => rfl
def joinT (a b : Sta) : Sta := if MayS a then (if MayS b then (if a.1 = true then b else if b.1 = true then a else (false, setJ a.2.1 b.2.1 (setJ a.2.1 b.2.1 a.2.1 a.2.1) b.2.1, putJ a.2.2 a.2.2 b.2.2)) else (false, [], [])) else (false, [], [])
theorem setJ_app (a b V l : List Bv) (y : Bv) : setJ a b V (l ++ [y]) = insB (setJ a b V l) (y.1, both a b y.1) := by
  unfold setJ; rw [List.foldl_append]; rfl
theorem putJ_app (a L l : List Lc) (y : Lc) : putJ a L (l ++ [y]) = insL (putJ a L l) (oneJ a y) := by
  unfold putJ; rw [List.foldl_append]; rfl
end Go.PL
end
section
open Go Go.PG Go.PL
set_option linter.all false
namespace Go.PL
theorem insK_len1 {α κ : Type} {lt : κ → κ → Prop} [DecidableRel lt] {key : α → κ} (O : Ord lt) (l : List α) (x : α) : (insK lt key l x).length ≤ l.length + 1 := by
  have h : ∀ l : List α, (l.filter fun a => decide (lt (key a) (key x))).length + (l.filter fun a => decide (lt (key x) (key a))).length ≤ l.length := by
    intro l
    induction l with
    | nil => simp
    | cons a l ih =>
      by_cases h1 : lt (key a) (key x)
      · have h2 : ¬ lt (key x) (key a) := fun z => O.irr _ (O.tr h1 z)
        rw [List.filter_cons_of_pos (by simpa using h1), List.filter_cons_of_neg (by simpa using h2)]
        simp only [List.length_cons]; omega
      · by_cases h2 : lt (key x) (key a)
        · rw [List.filter_cons_of_neg (by simpa using h1), List.filter_cons_of_pos (by simpa using h2)]
          simp only [List.length_cons]; omega
        · rw [List.filter_cons_of_neg (by simpa using h1), List.filter_cons_of_neg (by simpa using h2)]
          simp only [List.length_cons]; omega
  have := h l
  unfold insK
  simp only [List.length_append, List.length_cons]
  omega
theorem setJ_len (a b : List Bv) : ∀ (l V : List Bv), (setJ a b V l).length ≤ V.length + l.length := by
  intro l
  induction l with
  | nil => intro V; exact Nat.le_refl _
  | cons y l ih =>
    intro V
    have h1 := ih (insB V (y.1, both a b y.1))
    have h2 : (insB V (y.1, both a b y.1)).length ≤ V.length + 1 := insK_len1 ordS V _
    show (setJ a b (insB V (y.1, both a b y.1)) l).length ≤ _
    simp only [List.length_cons]
    omega
theorem putJ_len (a : List Lc) : ∀ (l L : List Lc), (putJ a L l).length ≤ L.length + l.length := by
  intro l
  induction l with
  | nil => intro V; exact Nat.le_refl _
  | cons y l ih =>
    intro L
    have h1 := ih (insL L (oneJ a y))
    have h2 : (insL L (oneJ a y)).length ≤ L.length + 1 := insK_len1 ordA L _
    show (putJ a (insL L (oneJ a y)) l).length ≤ _
    simp only [List.length_cons]
    omega
theorem setJ_mem (a b : List Bv) : ∀ (l V : List Bv) (v : Bv), v ∈ setJ a b V l → v ∈ V ∨ v.2 = both a b v.1 := by
  intro l
  induction l with
  | nil => intro V v h; exact .inl h
  | cons y l ih =>
    intro V v h
    rcases ih _ v h with h | h
    · rcases (insK_mem ordS).1 h with rfl | ⟨h, _⟩
      · exact .inr rfl
      · exact .inl h
    · exact .inr h
theorem putJ_mem (a : List Lc) : ∀ (l L : List Lc) (v : Lc), v ∈ putJ a L l → v ∈ L ∨ ∃ y, y ∈ l ∧ v = oneJ a y := by
  intro l
  induction l with
  | nil => intro L v h; exact .inl h
  | cons y l ih =>
    intro L v h
    rcases ih _ v h with h | ⟨z, h1, h2⟩
    · rcases (insK_mem ordA).1 h with rfl | ⟨h, _⟩
      · exact .inr ⟨y, by simp, rfl⟩
      · exact .inl h
    · exact .inr ⟨z, List.mem_cons_of_mem _ h1, h2⟩
theorem var_bd {l : List Bv} {k : Nat} (h : ∀ b, b ∈ l → b.2.length ≤ k) (n : ByteArray) : (var l n).length ≤ k + 1 := by
  unfold var
  split
  · rename_i b hb
    have := h b (getV_mem hb).1
    omega
  · simp
theorem both_len {a b : List Bv} {k : Nat} (ha : ∀ v, v ∈ a → v.2.length ≤ k) (hb : ∀ v, v ∈ b → v.2.length ≤ k) (n : ByteArray) : (both a b n).length ≤ k + k + 2 := by
  have h1 := var_bd ha n
  have h2 := var_bd hb n
  have h3 := norm_length (var a n ++ var b n)
  rw [List.length_append] at h3
  unfold both
  omega
theorem oneJ_ok {a : List Lc} (ha : ∀ l, l ∈ a → PlaceA l.1 ∧ MayO l.2) {y : Lc} (hy : PlaceA y.1 ∧ MayO y.2) : PlaceA (oneJ a y).1 ∧ MayO (oneJ a y).2 := by
  refine ⟨hy.1, ?_⟩
  unfold oneJ
  cases g : gl a y.1 with
  | none => exact hy.2
  | some o => exact join_may (gl_ok ha g) hy.2
theorem bd_up {s : Sp} {k j : Nat} (h : Bd k s) (hk : k ≤ j) : Bd j s := ⟨Nat.le_trans h.1 hk, fun f hf => Nat.le_trans (h.2.1 f hf) hk, Nat.le_trans h.2.2 hk⟩
theorem oneJ_bd {a : List Lc} {k : Nat} (ha : ∀ l, l ∈ a → Bd k l.2) {y : Lc} (hy : Bd k y.2) : Bd (k + k) (oneJ a y).2 := by
  unfold oneJ
  cases g : gl a y.1 with
  | none => exact bd_up hy (by omega)
  | some o => exact join_bd (ha _ (gl_some g)) hy
theorem join_bdT {a b : Sta} {k : Nat} (ha : BdT k a) (hb : BdT k b) : BdT (k + k + k + 2) (joinT a b) := by
  have e : BdT (k + k + k + 2) (false, [], []) := ⟨by simp, by simp, by simp, by simp⟩
  have up : ∀ {s : Sta}, BdT k s → BdT (k + k + k + 2) s := fun h => ⟨by have := h.1; omega, fun b hb => by have := h.2.1 b hb; omega, by have := h.2.2.1; omega, fun l hl => bd_up (h.2.2.2 l hl) (by omega)⟩
  unfold joinT
  split
  · split
    · split
      · exact up hb
      · split
        · exact up ha
        · refine ⟨?_, fun v hv => ?_, ?_, fun l hl => ?_⟩
          · have h1 := setJ_len a.2.1 b.2.1 b.2.1 (setJ a.2.1 b.2.1 a.2.1 a.2.1)
            have h2 := setJ_len a.2.1 b.2.1 a.2.1 a.2.1
            have := ha.1; have := hb.1
            show (setJ a.2.1 b.2.1 (setJ a.2.1 b.2.1 a.2.1 a.2.1) b.2.1).length ≤ _
            omega
          · have hbl := both_len ha.2.1 hb.2.1 v.1
            rcases setJ_mem _ _ _ _ v hv with h | h
            · rcases setJ_mem _ _ _ _ v h with h | h
              · have := ha.2.1 v h; omega
              · rw [h]; omega
            · rw [h]; omega
          · have h1 := putJ_len a.2.2 b.2.2 a.2.2
            have := ha.2.2.1; have := hb.2.2.1
            show (putJ a.2.2 a.2.2 b.2.2).length ≤ _
            omega
          · rcases putJ_mem _ _ _ l hl with h | ⟨y, h1, rfl⟩
            · exact bd_up (ha.2.2.2 l h) (by omega)
            · exact bd_up (oneJ_bd ha.2.2.2 (hb.2.2.2 y h1)) (by omega)
    · exact e
  · exact e
end Go.PL
end
section
open Go Go.PG Go.PL
set_option linter.all false
namespace Go.PL
theorem setJ_ok {a b V l : List Bv} (h : RisesB V ∧ ∀ v, v ∈ V → v.2 = norm v.2) : RisesB (setJ a b V l) ∧ ∀ v, v ∈ setJ a b V l → v.2 = norm v.2 := by
  refine ⟨(setJ_spec a b l V h.1).1, fun v hv => ?_⟩
  rcases setJ_mem a b l V v hv with q | q
  · exact h.2 v q
  · rw [q]; exact (norm_norm _).symm
theorem putJ_ok {a L l : List Lc} (h : RisesL L ∧ ∀ v, v ∈ L → PlaceA v.1 ∧ MayO v.2) (ha : ∀ v, v ∈ a → PlaceA v.1 ∧ MayO v.2) (hl : ∀ v, v ∈ l → PlaceA v.1 ∧ MayO v.2) : RisesL (putJ a L l) ∧ ∀ v, v ∈ putJ a L l → PlaceA v.1 ∧ MayO v.2 := by
  refine ⟨putJ_up a l L h.1, fun v hv => ?_⟩
  rcases putJ_mem a l L v hv with q | ⟨y, q, rfl⟩
  · exact h.2 v q
  · exact oneJ_ok ha (hl y q)
theorem joinT_ok {a b : Sta} (ma : MayS a) (mb : MayS b) (ha : ¬ a.1 = true) (hb : ¬ b.1 = true) : joinT a b = (false, setJ a.2.1 b.2.1 (setJ a.2.1 b.2.1 a.2.1 a.2.1) b.2.1, putJ a.2.2 a.2.2 b.2.2) := by
  unfold joinT; rw [if_pos ma, if_pos mb, if_neg ha, if_neg hb]
theorem joinT_may {a b : Sta} (ma : MayS a) (mb : MayS b) : MayS (joinT a b) := by
  by_cases ha : a.1 = true
  · unfold joinT; rw [if_pos ma, if_pos mb, if_pos ha]; exact mb
  by_cases hb : b.1 = true
  · unfold joinT; rw [if_pos ma, if_pos mb, if_neg ha, if_pos hb]; exact ma
  rw [joinT_ok ma mb ha hb]
  exact mayS_mk (setJ_ok (setJ_ok ma.1)) (putJ_ok ma.2.1 ma.2.1.2 mb.2.1.2)
theorem few_mk {V : List Bv} {L : List Lc} {k : Nat} (hk : k ≤ 100000) (h1 : V.length ≤ k) (h2 : ∀ b, b ∈ V → b.2.length ≤ k) (h3 : L.length ≤ k) (h4 : ∀ l, l ∈ L → Bd k l.2) : FewT (false, V, L) :=
  ⟨by simp only; omega, fun b hb => by have := h2 b hb; omega, by simp only; omega, fun l hl => bd_few (h4 l hl) hk⟩
end Go.PL
end
section
open Go Go.PG Go.PL
set_option linter.all false
namespace Go.PL
def mj : Option Sp → Option Sp → Option Sp
  | some p, some o => some (join p o)
  | none, some o => some o
  | p, none => p
def OkO (p : Option Sp) : Prop := ∀ o, p = some o → MayO o
theorem mj_comm {p q : Option Sp} (hp : OkO p) (hq : OkO q) : mj p q = mj q p := by
  cases p with
  | none => cases q <;> rfl
  | some p =>
    cases q with
    | none => rfl
    | some o => exact congrArg some (join_comm (hp p rfl) (hq o rfl))
theorem mj_assoc {p q r : Option Sp} (hp : OkO p) (hq : OkO q) (hr : OkO r) : mj (mj p q) r = mj p (mj q r) := by
  cases p with
  | none => cases q <;> cases r <;> rfl
  | some p =>
    cases q with
    | none => cases r <;> rfl
    | some o =>
      cases r with
      | none => rfl
      | some r => exact congrArg some (join_assoc (hp p rfl) (hq o rfl) (hr r rfl))
theorem gl_okO {l : List Lc} (h : ∀ b, b ∈ l → PlaceA b.1 ∧ MayO b.2) (x : At) : OkO (gl l x) := fun o g => gl_ok h g
theorem gl_put {a b : List Lc} (ha : RisesL a) (hb : RisesL b) (x : At) : gl (putJ a a b) x = mj (gl a x) (gl b x) := by
  rw [putJ_spec a b a ha hb x]
  cases g : gl b x with
  | none => cases gl a x <;> rfl
  | some o =>
    show some (oneJ a (x, o)).2 = _
    unfold oneJ
    try dsimp only
    cases gl a x <;> rfl
theorem canon_null : Canon [((0 : Int), (0 : Int))] := canon_iff.1 (norm_one.2 (by unfold RightA; omega))
theorem var_canon {l : List Bv} (h : ∀ v, v ∈ l → v.2 = norm v.2) (n : ByteArray) : Canon (var l n) := by
  unfold var
  split
  · rename_i b hb; exact canon_iff.1 (h b (getV_mem hb).1)
  · exact canon_null
theorem gv_join {a b : List Bv} (ha : RisesB a) (hb : RisesB b) (n : ByteArray) : gv (setJ a b (setJ a b a a) b) n = if (gv a n).isSome = true ∨ (gv b n).isSome = true then some (both a b n) else none := by
  have ex : ∀ l : List Bv, RisesB l → ((∃ v, v ∈ l ∧ v.1 = n) ↔ (gv l n).isSome = true) := fun l hl => by
    constructor
    · rintro ⟨v, h1, h2⟩
      have : gv l n = some v.2 := gv_mem hl (by rw [← h2]; exact h1)
      rw [this]; rfl
    · intro h
      cases g : gv l n with
      | none => rw [g] at h; cases h
      | some v => exact ⟨(n, v), gv_some g, rfl⟩
  obtain ⟨s1, s2⟩ := setJ_spec a b a a ha
  rw [(setJ_spec a b b _ s1).2, s2]
  by_cases q : (gv b n).isSome = true
  · rw [if_pos ((ex b hb).2 q), if_pos (.inr q)]
  · rw [if_neg (fun z => q ((ex b hb).1 z))]
    by_cases q2 : (gv a n).isSome = true
    · rw [if_pos ((ex a ha).2 q2), if_pos (.inl q2)]
    · rw [if_neg (fun z => q2 ((ex a ha).1 z)), if_neg (fun z => z.elim q2 q)]
      cases g : gv a n with
      | none => rfl
      | some v => rw [g] at q2; exact absurd rfl q2
end Go.PL
end
section
open Go Go.PG Go.PL
set_option linter.all false
namespace Go.PL
def leO (p q : Option Sp) : Prop := ∀ o, p = some o → ∃ o', q = some o' ∧ WithinO o o'
theorem leO_mj {p q p' q' : Option Sp} (oq : OkO q') (op : OkO p') (h1 : leO p p') (h2 : leO q q') : leO (mj p q) (mj p' q') := by
  have left : ∀ {u o : Sp}, WithinO u o → OkO (some o) → ∀ {r : Option Sp}, OkO r → ∃ o', mj (some o) r = some o' ∧ WithinO u o' := by
    intro u o hu ho r hr
    cases r with
    | none => exact ⟨o, rfl, hu⟩
    | some r => exact ⟨join o r, rfl, within_trans hu (within_join_left (ho o rfl) (hr r rfl))⟩
  have right : ∀ {u o : Sp}, WithinO u o → OkO (some o) → ∀ {r : Option Sp}, OkO r → ∃ o', mj r (some o) = some o' ∧ WithinO u o' := by
    intro u o hu ho r hr
    cases r with
    | none => exact ⟨o, rfl, hu⟩
    | some r => exact ⟨join r o, rfl, within_trans hu (within_join_right (hr r rfl) (ho o rfl))⟩
  intro o ho
  cases p with
  | none =>
    cases q with
    | none => cases ho
    | some q =>
      injection ho with ho
      subst ho
      obtain ⟨z, rfl, hz⟩ := h2 q rfl
      exact right hz oq op
  | some p =>
    obtain ⟨y, rfl, hy⟩ := h1 p rfl
    cases q with
    | none =>
      injection ho with ho
      subst ho
      exact left hy op oq
    | some q =>
      injection ho with ho
      subst ho
      obtain ⟨z, rfl, hz⟩ := h2 q rfl
      have my := op y rfl
      have mz := oq z rfl
      exact ⟨join y z, rfl, join_least (within_trans hy (within_join_left my mz)) (within_trans hz (within_join_right my mz))⟩
def WinS (A B : List Bv) (L M : List Lc) : Prop := (∀ n, Within (var A n) (var B n)) ∧ ∀ x, leO (gl L x) (gl M x)
theorem within_views {a b : Sta} (ma : MayS a) (mb : MayS b) (da : ¬ a.1 = true) : WithinT a b ↔ b.1 = false ∧ WinS a.2.1 b.2.1 a.2.2 b.2.2 := by
  have hvar : ∀ {l : List Bv} {n : ByteArray}, gv l n = none → var l n = [(0, 0)] := fun h => by rw [var_gv, h]; rfl
  constructor
  · rintro ⟨_, _, h⟩
    obtain ⟨h1, h2, h3, h4⟩ := h.resolve_left da
    refine ⟨h1, fun n => ?_, fun x o g => ?_⟩
    · cases g : gv a.2.1 n with
      | some v => have := h2 _ (gv_some g); rw [var_gv, g]; exact this
      | none =>
        cases g2 : gv b.2.1 n with
        | some v => have := h3 _ (gv_some g2); rw [var_gv b.2.1, g2]; exact this
        | none => rw [hvar g, hvar g2]; exact fun _ z => z
    · obtain ⟨q1, q2⟩ := h4 _ (gl_some g)
      try dsimp only at q1 q2
      rw [gl_locR] at q1 q2
      cases g2 : gl b.2.2 x with
      | none => rw [g2] at q1; cases q1
      | some p => rw [g2] at q2; exact ⟨p, rfl, q2⟩
  · rintro ⟨h1, h2, h3⟩
    refine ⟨ma, mb, .inr ⟨h1, fun v hv => ?_, fun v hv => ?_, fun l hl => ?_⟩⟩
    · have := h2 v.1; rwa [var_of_mem ma.1.1 hv] at this
    · have := h2 v.1; rwa [var_of_mem mb.1.1 hv] at this
    · obtain ⟨p, g, q⟩ := h3 l.1 l.2 (gl_mem ma.2.1.1 hl)
      rw [gl_locR, g]
      exact ⟨rfl, q⟩
end Go.PL
end
section
open Go Go.PG Go.PL
set_option linter.all false
namespace Go.PL
end Go.PL
end
section
open Go Go.PG Go.PL
set_option linter.all false
namespace Go.PL
def B (l : List UInt8) : ByteArray := ⟨l.toArray⟩
end Go.PL
end
section
open Go Go.PG Go.PL
set_option linter.all false
namespace Go.PL
end Go.PL
end
section
open Go Go.PG Go.PL
set_option linter.all false
namespace Go.PL
theorem at_concatB (a b : List Bv) (h : a.length + b.length ≤ 2000000000000) : slConcatBind K [a, b] = some (a ++ b) := by
  have run1 : ∀ f : Int × Int → Option ((Int × Int) ⊕ (Int ⊕ List Bv)), f (0, 0) = some (.inl ((a.length : Int), 1)) → f ((a.length : Int), 1) = some (.inl (((a.length + b.length : Nat) : Int), 2)) →
      f (((a.length + b.length : Nat) : Int), 2) = some (.inr (.inl ((a.length + b.length : Nat) : Int))) → P.iter K f (0, 0) = some (.inl ((a.length + b.length : Nat) : Int)) := by
    intro f h1 h2 h3
    rw [iter_step (by unfold K; omega) h1, iter_step (by unfold K; omega) h2, iter_done (by unfold K; omega) h3]
  have run2 : ∀ f : List Bv × Int → Option ((List Bv × Int) ⊕ (List Bv ⊕ List Bv)), f ([], 0) = some (.inl (a, 1)) → f (a, 1) = some (.inl (a ++ b, 2)) →
      f (a ++ b, 2) = some (.inr (.inl (a ++ b))) → P.iter K f ([], 0) = some (.inl (a ++ b)) := by
    intro f h1 h2 h3
    rw [iter_step (by unfold K; omega) h1, iter_step (by unfold K; omega) h2, iter_done (by unfold K; omega) h3]
  have l0 : P.ilt (0 : Int) (P.len [a, b]) = true := rfl
  have l1 : P.ilt (1 : Int) (P.len [a, b]) = true := rfl
  have l2 : P.ilt (2 : Int) (P.len [a, b]) = false := rfl
  have i0 : P.inb (0 : Int) (P.len [a, b]) = true := rfl
  have i1 : P.inb (1 : Int) (P.len [a, b]) = true := rfl
  have g0 : P.get [a, b] (0 : Int) [] = a := rfl
  have g1 : P.get [a, b] (1 : Int) [] = b := rfl
  have w1 : P.wrap IntKind.i64 (P.add (0 : Int) (1 : Int)) = 1 := by rw [wrap_i64 (by decide) (by decide)]; rfl
  have w2 : P.wrap IntKind.i64 (P.add (1 : Int) (1 : Int)) = 2 := by rw [wrap_i64 (by decide) (by decide)]; rfl
  have s1 : P.wrap IntKind.i64 (P.add (0 : Int) (P.len a)) = (a.length : Int) := by rw [show P.add (0 : Int) (P.len a) = ((a.length : Nat) : Int) from by simp [P.add, P.len], wrap_nat (by omega)]
  have s2 : P.wrap IntKind.i64 (P.add (a.length : Int) (P.len b)) = ((a.length + b.length : Nat) : Int) := by rw [show P.add (a.length : Int) (P.len b) = ((a.length + b.length : Nat) : Int) from by simp [P.add, P.len], wrap_nat (by omega)]
  have loop : ∀ E : List Bv, E = [] → P.bind (P.iter K (fun (y : List (ByteArray × List (Int × Int)) × Int) => P.cond (P.ilt y.snd (P.len [a, b])) (P.cond (P.inb y.snd (P.len [a, b])) (P.cond (P.room (P.add (P.len y.fst) (P.len (P.get [a, b] y.snd []))) 40) (some (Sum.inl (P.app y.fst (P.get [a, b] y.snd []), P.wrap IntKind.i64 (P.add y.snd ((1 : Int)))))) none) none) (some (Sum.inr (Sum.inl y.fst)))) (E, (0 : Int))) (P.either (fun (z : List (ByteArray × List (Int × Int))) => some z) fun (r : List (ByteArray × List (Int × Int))) => some r) = some (a ++ b) := by
    rintro E rfl
    rw [run2 _ ?_ ?_ ?_]
    · rfl
    · try dsimp only
      rw [l0, cond_true, i0, cond_true, g0, w1, show P.room (P.add (P.len ([] : List Bv)) (P.len a)) 40 = true from by rw [len_eq, len_eq, room_nat]; simp; omega]; rfl
    · try dsimp only
      rw [l1, cond_true, i1, cond_true, g1, w2, show P.room (P.add (P.len a) (P.len b)) 40 = true from by rw [len_eq, len_eq, room_nat]; omega]; rfl
    · try dsimp only
      rw [l2]; rfl
  unfold slConcatBind
  rw [run1 _ ?_ ?_ ?_]
  · rw [bind_some, either_inl, show P.ilt (((a.length + b.length : Nat) : Int)) (0 : Int) = false from by rw [Bool.eq_false_iff, Ne, ilt_iff]; omega, cond_false, wrap0, wrap_sub0 (by omega)]
    by_cases h0 : P.ilt (0 : Int) (((a.length + b.length : Nat) : Int)) = true
    · rw [h0, cond_true, show P.cut (0 : Int) 0 0 = true from by decide, cond_true, cond_true, show P.room (((a.length + b.length : Nat) : Int)) 40 = true from by rw [room_iff]; omega, cond_true, show P.cut (0 : Int) 0 (P.len (P.rep (((a.length + b.length : Nat) : Int)) ((ByteArray.mk #[], []) : Bv))) = true from by rw [cut_iff, len_eq]; omega, cond_true]
      exact loop _ (by simp [P.sub_])
    · rw [Bool.eq_false_iff.2 h0, cond_false]
      exact loop _ rfl
  · try dsimp only
    rw [l0, cond_true, i0, cond_true, g0, w1, s1, show P.ilt (a.length : Int) (0 : Int) = false from by rw [Bool.eq_false_iff, Ne, ilt_iff]; omega]; rfl
  · try dsimp only
    rw [l1, cond_true, i1, cond_true, g1, w2, s2, show P.ilt (((a.length + b.length : Nat) : Int)) (0 : Int) = false from by rw [Bool.eq_false_iff, Ne, ilt_iff]; omega]; rfl
  · try dsimp only
    rw [l2]; rfl
theorem st_var (s : Sta) (n : ByteArray) (h : FewT s) : state_Var K (s, n) = some (var s.2.1 n) := by
  unfold state_Var
  try dsimp only
  have h1 := h.1
  rw [loop_find s.2.1 dB (fun b => b.1 = n) (fun b => b.2) (by omega) ?_ ?_]
  · unfold var getV
    cases s.2.1.find? fun b => decide (b.1 = n) with
    | none => rfl
    | some b => rfl
  · intro i hi
    have hm := getD_mem hi dB
    try dsimp only
    rw [ilt_len hi, cond_true, inb_len hi, cond_true, get_dB, seq_dec, cond_dec, wrap_succ (by omega)]
    by_cases q : (s.2.1.getD i dB).1 = n
    · rw [if_pos q, if_pos q, show P.ile (0 : Int) (i : Int) = true from ile_iff.2 (by omega), cond_true, cond_true, at_clone K _ (by have := h.2.1 _ hm; omega), bind_some, map_some']
    · rw [if_neg q, if_neg q]
  · try dsimp only
    rw [ilt_end]; rfl
theorem var_own {l : List Bv} (h : RisesB l) {v : Bv} (hv : v ∈ l) : var l v.1 = v.2 := by
  rw [var_gv, gv_mem h hv]; rfl
theorem within_app8 {a b : Sta} (ma : MayS a) (mb : MayS b) : (∀ v, v ∈ a.2.1 ++ b.2.1 → Within (var a.2.1 v.1) (var b.2.1 v.1)) ↔ (∀ v, v ∈ a.2.1 → Within v.2 (var b.2.1 v.1)) ∧ (∀ v, v ∈ b.2.1 → Within (var a.2.1 v.1) v.2) := by
  constructor
  · intro h
    refine ⟨fun v hv => ?_, fun v hv => ?_⟩
    · have := h v (List.mem_append_left _ hv)
      rwa [var_own ma.1.1 hv] at this
    · have := h v (List.mem_append_right _ hv)
      rwa [var_own mb.1.1 hv] at this
  · rintro ⟨h1, h2⟩ v hv
    rcases List.mem_append.1 hv with q | q
    · rw [var_own ma.1.1 q]; exact h1 v q
    · rw [var_own mb.1.1 q]; exact h2 v q
theorem st_within (a b : Sta) (ha : FewT a) (hb : FewT b) : state_Within K (a, b) = some (decide (WithinT a b)) := by
  unfold state_Within
  try dsimp only
  rw [st_may a ha, bind_some, cond_ndec, st_may b hb, bind_some, cond_ndec]
  by_cases m1 : MayS a
  case neg => rw [if_neg m1, decide_eq_false (fun z : WithinT a b => m1 z.1)]
  by_cases m2 : MayS b
  case neg => rw [if_pos m1, if_neg m2, decide_eq_false (fun z : WithinT a b => m2 z.2.1)]
  rw [if_pos m1, if_pos m2]
  by_cases da : a.1 = true
  · rw [cond_of da, da, decide_eq_true (show WithinT a b from ⟨m1, m2, .inl da⟩)]
  have da' : a.1 = false := by simpa using da
  rw [cond_of' da]
  by_cases db : b.1 = true
  · rw [cond_of db, da', decide_eq_false (fun z : WithinT a b => by
      rcases z.2.2 with y | y
      · exact da y
      · rw [db] at y; exact absurd y.1 (by simp))]
  rw [cond_of' db, at_concatB _ _ (by have := ha.1; have := hb.1; omega), bind_some]
  have db' : b.1 = false := by simpa using db
  have hl : (a.2.1 ++ b.2.1).length ≤ 200000 := by rw [List.length_append]; have := ha.1; have := hb.1; omega
  have e1 := within_app8 m1 m2
  generalize hr : a.2.1 ++ b.2.1 = r at hl e1 ⊢
  rw [loop_all r.length (fun i => Within (var a.2.1 (r.getD i dB).1) (var b.2.1 (r.getD i dB).1)) (r := false) (by omega) ?_ ?_]
  · rw [loop_all a.2.2.length (fun i => (locR b.2.2 (a.2.2.getD i dL).1).2 = true ∧ WithinO (a.2.2.getD i dL).2 (locR b.2.2 (a.2.2.getD i dL).1).1) (r := false) (by have := ha.2.2.1; omega) ?_ ?_]
    · have f1 := forall_getD (l := r) dB (p := fun v => Within (var a.2.1 v.1) (var b.2.1 v.1))
      have f3 := forall_getD (l := a.2.2) dL (p := fun l => (locR b.2.2 l.1).2 = true ∧ WithinO l.2 (locR b.2.2 l.1).1)
      by_cases z1 : ∀ i, i < r.length → Within (var a.2.1 (r.getD i dB).1) (var b.2.1 (r.getD i dB).1)
      · obtain ⟨y1, y2⟩ := e1.1 (f1.1 z1)
        by_cases z3 : ∀ i, i < a.2.2.length → (locR b.2.2 (a.2.2.getD i dL).1).2 = true ∧ WithinO (a.2.2.getD i dL).2 (locR b.2.2 (a.2.2.getD i dL).1).1
        · rw [if_pos z1, if_pos z3, decide_eq_true (show WithinT a b from ⟨m1, m2, .inr ⟨db', y1, y2, f3.1 z3⟩⟩)]
        · rw [if_pos z1, if_neg z3, decide_eq_false (fun z : WithinT a b => by
            rcases z.2.2 with y | y
            · exact da y
            · exact z3 (f3.2 y.2.2.2))]
      · rw [if_neg z1, decide_eq_false (fun z : WithinT a b => by
          rcases z.2.2 with y | y
          · exact da y
          · exact z1 (f1.2 (e1.2 ⟨y.2.1, y.2.2.1⟩)))]
    · intro i hi
      try dsimp only
      have hm := getD_mem hi dL
      rw [ilt_len hi, cond_true, inb_len hi, cond_true, get_nat, st_loc b _ hb, bind_some, ob_within _ _ (ha.2.2.2 _ hm) (loc_few hb _), bind_some, cond_ndec, wrap_succ (by have := ha.2.2.1; omega)]
      cases q : (locR b.2.2 (a.2.2.getD i dL).1).2
      · rw [not_false', cond_true, if_neg (fun z => by cases z.1)]
      · rw [not_true, cond_false]
        by_cases y : WithinO (a.2.2.getD i dL).2 (locR b.2.2 (a.2.2.getD i dL).1).1
        · rw [if_pos y, if_pos ⟨rfl, y⟩]
        · rw [if_neg y, if_neg (fun z => y z.2)]
    · try dsimp only
      rw [ilt_end]; rfl
  · intro i hi
    try dsimp only
    rw [ilt_len hi, cond_true, inb_len hi, cond_true, get_dB, st_var a _ ha, bind_some, st_var b _ hb, bind_some, at_within _ _ (by have := var_few ha (r.getD i dB).1; omega) (by have := var_few hb (r.getD i dB).1; omega), bind_some, cond_ndec, wrap_succ (by omega)]
    by_cases y : Within (var a.2.1 (r.getD i dB).1) (var b.2.1 (r.getD i dB).1)
    · rw [if_pos y, if_pos y]
    · rw [if_neg y, if_neg y]
  · try dsimp only
    rw [ilt_end]; rfl
end Go.PL
end
section
open Go Go.PG Go.PL
set_option linter.all false
set_option maxHeartbeats 1000000
namespace Go.PL
theorem setJ_two (a b V l m : List Bv) : setJ a b V (l ++ m) = setJ a b (setJ a b V l) m := by unfold setJ; rw [List.foldl_append]
theorem st_join (a b : Sta) {k : Nat} (ha : BdT k a) (hb : BdT k b) (hk : k ≤ 1000) : state_Join K (a, b) = some (joinT a b) := by
  have haf := bd_fewT ha (by omega)
  have hbf := bd_fewT hb (by omega)
  unfold state_Join
  try dsimp only
  rw [st_may a haf, bind_some, cond_ndec, st_may b hbf, bind_some, cond_ndec]
  by_cases ma : MayS a
  case neg => rw [if_neg ma]; unfold joinT; rw [if_neg ma]
  by_cases mb : MayS b
  case neg => rw [if_pos ma, if_neg mb]; unfold joinT; rw [if_pos ma, if_neg mb]
  rw [if_pos ma, if_pos mb]
  by_cases da : a.1 = true
  · rw [cond_of da, copy_vars b hbf ?_ ?_]
    · rw [copy_locs b hbf ?_ ?_]
      · unfold joinT; rw [if_pos ma, if_pos mb, if_pos da]
      · intro i hi
        try dsimp only
        rw [ilt_len hi, cond_true, inb_len hi, cond_true]
      · try dsimp only
        rw [ilt_end]; rfl
    · intro i hi
      try dsimp only
      rw [ilt_len hi, cond_true, inb_len hi, cond_true]
    · try dsimp only
      rw [ilt_end]; rfl
  by_cases db : b.1 = true
  · rw [cond_of' da, cond_of db, copy_vars a haf ?_ ?_]
    · rw [copy_locs a haf ?_ ?_]
      · unfold joinT; rw [if_pos ma, if_pos mb, if_neg da, if_pos db]
      · intro i hi
        try dsimp only
        rw [ilt_len hi, cond_true, inb_len hi, cond_true]
      · try dsimp only
        rw [ilt_end]; rfl
    · intro i hi
      try dsimp only
      rw [ilt_len hi, cond_true, inb_len hi, cond_true]
    · try dsimp only
      rw [ilt_end]; rfl
  rw [cond_of' da, cond_of' db, joinT_ok ma mb da db, copy_vars a haf ?_ ?_]
  rotate_left
  · intro i hi
    try dsimp only
    rw [ilt_len hi, cond_true, inb_len hi, cond_true]
  · try dsimp only
    rw [ilt_end]; rfl
  rw [copy_locs a haf ?_ ?_]
  rotate_left
  · intro i hi
    try dsimp only
    rw [ilt_len hi, cond_true, inb_len hi, cond_true]
  · try dsimp only
    rw [ilt_end]; rfl
  try dsimp only
  have da' : a.1 = false := by simpa using da
  rw [at_concatB _ _ (by have := ha.1; have := hb.1; omega), bind_some, da', ← setJ_two]
  obtain ⟨a1, a2, a3, a4⟩ := ha
  obtain ⟨b1, b2, b3, b4⟩ := hb
  have bl := both_len a2 b2
  have mA : RisesB a.2.1 ∧ ∀ v, v ∈ a.2.1 → v.2 = norm v.2 := ma.1
  have hrl : (a.2.1 ++ b.2.1).length ≤ k + k := by rw [List.length_append]; omega
  have sv1 : ∀ l v, v ∈ setJ a.2.1 b.2.1 a.2.1 l → v.2.length ≤ 4 * k + 2 := fun l v hv => by
    rcases setJ_mem _ _ _ _ v hv with q | q
    · have := a2 v q; omega
    · rw [q]; have := bl v.1; omega
  have uni : ∀ n, atoms_Union K (var a.2.1 n, var b.2.1 n) = some (both a.2.1 b.2.1 n) := fun n => at_union _ _ (by have := var_bd a2 n; have := var_bd b2 n; omega)
  generalize hr : a.2.1 ++ b.2.1 = r at hrl ⊢
  rw [loop_st r.length (fun j => (false, setJ a.2.1 b.2.1 a.2.1 (r.take j), a.2.2)) _ (false, setJ a.2.1 b.2.1 a.2.1 r, a.2.2) (by omega) (by simp only [List.take_zero]; rfl) (by simp) ?_ ?_]
  · have lV1 := setJ_len a.2.1 b.2.1 r a.2.1
    generalize setJ a.2.1 b.2.1 a.2.1 r = V at lV1
    try dsimp only
    rw [loop_st b.2.2.length (fun j => (false, V, putJ a.2.2 a.2.2 (b.2.2.take j))) _ (false, V, putJ a.2.2 a.2.2 b.2.2) (by omega) (by simp only [List.take_zero]; rfl) (by simp) ?_ ?_]
    · intro j hj
      have hm := getD_mem hj dL
      have hy := mb.2.1.2 _ hm
      have hyb := b4 _ hm
      have hok := putJ_ok (a := a.2.2) (L := a.2.2) (l := b.2.2.take j) ma.2.1 ma.2.1.2 (take_all mb.2.1.2 j)
      have hlen := putJ_len a.2.2 (b.2.2.take j) a.2.2
      have htl : (b.2.2.take j).length ≤ k := by rw [List.length_take]; omega
      have h2 := oneJ_bd a4 hyb
      try dsimp only
      rw [ilt_len hj, cond_true, inb_len hj, cond_true, get_dL, st_loc a _ haf, bind_some, take_getD' hj dL, putJ_app]
      generalize putJ a.2.2 a.2.2 (b.2.2.take j) = L at hok hlen ⊢
      have hL : L.length ≤ 2 * k := by omega
      have step : ∀ (x : At) (o : Sp), FewS o → ∃ m, m ≤ L.length ∧ (∀ i, i < m → ltA (L.getD i dL).1 x) ∧ (m < L.length → ¬ ltA (L.getD m dL).1 x) ∧ (L.take m ++ (x, o) :: L.drop m = L.take m ++ (x, o) :: L.drop m) := fun x o _ => ⟨_, fstK_le (lt := ltA) (key := fun b : Lc => b.1) L x, fstK_lt (lt := ltA) (key := fun b : Lc => b.1) dL L x, fstK_at (lt := ltA) (key := fun b : Lc => b.1) dL L x, rfl⟩
      rw [gl_locR]
      have e0 : (oneJ a.2.2 (b.2.2.getD j dL)).1 = (b.2.2.getD j dL).1 := rfl
      cases g : gl a.2.2 (b.2.2.getD j dL).1
      case' none =>
        have e2 : oneJ a.2.2 (b.2.2.getD j dL) = ((b.2.2.getD j dL).1, (b.2.2.getD j dL).2) := by unfold oneJ; rw [g]
        rw [e2] at h2 ⊢
        try dsimp only
        rw [cond_false]
        have ho := bd_few hyb (by omega)
        generalize (b.2.2.getD j dL).2 = o at ho ⊢
      case' some o' =>
        have e2 : oneJ a.2.2 (b.2.2.getD j dL) = ((b.2.2.getD j dL).1, join o' (b.2.2.getD j dL).2) := by unfold oneJ; rw [g]
        rw [e2] at h2 ⊢
        have ob := a4 _ (gl_some g)
        try dsimp only
        rw [cond_true, ob_join _ _ (bd_few ob (by omega)) (bd_few hyb (by omega)), bind_some]
        have ho := bd_few h2 (by omega)
        have ho : FewS (join o' (b.2.2.getD j dL).2) := ho
        generalize join o' (b.2.2.getD j dL).2 = o at ho ⊢
      all_goals (
        generalize (b.2.2.getD j dL).1 = x
        have hkl := fstK_le (lt := ltA) (key := fun b : Lc => b.1) L x
        have hlo := fstK_lt (lt := ltA) (key := fun b : Lc => b.1) dL L x
        have hat := fstK_at (lt := ltA) (key := fun b : Lc => b.1) dL L x
        generalize fstK ltA (fun b : Lc => b.1) L x = q at hkl hlo hat
        obtain ⟨q1, q2, q3⟩ := split_at ordA (key := fun b : Lc => b.1) hok.1 dL (x, o) q hkl hlo hat
        have hstep : ∀ i : Nat, i < q → i < L.length := fun i hi => by omega
        by_cases hl : q < L.length
        · rw [loop_first q (.inr (.inl (((j + 1 : Nat) : Int), false, V, insL L (x, o)))) (by omega) ?_ ?_]
          · rw [either_inr]
          · intro i hi
            have hi2 := hstep i hi
            obtain ⟨r, hr, hlt⟩ := at_compare (L.getD i dL).1 x
            try dsimp only
            rw [ilt_len hi2, cond_true, inb_len hi2, cond_true, get_dL, hr, bind_some, show P.ile (0 : Int) r = false from by rw [Bool.eq_false_iff, Ne, ile_iff]; exact fun z => hlt.1 z (hlo i hi), cond_false, wrap_succ (by omega)]
          · obtain ⟨r, hr, hlt⟩ := at_compare (L.getD q dL).1 x
            try dsimp only
            rw [ilt_len hl, cond_true, inb_len hl, cond_true, get_dL, hr, bind_some, show P.ile (0 : Int) r = true from ile_iff.2 (hlt.2 (hat hl)), cond_true, show P.ile (0 : Int) (q : Int) = true from ile_iff.2 (by omega), cond_true, cond_true, cond_true, eqA_dec, cond_dec, ob_copy o ho, bind_some, bind_some, lt_one, cond_true, cond_true, wrap_succ (by omega), wrap_succ (by omega)]
            by_cases e : (L.getD q dL).1 = x
            · rw [if_pos e, show P.cut (q : Int) ((q + 1 : Nat) : Int) (P.len L) = true from cut_iff.2 (by rw [len_eq]; omega), cond_true, show P.cut (0 : Int) (q : Int) (P.len (P.delAt L (q : Int) ((q + 1 : Nat) : Int))) = true from cut_iff.2 (by rw [len_eq, delAt_len hl]; omega), cond_true,
                room_one _ _ 64 (by rw [delAt_len hl]; omega) (by omega), cond_true, map_some', del_ins hl, q1, q2 hl e]
              rfl
            · rw [if_neg e, show P.cut (0 : Int) (q : Int) (P.len L) = true from cut_iff.2 (by rw [len_eq]; omega), cond_true, room_one _ _ 64 (by omega) (by omega), cond_true, map_some', ins_at, q1, q3 (fun _ => e)]
              rfl
        · have hq : q = L.length := by omega
          subst hq
          rw [loop_first L.length (.inl ()) (by omega) ?_ ?_]
          · rw [either_inl, show P.ile (0 : Int) (-1 : Int) = false from rfl, cond_false, show P.ilt (P.len L) (P.len L) = false from by rw [Bool.eq_false_iff, Ne, ilt_iff]; omega, cond_false, ob_copy o ho, bind_some, lt_one, cond_true, show P.cut (0 : Int) (P.len L) (P.len L) = true from cut_iff.2 (by rw [len_eq]; omega), cond_true,
              room_one _ _ 64 (by omega) (by omega), cond_true, len_eq, ins_at, q1, q3 (fun z => absurd z (by omega)), wrap_succ (by omega)]
            rfl
          · intro i hi
            have hi2 := hstep i hi
            obtain ⟨r, hr, hlt⟩ := at_compare (L.getD i dL).1 x
            try dsimp only
            rw [ilt_len hi2, cond_true, inb_len hi2, cond_true, get_dL, hr, bind_some, show P.ile (0 : Int) r = false from by rw [Bool.eq_false_iff, Ne, ile_iff]; exact fun z => hlt.1 z (hlo i hi), cond_false, wrap_succ (by omega)]
          · try dsimp only
            rw [ilt_end, cond_false])
    · try dsimp only
      rw [ilt_end]; rfl
  · intro j hj
    have lV1 := setJ_len a.2.1 b.2.1 (r.take j) a.2.1
    have htl : (r.take j).length ≤ k + k := by rw [List.length_take]; omega
    have oV := setJ_ok (a := a.2.1) (b := b.2.1) (l := r.take j) mA
    have hbl := bl (r.getD j dB).1
    try dsimp only
    rw [ilt_len hj, cond_true, inb_len hj, cond_true, get_dB, st_var a _ haf, bind_some, st_var b _ hbf, bind_some, uni, bind_some, take_getD' hj dB, setJ_app]
    have hnn : norm (both a.2.1 b.2.1 (r.getD j dB).1) = both a.2.1 b.2.1 (r.getD j dB).1 := norm_norm _
    generalize both a.2.1 b.2.1 (r.getD j dB).1 = v at hbl hnn ⊢
    generalize (r.getD j dB).1 = n
    generalize setJ a.2.1 b.2.1 a.2.1 (r.take j) = V at lV1 oV ⊢
    have hV : V.length ≤ 3 * k := by omega
    have hkl := fstK_le (lt := ltS) (key := fun b : Bv => b.1) V n
    have hlo := fstK_lt (lt := ltS) (key := fun b : Bv => b.1) dB V n
    have hat := fstK_at (lt := ltS) (key := fun b : Bv => b.1) dB V n
    generalize fstK ltS (fun b : Bv => b.1) V n = q at hkl hlo hat
    obtain ⟨q1, q2, q3⟩ := split_at ordS (key := fun b : Bv => b.1) oV.1 dB (n, v) q hkl hlo hat
    have hstep : ∀ i : Nat, i < q → i < V.length := fun i hi => by omega
    by_cases hl : q < V.length
    · rw [loop_first q (.inr (.inl (((j + 1 : Nat) : Int), false, insB V (n, v), a.2.2))) (by omega) ?_ ?_]
      · rw [either_inr]
      · intro i hi
        have hi2 := hstep i hi
        try dsimp only
        rw [ilt_len hi2, cond_true, inb_len hi2, cond_true, get_dB, slt_dec, cond_ndec, if_pos (hlo i hi), wrap_succ (by omega)]
      · try dsimp only
        rw [ilt_len hl, cond_true, inb_len hl, cond_true, get_dB, slt_dec, cond_ndec, if_neg (hat hl), show P.ile (0 : Int) (q : Int) = true from ile_iff.2 (by omega), cond_true, cond_true, cond_true, seq_dec, cond_dec, at_norm' v (by omega), bind_some, bind_some, hnn, lt_one, cond_true, cond_true, wrap_succ (by omega), wrap_succ (by omega)]
        by_cases e : (V.getD q dB).1 = n
        · rw [if_pos e, show P.cut (q : Int) ((q + 1 : Nat) : Int) (P.len V) = true from cut_iff.2 (by rw [len_eq]; omega), cond_true, show P.cut (0 : Int) (q : Int) (P.len (P.delAt V (q : Int) ((q + 1 : Nat) : Int))) = true from cut_iff.2 (by rw [len_eq, delAt_len hl]; omega), cond_true,
            room_one _ _ 40 (by rw [delAt_len hl]; omega) (by omega), cond_true, map_some', del_ins hl, q1, q2 hl e]
          rfl
        · rw [if_neg e, show P.cut (0 : Int) (q : Int) (P.len V) = true from cut_iff.2 (by rw [len_eq]; omega), cond_true, room_one _ _ 40 (by omega) (by omega), cond_true, map_some', ins_at, q1, q3 (fun _ => e)]
          rfl
    · have hq : q = V.length := by omega
      subst hq
      rw [loop_first V.length (.inl ()) (by omega) ?_ ?_]
      · rw [either_inl, show P.ile (0 : Int) (-1 : Int) = false from rfl, cond_false, show P.ilt (P.len V) (P.len V) = false from by rw [Bool.eq_false_iff, Ne, ilt_iff]; omega, cond_false, at_norm' v (by omega), bind_some, hnn, lt_one, cond_true, show P.cut (0 : Int) (P.len V) (P.len V) = true from cut_iff.2 (by rw [len_eq]; omega), cond_true,
          room_one _ _ 40 (by omega) (by omega), cond_true, len_eq, ins_at, q1, q3 (fun z => absurd z (by omega)), wrap_succ (by omega)]
        rfl
      · intro i hi
        have hi2 := hstep i hi
        try dsimp only
        rw [ilt_len hi2, cond_true, inb_len hi2, cond_true, get_dB, slt_dec, cond_ndec, if_pos (hlo i hi), wrap_succ (by omega)]
      · try dsimp only
        rw [ilt_end, cond_false]
  · try dsimp only
    rw [ilt_end]; rfl
end Go.PL
end
section
open Go Go.PG Go.PL
set_option linter.all false
namespace Go.PL
def o8 : Sta := (false, [(⟨#[120]⟩, [(2, 0)])], [])
def j8 : Sta := (false, [(⟨#[120]⟩, [(0, 0), (2, 0)])], [])
def s8 : Sta := (false, [(⟨#[120]⟩, [(2, 0)]), (⟨#[121]⟩, [(0, 0)])], [])
def p8 : Sta := (false, [(⟨#[120]⟩, [(2, 0)])], [((4, 0), ([(⟨#[112]⟩, true, [(2, 0)])], [(0, 0)]))])
theorem one8 (k : Nat) : law08_one k () = some o8 := rfl
theorem jn8 : joinT o8 (false, [], []) = j8 := by decide +kernel
theorem st8 : setT o8 ⟨#[121]⟩ [(0, 0)] = s8 := by decide +kernel
theorem pt8 : putT o8 (4, 0) ([(⟨#[112]⟩, true, [(2, 0)])], [(0, 0)]) = p8 := by decide +kernel
theorem tj8 : state_Text K j8 = some ⟨#[120, 58, 32, 110, 117, 108, 108, 32, 110, 117, 109, 10]⟩ := by decide +kernel
theorem ts8 : state_Text K s8 = some ⟨#[120, 58, 32, 110, 117, 109, 10, 121, 58, 32, 110, 117, 108, 108, 10]⟩ := by decide +kernel
theorem tp8 : state_Text K p8 = some ⟨#[120, 58, 32, 110, 117, 109, 10, 114, 101, 99, 48, 58, 32, 112, 33, 40, 110, 117, 109, 41, 32, 112, 114, 111, 116, 111, 32, 40, 110, 117, 108, 108, 41, 10]⟩ := by decide +kernel
theorem td8 : state_Text K (true, [], []) = some ⟨#[100, 101, 97, 100, 10]⟩ := by decide +kernel
theorem nul8 (k : Nat) : ref06_Null k () = some [(0, 0)] := rfl
theorem num8 (k : Nat) : ref06_Num k () = some [(2, 0)] := rfl
theorem bo8 : BdT 40 o8 := small_bdT (by decide)
theorem be8 : BdT 40 ((false, [], []) : Sta) := small_bdT (by decide)
theorem fixed8 : law08_fixed K () = some true := by
  have fo : FewT o8 := bd_fewT bo8 (by omega)
  have fj : FewT j8 := small_fewT (by decide)
  have fp : FewT p8 := small_fewT (by decide)
  unfold law08_fixed
  simp only [one8, nul8, num8, bind_some, st_join _ _ bo8 be8 (by omega), jn8, st_set o8 _ [(0, 0)] fo (by simp), st8, st_put o8 (4, 0) ([(⟨#[112]⟩, true, [(2, 0)])], [(0, 0)]) fo (by decide), pt8, st_loc p8 _ fp, tj8, ts8, tp8, st_may p8 fp, st_within o8 j8 fo fj, st_within j8 o8 fj fo, st_var o8 _ fo, ref_same _ [(0, 0)] (show (var o8.2.1 ⟨#[122]⟩).length ≤ 8796093022100 from by decide), td8]
  decide +kernel
end Go.PL
end
section
open Go Go.PG Go.PL
set_option linter.all false
namespace Go.PL
theorem g8 {b : Bool} {F X : Option Bool} (h : b = true → X = some true) (hF : F = some true := by first | rfl | (rw [fixed8]; rfl)) : P.cond (P.not b) F X = some true := by
  cases b
  · rw [show P.not false = true from rfl, cond_true, hF]
  · rw [show P.not true = false from rfl, cond_false]; exact h rfl
theorem g8d {b : Bool} {F X : Option Bool} (h : ¬ b = true → X = some true) (hF : F = some true := by first | rfl | (rw [fixed8]; rfl)) : P.cond b F X = some true := by
  cases b
  · rw [cond_false]; exact h (by simp)
  · rw [cond_true, hF]
theorem set_bd {s : Sta} {k : Nat} (h : BdT k s) (n : ByteArray) {v : List At} (hv : v.length ≤ k) : BdT (k + 1) (setT s n v) := by
  have up : BdT (k + 1) s := ⟨by have := h.1; omega, fun b hb => by have := h.2.1 b hb; omega, by have := h.2.2.1; omega, fun l hl => bd_up (h.2.2.2 l hl) (by omega)⟩
  unfold setT
  split
  · split
    · exact ⟨by simp, by simp, by simp, by simp⟩
    · refine ⟨?_, fun b hb => ?_, up.2.2.1, up.2.2.2⟩
      · have : (insB s.2.1 (n, norm v)).length ≤ s.2.1.length + 1 := insK_len1 (key := fun b : Bv => b.1) ordS s.2.1 (n, norm v)
        have := h.1
        show (insB s.2.1 (n, norm v)).length ≤ _
        omega
      · rcases (insK_mem (key := fun b : Bv => b.1) ordS).1 hb with q | q
        · subst q; have := norm_length v; show (norm v).length ≤ _; omega
        · exact up.2.1 b q.1
  · exact ⟨by simp, by simp, by simp, by simp⟩
theorem putT_bd {s : Sta} {k : Nat} (h : BdT k s) (x : At) {o : Sp} (ho : Bd k o) : BdT (k + 1) (putT s x o) := by
  have e : ∀ b, BdT (k + 1) (b, [], []) := fun b => ⟨by simp, by simp, by simp, by simp⟩
  have up : BdT (k + 1) s := ⟨by have := h.1; omega, fun b hb => by have := h.2.1 b hb; omega, by have := h.2.2.1; omega, fun l hl => bd_up (h.2.2.2 l hl) (by omega)⟩
  unfold putT
  split
  · split
    · split
      · split
        · exact e _
        · refine ⟨up.1, up.2.1, ?_, fun b hb => ?_⟩
          · have : (insL s.2.2 (x, o)).length ≤ s.2.2.length + 1 := insK_len1 (key := fun b : Lc => b.1) ordA s.2.2 (x, o)
            have := h.2.2.1
            show (insL s.2.2 (x, o)).length ≤ _
            omega
          · rcases (insK_mem (key := fun b : Lc => b.1) ordA).1 hb with q | q
            · subst q; exact bd_up ho (by omega)
            · exact up.2.2.2 b q.1
      · exact e _
    · exact e _
  · exact e _
theorem small_one {o : Sp} {x : At} (h : SmallT (false, [], [(x, o)])) : Bd 40 o := by
  have := h.2.2.2 (x, o) (by simp)
  exact ⟨this.1, this.2.2, this.2.1⟩
theorem sets8 (x : Sta × (ByteArray × At) × Sp) : law08_StateSets K x = some true := by
  obtain ⟨s, ⟨n, a⟩, o⟩ := x
  unfold law08_StateSets
  try dsimp only
  rw [ref_small8 s, bind_some]
  refine g8 fun hs => ?_
  rw [ref_small8 _, bind_some]
  refine g8 fun ho => ?_
  have hs := of_decide_eq_true hs
  have ho := small_one (of_decide_eq_true ho)
  have fs := small_fewT hs
  have fo := bd_few ho (by decide)
  have b1 := bd_fewT (set_bd (small_bdT hs) n (v := o.2) ho.2.2) (by omega)
  have b2 := bd_fewT (putT_bd (small_bdT hs) a ho) (by omega)
  have hl := ho.2.2
  rw [fixed8, bind_some, cond_true, st_set s n o.2 fs (by omega), bind_some, ref_set s n o.2 fs (by omega), bind_some, ref_same8 _ _ b1, bind_some, decide_eq_true rfl, cond_true, st_put s a o fs fo, bind_some, ref_put s a o fs fo, bind_some, ref_same8 _ _ b2, bind_some, decide_eq_true rfl]
theorem gv_var {l : List Bv} {n : ByteArray} (h : gv l n = none) : var l n = [(0, 0)] := by rw [var_gv, h]; rfl
theorem both_comm (a b : List Bv) (n : ByteArray) : both a b n = both b a n := canon_ext (norm_canon _) (norm_canon _) fun z => by
  unfold both; rw [mem_norm, mem_norm, List.mem_append, List.mem_append]; exact ⟨fun h => ⟨h.1.symm, h.2⟩, fun h => ⟨h.1.symm, h.2⟩⟩
abbrev jV (a b : List Bv) : List Bv := setJ a b (setJ a b a a) b
abbrev VOk (l : List Bv) : Prop := RisesB l ∧ ∀ v, v ∈ l → v.2 = norm v.2
abbrev LOk (l : List Lc) : Prop := RisesL l ∧ ∀ v, v ∈ l → PlaceA v.1 ∧ MayO v.2
theorem jV_ok {a b : List Bv} (ha : VOk a) : VOk (jV a b) := setJ_ok (setJ_ok ha)
theorem var_join {a b : List Bv} (ha : VOk a) (hb : VOk b) (n : ByteArray) : var (jV a b) n = both a b n := by
  rw [var_gv, gv_join ha.1 hb.1]
  by_cases q : (gv a n).isSome = true ∨ (gv b n).isSome = true
  · rw [if_pos q]; rfl
  · rw [if_neg q]
    have h1 : gv a n = none := by simpa using fun z => q (.inl z)
    have h2 : gv b n = none := by simpa using fun z => q (.inr z)
    unfold both
    rw [gv_var h1, gv_var h2]
    decide +kernel
theorem some_join {a b : List Bv} (ha : VOk a) (hb : VOk b) (n : ByteArray) : (gv (jV a b) n).isSome = true ↔ (gv a n).isSome = true ∨ (gv b n).isSome = true := by
  rw [gv_join ha.1 hb.1]
  by_cases q : (gv a n).isSome = true ∨ (gv b n).isSome = true
  · rw [if_pos q]; exact ⟨fun _ => q, fun _ => rfl⟩
  · rw [if_neg q]; exact ⟨fun h => by simp at h, fun h => absurd h q⟩
theorem vars_ext {a b : List Bv} (ha : VOk a) (hb : VOk b) (h1 : ∀ n, (gv a n).isSome = true ↔ (gv b n).isSome = true) (h2 : ∀ n, var a n = var b n) : a = b := by
  refine gv_ext ha.1 hb.1 fun n => ?_
  have q1 := h1 n
  have q2 := h2 n
  rw [var_gv, var_gv] at q2
  cases g : gv a n with
  | none =>
    cases g2 : gv b n with
    | none => rfl
    | some v => rw [g, g2] at q1; exact absurd (q1.2 rfl) (by simp)
  | some u =>
    cases g2 : gv b n with
    | none => rw [g, g2] at q1; exact absurd (q1.1 rfl) (by simp)
    | some v => rw [g, g2] at q2; exact congrArg some q2
theorem mj_same {p : Option Sp} (hp : OkO p) : mj p p = p := by
  cases p with
  | none => rfl
  | some o => exact congrArg some (join_absorb (within_refl (hp o rfl)))
theorem leO_mjl {p q : Option Sp} (hp : OkO p) (hq : OkO q) : leO p (mj p q) := by
  intro o e
  subst e
  cases q with
  | none => exact ⟨o, rfl, within_refl (hp o rfl)⟩
  | some o' => exact ⟨_, rfl, within_join_left (hp o rfl) (hq o' rfl)⟩
theorem jV_comm {a b : List Bv} (ha : VOk a) (hb : VOk b) : jV a b = jV b a := vars_ext (jV_ok ha) (jV_ok hb) (fun n => by rw [some_join ha hb, some_join hb ha]; exact Or.comm) fun n => by rw [var_join ha hb, var_join hb ha, both_comm]
theorem both_assoc (a b c d e : List Bv) (n : ByteArray) (hd : var d n = both a b n) (he : var e n = both b c n) : both d c n = both a e n := canon_ext (norm_canon _) (norm_canon _) fun z => by
  unfold both at *
  rw [mem_norm, mem_norm, List.mem_append, List.mem_append, hd, he, mem_norm, mem_norm, List.mem_append, List.mem_append]
  constructor
  · rintro ⟨⟨h1 | h1, _⟩ | h1, h2⟩
    · exact ⟨.inl h1, h2⟩
    · exact ⟨.inr ⟨.inl h1, h2⟩, h2⟩
    · exact ⟨.inr ⟨.inr h1, h2⟩, h2⟩
  · rintro ⟨h1 | ⟨h1 | h1, _⟩, h2⟩
    · exact ⟨.inl ⟨.inl h1, h2⟩, h2⟩
    · exact ⟨.inl ⟨.inr h1, h2⟩, h2⟩
    · exact ⟨.inr h1, h2⟩
theorem jV_assoc {a b c : List Bv} (ha : VOk a) (hb : VOk b) (hc : VOk c) : jV (jV a b) c = jV a (jV b c) := vars_ext (jV_ok (jV_ok ha)) (jV_ok ha) (fun n => by rw [some_join (jV_ok ha) hc, some_join ha hb, some_join ha (jV_ok hb), some_join hb hc]; exact or_assoc) fun n => by
  rw [var_join (jV_ok ha) hc, var_join ha (jV_ok hb)]
  exact both_assoc a b c _ _ n (var_join ha hb n) (var_join hb hc n)
theorem both_same {a : List Bv} (ha : VOk a) (n : ByteArray) : both a a n = var a n := by
  have hc := var_canon ha.2 n
  exact canon_ext (norm_canon _) hc fun z => by
    unfold both; rw [mem_norm, List.mem_append, or_self]; exact ⟨fun h => h.1, fun h => ⟨h, hc.2 z h⟩⟩
theorem jV_same {a : List Bv} (ha : VOk a) : jV a a = a := vars_ext (jV_ok ha) ha (fun n => by rw [some_join ha ha, or_self]) fun n => by rw [var_join ha ha, both_same ha]
abbrev jL (a b : List Lc) : List Lc := putJ a a b
theorem jL_ok {a b : List Lc} (ha : LOk a) (hb : LOk b) : LOk (jL a b) := putJ_ok ha ha.2 hb.2
theorem jL_comm {a b : List Lc} (ha : LOk a) (hb : LOk b) : jL a b = jL b a := gl_ext (jL_ok ha hb).1 (jL_ok hb ha).1 fun x => by rw [gl_put ha.1 hb.1, gl_put hb.1 ha.1, mj_comm (gl_okO ha.2 x) (gl_okO hb.2 x)]
theorem jL_assoc {a b c : List Lc} (ha : LOk a) (hb : LOk b) (hc : LOk c) : jL (jL a b) c = jL a (jL b c) := gl_ext (jL_ok (jL_ok ha hb) hc).1 (jL_ok ha (jL_ok hb hc)).1 fun x => by
  rw [gl_put (jL_ok ha hb).1 hc.1, gl_put ha.1 hb.1, gl_put ha.1 (jL_ok hb hc).1, gl_put hb.1 hc.1, mj_assoc (gl_okO ha.2 x) (gl_okO hb.2 x) (gl_okO hc.2 x)]
theorem jL_same {a : List Lc} (ha : LOk a) : jL a a = a := gl_ext (jL_ok ha ha).1 ha.1 fun x => by rw [gl_put ha.1 ha.1, mj_same (gl_okO ha.2 x)]
theorem dead_eq {a : Sta} (m : MayS a) (d : a.1 = true) : a = (true, [], []) := by
  obtain ⟨x, V, L⟩ := a
  obtain ⟨h1, h2⟩ := m.2.2 d
  have d : x = true := d
  have h1 : V = [] := h1
  have h2 : L = [] := h2
  subst d; subst h1; subst h2; rfl
theorem live_eq {a : Sta} (d : ¬ a.1 = true) : a = (false, a.2.1, a.2.2) := Prod.ext (by simpa using d) rfl
theorem join_dl {a b : Sta} (ma : MayS a) (mb : MayS b) (d : a.1 = true) : joinT a b = b := by unfold joinT; rw [if_pos ma, if_pos mb, if_pos d]
theorem join_dr {a b : Sta} (ma : MayS a) (mb : MayS b) (d : b.1 = true) : joinT a b = a := by
  by_cases e : a.1 = true
  · rw [join_dl ma mb e, dead_eq ma e, dead_eq mb d]
  · unfold joinT; rw [if_pos ma, if_pos mb, if_neg e, if_pos d]
theorem join_live {a b : Sta} (ma : MayS a) (mb : MayS b) (da : ¬ a.1 = true) (db : ¬ b.1 = true) : joinT a b = (false, jV a.2.1 b.2.1, jL a.2.2 b.2.2) := joinT_ok ma mb da db
theorem join_comm8 {a b : Sta} (ma : MayS a) (mb : MayS b) : joinT a b = joinT b a := by
  by_cases da : a.1 = true
  · rw [join_dl ma mb da, join_dr mb ma da]
  by_cases db : b.1 = true
  · rw [join_dr ma mb db, join_dl mb ma db]
  rw [join_live ma mb da db, join_live mb ma db da, jV_comm ma.1 mb.1, jL_comm ⟨ma.2.1.1, ma.2.1.2⟩ ⟨mb.2.1.1, mb.2.1.2⟩]
theorem join_same8 {a : Sta} (ma : MayS a) : joinT a a = a := by
  by_cases da : a.1 = true
  · rw [join_dl ma ma da]
  rw [join_live ma ma da da, jV_same ma.1, jL_same ⟨ma.2.1.1, ma.2.1.2⟩]
  exact (live_eq da).symm
theorem join_assoc8 {a b c : Sta} (ma : MayS a) (mb : MayS b) (mc : MayS c) : joinT (joinT a b) c = joinT a (joinT b c) := by
  by_cases da : a.1 = true
  · rw [join_dl ma mb da, join_dl ma (joinT_may mb mc) da]
  by_cases db : b.1 = true
  · rw [join_dr ma mb db, join_dl mb mc db]
  by_cases dc : c.1 = true
  · rw [join_dr (joinT_may ma mb) mc dc, join_dr mb mc dc]
  have m1 := joinT_may ma mb
  have m2 := joinT_may mb mc
  rw [join_live ma mb da db] at m1 ⊢
  rw [join_live mb mc db dc] at m2 ⊢
  rw [join_live m1 mc (by simp) dc, join_live ma m2 da (by simp)]
  rw [jV_assoc ma.1 mb.1 mc.1, jL_assoc ma.2.1 mb.2.1 mc.2.1]
theorem within_join8 {a b : Sta} (ma : MayS a) (mb : MayS b) : WithinT a (joinT a b) := by
  have mj := joinT_may ma mb
  by_cases da : a.1 = true
  · exact ⟨ma, mj, .inl da⟩
  by_cases db : b.1 = true
  · rw [join_dr ma mb db]; exact withinT_refl ma
  refine (within_views ma mj da).2 ?_
  rw [join_live ma mb da db]
  refine ⟨rfl, fun n => ?_, fun x => ?_⟩
  · show Within (var a.2.1 n) (var (jV a.2.1 b.2.1) n)
    rw [var_join ma.1 mb.1]
    exact fun z hz => mem_norm.2 ⟨List.mem_append_left _ hz, (var_canon ma.1.2 n).2 z hz⟩
  · show leO (gl a.2.2 x) (gl (jL a.2.2 b.2.2) x)
    rw [gl_put ma.2.1.1 mb.2.1.1]
    exact leO_mjl (gl_okO ma.2.1.2 x) (gl_okO mb.2.1.2 x)
theorem join_least8 {a b c : Sta} (h1 : WithinT a c) (h2 : WithinT b c) : WithinT (joinT a b) c := by
  have ma := h1.1
  have mb := h2.1
  have mc := h1.2.1
  by_cases da : a.1 = true
  · rw [join_dl ma mb da]; exact h2
  by_cases db : b.1 = true
  · rw [join_dr ma mb db]; exact h1
  have mj := joinT_may ma mb
  obtain ⟨dc, q1, q2⟩ := (within_views ma mc da).1 h1
  obtain ⟨_, r1, r2⟩ := (within_views mb mc db).1 h2
  rw [join_live ma mb da db] at mj ⊢
  refine (within_views mj mc (by simp)).2 ⟨dc, fun n => ?_, fun x => ?_⟩
  · show Within (var (jV a.2.1 b.2.1) n) _
    rw [var_join ma.1 mb.1]
    exact fun z hz => ((List.mem_append.1 (mem_norm.1 hz).1).elim (q1 n z) (r1 n z))
  · show leO (gl (jL a.2.2 b.2.2) x) _
    rw [gl_put ma.2.1.1 mb.2.1.1]
    have := leO_mj (gl_okO mc.2.1.2 x) (gl_okO mc.2.1.2 x) (q2 x) (r2 x)
    rwa [mj_same (gl_okO mc.2.1.2 x)] at this
theorem join8 (x : Sta × Sta × Sta) : law08_StateJoin K x = some true := by
  obtain ⟨a, b, c⟩ := x
  unfold law08_StateJoin
  try dsimp only
  rw [fixed8, bind_some]
  refine g8 fun _ => ?_
  rw [ref_small8 a, bind_some]
  refine g8 fun sa => ?_
  rw [ref_small8 b, bind_some]
  refine g8 fun sb => ?_
  rw [ref_small8 c, bind_some]
  refine g8 fun sc => ?_
  have sa := of_decide_eq_true sa
  have sb := of_decide_eq_true sb
  have sc := of_decide_eq_true sc
  have fa := small_fewT sa
  have fb := small_fewT sb
  have fc := small_fewT sc
  have ba := small_bdT sa
  have bb := small_bdT sb
  have bc := small_bdT sc
  rw [st_may a fa, bind_some]
  refine g8 fun ma => ?_
  rw [st_may b fb, bind_some]
  refine g8 fun mb => ?_
  rw [st_may c fc, bind_some]
  refine g8 fun mc => ?_
  have ma := of_decide_eq_true ma
  have mb := of_decide_eq_true mb
  have mc := of_decide_eq_true mc
  have bj := join_bdT ba bb
  have bbc := join_bdT bb bc
  have up : ∀ {s : Sta}, BdT 40 s → BdT (40 + 40 + 40 + 2) s := fun h => ⟨by have := h.1; omega, fun b hb => by have := h.2.1 b hb; omega, by have := h.2.2.1; omega, fun l hl => bd_up (h.2.2.2 l hl) (by omega)⟩
  have fj := bd_fewT bj (by omega)
  have mj := joinT_may ma mb
  have fjc := bd_fewT (join_bdT bj (up bc)) (by omega)
  have fja := bd_fewT (join_bdT bj (up ba)) (by omega)
  have wl := within_join8 ma mb
  have wr : WithinT b (joinT a b) := by rw [join_comm8 ma mb]; exact within_join8 mb ma
  have again : joinT (joinT a b) a = joinT a b := by rw [join_comm8 ma mb, join_assoc8 mb ma ma, join_same8 ma]
  have nt : P.not true = false := rfl
  rw [st_join a b ba bb (by omega), bind_some, st_may _ fj, bind_some, decide_eq_true mj, nt, cond_false, st_within _ _ fa fj, bind_some, decide_eq_true wl, nt, cond_false, st_within _ _ fb fj, bind_some, decide_eq_true wr, nt, cond_false,
    st_within _ _ fa fa, bind_some, decide_eq_true (withinT_refl ma), nt, cond_false, st_join b a bb ba (by omega), bind_some, ref_same8 _ _ fj, bind_some, decide_eq_true (join_comm8 ma mb), nt, cond_false,
    st_join _ a bj (up ba) (by omega), bind_some, ref_same8 _ _ fja, bind_some, decide_eq_true again, nt, cond_false]
  have last : (P.bind (state_Join K (joinT a b, c)) fun r => P.bind (state_Join K (b, c)) fun r_12 => P.bind (state_Join K (a, r_12)) fun r_13 => P.bind (ref08_Same K (r, r_13)) fun (r : Bool) => some r) = some true := by
    rw [st_join _ c bj (up bc) (by omega), bind_some, st_join b c bb bc (by omega), bind_some, st_join a _ (up ba) bbc (by omega), bind_some, ref_same8 _ _ fjc, bind_some, decide_eq_true (join_assoc8 ma mb mc)]
  rw [st_within _ _ fa fc, bind_some]
  by_cases w1 : WithinT a c
  · rw [decide_eq_true w1, cond_true, st_within _ _ fb fc, bind_some]
    by_cases w2 : WithinT b c
    · rw [decide_eq_true w2, cond_true, st_within _ _ fj fc, bind_some, decide_eq_true (join_least8 w1 w2), nt, cond_false]
      exact last
    · rw [decide_eq_false w2, cond_false]; exact last
  · rw [decide_eq_false w1, cond_false]; exact last
theorem setT_live {s : Sta} (m : MayS s) (d : ¬ s.1 = true) (n : ByteArray) (v : List At) : setT s n v = (false, insB s.2.1 (n, norm v), s.2.2) := by
  unfold setT; rw [if_pos m, if_neg d]
  exact Prod.ext (by simpa using d) rfl
theorem insB_ok {l : List Bv} (h : VOk l) (n : ByteArray) (v : List At) : VOk (insB l (n, norm v)) := ⟨insK_up (key := fun b : Bv => b.1) ordS h.1 _, fun b hb => by
  rcases (insK_mem (key := fun b : Bv => b.1) ordS).1 hb with q | q
  · subst q; exact (norm_norm v).symm
  · exact h.2 b q.1⟩
theorem var_ins {l : List Bv} (h : RisesB l) (n : ByteArray) (v : List At) (m : ByteArray) : var (insB l (n, v)) m = if m = n then v else var l m := by
  rw [var_gv, gv_ins h]
  by_cases e : m = n
  · rw [if_pos e, if_pos e]; rfl
  · rw [if_neg e, if_neg e, var_gv]
theorem some_ins {l : List Bv} (h : RisesB l) (n : ByteArray) (v : List At) (m : ByteArray) : (gv (insB l (n, v)) m).isSome = true ↔ m = n ∨ (gv l m).isSome = true := by
  rw [gv_ins h]
  by_cases e : m = n
  · rw [if_pos e]; exact ⟨fun _ => .inl e, fun _ => rfl⟩
  · rw [if_neg e]; exact ⟨.inr, fun h => h.resolve_left e⟩
theorem join_sets {a b : List Bv} (ha : VOk a) (hb : VOk b) (n : ByteArray) (v : List At) : jV (insB a (n, norm v)) (insB b (n, norm v)) = insB (jV a b) (n, norm v) := by
  have h1 := insB_ok ha n v
  have h2 := insB_ok hb n v
  refine vars_ext (jV_ok h1) (insB_ok (jV_ok ha) n v) (fun m => ?_) fun m => ?_
  · rw [some_join h1 h2, some_ins ha.1, some_ins hb.1, some_ins (jV_ok (b := b) ha).1, some_join ha hb]
    constructor
    · rintro ((e | e) | (e | e))
      · exact .inl e
      · exact .inr (.inl e)
      · exact .inl e
      · exact .inr (.inr e)
    · rintro (e | e | e)
      · exact .inl (.inl e)
      · exact .inl (.inr e)
      · exact .inr (.inr e)
  · rw [var_join h1 h2, var_ins (jV_ok (b := b) ha).1, var_join ha hb]
    unfold both
    rw [var_ins ha.1, var_ins hb.1]
    by_cases e : m = n
    · rw [if_pos e, if_pos e, if_pos e]
      exact canon_ext (norm_canon _) (norm_canon _) fun z => by rw [mem_norm, List.mem_append, or_self, mem_norm]; exact ⟨fun h => h.1, fun h => ⟨h, h.2⟩⟩
    · rw [if_neg e, if_neg e, if_neg e]
theorem joined8 (x : Sta × Sta × ByteArray × At) : law08_StateJoined K x = some true := by
  obtain ⟨a, b, n, y⟩ := x
  unfold law08_StateJoined
  try dsimp only
  rw [fixed8, bind_some]
  refine g8 fun _ => ?_
  rw [ref_small8 a, bind_some]
  refine g8 fun sa => ?_
  rw [ref_small8 b, bind_some]
  refine g8 fun sb => ?_
  refine g8d fun da => g8d fun db => ?_
  have sa := of_decide_eq_true sa
  have sb := of_decide_eq_true sb
  have fa := small_fewT sa
  have fb := small_fewT sb
  have ba := small_bdT sa
  have bb := small_bdT sb
  rw [st_may a fa, bind_some]
  refine g8 fun ma => ?_
  rw [st_may b fb, bind_some]
  refine g8 fun mb => ?_
  have ma := of_decide_eq_true ma
  have mb := of_decide_eq_true mb
  have bj := join_bdT ba bb
  have fj := bd_fewT bj (by omega)
  have mj := joinT_may ma mb
  have va := var_few fa n
  have vb := var_few fb n
  have vj := var_few fj n
  have e1 : var (joinT a b).2.1 n = norm (var a.2.1 n ++ var b.2.1 n) := by rw [join_live ma mb da db]; exact var_join ma.1 mb.1 n
  have b1 := set_bd ba n (v := [(2, 0)]) (by simp)
  have b2 := set_bd bb n (v := [(2, 0)]) (by simp)
  have f2 := bd_fewT (join_bdT b1 b2) (by omega)
  have e2 : joinT (setT a n [(2, 0)]) (setT b n [(2, 0)]) = setT (joinT a b) n [(2, 0)] := by
    have hj : ¬ (joinT a b).1 = true := by rw [join_live ma mb da db]; simp
    have m1 : MayS (false, insB a.2.1 (n, norm [(2, 0)]), a.2.2) := mayS_mk (insB_ok ma.1 n _) ma.2.1
    have m2 : MayS (false, insB b.2.1 (n, norm [(2, 0)]), b.2.2) := mayS_mk (insB_ok mb.1 n _) mb.2.1
    rw [setT_live ma da, setT_live mb db, setT_live mj hj, join_live m1 m2 (by simp) (by simp), join_live ma mb da db]
    show ((false : Bool), jV _ _, jL _ _) = _
    rw [join_sets ma.1 mb.1]
  rw [st_join a b ba bb (by omega), bind_some, st_var _ n fj, bind_some, st_var a n fa, bind_some, st_var b n fb, bind_some, ref_union _ _ (by omega), bind_some, ref_same _ _ (by omega), bind_some, decide_eq_true e1, show P.not true = false from rfl, cond_false,
    num8, bind_some, st_set a n _ fa (by simp), bind_some, bind_some, st_set b n _ fb (by simp), bind_some, st_join _ _ b1 b2 (by omega), bind_some, bind_some, st_set _ n _ fj (by simp), bind_some, ref_same8 _ _ f2, bind_some, decide_eq_true e2]
end Go.PL
end
section
open Go Go.PG Go.PL
set_option linter.all false
namespace Go.PL
def wV (V l : List Bv) : List Bv := l.foldl (fun V v => insB V (v.1, norm (var V v.1))) V
theorem wV_spec : ∀ (l V : List Bv), VOk V → VOk (wV V l) ∧ (∀ n, var (wV V l) n = var V n) ∧ (∀ n, (gv (wV V l) n).isSome = true ↔ (gv V n).isSome = true ∨ ∃ v, v ∈ l ∧ v.1 = n) ∧ (wV V l).length ≤ V.length + l.length := by
  intro l
  induction l with
  | nil => intro V h; exact ⟨h, fun _ => rfl, fun n => ⟨.inl, fun q => q.elim id fun ⟨v, hv, _⟩ => (by cases hv)⟩, Nat.le_refl _⟩
  | cons y l ih =>
    intro V h
    obtain ⟨h1, h2, h3, h4⟩ := ih (insB V (y.1, norm (var V y.1))) (insB_ok h y.1 _)
    have hc : norm (var V y.1) = var V y.1 := (canon_iff.2 (var_canon h.2 y.1)).symm
    refine ⟨h1, fun n => ?_, fun n => ?_, ?_⟩
    · have := h2 n
      rw [var_ins h.1] at this
      rw [show wV V (y :: l) = wV (insB V (y.1, norm (var V y.1))) l from rfl, this]
      by_cases e : n = y.1
      · rw [if_pos e, hc, e]
      · rw [if_neg e]
    · rw [show wV V (y :: l) = wV (insB V (y.1, norm (var V y.1))) l from rfl, h3, some_ins h.1]
      constructor
      · rintro ((e | e) | ⟨v, hv, e⟩)
        · exact .inr ⟨y, by simp, e.symm⟩
        · exact .inl e
        · exact .inr ⟨v, List.mem_cons_of_mem _ hv, e⟩
      · rintro (e | ⟨v, hv, e⟩)
        · exact .inl (.inr e)
        · rcases List.mem_cons.1 hv with q | q
          · subst q; exact .inl (.inl e.symm)
          · exact .inr ⟨v, q, e⟩
    · have : (insB V (y.1, norm (var V y.1))).length ≤ V.length + 1 := insK_len1 (key := fun b : Bv => b.1) ordS V (y.1, norm (var V y.1))
      have e : wV V (y :: l) = wV (insB V (y.1, norm (var V y.1))) l := rfl
      rw [e, List.length_cons]; omega
theorem some_mem {l : List Bv} {n : ByteArray} : (gv l n).isSome = true ↔ ∃ v, v ∈ l ∧ v.1 = n := by
  constructor
  · intro h
    cases g : gv l n with
    | none => rw [g] at h; simp at h
    | some v => exact ⟨_, gv_some g, rfl⟩
  · rintro ⟨v, hv, e⟩
    cases g : gv l n with
    | none => exact absurd e (gv_none.1 g v hv)
    | some _ => rfl
theorem wV_snoc (V l : List Bv) (y : Bv) : wV V (l ++ [y]) = insB (wV V l) (y.1, norm (var (wV V l) y.1)) := by unfold wV; rw [List.foldl_append]; rfl
def whT (a b : Sta) : Sta := if a.1 = true then a else (false, wV a.2.1 b.2.1, a.2.2)
theorem wV_bd {V l : List Bv} {k : Nat} (h : VOk V) (hk : ∀ v, v ∈ V → v.2.length ≤ k) : ∀ v, v ∈ wV V l → v.2.length ≤ k + 1 := fun v hv => by
  obtain ⟨h1, h2, _, _⟩ := wV_spec l V h
  rw [← var_own h1.1 hv, h2]
  exact var_bd hk v.1
theorem whT_bd {a b : Sta} (ma : MayS a) (ha : BdT 40 a) (hb : BdT 40 b) : BdT 100 (whT a b) := by
  unfold whT
  split
  · exact ⟨by have := ha.1; omega, fun b hb => by have := ha.2.1 b hb; omega, by have := ha.2.2.1; omega, fun l hl => bd_up (ha.2.2.2 l hl) (by omega)⟩
  · refine ⟨?_, fun v hv => ?_, by have := ha.2.2.1; show a.2.2.length ≤ _; omega, fun l hl => bd_up (ha.2.2.2 l hl) (by omega)⟩
    · obtain ⟨_, _, _, h4⟩ := wV_spec b.2.1 a.2.1 ma.1
      have := ha.1; have := hb.1
      show (wV a.2.1 b.2.1).length ≤ _
      omega
    · have := wV_bd (l := b.2.1) ma.1 ha.2.1 v hv; omega
theorem at_whole (a b : Sta) (ma : MayS a) (ha : BdT 40 a) (hb : BdT 40 b) : law08_whole K (a, b) = some (whT a b) := by
  unfold law08_whole
  try dsimp only
  by_cases d : a.1 = true
  · unfold whT
    rw [if_pos d]
    rw [iter_done (by unfold K; omega) (r := .inl a) ?_]
    · rfl
    · try dsimp only
      rw [d, show P.not true = false from rfl, cond_false]
      cases P.ilt (0 : Int) (P.len b.2.1) <;> rfl
  · have fa := bd_fewT ha (by omega)
    unfold whT
    rw [if_neg d]
    have ea := live_eq d
    have h1 := ha.1
    have h2 := hb.1
    rw [loop_st b.2.1.length (fun i => (false, wV a.2.1 (b.2.1.take i), a.2.2)) a (false, wV a.2.1 b.2.1, a.2.2) (by omega) (by simp only [List.take_zero]; exact ea.symm) (by simp) ?_ ?_]
    · intro i hi
      obtain ⟨q1, _, _, q4⟩ := wV_spec (b.2.1.take i) a.2.1 ma.1
      have qb := wV_bd (l := b.2.1.take i) ma.1 ha.2.1
      have htl : (b.2.1.take i).length ≤ 40 := by rw [List.length_take]; omega
      have mk : MayS (false, wV a.2.1 (b.2.1.take i), a.2.2) := mayS_mk q1 ma.2.1
      have few : FewT (false, wV a.2.1 (b.2.1.take i), a.2.2) := few_mk (k := 100) (by omega) (by omega) (fun v hv => by have := qb v hv; omega) (by have := ha.2.2.1; omega) (fun l hl => bd_up (ha.2.2.2 l hl) (by omega))
      have hv := var_few few (b.2.1.getD i dB).1
      try dsimp only
      rw [ilt_len hi, cond_true, show P.not false = true from rfl, cond_true, inb_len hi, cond_true, cond_true, get_dB, ref_var _ _ (by show (wV a.2.1 (b.2.1.take i)).length ≤ _; omega), bind_some, ref_set _ _ _ few (by omega), bind_some, setT_ok mk, wrap_succ (by omega), take_getD' hi dB, wV_snoc]
    · try dsimp only
      rw [ilt_end]; rfl
theorem whole_iff {a b : Sta} (ma : MayS a) (mb : MayS b) : (WithinT a b ∧ WithinT b a) ↔ whT a b = whT b a := by
  by_cases da : a.1 = true
  · by_cases db : b.1 = true
    · have : a = b := (dead_eq ma da).trans (dead_eq mb db).symm
      subst this
      exact ⟨fun _ => rfl, fun _ => ⟨withinT_refl ma, withinT_refl ma⟩⟩
    · constructor
      · rintro ⟨_, h⟩
        have := ((within_views mb ma db).1 h).1
        rw [da] at this; cases this
      · intro h
        have := congrArg Prod.fst h
        unfold whT at this
        rw [if_pos da, if_neg db] at this
        rw [da] at this; cases this
  · by_cases db : b.1 = true
    · constructor
      · rintro ⟨h, _⟩
        have := ((within_views ma mb da).1 h).1
        rw [db] at this; cases this
      · intro h
        have := congrArg Prod.fst h
        unfold whT at this
        rw [if_neg da, if_pos db] at this
        rw [db] at this; cases this
    · have ea : whT a b = (false, wV a.2.1 b.2.1, a.2.2) := if_neg da
      have eb : whT b a = (false, wV b.2.1 a.2.1, b.2.2) := if_neg db
      obtain ⟨a1, a2, a3, _⟩ := wV_spec b.2.1 a.2.1 ma.1
      obtain ⟨b1, b2, b3, _⟩ := wV_spec a.2.1 b.2.1 mb.1
      rw [ea, eb]
      constructor
      · rintro ⟨h1, h2⟩
        obtain ⟨_, p1, p2⟩ := (within_views ma mb da).1 h1
        obtain ⟨_, q1, q2⟩ := (within_views mb ma db).1 h2
        have hV : wV a.2.1 b.2.1 = wV b.2.1 a.2.1 := vars_ext a1 b1 (fun n => by rw [a3, b3, some_mem, some_mem]; exact Or.comm) fun n => by
          rw [a2, b2]
          exact canon_ext (var_canon ma.1.2 n) (var_canon mb.1.2 n) fun z => ⟨p1 n z, q1 n z⟩
        have hL : a.2.2 = b.2.2 := gl_ext ma.2.1.1 mb.2.1.1 fun x => by
          cases g : gl a.2.2 x with
          | none =>
            cases g2 : gl b.2.2 x with
            | none => rfl
            | some o => obtain ⟨o', e, _⟩ := q2 x o g2; rw [g] at e; cases e
          | some o =>
            obtain ⟨o', e, w⟩ := p2 x o g
            obtain ⟨o2, e2, w2⟩ := q2 x o' e
            rw [g] at e2
            injection e2 with e2
            subst e2
            rw [e, within_antisymm w w2]
        rw [hV, hL]
      · intro h
        have hV : wV a.2.1 b.2.1 = wV b.2.1 a.2.1 := (Prod.mk.inj (Prod.mk.inj h).2).1
        have hL : a.2.2 = b.2.2 := (Prod.mk.inj (Prod.mk.inj h).2).2
        have hv : ∀ n, var a.2.1 n = var b.2.1 n := fun n => by rw [← a2 n, ← b2 n, hV]
        refine ⟨(within_views ma mb da).2 ⟨by simpa using db, fun n => ?_, fun x => ?_⟩, (within_views mb ma db).2 ⟨by simpa using da, fun n => ?_, fun x => ?_⟩⟩
        · rw [hv n]; exact fun _ z => z
        · rw [hL]; exact fun o e => ⟨o, e, within_refl (gl_okO mb.2.1.2 x o e)⟩
        · rw [hv n]; exact fun _ z => z
        · rw [← hL]; exact fun o e => ⟨o, e, within_refl (gl_okO ma.2.1.2 x o e)⟩
theorem within_trans8 {a b c : Sta} (h1 : WithinT a b) (h2 : WithinT b c) : WithinT a c := by
  have ma := h1.1
  have mb := h1.2.1
  have mc := h2.2.1
  by_cases da : a.1 = true
  · exact ⟨ma, mc, .inl da⟩
  obtain ⟨db, p1, p2⟩ := (within_views ma mb da).1 h1
  have db : ¬ b.1 = true := by rw [db]; simp
  obtain ⟨dc, q1, q2⟩ := (within_views mb mc db).1 h2
  refine (within_views ma mc da).2 ⟨dc, fun n z hz => q1 n z (p1 n z hz), fun x o e => ?_⟩
  obtain ⟨o1, e1, w1⟩ := p2 x o e
  obtain ⟨o2, e2, w2⟩ := q2 x o1 e1
  exact ⟨o2, e2, within_trans w1 w2⟩
theorem order8 (x : Sta × Sta × Sta) : law08_StateOrder K x = some true := by
  obtain ⟨a, b, c⟩ := x
  unfold law08_StateOrder
  try dsimp only
  rw [fixed8, bind_some]
  refine g8 fun _ => ?_
  rw [ref_small8 a, bind_some]
  refine g8 fun sa => ?_
  rw [ref_small8 b, bind_some]
  refine g8 fun sb => ?_
  rw [ref_small8 c, bind_some]
  refine g8 fun sc => ?_
  have sa := of_decide_eq_true sa
  have sb := of_decide_eq_true sb
  have sc := of_decide_eq_true sc
  have fa := small_fewT sa
  have fb := small_fewT sb
  have fc := small_fewT sc
  have ba := small_bdT sa
  have bb := small_bdT sb
  rw [st_may a fa, bind_some]
  refine g8 fun ma => ?_
  rw [st_may b fb, bind_some]
  refine g8 fun mb => ?_
  rw [st_may c fc, bind_some]
  refine g8 fun mc => ?_
  have ma := of_decide_eq_true ma
  have mb := of_decide_eq_true mb
  have fw := bd_fewT (whT_bd ma ba bb) (by omega)
  have key := whole_iff ma mb
  have tail : (P.bind (state_Within K (a, b)) fun (r : Bool) => P.cond r (P.bind (state_Within K (b, a)) fun (r : Bool) => P.bind (law08_whole K (a, b)) fun r_1 => P.bind (law08_whole K (b, a)) fun r_2 => P.bind (ref08_Same K (r_1, r_2)) fun (r_3 : Bool) => some (P.beq r r_3)) (P.bind (law08_whole K (a, b)) fun r => P.bind (law08_whole K (b, a)) fun r_1 => P.bind (ref08_Same K (r, r_1)) fun (r : Bool) => some (P.beq false r))) = some true := by
    rw [st_within _ _ fa fb, bind_some]
    simp only [at_whole a b ma ba bb, at_whole b a mb bb ba, bind_some, ref_same8 _ _ fw, st_within _ _ fb fa]
    by_cases w1 : WithinT a b
    · rw [decide_eq_true w1, cond_true]
      by_cases w2 : WithinT b a
      · rw [decide_eq_true w2, decide_eq_true (key.1 ⟨w1, w2⟩)]; rfl
      · rw [decide_eq_false w2, decide_eq_false (fun e => w2 (key.2 e).2)]; rfl
    · rw [decide_eq_false w1, cond_false, decide_eq_false (fun e => w1 (key.2 e).1)]; rfl
  by_cases w1 : WithinT a b
  · have e1 : state_Within K (a, b) = some true := by rw [st_within _ _ fa fb, decide_eq_true w1]
    have hT := tail
    rw [e1] at hT ⊢
    rw [bind_some, cond_true, st_within _ _ fb fc, bind_some]
    by_cases w2 : WithinT b c
    · rw [decide_eq_true w2, cond_true, st_within _ _ fa fc, bind_some, decide_eq_true (within_trans8 w1 w2), show P.not true = false from rfl, cond_false]
      exact hT
    · rw [decide_eq_false w2, cond_false]; exact hT
  · have e1 : state_Within K (a, b) = some false := by rw [st_within _ _ fa fb, decide_eq_false w1]
    have hT := tail
    rw [e1] at hT ⊢
    rw [bind_some, cond_false]
    exact hT
end Go.PL
end
section
open Go Go.PG Go.PL
set_option linter.all false
namespace Go.PL
theorem putT_live {s : Sta} (m : MayS s) (d : ¬ s.1 = true) {x : At} (hx : PlaceA x) {o : Sp} (ho : MayO o) : putT s x o = (false, s.2.1, insL s.2.2 (x, o)) := by
  unfold putT; rw [if_pos m, if_pos hx, if_pos ho, if_neg d]
  exact Prod.ext (by simpa using d) rfl
theorem insL_ok8 {l : List Lc} (h : LOk l) {x : At} (hx : PlaceA x) {o : Sp} (ho : MayO o) : LOk (insL l (x, o)) := ⟨insK_up (key := fun b : Lc => b.1) ordA h.1 _, fun b hb => by
  rcases (insK_mem (key := fun b : Lc => b.1) ordA).1 hb with q | q
  · subst q; exact ⟨hx, ho⟩
  · exact h.2 b q.1⟩
theorem loc_gl {l : List Lc} {x : At} {o : Sp} (g : gl l x = some o) : locR l x = (o, true) := by rw [gl_locR, g]
theorem apart8 (x : Sta × (ByteArray × At) × Sp) (h1 : x.2.2.1.length < 9223372036854775808) (h2 : ∀ f, f ∈ x.2.2.1 → f.2.2.length ≤ 8796093022000) (h3 : x.2.2.2.length ≤ 8796093022000) : law08_StateApart K x = some true := by
  obtain ⟨s, ⟨n, y⟩, o⟩ := x
  unfold law08_StateApart
  try dsimp only at h1 h2 h3 ⊢
  rw [fixed8, bind_some]
  refine g8 fun _ => ?_
  rw [ref_small8 s, bind_some]
  refine g8 fun ss => g8d fun d => ?_
  have ss := of_decide_eq_true ss
  have fs := small_fewT ss
  have bs := small_bdT ss
  rw [st_may s fs, bind_some]
  refine g8 fun m => ?_
  have m := of_decide_eq_true m
  rw [ref_may7B o h1 h2 h3, bind_some]
  refine g8 fun mo => ?_
  have mo := of_decide_eq_true mo
  rw [ref_place K y, bind_some]
  refine g8 fun py => ?_
  have py := of_decide_eq_true py
  rw [ref_small8 _, bind_some]
  refine g8 fun so => ?_
  have bo := small_one (of_decide_eq_true so)
  have fo := bd_few bo (by decide)
  have ho := bo.2.2
  have b1 := bd_fewT (set_bd bs n (v := o.2) ho) (by omega)
  have b2 := bd_fewT (putT_bd bs y bo) (by omega)
  have hnv : norm o.2 = o.2 := (canon_iff.2 (prot_canon mo)).symm
  have ea : setT s n o.2 = (false, insB s.2.1 (n, o.2), s.2.2) := by rw [setT_live m d, hnv]
  have eb : putT s y o = (false, s.2.1, insL s.2.2 (y, o)) := putT_live m d py mo
  have ma : MayS (setT s n o.2) := by rw [setT_live m d]; exact mayS_mk (insB_ok m.1 n o.2) m.2.1
  have mb : MayS (putT s y o) := by rw [eb]; exact mayS_mk m.1 (insL_ok8 m.2.1 py mo)
  have nt : P.not true = false := rfl
  have hgl : gl (insL s.2.2 (y, o)) y = some o := by rw [gl_ins m.2.1.1, if_pos rfl]
  have hvar : var (insB s.2.1 (n, o.2)) n = o.2 := by rw [var_ins m.1.1, if_pos rfl]
  rw [st_set s n _ fs (by omega), bind_some, st_put s y o fs fo, bind_some, st_loc _ y b2, bind_some, st_var _ n b1, bind_some, ref_same _ _ (by have := var_few b1 n; omega), bind_some]
  rw [decide_eq_true (show var (setT s n o.2).2.1 n = o.2 from by rw [ea]; exact hvar), nt, cond_false]
  rw [show locR (putT s y o).2.2 y = (o, true) from by rw [eb]; exact loc_gl hgl]
  try dsimp only
  rw [nt, cond_false, ref_same7 o o fo, bind_some, decide_eq_true rfl, nt, cond_false, st_may _ b1, bind_some, decide_eq_true ma, nt, cond_false, st_may _ b2, bind_some, decide_eq_true mb, nt, cond_false]
  have hV := ss.1
  have hL := ss.2.1
  rw [loop_all s.2.1.length (fun _ => True) (r := false) (by omega) ?_ ?_]
  · rw [if_pos (fun _ _ => trivial)]
    rw [loop_all s.2.2.length (fun _ => True) (r := false) (by omega) ?_ ?_]
    · rw [if_pos (fun _ _ => trivial)]
    · intro i hi
      have hm := getD_mem hi dL
      have fm := fs.2.2.2 _ hm
      have g0 : gl s.2.2 (s.2.2.getD i dL).1 = some (s.2.2.getD i dL).2 := gl_mem m.2.1.1 hm
      have g2 : gl (insL s.2.2 (y, o)) (s.2.2.getD i dL).1 = if (s.2.2.getD i dL).1 = y then some o else some (s.2.2.getD i dL).2 := by rw [gl_ins m.2.1.1, g0]
      try dsimp only
      rw [ilt_len hi, cond_true, inb_len hi, cond_true, get_dL, st_loc _ _ b1, bind_some, cond_true, st_loc _ _ b2, bind_some, if_pos trivial, wrap_succ (by omega)]
      rw [show locR (setT s n o.2).2.2 (s.2.2.getD i dL).1 = ((s.2.2.getD i dL).2, true) from by rw [ea]; exact loc_gl g0]
      try dsimp only
      rw [nt, cond_false]
      by_cases e : (s.2.2.getD i dL).1 = y
      · rw [if_pos e] at g2
        rw [show locR (putT s y o).2.2 (s.2.2.getD i dL).1 = (o, true) from by rw [eb]; exact loc_gl g2]
        try dsimp only
        rw [nt, cond_false, cond_true, ref_same7 _ _ fm, bind_some, decide_eq_true rfl, nt, cond_false, cond_true, eqA_dec, decide_eq_true e, nt, cond_false]
      · rw [if_neg e] at g2
        rw [show locR (putT s y o).2.2 (s.2.2.getD i dL).1 = ((s.2.2.getD i dL).2, true) from by rw [eb]; exact loc_gl g2]
        try dsimp only
        rw [nt, cond_false, cond_true, ref_same7 _ _ fm, bind_some, decide_eq_true rfl, nt, cond_false, cond_true, eqA_dec, decide_eq_false e, show P.not false = true from rfl, cond_true, cond_true, bind_some, nt, cond_false]
    · try dsimp only
      rw [ilt_end]; rfl
  · intro i hi
    have hm := getD_mem hi dB
    have v0 : var s.2.1 (s.2.1.getD i dB).1 = (s.2.1.getD i dB).2 := var_own m.1.1 hm
    have v1 : var (insB s.2.1 (n, o.2)) (s.2.1.getD i dB).1 = if (s.2.1.getD i dB).1 = n then o.2 else (s.2.1.getD i dB).2 := by rw [var_ins m.1.1, v0]
    have hl := fs.2.1 _ hm
    try dsimp only
    rw [ilt_len hi, cond_true, inb_len hi, cond_true, get_dB, st_var _ _ b2, bind_some, cond_true, if_pos trivial, wrap_succ (by omega)]
    rw [show var (putT s y o).2.1 (s.2.1.getD i dB).1 = (s.2.1.getD i dB).2 from by rw [eb]; exact v0, ref_same _ _ (by omega), bind_some, decide_eq_true rfl, nt, cond_false, seq_dec]
    by_cases e : (s.2.1.getD i dB).1 = n
    · rw [decide_eq_true e, nt, cond_false]
    · rw [if_neg e] at v1
      rw [decide_eq_false e, show P.not false = true from rfl, cond_true, st_var _ _ b1, bind_some, cond_true, show var (setT s n o.2).2.1 (s.2.1.getD i dB).1 = (s.2.1.getD i dB).2 from by rw [ea]; exact v1, ref_same _ _ (by omega), bind_some, decide_eq_true rfl, nt, cond_false]
  · try dsimp only
    rw [ilt_end]; rfl
end Go.PL
end

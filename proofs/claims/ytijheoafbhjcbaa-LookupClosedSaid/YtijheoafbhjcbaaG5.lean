/- Shapes: what a property is. -/
import Derived.Test.YtijheoafbhjcbaaG4
import Derived.Test.YtijheoafbhjcbaaG3
set_option linter.all false
section
/- Shapes: what a property is. -/
open Go Go.PG Go.PL
set_option linter.unusedVariables false
namespace Go.PL
/-- Few fields, of few atoms. -/
def FewS (s : Sp) : Prop := s.1.length ≤ 100000 ∧ (∀ f, f ∈ s.1 → f.2.2.length ≤ 100000) ∧ s.2.length ≤ 100000
theorem range_map {α : Type} (l : List α) (d : α) : (List.range l.length).map (fun i => l.getD i d) = l := by
  apply List.ext_getElem
  · simp
  · intro i h1 h2
    simp at h1
    simp [List.getD_eq_getElem?_getD, h1]
theorem find_range {ρ : Type} (l : List Fd) (n : ByteArray) (g : Fd → ρ) : (List.range l.length).findSome? (fun i => if (l.getD i dF).1 = n then some (g (l.getD i dF)) else none) = (get l n).map g := by
  have h : ∀ m : List Fd, m.findSome? (fun f => if f.1 = n then some (g f) else none) = (get m n).map g := by
    intro m
    induction m with
    | nil => rfl
    | cons f m ih =>
      simp only [List.findSome?_cons, get, List.find?_cons]
      by_cases q : f.1 = n
      · simp [q]
      · simp only [q, if_false, decide_false]
        exact ih
  conv => rhs; rw [← h l, ← range_map l dF]
  rw [List.findSome?_map]
  rfl
theorem mem_getD {l : List Fd} {i : Nat} (h : i < l.length) : l.getD i dF ∈ l := by
  rw [List.getD_eq_getElem?_getD, List.getElem?_eq_getElem h]
  exact List.getElem_mem _
/-- What Get answers. -/
def getR (l : List Fd) (n : ByteArray) : Fd × Bool := match get l n with
  | some f => (f, true)
  | none => (dF, false)
theorem getR_eq (l : List Fd) (n : ByteArray) : ((get l n).map fun f => (Sum.inr (f, true) : Unit ⊕ (Fd × Bool))).getD (.inl ()) = match get l n with
    | some f => .inr (f, true)
    | none => .inl () := by cases get l n <;> rfl

theorem ob_get (s : Sp) (n : ByteArray) (h : FewS s) : object_Get K (s, n) = some (getR s.1 n) := by
  unfold object_Get
  try dsimp only
  obtain ⟨h1, h2, h3⟩ := h
  have run : ∀ f : Int → Option (Int ⊕ (Unit ⊕ (Fd × Bool))), (∀ i : Nat, i < s.1.length → f (i : Int) = some (if (s.1.getD i dF).1 = n then .inr (.inr (s.1.getD i dF, true)) else .inl ((i + 1 : Nat) : Int))) → f (s.1.length : Int) = some (.inr (.inl ())) → P.iter K f 0 = some (match get s.1 n with
      | some f => .inr (f, true)
      | none => .inl ()) := by
    intro f hs he
    rw [iter_find0 (n := s.1.length) (e := .inl ()) (fun i => (if (s.1.getD i dF).1 = n then some (Sum.inr (s.1.getD i dF, true)) else none : Option (Unit ⊕ (Fd × Bool)))) K (fun i hi => by rw [hs i hi]; by_cases q : (s.1.getD i dF).1 = n <;> simp only [q, if_true, if_false]) he (by unfold K; omega), find_range s.1 n (fun f => (Sum.inr (f, true) : Unit ⊕ (Fd × Bool))), getR_eq]
  rw [run _ ?_ ?_]
  · rw [bind_some]
    unfold getR
    cases get s.1 n with
    | some f => rfl
    | none => rfl
  · intro i hi
    try dsimp only
    rw [show P.ilt (i : Int) (P.len s.1) = true from ilt_iff.2 (by rw [len_eq]; omega), cond_true, show P.inb (i : Int) (P.len s.1) = true from inb_iff.2 (by rw [len_eq]; omega), cond_true, cond_true, get_nat, wrap_succ (by omega), show P.ilt (i : Int) ((0 : Int)) = false from by rw [Bool.eq_false_iff, Ne, ilt_iff]; omega, cond_false, at_clone K (s.1.getD i dF).2.2 (by have := h2 _ (mem_getD hi); omega), bind_some]
    by_cases q : (s.1.getD i dF).1 = n
    · rw [if_pos q, show P.seq (s.1.getD i dF).1 n = true from seq_iff.2 q]; rfl
    · rw [if_neg q, show P.seq (s.1.getD i dF).1 n = false from by rw [Bool.eq_false_iff]; exact fun z => q (seq_iff.1 z)]; rfl
  · try dsimp only
    rw [show P.ilt (s.1.length : Int) (P.len s.1) = false from by rw [Bool.eq_false_iff, Ne, ilt_iff, len_eq]; omega]; rfl
theorem ref_get (s : Sp) (n : ByteArray) (h : s.1.length ≤ 1000000) : ref07_Get K (s, n) = some (getR s.1 n) := by
  unfold ref07_Get
  try dsimp only
  have run : ∀ f : Int → Option (Int ⊕ (Unit ⊕ (Fd × Bool))), (∀ i : Nat, i < s.1.length → f (i : Int) = some (if (s.1.getD i dF).1 = n then .inr (.inr (s.1.getD i dF, true)) else .inl ((i + 1 : Nat) : Int))) → f (s.1.length : Int) = some (.inr (.inl ())) → P.iter K f 0 = some (match get s.1 n with
      | some f => .inr (f, true)
      | none => .inl ()) := by
    intro f hs he
    rw [iter_find0 (n := s.1.length) (e := .inl ()) (fun i => (if (s.1.getD i dF).1 = n then some (Sum.inr (s.1.getD i dF, true)) else none : Option (Unit ⊕ (Fd × Bool)))) K (fun i hi => by rw [hs i hi]; by_cases q : (s.1.getD i dF).1 = n <;> simp only [q, if_true, if_false]) he (by unfold K; omega), find_range s.1 n (fun f => (Sum.inr (f, true) : Unit ⊕ (Fd × Bool))), getR_eq]
  rw [run _ ?_ ?_]
  · rw [bind_some]
    unfold getR
    cases get s.1 n with
    | some f => rfl
    | none => rfl
  · intro i hi
    try dsimp only
    simp only [show P.ilt (i : Int) (P.len s.1) = true from ilt_iff.2 (by rw [len_eq]; omega), cond_true, show P.inb (i : Int) (P.len s.1) = true from inb_iff.2 (by rw [len_eq]; omega), get_nat, wrap_succ (show i + 1 < 9223372036854775808 by omega)]
    by_cases q : (s.1.getD i dF).1 = n
    · rw [if_pos q, show P.seq (s.1.getD i dF).1 n = true from seq_iff.2 q]; rfl
    · rw [if_neg q, show P.seq (s.1.getD i dF).1 n = false from by rw [Bool.eq_false_iff]; exact fun z => q (seq_iff.1 z)]; rfl
  · try dsimp only
    rw [show P.ilt (s.1.length : Int) (P.len s.1) = false from by rw [Bool.eq_false_iff, Ne, ilt_iff, len_eq]; omega]; rfl
end Go.PL
end
section
/- Shapes: which may be. -/
open Go Go.PG Go.PL
set_option linter.unusedVariables false
namespace Go.PL
/-- May a shape be? -/
def MayO (s : Sp) : Prop := RisesF s.1 ∧ (∀ f, f ∈ s.1 → f.2.2 = norm f.2.2) ∧ s.2 = norm s.2
instance (s : Sp) : Decidable (MayO s) := by unfold MayO; exact inferInstance
def StepO (l : List Fd) (i : Nat) : Prop := (l.getD i dF).2.2 = norm (l.getD i dF).2.2 ∧ (0 < i → ltS (l.getD (i - 1) dF).1 (l.getD i dF).1)
instance (l : List Fd) (i : Nat) : Decidable (StepO l i) := by unfold StepO; exact inferInstance
theorem rises_of_steps {l : List Fd} (h : ∀ i, i < l.length → 0 < i → ltS (l.getD (i - 1) dF).1 (l.getD i dF).1) : RisesF l := by
  have key : ∀ d i, i + d + 1 < l.length → ltS (l.getD i dF).1 (l.getD (i + d + 1) dF).1 := by
    intro d
    induction d with
    | zero => intro i hi; have := h (i + 1) (by omega) (by omega); simpa using this
    | succ d ih =>
      intro i hi
      have h1 := ih i (by omega)
      have h2 := h (i + (d + 1) + 1) (by omega) (by omega)
      rw [show i + (d + 1) + 1 - 1 = i + d + 1 by omega] at h2
      exact ltS_trans h1 h2
  refine List.pairwise_iff_getElem.2 fun i j hi hj hij => ?_
  have := key (j - i - 1) i (by omega)
  rw [show i + (j - i - 1) + 1 = j by omega] at this
  simpa [List.getD_eq_getElem?_getD, hi, hj] using this
theorem steps_of_rises {l : List Fd} (h : RisesF l) (i : Nat) (hi : i < l.length) (h0 : 0 < i) : ltS (l.getD (i - 1) dF).1 (l.getD i dF).1 := by
  have := List.pairwise_iff_getElem.1 h (i - 1) i (by omega) hi (by omega)
  simpa [List.getD_eq_getElem?_getD, hi, show i - 1 < l.length by omega] using this
theorem steps_iff {l : List Fd} : (∀ i, i < l.length → StepO l i) ↔ RisesF l ∧ ∀ f, f ∈ l → f.2.2 = norm f.2.2 := by
  constructor
  · intro h
    refine ⟨rises_of_steps fun i hi h0 => (h i hi).2 h0, fun f hf => ?_⟩
    obtain ⟨i, hi, rfl⟩ := List.getElem_of_mem hf
    have := (h i hi).1
    simpa [List.getD_eq_getElem?_getD, hi] using this
  · intro h i hi
    exact ⟨h.2 _ (mem_getD hi), fun h0 => steps_of_rises h.1 i hi h0⟩

theorem ref_may7 (s : Sp) (h : FewS s) : ref07_May K s = some (decide (MayO s)) := by
  unfold ref07_May
  try dsimp only
  obtain ⟨h1, h2, h3⟩ := h
  rw [iter_all (n := s.1.length) (e := .inl ()) (r := .inr false) (fun i => StepO s.1 i) K ?_ ?_ (by unfold K; omega)]
  · rw [bind_some]
    by_cases q : ∀ i, i < s.1.length → StepO s.1 i
    · rw [if_pos q, either_inl, ref_may _ (by omega), bind_some]
      congr 1
      rw [Bool.eq_iff_iff, decide_eq_true_eq, decide_eq_true_eq]
      have := steps_iff.1 q
      exact ⟨fun z => ⟨this.1, this.2, z⟩, fun z => z.2.2⟩
    · rw [if_neg q, either_inr, decide_eq_false fun z => q (steps_iff.2 ⟨z.1, z.2.1⟩)]
  · intro i hi
    try dsimp only
    rw [show P.ilt (i : Int) (P.len s.1) = true from ilt_iff.2 (by rw [len_eq]; omega), cond_true, show P.inb (i : Int) (P.len s.1) = true from inb_iff.2 (by rw [len_eq]; omega), cond_true, get_nat, ref_may (s.1.getD i dF).2.2 (by have := h2 _ (mem_getD hi); omega), bind_some, wrap_succ (by omega)]
    by_cases q : (s.1.getD i dF).2.2 = norm (s.1.getD i dF).2.2
    · rw [decide_eq_true q, show P.not true = false from rfl, cond_false]
      by_cases h0 : 0 < i
      · rw [show P.ilt ((0 : Int)) (i : Int) = true from ilt_iff.2 (by omega), cond_true, wrap_pred h0 (by omega), show P.inb ((i - 1 : Nat) : Int) (P.len s.1) = true from inb_iff.2 (by rw [len_eq]; omega), cond_true, cond_true, get_nat]
        by_cases z : ltS (s.1.getD (i - 1) dF).1 (s.1.getD i dF).1
        · rw [show P.slt (s.1.getD (i - 1) dF).1 (s.1.getD i dF).1 = true from slt_iff.2 z, if_pos (show StepO s.1 i from ⟨q, fun _ => z⟩)]; rfl
        · rw [show P.slt (s.1.getD (i - 1) dF).1 (s.1.getD i dF).1 = false from by rw [Bool.eq_false_iff]; exact fun y => z (slt_iff.1 y), if_neg (show ¬ StepO s.1 i from fun y => z (y.2 h0))]; rfl
      · rw [show P.ilt ((0 : Int)) (i : Int) = false from by rw [Bool.eq_false_iff, Ne, ilt_iff]; omega, cond_false, if_pos (show StepO s.1 i from ⟨q, fun z => absurd z h0⟩)]
    · rw [decide_eq_false q, show P.not false = true from rfl, cond_true, if_neg (show ¬ StepO s.1 i from fun z => q z.1)]
  · try dsimp only
    rw [show P.ilt (s.1.length : Int) (P.len s.1) = false from by rw [Bool.eq_false_iff, Ne, ilt_iff, len_eq]; omega]; rfl
end Go.PL
end
section
/- Shapes: what is written. -/
open Go Go.PG Go.PL
set_option linter.unusedVariables false
namespace Go.PL
theorem take_getF {l : List Fd} {j : Nat} (h : j < l.length) : l.take (j + 1) = l.take j ++ [l.getD j dF] := by
  rw [List.take_add_one, List.getElem?_eq_getElem h]
  simp [List.getD_eq_getElem?_getD, h]
theorem copy_run {ρ : Type} (l : List Fd) (p : List At) (hl : l.length ≤ 1000000) (f : Int × List Fd × List At → Option ((Int × List Fd × List At) ⊕ ((List Fd × List At) ⊕ ρ)))
    (hs : ∀ i : Nat, i < l.length → f ((i : Int), l.take i, p) = some (.inl (((i + 1 : Nat) : Int), l.take i ++ [l.getD i dF], p))) (he : f ((l.length : Int), l, p) = some (.inr (.inl (l, p)))) : P.iter K f (0, [], p) = some (.inl (l, p)) := by
  refine iter_run (fun i => ((i : Int), l.take i, p)) _ l.length 0 K (by unfold K; omega) (fun j hj => ?_) (by simpa using he)
  have := hs j hj
  simp only [Nat.zero_add]
  rw [this, take_getF hj]
theorem room48 (l : List Fd) (x : Fd) (h : l.length ≤ 4000000) : P.room (P.add (P.len l) (P.len [x])) 48 = true := by
  rw [len_eq, len_eq, room_nat]; simp; omega
/-- What put does with what find says. -/
theorem put_run (l : List Fd) (p : List At) (F : Fd) (h : RisesF l) (hl : l.length ≤ 1000000) :
    P.cond (get l F.1).isSome (P.cond (P.inb (pos l F.1 : Int) (P.len l)) (some (P.set l (pos l F.1 : Int) F, p)) none) (P.cond (P.ilt ((0 : Int)) (P.len [F])) (P.cond (P.cut ((0 : Int)) (pos l F.1 : Int) (P.len l)) (P.cond (P.room (P.add (P.len l) (P.len [F])) 48) (some (P.insAt l (pos l F.1 : Int) [F], p)) none) none) none) = some (put l F, p) := by
  rw [put_eq h]
  have hp := pos_le F.1 l
  cases q : (get l F.1).isSome
  · rw [cond_false, show P.ilt ((0 : Int)) (P.len [F]) = true from ilt_iff.2 (by rw [len_eq]; simp), cond_true, show P.cut ((0 : Int)) (pos l F.1 : Int) (P.len l) = true from cut_iff.2 (by rw [len_eq]; omega), cond_true, room48 _ _ (by omega), cond_true, if_neg (by decide)]
    rfl
  · rw [at_pos h, Bool.and_eq_true, decide_eq_true_eq] at q
    rw [cond_true, show P.inb (pos l F.1 : Int) (P.len l) = true from inb_iff.2 (by rw [len_eq]; omega), cond_true, if_pos rfl]
    rfl
end Go.PL
namespace Go.PL
/-- Strongly, weakly. -/
def strong (s : Sp) (n : ByteArray) (v : List At) : Sp := if MayO s then (put s.1 (n, true, norm v), s.2) else ([], [])
def weak (s : Sp) (n : ByteArray) (v : List At) : Sp := if MayO s then (put s.1 (n, (getR s.1 n).1.2.1, norm ((getR s.1 n).1.2.2 ++ v)), s.2) else ([], [])
theorem getR_few {s : Sp} (h : FewS s) (n : ByteArray) : (getR s.1 n).1.2.2.length ≤ 100000 := by
  unfold getR
  cases q : get s.1 n with
  | none => simp
  | some f => exact h.2.1 f (get_mem q)
theorem copy_step (l : List Fd) (hl : l.length ≤ 1000000) (hv : ∀ f, f ∈ l → f.2.2.length ≤ 100000) (p : List At) {ρ : Type} (i : Nat) (hi : i < l.length) :
    (P.cond (P.ilt (i : Int) (P.len l)) (P.cond (P.inb (i : Int) (P.len l)) (P.bind (slices_Clone_api_Atom_api_Atom K (P.get l (i : Int) ((ByteArray.mk #[]), false, [])).snd.snd) fun (r : List (Int × Int)) => P.cond (P.room (P.add (P.len (l.take i)) (P.len [((P.get l (i : Int) ((ByteArray.mk #[]), false, [])).fst, (P.get l (i : Int) ((ByteArray.mk #[]), false, [])).snd.fst, r)])) 48) (some (Sum.inl (P.wrap IntKind.i64 (P.add (i : Int) ((1 : Int))), P.app (l.take i) [((P.get l (i : Int) ((ByteArray.mk #[]), false, [])).fst, (P.get l (i : Int) ((ByteArray.mk #[]), false, [])).snd.fst, r)], p))) none) none) (some (Sum.inr (Sum.inl (l.take i, p)))) : Option ((Int × List Fd × List At) ⊕ ((List Fd × List At) ⊕ ρ))) = some (.inl (((i + 1 : Nat) : Int), l.take i ++ [l.getD i dF], p)) := by
  rw [show P.ilt (i : Int) (P.len l) = true from ilt_iff.2 (by rw [len_eq]; omega), cond_true, show P.inb (i : Int) (P.len l) = true from inb_iff.2 (by rw [len_eq]; omega), cond_true, get_nat, at_clone K (l.getD i dF).2.2 (by have := hv _ (mem_getD hi); omega), bind_some, room48 _ _ (by rw [List.length_take]; omega), cond_true, wrap_succ (by omega)]
  rfl
theorem copy_end {α : Type} (l : List Fd) (A : Option α) (B : Option α) : P.cond (P.ilt (l.length : Int) (P.len l)) A B = B := by
  rw [show P.ilt (l.length : Int) (P.len l) = false from by rw [Bool.eq_false_iff, Ne, ilt_iff, len_eq]; omega]; rfl

end Go.PL
end
section
/- Shapes: what the document says is written. -/
open Go Go.PG Go.PL
set_option linter.unusedVariables false
namespace Go.PL
def stepF (F : Fd) (s : Bool × List Fd) (y : Fd) : Bool × List Fd :=
  if s.1 = false ∧ (ltS F.1 y.1 ∨ F.1 = y.1) then (true, if y.1 = F.1 then s.2 ++ [F] else s.2 ++ [F] ++ [y]) else (s.1, if y.1 = F.1 then s.2 else s.2 ++ [y])
def finF (F : Fd) (s : Bool × List Fd) : List Fd := if s.1 = true then s.2 else s.2 ++ [F]
def layF (F : Fd) (l : List Fd) (i : Nat) : Bool × List Fd := (l.take i).foldl (stepF F) (false, [])
theorem layF_succ {F : Fd} {l : List Fd} {i : Nat} (h : i < l.length) : layF F l (i + 1) = stepF F (layF F l i) (l.getD i dF) := by
  unfold layF
  rw [take_getF h, List.foldl_append]
  rfl
theorem layF_len (F : Fd) (l : List Fd) : ∀ i, i ≤ l.length → (layF F l i).2.length ≤ i + 1 ∧ ((layF F l i).1 = false → (layF F l i).2.length ≤ i)
  | 0, _ => by simp [layF]
  | i + 1, h => by
    obtain ⟨h1, h2⟩ := layF_len F l i (by omega)
    rw [layF_succ (by omega)]
    unfold stepF
    by_cases q : (layF F l i).1 = false ∧ (ltS F.1 (l.getD i dF).1 ∨ F.1 = (l.getD i dF).1)
    · rw [if_pos q]
      have := h2 q.1
      refine ⟨?_, fun z => by cases z⟩
      by_cases e : (l.getD i dF).1 = F.1
      · rw [if_pos e]; simp; omega
      · rw [if_neg e]; simp; omega
    · rw [if_neg q]
      by_cases e : (l.getD i dF).1 = F.1
      · rw [if_pos e]
        exact ⟨by show (layF F l i).2.length ≤ _; omega, fun z => by have := h2 z; show (layF F l i).2.length ≤ _; omega⟩
      · rw [if_neg e]
        refine ⟨by simp; omega, fun z => ?_⟩
        have := h2 z
        simp; omega
theorem stepF_true (F : Fd) : ∀ (l acc : List Fd), (∀ y, y ∈ l → y.1 ≠ F.1) → l.foldl (stepF F) (true, acc) = (true, acc ++ l)
  | [], acc, _ => by simp
  | y :: l, acc, h => by
    rw [List.foldl_cons, show stepF F (true, acc) y = (true, acc ++ [y]) from by simp [stepF, h y (by simp)], stepF_true F l _ fun z hz => h z (List.mem_cons_of_mem _ hz)]
    simp
theorem stepF_false (F : Fd) : ∀ (l acc : List Fd), RisesF l → finF F (l.foldl (stepF F) (false, acc)) = acc ++ put l F
  | [], acc, _ => by simp [put, finF]
  | y :: l, acc, h => by
    obtain ⟨h1, h2⟩ := List.pairwise_cons.1 h
    rw [List.foldl_cons]
    unfold put
    by_cases q : ltS F.1 y.1
    · have hne : ∀ z, z ∈ y :: l → z.1 ≠ F.1 := fun z hz e => by
        rcases List.mem_cons.1 hz with rfl | hz
        · rw [e] at q; exact ltS_irrefl _ q
        · have := ltS_trans q (h1 z hz); rw [e] at this; exact ltS_irrefl _ this
      rw [show stepF F (false, acc) y = (true, acc ++ [F] ++ [y]) from by simp [stepF, q, hne y (by simp)], stepF_true F l _ fun z hz => hne z (List.mem_cons_of_mem _ hz), if_pos q]
      simp [finF]
    · rw [if_neg q]
      by_cases e : F.1 = y.1
      · have hne : ∀ z, z ∈ l → z.1 ≠ F.1 := fun z hz e' => by
          have := h1 z hz; rw [e', e] at this; exact ltS_irrefl _ this
        rw [show stepF F (false, acc) y = (true, acc ++ [F]) from by simp [stepF, e], stepF_true F l _ hne, if_pos e]
        simp [finF]
      · rw [show stepF F (false, acc) y = (false, acc ++ [y]) from by simp [stepF, q, e, Ne.symm e], stepF_false F l _ h2, if_neg e]
        simp
theorem layF_all {F : Fd} {l : List Fd} (h : RisesF l) : finF F (layF F l l.length) = put l F := by
  have := stepF_false F l [] h
  unfold layF
  rw [List.take_length]
  simpa using this

end Go.PL
end
section
/- Shapes: renamed; the same. -/
open Go Go.PG Go.PL
set_option linter.unusedVariables false
namespace Go.PL
def renF (s : Int) (f : Fd) : Fd := (f.1, f.2.1, norm (f.2.2.map (renA s)))
def rename (o : Sp) (s : Int) : Sp := if MayO o then (o.1.map (renF s), norm (o.2.map (renA s))) else ([], [])
def mixF (s : Int) (l : List Fd) (i : Nat) : List Fd := (l.take i).map (renF s) ++ l.drop i
theorem mixF_len (s : Int) (l : List Fd) (i : Nat) : (mixF s l i).length = l.length := by simp [mixF]; omega
theorem drop_getF {l : List Fd} {j : Nat} (h : j < l.length) : l.drop j = l.getD j dF :: l.drop (j + 1) := by
  rw [List.drop_eq_getElem_cons h]
  simp [List.getD_eq_getElem?_getD, h]
theorem mixF_get (s : Int) (l : List Fd) {i : Nat} (h : i < l.length) : (mixF s l i).getD i dF = l.getD i dF := by
  have hl : ((l.take i).map (renF s)).length = i := by rw [List.length_map, List.length_take]; omega
  unfold mixF
  rw [List.getD_eq_getElem?_getD, List.getElem?_append_right (by omega), hl, List.getElem?_drop, Nat.sub_self, Nat.add_zero, ← List.getD_eq_getElem?_getD]
theorem mixF_set (s : Int) (l : List Fd) {i : Nat} (h : i < l.length) : (mixF s l i).set i (renF s (l.getD i dF)) = mixF s l (i + 1) := by
  have hl : ((l.take i).map (renF s)).length = i := by rw [List.length_map, List.length_take]; omega
  unfold mixF
  rw [List.set_append_right _ _ (by omega), hl, Nat.sub_self, drop_getF h, List.set_cons_zero, take_getF h, List.map_append]
  simp
/-- Are two shapes the same? -/
theorem eq_iff_getF {a b : List Fd} (h : a.length = b.length) : (∀ i, i < a.length → a.getD i dF = b.getD i dF) ↔ a = b := by
  constructor
  · intro q
    refine List.ext_getElem h fun i h1 h2 => ?_
    have := q i h1
    simpa [List.getD_eq_getElem?_getD, h1, h2] using this
  · rintro rfl i _; rfl
end Go.PL
end
section
/- Shapes: which is within which. -/
open Go Go.PG Go.PL
set_option linter.unusedVariables false
namespace Go.PL
def FldIn (b : List Fd) (f : Fd) : Prop := (getR b f.1).2 = true ∧ Within f.2.2 (getR b f.1).1.2.2 ∧ ((getR b f.1).1.2.1 = true → f.2.1 = true)
instance (b : List Fd) (f : Fd) : Decidable (FldIn b f) := by unfold FldIn; exact inferInstance
def SureIn (a : List Fd) (g : Fd) : Prop := g.2.1 = true → (getR a g.1).2 = true
instance (a : List Fd) (g : Fd) : Decidable (SureIn a g) := by unfold SureIn; exact inferInstance
def WithinO (a b : Sp) : Prop := MayO a ∧ MayO b ∧ Within a.2 b.2 ∧ (∀ f, f ∈ a.1 → FldIn b.1 f) ∧ ∀ g, g ∈ b.1 → SureIn a.1 g
instance (a b : Sp) : Decidable (WithinO a b) := by unfold WithinO; exact inferInstance
theorem all_getD {l : List Fd} {p : Fd → Prop} : (∀ i, i < l.length → p (l.getD i dF)) ↔ ∀ f, f ∈ l → p f := by
  constructor
  · intro h f hf
    obtain ⟨i, hi, rfl⟩ := List.getElem_of_mem hf
    have := h i hi
    simpa [List.getD_eq_getElem?_getD, hi] using this
  · intro h i hi; exact h _ (mem_getD hi)
theorem getR_snd (l : List Fd) (n : ByteArray) : (getR l n).2 = (get l n).isSome := by unfold getR; cases get l n <;> rfl
theorem getR_pos {l : List Fd} {n : ByteArray} (h : RisesF l) (hs : (get l n).isSome = true) : (getR l n).1 = l.getD (pos l n) dF := by
  unfold getR; rw [get_at_pos h hs]
theorem ref_within7 (a b : Sp) (ha : FewS a) (hb : FewS b) : ref07_Within K (a, b) = some (decide (WithinO a b)) := by
  unfold ref07_Within
  try dsimp only
  have hal := ha.1; have hbl := hb.1
  rw [ref_may7 a ha, bind_some]
  by_cases m1 : MayO a
  · rw [decide_eq_true m1, show P.not true = false from rfl, cond_false, ref_may7 b hb, bind_some]
    by_cases m2 : MayO b
    · rw [decide_eq_true m2, show P.not true = false from rfl, cond_false, ref_within a.2 b.2 (by have := ha.2.2; omega) (by have := hb.2.2; omega), bind_some]
      by_cases m3 : Within a.2 b.2
      · rw [decide_eq_true m3, show P.not true = false from rfl, cond_false]
        rw [iter_all (n := a.1.length) (e := .inl ()) (r := .inr false) (fun i => FldIn b.1 (a.1.getD i dF)) K ?_ ?_ (by unfold K; omega)]
        · rw [bind_some]
          by_cases q1 : ∀ i, i < a.1.length → FldIn b.1 (a.1.getD i dF)
          · rw [if_pos q1, either_inl]
            rw [iter_all (n := b.1.length) (e := .inl ()) (r := .inr false) (fun i => SureIn a.1 (b.1.getD i dF)) K ?_ ?_ (by unfold K; omega)]
            · rw [bind_some]
              by_cases q2 : ∀ i, i < b.1.length → SureIn a.1 (b.1.getD i dF)
              · rw [if_pos q2, either_inl, decide_eq_true ⟨m1, m2, m3, all_getD.1 q1, all_getD.1 q2⟩]
              · rw [if_neg q2, either_inr, decide_eq_false fun z => q2 (all_getD.2 z.2.2.2.2)]
            · intro i hi
              try dsimp only
              simp only [show P.ilt (i : Int) (P.len b.1) = true from ilt_iff.2 (by rw [len_eq]; omega), cond_true, show P.inb (i : Int) (P.len b.1) = true from inb_iff.2 (by rw [len_eq]; omega), get_nat, wrap_succ (show i + 1 < 9223372036854775808 by omega)]
              rw [ref_get a _ (by omega), bind_some]
              generalize hg : b.1.getD i dF = g
              simp only [cond_eq, not_iff]
              by_cases s1 : g.2.1 = true
              · by_cases s2 : (getR a.1 g.1).2 = true
                · rw [if_pos (show SureIn a.1 g from fun _ => s2)]; simp [s1, s2]
                · rw [if_neg (show ¬ SureIn a.1 g from fun z => s2 (z s1))]; simp [s1, s2]
              · rw [if_pos (show SureIn a.1 g from fun z => absurd z s1)]; simp [s1]
            · try dsimp only
              exact copy_end _ _ _
          · rw [if_neg q1, either_inr, decide_eq_false fun z => q1 (all_getD.2 z.2.2.2.1)]
        · intro i hi
          try dsimp only
          simp only [show P.ilt (i : Int) (P.len a.1) = true from ilt_iff.2 (by rw [len_eq]; omega), cond_true, show P.inb (i : Int) (P.len a.1) = true from inb_iff.2 (by rw [len_eq]; omega), get_nat, wrap_succ (show i + 1 < 9223372036854775808 by omega)]
          rw [ref_get b _ (by omega), bind_some]
          have hv := ha.2.1 _ (mem_getD hi)
          generalize hg : a.1.getD i dF = f at hv
          have hw := getR_few hb f.1
          rw [ref_within f.2.2 (getR b.1 f.1).1.2.2 (by omega) (by omega), bind_some]
          simp only [cond_eq, not_iff, decide_eq_true_eq]
          by_cases s1 : (getR b.1 f.1).2 = true
          · by_cases s2 : Within f.2.2 (getR b.1 f.1).1.2.2
            · by_cases s3 : (getR b.1 f.1).1.2.1 = true
              · by_cases s4 : f.2.1 = true
                · rw [if_pos (show FldIn b.1 f from ⟨s1, s2, fun _ => s4⟩)]; simp [s1, s2, s3, s4]
                · rw [if_neg (show ¬ FldIn b.1 f from fun z => s4 (z.2.2 s3))]; simp [s1, s2, s3, s4]
              · rw [if_pos (show FldIn b.1 f from ⟨s1, s2, fun z => absurd z s3⟩)]; simp [s1, s2, s3]
            · rw [if_neg (show ¬ FldIn b.1 f from fun z => s2 z.2.1)]; simp [s1, s2]
          · rw [if_neg (show ¬ FldIn b.1 f from fun z => s1 z.1)]; simp [s1]
        · try dsimp only
          exact copy_end _ _ _
      · rw [decide_eq_false m3, show P.not false = true from rfl, cond_true, decide_eq_false fun z => m3 z.2.2.1]
    · rw [decide_eq_false m2, show P.not false = true from rfl, cond_true, decide_eq_false fun z => m2 z.2.1]
  · rw [decide_eq_false m1, show P.not false = true from rfl, cond_true, decide_eq_false fun z => m1 z.1]
end Go.PL
end
section
/- Shapes: which is within which, asx the program says it. -/
open Go Go.PG Go.PL
set_option linter.unusedVariables false
namespace Go.PL
end Go.PL
end
section
/- Shapes: few fields, of few atoms. -/
open Go Go.PG Go.PL
set_option linter.unusedVariables false
namespace Go.PL
def SmallS (s : Sp) : Prop := (∀ f, f ∈ s.1 → f.2.2.length ≤ 60) ∧ s.1.length ≤ 60 ∧ s.2.length ≤ 60
instance (s : Sp) : Decidable (SmallS s) := by unfold SmallS; exact inferInstance
theorem small_few {s : Sp} (h : SmallS s) : FewS s := ⟨by have := h.2.1; omega, fun f hf => by have := h.1 f hf; omega, by have := h.2.2; omega⟩
def oneS : Sp := ([(⟨#[112]⟩, true, [(2, 0)])], [(0, 0)])
end Go.PL
end
section
/- Shapes joined. -/
open Go Go.PG Go.PL
set_option linter.unusedVariables false
namespace Go.PL
def joinF (a b : List Fd) (n : ByteArray) : Fd := (n, (getR a n).2 && (getR b n).2 && (getR a n).1.2.1 && (getR b n).1.2.1, norm ((getR a n).1.2.2 ++ (getR b n).1.2.2))
def foldJ (a b l acc : List Fd) : List Fd := l.foldl (fun out f => put out (joinF a b f.1)) acc
def has (l : List Fd) (n : ByteArray) : Bool := (get l n).isSome
theorem has_cons (f : Fd) (l : List Fd) (n : ByteArray) : has (f :: l) n = (decide (f.1 = n) || has l n) := by
  unfold has get
  rw [List.find?_cons]
  by_cases q : f.1 = n <;> simp [q]
theorem has_append (l m : List Fd) (n : ByteArray) : has (l ++ m) n = (has l n || has m n) := by
  induction l with
  | nil => simp [has, get]
  | cons f l ih => rw [List.cons_append, has_cons, has_cons, ih, Bool.or_assoc]
theorem foldJ_spec (a b : List Fd) : ∀ (l acc : List Fd), RisesF acc → RisesF (foldJ a b l acc) ∧ ∀ n, get (foldJ a b l acc) n = if has l n = true then some (joinF a b n) else get acc n := by
  intro l
  induction l with
  | nil => intro acc h; exact ⟨h, fun n => by simp [foldJ, has, get]⟩
  | cons f l ih =>
    intro acc h
    obtain ⟨h1, h2⟩ := ih (put acc (joinF a b f.1)) (put_rises h)
    refine ⟨h1, fun n => ?_⟩
    show get (foldJ a b l (put acc (joinF a b f.1))) n = _
    rw [h2, get_put h, has_cons]
    by_cases q : has l n = true
    · rw [if_pos q, if_pos (by rw [q]; simp)]
    · rw [if_neg q]
      by_cases e : f.1 = n
      · rw [if_pos (show (joinF a b f.1).1 = n from e), if_pos (by simp [e]), e]
      · rw [if_neg (show ¬ (joinF a b f.1).1 = n from e), if_neg (by simp [e, q])]
def joinL (a b : List Fd) : List Fd := foldJ a b (a ++ b) []
theorem joinL_rises (a b : List Fd) : RisesF (joinL a b) := (foldJ_spec a b _ [] List.Pairwise.nil).1
theorem get_joinL (a b : List Fd) (n : ByteArray) : get (joinL a b) n = if (has a n || has b n) = true then some (joinF a b n) else none := by
  unfold joinL
  rw [(foldJ_spec a b _ [] List.Pairwise.nil).2, has_append]
  rfl
/-- Two shapes joined. -/
def join (a b : Sp) : Sp := if MayO a ∧ MayO b then (joinL a.1 b.1, norm (a.2 ++ b.2)) else ([], [])
end Go.PL
end
section
/- Shapes joined: the document's answer. -/
open Go Go.PG Go.PL
set_option linter.unusedVariables false
namespace Go.PL
theorem foldJ_length (a b : List Fd) : ∀ (l acc : List Fd), (foldJ a b l acc).length ≤ acc.length + l.length := by
  have hput : ∀ (f : Fd) (l : List Fd), (put l f).length ≤ l.length + 1 := by
    intro f l
    induction l with
    | nil => simp [put]
    | cons g l ih =>
      unfold put
      split
      · simp
      · split
        · simp
        · simp; exact ih
  intro l
  induction l with
  | nil => intro acc; simp [foldJ]
  | cons f l ih =>
    intro acc
    have h1 := ih (put acc (joinF a b f.1))
    have h2 := hput (joinF a b f.1) acc
    show (foldJ a b l (put acc (joinF a b f.1))).length ≤ _
    simp only [List.length_cons]
    omega
theorem foldJ_take (a b l : List Fd) {i : Nat} (h : i < l.length) : foldJ a b (l.take (i + 1)) [] = put (foldJ a b (l.take i) []) (joinF a b (l.getD i dF).1) := by
  unfold foldJ
  rw [take_getF h, List.foldl_append]
  rfl
end Go.PL
end
section
/- Shapes joined: the document's answer is join. -/
open Go Go.PG Go.PL
set_option linter.unusedVariables false
namespace Go.PL
end Go.PL
end
section
/- Shapes joined: what is found goes on. -/
open Go Go.PG Go.PL
set_option linter.unusedVariables false
namespace Go.PL
theorem find_cont {ρ : Type} (l : List Fd) (n : ByteArray) (f : Int → Option (Int ⊕ (Unit ⊕ ρ))) (C : Nat → Option ρ) (A T : Option ρ) (hl : l.length ≤ 1000000)
    (hs : ∀ i : Nat, i < l.length → f (i : Int) = if (l.getD i dF).1 = n then P.map (fun r => Sum.inr (Sum.inr r)) (C i) else some (.inl ((i + 1 : Nat) : Int))) (he : f (l.length : Int) = some (.inr (.inl ())))
    (hC : ∀ i, i < l.length → (l.getD i dF).1 = n → C i = T) (hA : (∀ i, i < l.length → (l.getD i dF).1 ≠ n) → A = T) : P.bind (P.iter K f 0) (P.either (fun (z : Unit) => A) fun r => some r) = T := by
  have key : ∀ (d i k : Nat), i + d = l.length → d < k → (∀ j, j < i → (l.getD j dF).1 ≠ n) → P.bind (P.iter k f (i : Int)) (P.either (fun (z : Unit) => A) fun r => some r) = T := by
    intro d
    induction d with
    | zero =>
      intro i k hi hk hn
      obtain rfl : i = l.length := by omega
      rw [iter_done (by omega) he, bind_some, either_inl]
      exact hA hn
    | succ d ih =>
      intro i k hi hk hn
      have h := hs i (by omega)
      by_cases q : (l.getD i dF).1 = n
      · rw [if_pos q, hC i (by omega) q] at h
        cases T with
        | none =>
          obtain ⟨m, rfl⟩ : ∃ m, k = m + 1 := ⟨k - 1, by omega⟩
          rw [iter_succ, h]
          rfl
        | some r => rw [iter_done (by omega) h, bind_some, either_inr]
      · rw [if_neg q] at h
        rw [iter_step (by omega) h]
        exact ih (i + 1) (k - 1) (by omega) (by omega) (fun j hj => by
          by_cases e : j = i
          · rw [e]; exact q
          · exact hn j (by omega))
  exact key l.length 0 K (by omega) (by unfold K; omega) (fun j hj => by omega)
end Go.PL
end
section
/- The text of object.Join, in parts. -/
open Go Go.PG Go.PL
set_option linter.unusedVariables false
namespace Go.PL
end Go.PL
end
section
/- Shapes joined: a round of the program's second loop. -/
open Go Go.PG Go.PL
set_option linter.unusedVariables false
namespace Go.PL
theorem put_run2 {ρ : Type} (l : List Fd) (p : List At) (F : Fd) (h : RisesF l) (hl : l.length ≤ 1000000) (i : Int) :
    (P.cond (get l F.1).isSome (P.cond (P.inb (pos l F.1 : Int) (P.len l)) (some (Sum.inl (i, P.set l (pos l F.1 : Int) F, p))) none) (P.cond (P.ilt ((0 : Int)) (P.len [F])) (P.cond (P.cut ((0 : Int)) (pos l F.1 : Int) (P.len l)) (P.cond (P.room (P.add (P.len l) (P.len [F])) 48) (some (Sum.inl (i, P.insAt l (pos l F.1 : Int) [F], p))) none) none) none) : Option ((Int × Sp) ⊕ ρ)) = some (.inl (i, put l F, p)) := by
  have := put_run l p F h hl
  rw [put_eq h] at this ⊢
  have hp := pos_le F.1 l
  cases q : (get l F.1).isSome
  · rw [cond_false, show P.ilt ((0 : Int)) (P.len [F]) = true from ilt_iff.2 (by rw [len_eq]; simp), cond_true, show P.cut ((0 : Int)) (pos l F.1 : Int) (P.len l) = true from cut_iff.2 (by rw [len_eq]; omega), cond_true, room48 _ _ (by omega), cond_true, if_neg (by decide)]
    rfl
  · rw [at_pos h, Bool.and_eq_true, decide_eq_true_eq] at q
    rw [cond_true, show P.inb (pos l F.1 : Int) (P.len l) = true from inb_iff.2 (by rw [len_eq]; omega), cond_true, if_pos rfl]
    rfl
def sndF (out : List Fd) (h : Fd) : Fd := (h.1, (getR out h.1).2 && (getR out h.1).1.2.1 && h.2.1, norm ((getR out h.1).1.2.2 ++ h.2.2))
end Go.PL
end
section
/- Shapes joined: what the program's two loops come to. -/
open Go Go.PG Go.PL
set_option linter.unusedVariables false
namespace Go.PL
def fstF (b : List Fd) (f : Fd) : Fd := (f.1, f.2.1 && has b f.1, f.2.2)
theorem get_map {l : List Fd} {g : Fd → Fd} (hg : ∀ f, (g f).1 = f.1) (n : ByteArray) : get (l.map g) n = (get l n).map g := by
  induction l with
  | nil => rfl
  | cons f l ih =>
    simp only [get, List.map_cons, List.find?_cons, hg] at ih ⊢
    by_cases q : f.1 = n
    · simp only [q, decide_true, Option.map_some]
    · simp only [q, decide_false]
      exact ih
theorem rises_map {l : List Fd} {g : Fd → Fd} (hg : ∀ f, (g f).1 = f.1) (h : RisesF l) : RisesF (l.map g) := by
  refine List.pairwise_map.2 (h.imp fun {a b} q => ?_)
  rw [hg, hg]; exact q
def foldS (l acc : List Fd) : List Fd := l.foldl (fun out g => put out (sndF out g)) acc
theorem foldS_spec (a b : List Fd) (hb : RisesF b) : ∀ (l m acc : List Fd), b = m ++ l → RisesF acc → (∀ n, get acc n = if has m n = true then some (joinF a b n) else (get a n).map (fstF b)) →
    RisesF (foldS l acc) ∧ ∀ n, get (foldS l acc) n = if has b n = true then some (joinF a b n) else (get a n).map (fstF b) := by
  intro l
  induction l with
  | nil =>
    intro m acc hm hr hg
    rw [List.append_nil] at hm
    subst hm
    exact ⟨hr, hg⟩
  | cons g l ih =>
    intro m acc hm hr hg
    have hgm : has m g.1 = false := by
      cases q : has m g.1
      · rfl
      · exfalso
        unfold has at q
        obtain ⟨f, hf⟩ := Option.isSome_iff_exists.1 q
        rw [hm] at hb
        have := (List.pairwise_append.1 hb).2.2 f (get_mem hf) g (by simp)
        rw [get_name hf] at this
        exact ltS_irrefl _ this
    have hgb : get b g.1 = some g := get_of_mem hb (by rw [hm]; simp)
    have hs : sndF acc g = joinF a b g.1 := by
      unfold sndF joinF
      have e1 : getR b g.1 = (g, true) := by unfold getR; rw [hgb]
      have e2 := hg g.1
      rw [hgm] at e2
      simp only [Bool.false_eq_true, if_false] at e2
      rw [e1]
      unfold getR
      rw [e2]
      have hhas : has b g.1 = true := by unfold has; rw [hgb]; rfl
      cases q : get a g.1 with
      | none => simp
      | some f => simp [fstF, get_name q, hhas]
    refine ih (m ++ [g]) (put acc (sndF acc g)) (by rw [hm]; simp) (put_rises hr) fun n => ?_
    rw [get_put hr, hs, hg, has_append, has_cons]
    by_cases e : g.1 = n
    · rw [if_pos (show (joinF a b g.1).1 = n from e), if_pos (by simp [e]), e]
    · rw [if_neg (show ¬ (joinF a b g.1).1 = n from e)]
      have : has [] n = false := rfl
      simp [e, this]
theorem joined {a b : List Fd} (ha : RisesF a) (hb : RisesF b) (hv : ∀ f, f ∈ a → f.2.2 = norm f.2.2) : foldS b (a.map (fstF b)) = joinL a b := by
  obtain ⟨h1, h2⟩ := foldS_spec a b hb b [] (a.map (fstF b)) rfl (rises_map (g := fstF b) (fun _ => rfl) ha) (fun n => by
    rw [get_map (g := fstF b) (fun _ => rfl)]; simp [has, get])
  refine risesF_ext h1 (joinL_rises a b) fun n => ?_
  rw [h2, get_joinL]
  cases q : has b n
  · simp only [Bool.false_eq_true, if_false, Bool.or_false]
    have hn : get b n = none := by
      unfold has at q
      exact Option.not_isSome_iff_eq_none.1 (by rw [q]; simp)
    cases q2 : get a n with
    | none => simp [has, q2]
    | some f =>
      have : has a n = true := by unfold has; rw [q2]; rfl
      rw [if_pos this]
      have e1 : getR b n = (dF, false) := by unfold getR; rw [hn]
      have e2 : getR a n = (f, true) := by unfold getR; rw [q2]
      simp only [Option.map_some, joinF, fstF, e1, e2, get_name q2, q]
      have := hv f (get_mem q2)
      simp
      exact this
  · simp
end Go.PL
end
section
/- Shapes joined: the program's answer is join. -/
open Go Go.PG Go.PL
set_option linter.unusedVariables false
namespace Go.PL
def outJ (a b : List Fd) (i : Nat) : List Fd := foldS (b.take i) (a.map (fstF b))
theorem outJ_succ (a b : List Fd) {i : Nat} (h : i < b.length) : outJ a b (i + 1) = put (outJ a b i) (sndF (outJ a b i) (b.getD i dF)) := by
  unfold outJ foldS
  rw [take_getF h, List.foldl_append]
  rfl
theorem outJ_spec {a b : List Fd} (ha : RisesF a) (hb : RisesF b) : ∀ i, i ≤ b.length → RisesF (outJ a b i) ∧ (∀ n, get (outJ a b i) n = if has (b.take i) n = true then some (joinF a b n) else (get a n).map (fstF b)) ∧ (outJ a b i).length ≤ a.length + i := by
  have hput : ∀ (f : Fd) (l : List Fd), (put l f).length ≤ l.length + 1 := by
    intro f l
    induction l with
    | nil => simp [put]
    | cons g l ih =>
      unfold put
      split
      · simp
      · split
        · simp
        · simp; exact ih
  intro i
  induction i with
  | zero =>
    intro _
    refine ⟨rises_map (g := fstF b) (fun _ => rfl) ha, fun n => ?_, by simp [outJ, foldS]⟩
    show get (a.map (fstF b)) n = _
    rw [get_map (g := fstF b) (fun _ => rfl)]; simp [has, get]
  | succ i ih =>
    intro hi
    obtain ⟨h1, h2, h3⟩ := ih (by omega)
    have hgb : get b (b.getD i dF).1 = some (b.getD i dF) := get_of_mem hb (mem_getD (by omega))
    have hgm : has (b.take i) (b.getD i dF).1 = false := by
      cases q : has (b.take i) (b.getD i dF).1
      · rfl
      · exfalso
        unfold has at q
        obtain ⟨f, hf⟩ := Option.isSome_iff_exists.1 q
        have hb' := hb
        rw [show b = b.take i ++ b.drop i from (List.take_append_drop i b).symm, drop_getF (show i < b.length by omega)] at hb'
        have := (List.pairwise_append.1 hb').2.2 f (get_mem hf) (b.getD i dF) (by simp)
        rw [get_name hf] at this
        exact ltS_irrefl _ this
    have hs : sndF (outJ a b i) (b.getD i dF) = joinF a b (b.getD i dF).1 := by
      generalize b.getD i dF = g at hgb hgm
      unfold sndF joinF
      have e1 : getR b g.1 = (g, true) := by unfold getR; rw [hgb]
      have e2 := h2 g.1
      rw [hgm] at e2
      simp only [Bool.false_eq_true, if_false] at e2
      rw [e1]
      unfold getR
      rw [e2]
      have hhas : has b g.1 = true := by unfold has; rw [hgb]; rfl
      cases q : get a g.1 with
      | none => simp
      | some f => simp [fstF, get_name q, hhas]
    rw [outJ_succ a b (by omega)]
    refine ⟨put_rises h1, fun n => ?_, by have := hput (sndF (outJ a b i) (b.getD i dF)) (outJ a b i); omega⟩
    rw [get_put h1, hs, h2, take_getF (show i < b.length by omega), has_append, has_cons]
    by_cases e : (b.getD i dF).1 = n
    · rw [if_pos (show (joinF a b (b.getD i dF).1).1 = n from e), if_pos (by rw [decide_eq_true e]; simp), e]
    · rw [if_neg (show ¬ (joinF a b (b.getD i dF).1).1 = n from e)]
      have : has [] n = false := rfl
      rw [this, decide_eq_false e]
      simp
theorem outJ_few {a b : Sp} (ha : RisesF a.1) (hb : RisesF b.1) (fa : FewS a) (fb : FewS b) (i : Nat) (hi : i ≤ b.1.length) : ∀ f, f ∈ outJ a.1 b.1 i → f.2.2.length ≤ 300000 := by
  intro f hf
  obtain ⟨h1, h2, _⟩ := outJ_spec ha hb i hi
  have h := get_of_mem h1 hf
  rw [h2] at h
  have w1 := getR_few fa f.1
  have w2 := getR_few fb f.1
  by_cases q : has (b.1.take i) f.1 = true
  · rw [if_pos q] at h
    have h := Option.some.inj h
    rw [← h]
    have := norm_length ((getR a.1 f.1).1.2.2 ++ (getR b.1 f.1).1.2.2)
    rw [List.length_append] at this
    show (norm ((getR a.1 f.1).1.2.2 ++ (getR b.1 f.1).1.2.2)).length ≤ _
    omega
  · rw [if_neg q] at h
    cases z : get a.1 f.1 with
    | none => rw [z] at h; cases h
    | some g =>
      rw [z] at h
      have h := Option.some.inj h
      rw [← h]
      have := fa.2.1 g (get_mem z)
      show g.2.2.length ≤ _
      omega
def mixJ (b l : List Fd) (i : Nat) : List Fd := (l.take i).map (fstF b) ++ l.drop i
theorem mixJ_len (b l : List Fd) (i : Nat) : (mixJ b l i).length = l.length := by simp [mixJ]; omega
theorem mixJ_get (b l : List Fd) {i : Nat} (h : i < l.length) : (mixJ b l i).getD i dF = l.getD i dF := by
  have hl : ((l.take i).map (fstF b)).length = i := by rw [List.length_map, List.length_take]; omega
  simp only [mixJ, List.getD_eq_getElem?_getD]
  rw [List.getElem?_append_right (by omega), hl, Nat.sub_self, List.getElem?_drop, Nat.add_zero]
theorem mixJ_set (b l : List Fd) {i : Nat} (h : i < l.length) : (mixJ b l i).set i (fstF b (l.getD i dF)) = mixJ b l (i + 1) := by
  have hl : ((l.take i).map (fstF b)).length = i := by rw [List.length_map, List.length_take]; omega
  unfold mixJ
  rw [List.set_append_right _ _ (by omega), hl, Nat.sub_self, drop_getF h, List.set_cons_zero, take_getF h, List.map_append]
  simp
end Go.PL
end
section
/- The fixed calls of law 07. -/
open Go Go.PG Go.PL
set_option linter.unusedVariables false
namespace Go.PL
theorem at_null (k : Nat) : ref06_Null k () = some [(0, 0)] := rfl
theorem at_num (k : Nat) : ref06_Num k () = some [(2, 0)] := rfl
abbrev emptyS : Sp := ([], [(0, 0)])
abbrev joinS : Sp := ([(⟨#[112]⟩, false, [(2, 0)])], [(0, 0)])
abbrev weakS : Sp := ([(⟨#[112]⟩, true, [(0, 0), (2, 0)])], [(0, 0)])
abbrev strongS : Sp := ([(⟨#[112]⟩, true, [(0, 0)])], [(0, 0)])
instance (s : Sp) : Decidable (FewS s) := by unfold FewS; exact inferInstance
end Go.PL
end
section
/- Shapes by what is seen at each name. -/
open Go Go.PG Go.PL
set_option linter.unusedVariables false
namespace Go.PL
def pr (l : List Fd) (n : ByteArray) : Bool := (getR l n).2
def su (l : List Fd) (n : ByteArray) : Bool := (getR l n).1.2.1
def va (l : List Fd) (n : ByteArray) : List At := (getR l n).1.2.2
theorem get_view (l : List Fd) (n : ByteArray) : get l n = if pr l n = true then some (n, su l n, va l n) else none := by
  unfold pr su va getR
  cases q : get l n with
  | none => rfl
  | some f =>
    have := get_name q
    simp only [if_true]
    rw [← this]
theorem view_none {l : List Fd} {n : ByteArray} (h : pr l n = false) : su l n = false ∧ va l n = [] := by
  unfold pr su va getR at *
  cases q : get l n with
  | none => simp
  | some f => rw [q] at h; simp at h
theorem view_of_get {l : List Fd} {n : ByteArray} {p s : Bool} {v : List At} (h : get l n = if p = true then some (n, s, v) else none) (hn : p = false → s = false ∧ v = []) : pr l n = p ∧ su l n = s ∧ va l n = v := by
  unfold pr su va getR
  rw [h]
  cases p
  · obtain ⟨h1, h2⟩ := hn rfl; simp [h1, h2]
  · simp
theorem su_pr {l : List Fd} {n : ByteArray} (h : su l n = true) : pr l n = true := by
  cases q : pr l n
  · rw [(view_none q).1] at h; cases h
  · rfl
theorem view_ext {l m : List Fd} (hl : RisesF l) (hm : RisesF m) (h : ∀ n, pr l n = pr m n ∧ su l n = su m n ∧ va l n = va m n) : l = m :=
  risesF_ext hl hm fun n => by rw [get_view, get_view, (h n).1, (h n).2.1, (h n).2.2]
theorem has_pr (l : List Fd) (n : ByteArray) : has l n = pr l n := (getR_snd l n).symm
/-! ### what may be -/
theorem va_canon {s : Sp} (h : MayO s) (n : ByteArray) : Canon (va s.1 n) := by
  unfold va getR
  cases q : get s.1 n with
  | none => exact canon_iff.1 rfl
  | some f => exact canon_iff.1 (h.2.1 f (get_mem q))
theorem may_of_view {s : Sp} (h : RisesF s.1) (hv : ∀ n, Canon (va s.1 n)) (hp : Canon s.2) : MayO s := by
  refine ⟨h, fun f hf => canon_iff.2 ?_, canon_iff.2 hp⟩
  have := hv f.1
  unfold va getR at this
  rw [get_of_mem h hf] at this
  exact this
theorem sp_ext {a b : Sp} (ha : MayO a) (hb : MayO b) (hp : a.2 = b.2) (h : ∀ n, pr a.1 n = pr b.1 n ∧ su a.1 n = su b.1 n ∧ va a.1 n = va b.1 n) : a = b :=
  Prod.ext (view_ext ha.1 hb.1 h) hp
theorem canon_ext {l m : List At} (hl : Canon l) (hm : Canon m) (h : ∀ z, z ∈ l ↔ z ∈ m) : l = m := rises_ext hl.1 hm.1 h
/-! ### within -/
def WinV (a b : List Fd) (n : ByteArray) : Prop := (pr a n = true → pr b n = true) ∧ Within (va a n) (va b n) ∧ (su b n = true → su a n = true)
theorem within_view {a b : Sp} : WithinO a b ↔ MayO a ∧ MayO b ∧ Within a.2 b.2 ∧ ∀ n, WinV a.1 b.1 n := by
  unfold WithinO
  constructor
  · rintro ⟨h1, h2, h3, h4, h5⟩
    refine ⟨h1, h2, h3, fun n => ?_⟩
    have key : pr a.1 n = true → FldIn b.1 (n, su a.1 n, va a.1 n) := fun h => by
      have := get_view a.1 n
      rw [if_pos h] at this
      exact h4 _ (get_mem this)
    have sk : su b.1 n = true → pr a.1 n = true := fun h => by
      have := get_view b.1 n
      rw [if_pos (su_pr h)] at this
      exact h5 _ (get_mem this) h
    refine ⟨fun h => (key h).1, ?_, fun h => (key (sk h)).2.2 h⟩
    by_cases q : pr a.1 n = true
    · exact (key q).2.1
    · rw [(view_none (Bool.not_eq_true _ ▸ q)).2]; intro z hz; cases hz
  · rintro ⟨h1, h2, h3, h4⟩
    refine ⟨h1, h2, h3, fun f hf => ?_, fun g hg hs => ?_⟩
    · have e := get_of_mem h1.1 hf
      have p1 : pr a.1 f.1 = true := by unfold pr getR; rw [e]
      have p2 : su a.1 f.1 = f.2.1 := by unfold su getR; rw [e]
      have p3 : va a.1 f.1 = f.2.2 := by unfold va getR; rw [e]
      obtain ⟨q1, q2, q3⟩ := h4 f.1
      rw [p2] at q3; rw [p3] at q2
      exact ⟨q1 p1, q2, q3⟩
    · have e := get_of_mem h2.1 hg
      have p2 : su b.1 g.1 = g.2.1 := by unfold su getR; rw [e]
      exact su_pr ((h4 g.1).2.2 (by rw [p2]; exact hs))
/-! ### joined -/
theorem join_view (a b : List Fd) (n : ByteArray) : pr (joinL a b) n = (pr a n || pr b n) ∧ su (joinL a b) n = (su a n && su b n) ∧ va (joinL a b) n = norm (va a n ++ va b n) := by
  refine view_of_get ?_ fun h => ?_
  · rw [get_joinL, has_pr, has_pr]
    have : joinF a b n = (n, (su a n && su b n), norm (va a n ++ va b n)) := by
      show (n, pr a n && pr b n && su a n && su b n, norm (va a n ++ va b n)) = _
      congr 2
      cases q1 : su a n
      · simp
      · cases q2 : su b n
        · simp
        · simp [su_pr q1, su_pr q2]
    rw [this]
  · rw [Bool.or_eq_false_iff] at h
    rw [(view_none h.1).1, (view_none h.1).2, (view_none h.2).2]
    exact ⟨rfl, rfl⟩
theorem join_eq {a b : Sp} (ha : MayO a) (hb : MayO b) : join a b = (joinL a.1 b.1, norm (a.2 ++ b.2)) := by unfold join; rw [if_pos ⟨ha, hb⟩]
theorem join_may {a b : Sp} (ha : MayO a) (hb : MayO b) : MayO (join a b) := by
  rw [join_eq ha hb]
  refine may_of_view (joinL_rises _ _) (fun n => ?_) (norm_canon _)
  show Canon (va (joinL a.1 b.1) n)
  rw [(join_view a.1 b.1 n).2.2]
  exact norm_canon _
theorem mem_normA {l m : List At} (hl : Canon l) (hm : Canon m) {z : At} : z ∈ norm (l ++ m) ↔ z ∈ l ∨ z ∈ m := by
  rw [mem_norm, List.mem_append]
  exact ⟨fun h => h.1, fun h => ⟨h, h.elim (hl.2 z) (hm.2 z)⟩⟩
theorem prot_canon {s : Sp} (h : MayO s) : Canon s.2 := canon_iff.1 h.2.2
theorem within_join_left {a b : Sp} (ha : MayO a) (hb : MayO b) : WithinO a (join a b) := by
  rw [within_view]
  refine ⟨ha, join_may ha hb, ?_, fun n => ?_⟩
  · rw [join_eq ha hb]; exact fun z hz => (mem_normA (prot_canon ha) (prot_canon hb)).2 (.inl hz)
  · rw [join_eq ha hb]
    obtain ⟨h1, h2, h3⟩ := join_view a.1 b.1 n
    unfold WinV
    show (_ → pr (joinL a.1 b.1) n = true) ∧ Within _ (va (joinL a.1 b.1) n) ∧ (su (joinL a.1 b.1) n = true → _)
    rw [h1, h2, h3]
    exact ⟨fun h => by rw [h]; rfl, fun z hz => (mem_normA (va_canon ha n) (va_canon hb n)).2 (.inl hz), fun h => (Bool.and_eq_true _ _ ▸ h).1⟩
theorem join_comm {a b : Sp} (ha : MayO a) (hb : MayO b) : join a b = join b a := by
  have key : ∀ {l m : List At}, Canon l → Canon m → norm (l ++ m) = norm (m ++ l) := fun hl hm => canon_ext (norm_canon _) (norm_canon _) fun z => by rw [mem_normA hl hm, mem_normA hm hl, or_comm]
  refine sp_ext (join_may ha hb) (join_may hb ha) ?_ fun n => ?_
  · rw [join_eq ha hb, join_eq hb ha]; exact key (prot_canon ha) (prot_canon hb)
  · rw [join_eq ha hb, join_eq hb ha]
    obtain ⟨h1, h2, h3⟩ := join_view a.1 b.1 n
    obtain ⟨g1, g2, g3⟩ := join_view b.1 a.1 n
    show pr (joinL a.1 b.1) n = pr (joinL b.1 a.1) n ∧ su (joinL a.1 b.1) n = su (joinL b.1 a.1) n ∧ va (joinL a.1 b.1) n = va (joinL b.1 a.1) n
    rw [h1, h2, h3, g1, g2, g3, Bool.or_comm, Bool.and_comm]
    exact ⟨rfl, rfl, key (va_canon ha n) (va_canon hb n)⟩
theorem within_join_right {a b : Sp} (ha : MayO a) (hb : MayO b) : WithinO b (join a b) := by
  rw [join_comm ha hb]; exact within_join_left hb ha
theorem within_refl {a : Sp} (ha : MayO a) : WithinO a a := within_view.2 ⟨ha, ha, fun _ h => h, fun n => ⟨id, fun _ h => h, id⟩⟩
theorem within_antisymm {a b : Sp} (h1 : WithinO a b) (h2 : WithinO b a) : a = b := by
  obtain ⟨ha, hb, p1, q1⟩ := within_view.1 h1
  obtain ⟨_, _, p2, q2⟩ := within_view.1 h2
  refine sp_ext ha hb (canon_ext (prot_canon ha) (prot_canon hb) fun z => ⟨p1 z, p2 z⟩) fun n => ⟨?_, ?_, canon_ext (va_canon ha n) (va_canon hb n) fun z => ⟨(q1 n).2.1 z, (q2 n).2.1 z⟩⟩
  · exact Bool.eq_iff_iff.2 ⟨(q1 n).1, (q2 n).1⟩
  · exact Bool.eq_iff_iff.2 ⟨(q2 n).2.2, (q1 n).2.2⟩
theorem join_least {a b c : Sp} (h1 : WithinO a c) (h2 : WithinO b c) : WithinO (join a b) c := by
  obtain ⟨ha, hc, p1, q1⟩ := within_view.1 h1
  obtain ⟨hb, _, p2, q2⟩ := within_view.1 h2
  refine within_view.2 ⟨join_may ha hb, hc, ?_, fun n => ?_⟩
  · rw [join_eq ha hb]; exact fun z hz => ((mem_normA (prot_canon ha) (prot_canon hb)).1 hz).elim (p1 z) (p2 z)
  · rw [join_eq ha hb]
    obtain ⟨g1, g2, g3⟩ := join_view a.1 b.1 n
    unfold WinV
    show (pr (joinL a.1 b.1) n = true → _) ∧ Within (va (joinL a.1 b.1) n) _ ∧ (_ → su (joinL a.1 b.1) n = true)
    rw [g1, g2, g3]
    refine ⟨fun h => by rw [Bool.or_eq_true] at h; exact h.elim (q1 n).1 (q2 n).1, fun z hz => ((mem_normA (va_canon ha n) (va_canon hb n)).1 hz).elim ((q1 n).2.1 z) ((q2 n).2.1 z), fun h => by rw [(q1 n).2.2 h, (q2 n).2.2 h]; rfl⟩
theorem within_trans {a b c : Sp} (h1 : WithinO a b) (h2 : WithinO b c) : WithinO a c := by
  obtain ⟨ha, hb, p1, q1⟩ := within_view.1 h1
  obtain ⟨_, hc, p2, q2⟩ := within_view.1 h2
  exact within_view.2 ⟨ha, hc, fun z hz => p2 z (p1 z hz), fun n => ⟨fun h => (q2 n).1 ((q1 n).1 h), fun z hz => (q2 n).2.1 z ((q1 n).2.1 z hz), fun h => (q1 n).2.2 ((q2 n).2.2 h)⟩⟩
theorem join_absorb {a b : Sp} (h : WithinO b a) : join a b = a := by
  have hb := h.1; have ha := h.2.1
  exact within_antisymm (join_least (within_refl ha) h) (within_join_left ha hb)
theorem join_assoc {a b c : Sp} (ha : MayO a) (hb : MayO b) (hc : MayO c) : join (join a b) c = join a (join b c) := by
  have h1 := join_may ha hb
  have h2 := join_may hb hc
  refine within_antisymm (join_least (join_least (within_join_left ha h2) (within_trans (within_join_left hb hc) (within_join_right ha h2))) (within_trans (within_join_right hb hc) (within_join_right ha h2))) (join_least (within_trans (within_join_left ha hb) (within_join_left h1 hc)) (join_least (within_trans (within_join_right ha hb) (within_join_left h1 hc)) (within_join_right h1 hc)))
end Go.PL
end
section
/- Shapes by what is seen at each name: written, renamed; sizes. -/
open Go Go.PG Go.PL
set_option linter.unusedVariables false
namespace Go.PL
theorem put_view {l : List Fd} (hl : RisesF l) (f : Fd) (m : ByteArray) : pr (put l f) m = (if f.1 = m then true else pr l m) ∧ su (put l f) m = (if f.1 = m then f.2.1 else su l m) ∧ va (put l f) m = (if f.1 = m then f.2.2 else va l m) := by
  unfold pr su va getR
  rw [get_put hl]
  by_cases q : f.1 = m
  · simp [q]
  · simp [q]
theorem weak_eq {s : Sp} (h : MayO s) (n : ByteArray) (v : List At) : weak s n v = (put s.1 (n, su s.1 n, norm (va s.1 n ++ v)), s.2) := by unfold weak; rw [if_pos h]; rfl
theorem strong_eq {s : Sp} (h : MayO s) (n : ByteArray) (v : List At) : strong s n v = (put s.1 (n, true, norm v), s.2) := by unfold strong; rw [if_pos h]
theorem put_may {s : Sp} (h : MayO s) (n : ByteArray) (b : Bool) {v : List At} (hv : Canon v) : MayO (put s.1 (n, b, v), s.2) := by
  refine may_of_view (put_rises h.1) (fun m => ?_) (show Canon s.2 from prot_canon h)
  show Canon (va (put s.1 (n, b, v)) m)
  rw [(put_view h.1 (n, b, v) m).2.2]
  split
  · exact hv
  · exact va_canon h m
theorem weak_may {s : Sp} (h : MayO s) (n : ByteArray) (v : List At) : MayO (weak s n v) := by rw [weak_eq h]; exact put_may h n _ (norm_canon _)
theorem strong_may {s : Sp} (h : MayO s) (n : ByteArray) (v : List At) : MayO (strong s n v) := by rw [strong_eq h]; exact put_may h n _ (norm_canon _)
theorem strong_within_weak {s : Sp} (h : MayO s) {n : ByteArray} {v : List At} (hv : Canon v) (hp : pr s.1 n = true) : WithinO (strong s n v) (weak s n v) := by
  rw [within_view]
  refine ⟨strong_may h n v, weak_may h n v, ?_, fun m => ?_⟩
  · rw [strong_eq h, weak_eq h]; exact fun _ z => z
  · rw [strong_eq h, weak_eq h]
    obtain ⟨a1, a2, a3⟩ := put_view h.1 (n, true, norm v) m
    obtain ⟨b1, b2, b3⟩ := put_view h.1 (n, su s.1 n, norm (va s.1 n ++ v)) m
    unfold WinV
    rw [a1, a2, a3, b1, b2, b3]
    by_cases q : n = m
    · simp only [q, if_true, implies_true, true_and, and_true]
      intro z hz
      rw [mem_norm] at hz ⊢
      exact ⟨List.mem_append_right _ hz.1, hz.2⟩
    · simp only [q, if_false]
      exact ⟨fun z => z, fun _ hz => hz, fun z => z⟩
theorem within_weak {s : Sp} (h : MayO s) {n : ByteArray} {v : List At} (hv : Canon v) : WithinO s (weak s n v) := by
  rw [within_view]
  refine ⟨h, weak_may h n v, ?_, fun m => ?_⟩
  · rw [weak_eq h]; exact fun _ z => z
  · rw [weak_eq h]
    obtain ⟨b1, b2, b3⟩ := put_view h.1 (n, su s.1 n, norm (va s.1 n ++ v)) m
    unfold WinV
    rw [b1, b2, b3]
    by_cases q : n = m
    · subst q
      simp only [if_true, implies_true, true_and]
      exact ⟨fun z hz => mem_norm.2 ⟨List.mem_append_left _ hz, (va_canon h n).2 z hz⟩, fun z => z⟩
    · simp only [q, if_false]
      exact ⟨fun z => z, fun _ hz => hz, fun z => z⟩
theorem strong_twice {s : Sp} (h : MayO s) (n : ByteArray) (u v : List At) : strong (strong s n u) n v = strong s n v := by
  rw [strong_eq (strong_may h n u), strong_eq h, strong_eq h]
  refine Prod.ext (view_ext (put_rises (put_rises h.1)) (put_rises h.1) fun m => ?_) rfl
  obtain ⟨a1, a2, a3⟩ := put_view h.1 (n, true, norm v) m
  obtain ⟨b1, b2, b3⟩ := put_view (put_rises (f := (n, true, norm u)) h.1) (n, true, norm v) m
  obtain ⟨c1, c2, c3⟩ := put_view h.1 (n, true, norm u) m
  show pr (put (put s.1 (n, true, norm u)) (n, true, norm v)) m = _ ∧ su (put (put s.1 (n, true, norm u)) (n, true, norm v)) m = _ ∧ va (put (put s.1 (n, true, norm u)) (n, true, norm v)) m = _
  rw [a1, a2, a3, b1, b2, b3, c1, c2, c3]
  by_cases q : n = m <;> simp [q]
/-! ### renamed -/
theorem rename_eq {o : Sp} (h : MayO o) (s : Int) : rename o s = (o.1.map (renF s), norm (o.2.map (renA s))) := by unfold rename; rw [if_pos h]
theorem ren_view (l : List Fd) (s : Int) (n : ByteArray) : pr (l.map (renF s)) n = pr l n ∧ su (l.map (renF s)) n = su l n ∧ va (l.map (renF s)) n = norm ((va l n).map (renA s)) := by
  unfold pr su va getR
  rw [get_map (g := renF s) (fun _ => rfl)]
  cases q : get l n with
  | none => exact ⟨rfl, rfl, rfl⟩
  | some f => exact ⟨rfl, rfl, rfl⟩
theorem rename_may {o : Sp} (h : MayO o) (s : Int) : MayO (rename o s) := by
  rw [rename_eq h]
  refine may_of_view (rises_map (g := renF s) (fun _ => rfl) h.1) (fun n => ?_) (norm_canon _)
  show Canon (va (o.1.map (renF s)) n)
  rw [(ren_view o.1 s n).2.2]
  exact norm_canon _
theorem renA_right {s : Int} {x : At} (h : RightA x) : RightA (renA s x) := by
  unfold renA
  split
  · rename_i q
    subst q
    unfold RightA at *
    simp only at *
    omega
  · exact h
theorem renA_twice (s : Int) (x : At) : renA s (renA s x) = renA s x := by
  unfold renA
  by_cases q : x = (4, s)
  · rw [if_pos q, if_neg (by simp)]
  · rw [if_neg q, if_neg q]
theorem mem_ren {l : List At} (hl : Canon l) {s : Int} {z : At} : z ∈ norm (l.map (renA s)) ↔ ∃ x, x ∈ l ∧ renA s x = z := by
  rw [mem_norm, List.mem_map]
  exact ⟨fun h => h.1, fun h => ⟨h, by obtain ⟨x, hx, rfl⟩ := h; exact renA_right (hl.2 x hx)⟩⟩
theorem ren_join {l m : List At} (hl : Canon l) (hm : Canon m) (s : Int) : norm ((norm (l ++ m)).map (renA s)) = norm (norm (l.map (renA s)) ++ norm (m.map (renA s))) := by
  refine canon_ext (norm_canon _) (norm_canon _) fun z => ?_
  rw [mem_ren (norm_canon _), mem_normA (norm_canon _) (norm_canon _), mem_ren hl, mem_ren hm]
  constructor
  · rintro ⟨x, hx, e⟩
    exact ((mem_normA hl hm).1 hx).elim (fun h => .inl ⟨x, h, e⟩) fun h => .inr ⟨x, h, e⟩
  · rintro (⟨x, hx, e⟩ | ⟨x, hx, e⟩)
    · exact ⟨x, (mem_normA hl hm).2 (.inl hx), e⟩
    · exact ⟨x, (mem_normA hl hm).2 (.inr hx), e⟩
theorem ren_within {l m : List At} (hl : Canon l) (hm : Canon m) (s : Int) (h : Within l m) : Within (norm (l.map (renA s))) (norm (m.map (renA s))) := by
  intro z hz
  rw [mem_ren hm]
  obtain ⟨x, hx, e⟩ := (mem_ren hl).1 hz
  exact ⟨x, h x hx, e⟩
theorem ren_twice {l : List At} (hl : Canon l) (s : Int) : norm ((norm (l.map (renA s))).map (renA s)) = norm (l.map (renA s)) := by
  refine canon_ext (norm_canon _) (norm_canon _) fun z => ?_
  rw [mem_ren (norm_canon _), mem_ren hl]
  constructor
  · rintro ⟨x, hx, e⟩
    obtain ⟨y, hy, e'⟩ := (mem_ren hl).1 hx
    exact ⟨y, hy, by rw [← e, ← e', renA_twice]⟩
  · rintro ⟨x, hx, e⟩
    exact ⟨z, (mem_ren hl).2 ⟨x, hx, e⟩, by rw [← e, renA_twice]⟩
theorem rename_join {a b : Sp} (ha : MayO a) (hb : MayO b) (s : Int) : rename (join a b) s = join (rename a s) (rename b s) := by
  refine sp_ext (rename_may (join_may ha hb) s) (join_may (rename_may ha s) (rename_may hb s)) ?_ fun n => ?_
  · rw [rename_eq (join_may ha hb), join_eq (rename_may ha s) (rename_may hb s), join_eq ha hb, rename_eq ha, rename_eq hb]
    exact ren_join (prot_canon ha) (prot_canon hb) s
  · rw [rename_eq (join_may ha hb), join_eq (rename_may ha s) (rename_may hb s), join_eq ha hb, rename_eq ha, rename_eq hb]
    obtain ⟨a1, a2, a3⟩ := ren_view a.1 s n
    obtain ⟨b1, b2, b3⟩ := ren_view b.1 s n
    obtain ⟨c1, c2, c3⟩ := ren_view (joinL a.1 b.1) s n
    obtain ⟨d1, d2, d3⟩ := join_view a.1 b.1 n
    obtain ⟨e1, e2, e3⟩ := join_view (a.1.map (renF s)) (b.1.map (renF s)) n
    show pr ((joinL a.1 b.1).map (renF s)) n = pr (joinL (a.1.map (renF s)) (b.1.map (renF s))) n ∧ su ((joinL a.1 b.1).map (renF s)) n = su (joinL (a.1.map (renF s)) (b.1.map (renF s))) n ∧ va ((joinL a.1 b.1).map (renF s)) n = va (joinL (a.1.map (renF s)) (b.1.map (renF s))) n
    rw [e1, e2, e3, c1, c2, c3, d1, d2, d3, a1, a2, a3, b1, b2, b3]
    exact ⟨rfl, rfl, ren_join (va_canon ha n) (va_canon hb n) s⟩
theorem rename_within {a b : Sp} (h : WithinO a b) (s : Int) : WithinO (rename a s) (rename b s) := by
  obtain ⟨ha, hb, p, q⟩ := within_view.1 h
  refine within_view.2 ⟨rename_may ha s, rename_may hb s, ?_, fun n => ?_⟩
  · rw [rename_eq ha, rename_eq hb]; exact ren_within (prot_canon ha) (prot_canon hb) s p
  · rw [rename_eq ha, rename_eq hb]
    obtain ⟨a1, a2, a3⟩ := ren_view a.1 s n
    obtain ⟨b1, b2, b3⟩ := ren_view b.1 s n
    unfold WinV
    rw [a1, a2, a3, b1, b2, b3]
    exact ⟨(q n).1, ren_within (va_canon ha n) (va_canon hb n) s (q n).2.1, (q n).2.2⟩
theorem rename_twice {a : Sp} (ha : MayO a) (s : Int) : rename (rename a s) s = rename a s := by
  refine sp_ext (rename_may (rename_may ha s) s) (rename_may ha s) ?_ fun n => ?_
  · rw [rename_eq (rename_may ha s), rename_eq ha]; exact ren_twice (prot_canon ha) s
  · rw [rename_eq (rename_may ha s), rename_eq ha]
    obtain ⟨a1, a2, a3⟩ := ren_view a.1 s n
    obtain ⟨b1, b2, b3⟩ := ren_view (a.1.map (renF s)) s n
    show pr ((a.1.map (renF s)).map (renF s)) n = _ ∧ su ((a.1.map (renF s)).map (renF s)) n = _ ∧ va ((a.1.map (renF s)).map (renF s)) n = _
    rw [b1, b2, b3, a1, a2, a3]
    exact ⟨rfl, rfl, ren_twice (va_canon ha n) s⟩
/-! ### sizes -/
def Bd (k : Nat) (s : Sp) : Prop := s.1.length ≤ k ∧ (∀ f, f ∈ s.1 → f.2.2.length ≤ k) ∧ s.2.length ≤ k
theorem small_bd {s : Sp} (h : SmallS s) : Bd 60 s := ⟨h.2.1, h.1, h.2.2⟩
theorem bd_few {s : Sp} {k : Nat} (h : Bd k s) (hk : k ≤ 100000) : FewS s := ⟨Nat.le_trans h.1 hk, fun f hf => Nat.le_trans (h.2.1 f hf) hk, Nat.le_trans h.2.2 hk⟩
theorem bd_va {s : Sp} {k : Nat} (h : Bd k s) (n : ByteArray) : (va s.1 n).length ≤ k := by
  unfold va getR
  cases q : get s.1 n with
  | none => simp
  | some f => exact h.2.1 f (get_mem q)
theorem put_len (f : Fd) (l : List Fd) : (put l f).length ≤ l.length + 1 := by
  induction l with
  | nil => simp [put]
  | cons g l ih =>
    unfold put
    split
    · simp
    · split
      · simp
      · simp; exact ih
theorem bd_empty (k : Nat) : Bd k (([], []) : Sp) := ⟨by simp, by simp, by simp⟩
theorem join_bd {a b : Sp} {i j : Nat} (h1 : Bd i a) (h2 : Bd j b) : Bd (i + j) (join a b) := by
  unfold join
  split
  · refine ⟨?_, fun f hf => ?_, ?_⟩
    · have := foldJ_length a.1 b.1 (a.1 ++ b.1) []
      rw [List.length_append] at this
      have := h1.1; have := h2.1
      show (foldJ a.1 b.1 (a.1 ++ b.1) []).length ≤ _
      simp only [List.length_nil] at *
      omega
    · have h := get_of_mem (joinL_rises a.1 b.1) hf
      have e : va (joinL a.1 b.1) f.1 = f.2.2 := by unfold va getR; rw [h]
      rw [← e, (join_view a.1 b.1 f.1).2.2]
      have := norm_length (va a.1 f.1 ++ va b.1 f.1)
      rw [List.length_append] at this
      have := bd_va h1 f.1; have := bd_va h2 f.1
      omega
    · have := norm_length (a.2 ++ b.2)
      rw [List.length_append] at this
      have := h1.2.2; have := h2.2.2
      show (norm (a.2 ++ b.2)).length ≤ _
      omega
  · exact bd_empty _
theorem put_bd {s : Sp} {k j : Nat} (h : Bd k s) {f : Fd} (hf : f.2.2.length ≤ j) (hk : k + 1 ≤ j) : Bd j (put s.1 f, s.2) := by
  refine ⟨?_, fun g hg => ?_, ?_⟩
  · have := put_len f s.1; have := h.1; show (put s.1 f).length ≤ _; omega
  · rcases put_names hg with rfl | ⟨q, _⟩
    · exact hf
    · have := h.2.1 g q; omega
  · have := h.2.2; show s.2.length ≤ _; omega
theorem weak_bd {s : Sp} {k j : Nat} (h : Bd k s) (n : ByteArray) {v : List At} (hv : v.length ≤ j) : Bd (k + j + 1) (weak s n v) := by
  unfold weak
  split
  · refine put_bd h ?_ (by omega)
    have := norm_length ((getR s.1 n).1.2.2 ++ v)
    rw [List.length_append] at this
    have := bd_va h n
    unfold va at this
    show (norm ((getR s.1 n).1.2.2 ++ v)).length ≤ _
    omega
  · exact bd_empty _
theorem strong_bd {s : Sp} {k j : Nat} (h : Bd k s) (n : ByteArray) {v : List At} (hv : v.length ≤ j) : Bd (k + j + 1) (strong s n v) := by
  unfold strong
  split
  · refine put_bd h ?_ (by omega)
    have := norm_length v
    show (norm v).length ≤ _
    omega
  · exact bd_empty _
theorem rename_bd {s : Sp} {k : Nat} (h : Bd k s) (i : Int) : Bd k (rename s i) := by
  unfold rename
  split
  · refine ⟨by have := h.1; simpa using this, fun f hf => ?_, ?_⟩
    · obtain ⟨g, hg, rfl⟩ := List.mem_map.1 hf
      have := norm_length (g.2.2.map (renA i))
      rw [List.length_map] at this
      have := h.2.1 g hg
      show (norm (g.2.2.map (renA i))).length ≤ _
      omega
    · have := norm_length (s.2.map (renA i))
      rw [List.length_map] at this
      have := h.2.2
      show (norm (s.2.map (renA i))).length ≤ _
      omega
  · exact bd_empty _
end Go.PL
end
section
/- Law 07: the statements. -/
open Go Go.PG Go.PL
set_option linter.unusedVariables false
namespace Go.PL
theorem beq_refl (b : Bool) : P.beq b b = true := beq_iff.2 rfl
theorem seq_refl (b : ByteArray) : P.seq b b = true := seq_iff.2 rfl
theorem lenLe {l : Nat} : P.ilt (60 : Int) (l : Int) = P.not (decide (l ≤ 60)) := by
  rw [Bool.eq_iff_iff, ilt_iff, not_iff, decide_eq_true_eq]; omega
end Go.PL
end
section
/- Law 07: what is written weakly. -/
open Go Go.PG Go.PL
set_option linter.unusedVariables false
namespace Go.PL
theorem lt_max {n : Nat} (h : n ≤ maxLen) : n < 9223372036854775808 := by simp only [maxLen] at h; omega
theorem view_mem {l : List Fd} (h : RisesF l) {f : Fd} (hf : f ∈ l) : getR l f.1 = (f, true) := by
  unfold getR; rw [get_of_mem h hf]
end Go.PL
end
section
/- States: what may be. -/
open Go Go.PG Go.PL
set_option linter.all false
namespace Go.PL
abbrev Bv := ByteArray × List At
abbrev Lc := At × Sp
abbrev Sta := Bool × List Bv × List Lc
abbrev dB : Bv := (⟨#[]⟩, [])
abbrev dL : Lc := ((0, 0), [], [])
/-! ### lists by their places -/
theorem getD_mem {α : Type} {l : List α} {i : Nat} (h : i < l.length) (d : α) : l.getD i d ∈ l := by
  simp [List.getD_eq_getElem?_getD, h]
theorem forall_getD {α : Type} {l : List α} (d : α) {p : α → Prop} : (∀ i, i < l.length → p (l.getD i d)) ↔ ∀ f, f ∈ l → p f := by
  constructor
  · intro h f hf
    obtain ⟨i, hi, rfl⟩ := List.getElem_of_mem hf
    have := h i hi
    simpa [List.getD_eq_getElem?_getD, hi] using this
  · intro h i hi; exact h _ (getD_mem hi d)
theorem pair_steps {α : Type} {R : α → α → Prop} (tr : ∀ {a b c}, R a b → R b c → R a c) (l : List α) (d : α) : (∀ i, i < l.length → 0 < i → R (l.getD (i - 1) d) (l.getD i d)) ↔ l.Pairwise R := by
  constructor
  · intro h
    have key : ∀ k i, i + k + 1 < l.length → R (l.getD i d) (l.getD (i + k + 1) d) := by
      intro k
      induction k with
      | zero => intro i hi; have := h (i + 1) hi (by omega); simpa using this
      | succ k ih =>
        intro i hi
        have h1 := ih i (by omega)
        have h2 := h (i + (k + 1) + 1) hi (by omega)
        rw [show i + (k + 1) + 1 - 1 = i + k + 1 by omega] at h2
        exact tr h1 h2
    refine List.pairwise_iff_getElem.2 fun i j hi hj hij => ?_
    have := key (j - i - 1) i (by omega)
    rw [show i + (j - i - 1) + 1 = j by omega] at this
    simpa [List.getD_eq_getElem?_getD, hi, hj] using this
  · intro h i hi h0
    have := List.pairwise_iff_getElem.1 h (i - 1) i (by omega) hi (by omega)
    simpa [List.getD_eq_getElem?_getD, hi, show i - 1 < l.length by omega] using this
theorem ext_getD {α : Type} {a b : List α} (d : α) (h : a.length = b.length) : (∀ i, i < a.length → a.getD i d = b.getD i d) ↔ a = b := by
  constructor
  · intro q
    refine List.ext_getElem h fun i h1 h2 => ?_
    have := q i h1
    simpa [List.getD_eq_getElem?_getD, h1, h2] using this
  · rintro rfl _ _; rfl
theorem take_getD' {α : Type} {l : List α} {j : Nat} (h : j < l.length) (d : α) : l.take (j + 1) = l.take j ++ [l.getD j d] := by
  rw [List.take_add_one, List.getElem?_eq_getElem h]
  simp [List.getD_eq_getElem?_getD, h]
/-! ### single steps -/
theorem ilt_len {α : Type} {l : List α} {i : Nat} (h : i < l.length) : P.ilt (i : Int) (P.len l) = true := ilt_iff.2 (by rw [len_eq]; omega)
theorem ilt_end {α : Type} (l : List α) : P.ilt (l.length : Int) (P.len l) = false := by rw [Bool.eq_false_iff, Ne, ilt_iff, len_eq]; omega
theorem inb_len {α : Type} {l : List α} {i : Nat} (h : i < l.length) : P.inb (i : Int) (P.len l) = true := inb_iff.2 (by rw [len_eq]; omega)
theorem not_true : P.not true = false := rfl
theorem not_false' : P.not false = true := rfl
theorem cond_dec {α : Type} (p : Prop) [Decidable p] (x y : α) : P.cond (decide p) x y = if p then x else y := by
  by_cases h : p
  · rw [decide_eq_true h, if_pos h]; rfl
  · rw [decide_eq_false h, if_neg h]; rfl
theorem cond_ndec {α : Type} (p : Prop) [Decidable p] (x y : α) : P.cond (P.not (decide p)) x y = if p then y else x := by
  by_cases h : p
  · rw [decide_eq_true h, if_pos h]; rfl
  · rw [decide_eq_false h, if_neg h]; rfl
theorem slt_dec (a b : ByteArray) : P.slt a b = decide (ltS a b) := by rw [Bool.eq_iff_iff, slt_iff, decide_eq_true_eq]
theorem seq_dec (a b : ByteArray) : P.seq a b = decide (a = b) := by rw [Bool.eq_iff_iff, seq_iff, decide_eq_true_eq]
theorem ilt_dec (a b : Int) : P.ilt a b = decide (a < b) := rfl
theorem ile_dec (a b : Int) : P.ile a b = decide (a ≤ b) := rfl
theorem eqA_dec (a b : At) : P.and (P.ieq a.1 b.1) (P.ieq a.2 b.2) = decide (a = b) := by rw [Bool.eq_iff_iff, eqA_iff, decide_eq_true_eq]
theorem beq_dec (a b : Bool) : P.beq a b = decide (a = b) := by cases a <;> cases b <;> rfl
/-- A count that ends where something fails. -/
theorem loop_all {ρ σ : Type} (n : Nat) (p : Nat → Prop) [DecidablePred p] {f : Int → Option (Int ⊕ (Unit ⊕ ρ))} {A : Option σ} {B : ρ → Option σ} {r : ρ} (hn : n ≤ 1000000000)
    (hs : ∀ i : Nat, i < n → f (i : Int) = some (if p i then .inl ((i + 1 : Nat) : Int) else .inr (.inr r))) (he : f (n : Int) = some (.inr (.inl ()))) :
    P.bind (P.iter K f 0) (P.either (fun (_ : Unit) => A) B) = if ∀ i, i < n → p i then A else B r := by
  rw [iter_all (n := n) (e := .inl ()) (r := .inr r) p K hs he (by unfold K; omega), bind_some]
  by_cases q : ∀ i, i < n → p i
  · rw [if_pos q, if_pos q]; rfl
  · rw [if_neg q, if_neg q]; rfl
/-- A count that goes all the way with a state. -/
theorem loop_fold {τ ρ σ : Type} (n : Nat) (s : Nat → τ) {f : Int × τ → Option ((Int × τ) ⊕ (τ ⊕ ρ))} {A : τ → Option σ} {B : ρ → Option σ} (hn : n ≤ 1000000000)
    (hs : ∀ i : Nat, i < n → f ((i : Int), s i) = some (.inl (((i + 1 : Nat) : Int), s (i + 1)))) (he : f ((n : Int), s n) = some (.inr (.inl (s n)))) :
    P.bind (P.iter K f (0, s 0)) (P.either A B) = A (s n) := by
  have := iter_run (f := f) (fun i => ((i : Int), s i)) _ n 0 K (by unfold K; omega) (fun j hj => by simp only [Nat.zero_add]; exact hs j hj) (by simpa using he)
  rw [show ((0 : Nat) : Int) = 0 from rfl] at this
  rw [this, bind_some, either_inl]
/-! ### what may be -/
def PlaceA (a : At) : Prop := (a.1 = 4 ∨ a.1 = 5) ∧ 0 ≤ a.2
instance (a : At) : Decidable (PlaceA a) := by unfold PlaceA; exact inferInstance
theorem place_right {a : At} (h : PlaceA a) : RightA a := by unfold PlaceA at h; unfold RightA; omega
abbrev RisesB (l : List Bv) : Prop := l.Pairwise fun a b => ltS a.1 b.1
abbrev RisesL (l : List Lc) : Prop := l.Pairwise fun a b => ltA a.1 b.1
def MayS (s : Sta) : Prop := (RisesB s.2.1 ∧ ∀ b, b ∈ s.2.1 → b.2 = norm b.2) ∧ (RisesL s.2.2 ∧ ∀ l, l ∈ s.2.2 → PlaceA l.1 ∧ MayO l.2) ∧ (s.1 = true → s.2.1 = [] ∧ s.2.2 = [])
instance (s : Sta) : Decidable (MayS s) := by unfold MayS; exact inferInstance
def FewT (s : Sta) : Prop := s.2.1.length ≤ 100000 ∧ (∀ b, b ∈ s.2.1 → b.2.length ≤ 100000) ∧ s.2.2.length ≤ 100000 ∧ ∀ l, l ∈ s.2.2 → FewS l.2
instance (s : Sta) : Decidable (FewT s) := by unfold FewT; exact inferInstance
theorem ref_place (k : Nat) (a : At) : ref08_Place k a = some (decide (PlaceA a)) := by
  unfold ref08_Place
  obtain ⟨x, y⟩ := a
  try dsimp only
  simp only [PlaceA, ieq_eq, ile_dec, cond_dec]
  by_cases h4 : x = 4
  · rw [if_pos h4]; simp [h4]
  · by_cases h5 : x = 5
    · rw [if_neg h4, if_pos h5]; simp [h5]
    · rw [if_neg h4, if_neg h5]; simp [h4, h5]
theorem norm_one {a : At} : [a] = norm [a] ↔ RightA a := by
  rw [canon_iff]
  exact ⟨fun h => h.2 a (by simp), fun h => ⟨List.pairwise_singleton _ _, fun z hz => by rw [List.mem_singleton] at hz; rw [hz]; exact h⟩⟩
theorem cmp_int (k : Nat) (x y : Int) : cmp_Compare_int k (x, y) = some (if x < y then -1 else if y < x then 1 else 0) := by
  unfold cmp_Compare_int
  try dsimp only
  have h : ∀ z : Int, cmp_isNaN_int k z = some false := by
    intro z
    unfold cmp_isNaN_int
    simp [P.not, P.ieq]
  rw [h, bind_some, h, bind_some, cond_false, cond_false, ilt_dec, ilt_dec, cond_dec, cond_dec]
  repeat' split
  all_goals first | rfl | omega
theorem at_compare (a b : At) : ∃ r : Int, atoms_Compare K (a, b) = some r ∧ (0 ≤ r ↔ ¬ ltA a b) := by
  unfold atoms_Compare
  try dsimp only
  rw [cmp_int, bind_some, cmp_int, bind_some]
  have hor : ∀ x y : Int, cmp_Or_int K [x, y] = some (if x = 0 then y else x) := by
    intro x y
    unfold cmp_Or_int
    try dsimp only
    have hK : ∃ m, K = m + 3 := ⟨18446744073709551613, rfl⟩
    obtain ⟨m, hm⟩ := hK
    rw [hm]
    by_cases hx : x = 0
    · subst hx
      by_cases hy : y = 0
      · subst hy; rfl
      · rw [iter_succ]
        simp [P.ilt, P.inb, P.len, P.cond, P.get, P.ieq, P.not, P.wrap, P.add, IntKind.wrap, IntKind.bits, IntKind.signed]
        rw [iter_succ]
        have hy' : (y == 0) = false := by simp [hy]
        simp [P.ilt, P.inb, P.len, P.cond, P.get, P.ieq, P.not, P.bind, P.either, hy']
    · rw [iter_succ]
      have hx' : (x == 0) = false := by simp [hx]
      simp [P.ilt, P.inb, P.len, P.cond, P.get, P.ieq, P.not, P.bind, P.either, hx, hx']
  rw [hor, bind_some]
  refine ⟨_, rfl, ?_⟩
  unfold ltA
  repeat' split
  all_goals omega
end Go.PL
end
section
/- States: what may be, asx both say it; which are the same; what they hold. -/
open Go Go.PG Go.PL
set_option linter.all false
namespace Go.PL
def StepB (l : List Bv) (i : Nat) : Prop := (l.getD i dB).2 = norm (l.getD i dB).2 ∧ (0 < i → ltS (l.getD (i - 1) dB).1 (l.getD i dB).1)
instance (l : List Bv) (i : Nat) : Decidable (StepB l i) := by unfold StepB; exact inferInstance
def StepL (l : List Lc) (i : Nat) : Prop := (PlaceA (l.getD i dL).1 ∧ MayO (l.getD i dL).2) ∧ (0 < i → ltA (l.getD (i - 1) dL).1 (l.getD i dL).1)
instance (l : List Lc) (i : Nat) : Decidable (StepL l i) := by unfold StepL; exact inferInstance
theorem stepsB_iff {l : List Bv} : (∀ i, i < l.length → StepB l i) ↔ RisesB l ∧ ∀ f, f ∈ l → f.2 = norm f.2 := by
  have e1 := pair_steps (R := fun a b : Bv => ltS a.1 b.1) (fun h1 h2 => ltS_trans h1 h2) l dB
  have e2 := forall_getD (l := l) dB (p := fun f : Bv => f.2 = norm f.2)
  exact ⟨fun h => ⟨e1.1 fun i hi => (h i hi).2, e2.1 fun i hi => (h i hi).1⟩, fun h i hi => ⟨e2.2 h.2 i hi, e1.2 h.1 i hi⟩⟩
theorem stepsL_iff {l : List Lc} : (∀ i, i < l.length → StepL l i) ↔ RisesL l ∧ ∀ f, f ∈ l → PlaceA f.1 ∧ MayO f.2 := by
  have e1 := pair_steps (R := fun a b : Lc => ltA a.1 b.1) (fun h1 h2 => ltA_trans h1 h2) l dL
  have e2 := forall_getD (l := l) dL (p := fun f : Lc => PlaceA f.1 ∧ MayO f.2)
  exact ⟨fun h => ⟨e1.1 fun i hi => (h i hi).2, e2.1 fun i hi => (h i hi).1⟩, fun h i hi => ⟨e2.2 h.2 i hi, e1.2 h.1 i hi⟩⟩
theorem may_tail (s : Sta) (A : Option Bool) (hA : A = some (decide (s.1 = true → s.2.1 = [] ∧ s.2.2 = []))) :
    (if ∀ i, i < s.2.1.length → StepB s.2.1 i then (if ∀ i, i < s.2.2.length → StepL s.2.2 i then A else some false) else some false) = some (decide (MayS s)) := by
  subst hA
  by_cases q1 : ∀ i, i < s.2.1.length → StepB s.2.1 i
  · by_cases q2 : ∀ i, i < s.2.2.length → StepL s.2.2 i
    · rw [if_pos q1, if_pos q2]
      congr 1
      rw [decide_eq_decide]
      exact ⟨fun h => ⟨stepsB_iff.1 q1, stepsL_iff.1 q2, h⟩, fun h => h.2.2⟩
    · rw [if_pos q1, if_neg q2, decide_eq_false fun h : MayS s => q2 (stepsL_iff.2 h.2.1)]
  · rw [if_neg q1, decide_eq_false fun h : MayS s => q1 (stepsB_iff.2 h.1)]
theorem ref_may8 (s : Sta) (h : FewT s) : ref08_May K s = some (decide (MayS s)) := by
  unfold ref08_May
  try dsimp only
  obtain ⟨h1, h2, h3, h4⟩ := h
  rw [loop_all s.2.1.length (StepB s.2.1) (r := false) (by omega) ?_ ?_]
  · rw [loop_all s.2.2.length (StepL s.2.2) (r := false) (by omega) ?_ ?_]
    · refine may_tail s _ ?_
      cases s.1
      · simp [P.not, P.cond]
      · rw [not_true, cond_false, ieq_eq, cond_dec, ieq_eq, len_eq, len_eq]
        by_cases q : s.2.1 = []
        · rw [if_pos (by simp [q])]; simp [q]
        · rw [if_neg (by simp [q])]; simp [q]
    · intro i hi
      try dsimp only
      have hm := getD_mem hi dL
      rw [ilt_len hi, cond_true, inb_len hi, cond_true, get_nat, ref_place, bind_some, cond_ndec, cond_true, ref_may7 _ (h4 _ hm), bind_some, cond_ndec, wrap_succ (by omega)]
      by_cases q1 : PlaceA (s.2.2.getD i dL).1
      · by_cases q2 : MayO (s.2.2.getD i dL).2
        · rw [if_pos q1, if_pos q2]
          by_cases h0 : 0 < i
          · rw [show P.ilt ((0 : Int)) (i : Int) = true from ilt_iff.2 (by omega), cond_true, wrap_pred h0 (by omega), inb_len (show i - 1 < s.2.2.length by omega), cond_true, get_nat, ref_less, bind_some, cond_true, cond_ndec]
            by_cases z : ltA (s.2.2.getD (i - 1) dL).1 (s.2.2.getD i dL).1
            · rw [if_pos z, if_pos (show StepL s.2.2 i from ⟨⟨q1, q2⟩, fun _ => z⟩)]
            · rw [if_neg z, if_neg (show ¬ StepL s.2.2 i from fun y => z (y.2 h0))]
          · rw [show P.ilt ((0 : Int)) (i : Int) = false from by rw [Bool.eq_false_iff, Ne, ilt_iff]; omega, cond_false, if_pos (show StepL s.2.2 i from ⟨⟨q1, q2⟩, fun z => absurd z h0⟩)]
        · rw [if_pos q1, if_neg q2, if_neg (show ¬ StepL s.2.2 i from fun z => q2 z.1.2)]
      · rw [if_neg q1, if_neg (show ¬ StepL s.2.2 i from fun z => q1 z.1.1)]
    · try dsimp only
      rw [ilt_end]; rfl
  · intro i hi
    try dsimp only
    have hm := getD_mem hi dB
    rw [ilt_len hi, cond_true, inb_len hi, cond_true, get_nat, ref_may (s.2.1.getD i dB).2 (by have := h2 _ hm; omega), bind_some, cond_ndec, wrap_succ (by omega)]
    by_cases q : (s.2.1.getD i dB).2 = norm (s.2.1.getD i dB).2
    · rw [if_pos q]
      by_cases h0 : 0 < i
      · rw [show P.ilt ((0 : Int)) (i : Int) = true from ilt_iff.2 (by omega), cond_true, wrap_pred h0 (by omega), inb_len (show i - 1 < s.2.1.length by omega), cond_true, cond_true, get_nat, slt_dec, cond_ndec]
        by_cases z : ltS (s.2.1.getD (i - 1) dB).1 (s.2.1.getD i dB).1
        · rw [if_pos z, if_pos (show StepB s.2.1 i from ⟨q, fun _ => z⟩)]
        · rw [if_neg z, if_neg (show ¬ StepB s.2.1 i from fun y => z (y.2 h0))]
      · rw [show P.ilt ((0 : Int)) (i : Int) = false from by rw [Bool.eq_false_iff, Ne, ilt_iff]; omega, cond_false, if_pos (show StepB s.2.1 i from ⟨q, fun z => absurd z h0⟩)]
    · rw [if_neg q, if_neg (show ¬ StepB s.2.1 i from fun z => q z.1)]
  · try dsimp only
    rw [ilt_end]; rfl
instance decSp : DecidableEq Sp := fun a b => inferInstance
instance decLc : DecidableEq Lc := fun a b => decidable_of_iff (a.1 = b.1 ∧ a.2 = b.2) ⟨fun h => Prod.ext h.1 h.2, fun h => by rw [h]; exact ⟨rfl, rfl⟩⟩
instance decSta : DecidableEq Sta := fun a b => decidable_of_iff (a.1 = b.1 ∧ a.2.1 = b.2.1 ∧ a.2.2 = b.2.2) ⟨fun h => Prod.ext h.1 (Prod.ext h.2.1 h.2.2), fun h => by rw [h]; exact ⟨rfl, rfl, rfl⟩⟩
theorem ieq_len {α β : Type} (a : List α) (b : List β) : P.ieq (P.len a) (P.len b) = decide (a.length = b.length) := by
  rw [ieq_eq, len_eq, len_eq, decide_eq_decide]; omega
end Go.PL
end
section
/- States: what they hold; which are small; which is within which. -/
open Go Go.PG Go.PL
set_option linter.all false
namespace Go.PL
theorem range_findSome {α ρ : Type} (l : List α) (d : α) (h : α → Option ρ) : (List.range l.length).findSome? (fun i => h (l.getD i d)) = l.findSome? h := by
  conv => rhs; rw [← range_map l d]
  rw [List.findSome?_map]; rfl
theorem findSome_if {α ρ : Type} (q : α → Prop) [DecidablePred q] (g : α → ρ) : ∀ l : List α, l.findSome? (fun x => if q x then some (g x) else none) = (l.find? fun x => decide (q x)).map g := by
  intro l
  induction l with
  | nil => rfl
  | cons a l ih =>
    rw [List.findSome?_cons, List.find?_cons]
    by_cases h : q a
    · rw [if_pos h, decide_eq_true h]; rfl
    · rw [if_neg h, decide_eq_false h]; exact ih
/-- A count that ends at the first one of some sort. -/
theorem loop_find {α ρ σ : Type} (l : List α) (d : α) (q : α → Prop) [DecidablePred q] (g : α → ρ) {f : Int → Option (Int ⊕ (Unit ⊕ ρ))} {A : Option σ} {B : ρ → Option σ} (hn : l.length ≤ 1000000000)
    (hs : ∀ i : Nat, i < l.length → f (i : Int) = some (if q (l.getD i d) then .inr (.inr (g (l.getD i d))) else .inl ((i + 1 : Nat) : Int))) (he : f (l.length : Int) = some (.inr (.inl ()))) :
    P.bind (P.iter K f 0) (P.either (fun (_ : Unit) => A) B) = match l.find? fun x => decide (q x) with
      | some x => B (g x)
      | none => A := by
  rw [iter_find0 (n := l.length) (e := .inl ()) (fun i => if q (l.getD i d) then some (.inr (g (l.getD i d))) else none) K (fun i hi => by
    rw [hs i hi]
    by_cases h : q (l.getD i d)
    · rw [if_pos h, if_pos h]
    · rw [if_neg h, if_neg h]) he (by unfold K; omega)]
  rw [range_findSome l d (fun x => if q x then some (Sum.inr (g x) : Unit ⊕ ρ) else none), findSome_if q (fun x => (Sum.inr (g x) : Unit ⊕ ρ)) l, bind_some]
  cases l.find? fun x => decide (q x) with
  | none => rfl
  | some x => rfl
def getV (l : List Bv) (n : ByteArray) : Option Bv := l.find? fun b => decide (b.1 = n)
def var (l : List Bv) (n : ByteArray) : List At := match getV l n with
  | some b => b.2
  | none => [(0, 0)]
def getL (l : List Lc) (x : At) : Option Lc := l.find? fun b => decide (b.1 = x)
def locR (l : List Lc) (x : At) : Sp × Bool := match getL l x with
  | some b => (b.2, true)
  | none => (([], []), false)
theorem ref_var (s : Sta) (n : ByteArray) (h : s.2.1.length ≤ 1000000) : ref08_Var K (s, n) = some (var s.2.1 n) := by
  unfold ref08_Var
  try dsimp only
  rw [loop_find s.2.1 dB (fun b => b.1 = n) (fun b => b.2) (by omega) ?_ ?_]
  · unfold var getV
    cases s.2.1.find? fun b => decide (b.1 = n) with
    | none => rfl
    | some b => rfl
  · intro i hi
    try dsimp only
    rw [ilt_len hi, cond_true, inb_len hi, cond_true, cond_true, get_nat, seq_dec, cond_dec, wrap_succ (by omega)]
    by_cases q : (s.2.1.getD i dB).1 = n
    · rw [if_pos q, if_pos q]
    · rw [if_neg q, if_neg q]
  · try dsimp only
    rw [ilt_end]; rfl
theorem ref_loc (s : Sta) (x : At) (h : s.2.2.length ≤ 1000000) : ref08_Loc K (s, x) = some (locR s.2.2 x) := by
  unfold ref08_Loc
  try dsimp only
  rw [loop_find s.2.2 dL (fun b => b.1 = x) (fun b => (b.2, true)) (by omega) ?_ ?_]
  · unfold locR getL
    cases s.2.2.find? fun b => decide (b.1 = x) with
    | none => rfl
    | some b => rfl
  · intro i hi
    try dsimp only
    rw [ilt_len hi, cond_true, inb_len hi, cond_true, cond_true, get_nat, eqA_dec, cond_dec, wrap_succ (by omega)]
    by_cases q : (s.2.2.getD i dL).1 = x
    · rw [if_pos q, if_pos q]
    · rw [if_neg q, if_neg q]
  · try dsimp only
    rw [ilt_end]; rfl
theorem ref_dyn (l : List At) (h : l.length ≤ 1000000) : ref06_IsDyn K l = some (decide ((6, 0) ∈ l)) := by
  unfold ref06_IsDyn
  try dsimp only
  rw [ref_has l _ (by omega), bind_some]
/-! ### small ones -/
def SmallL (l : Lc) : Prop := l.2.1.length ≤ 40 ∧ l.2.2.length ≤ 40 ∧ ∀ f, f ∈ l.2.1 → f.2.2.length ≤ 40
instance (l : Lc) : Decidable (SmallL l) := by unfold SmallL; exact inferInstance
def SmallT (s : Sta) : Prop := s.2.1.length ≤ 40 ∧ s.2.2.length ≤ 40 ∧ (∀ b, b ∈ s.2.1 → b.2.length ≤ 40) ∧ ∀ l, l ∈ s.2.2 → SmallL l
instance (s : Sta) : Decidable (SmallT s) := by unfold SmallT; exact inferInstance
theorem small_fewL {l : Lc} (h : SmallL l) : FewS l.2 := ⟨by have := h.1; omega, fun f hf => by have := h.2.2 f hf; omega, by have := h.2.1; omega⟩
theorem small_fewT {s : Sta} (h : SmallT s) : FewT s := ⟨by have := h.1; omega, fun b hb => by have := h.2.2.1 b hb; omega, by have := h.2.1; omega, fun l hl => small_fewL (h.2.2.2 l hl)⟩
theorem ilt_dec40 {α : Type} (l : List α) : P.ilt (40 : Int) (P.len l) = decide (¬ l.length ≤ 40) := by rw [ilt_dec, len_eq, decide_eq_decide]; omega
theorem ref_small8 (s : Sta) : ref08_Small K s = some (decide (SmallT s)) := by
  unfold ref08_Small
  try dsimp only
  rw [ilt_dec40, cond_dec, ilt_dec40, cond_dec]
  by_cases q1 : s.2.1.length ≤ 40
  · by_cases q2 : s.2.2.length ≤ 40
    · rw [if_neg (fun z => z q1), if_neg (fun z => z q2), loop_all s.2.1.length (fun i => (s.2.1.getD i dB).2.length ≤ 40) (r := false) (by omega) ?_ ?_]
      · rw [loop_all s.2.2.length (fun i => SmallL (s.2.2.getD i dL)) (r := false) (by omega) ?_ ?_]
        · have e1 := forall_getD (l := s.2.1) dB (p := fun b => b.2.length ≤ 40)
          have e2 := forall_getD (l := s.2.2) dL (p := SmallL)
          by_cases z1 : ∀ i, i < s.2.1.length → (s.2.1.getD i dB).2.length ≤ 40
          · by_cases z2 : ∀ i, i < s.2.2.length → SmallL (s.2.2.getD i dL)
            · rw [if_pos z1, if_pos z2, decide_eq_true (show SmallT s from ⟨q1, q2, e1.1 z1, e2.1 z2⟩)]
            · rw [if_pos z1, if_neg z2, decide_eq_false (fun z : SmallT s => z2 (e2.2 z.2.2.2))]
          · rw [if_neg z1, decide_eq_false (fun z : SmallT s => z1 (e1.2 z.2.2.1))]
        · intro i hi
          try dsimp only
          rw [ilt_len hi, cond_true, inb_len hi, cond_true, cond_true, get_nat, ilt_dec40, cond_dec, ilt_dec40, cond_dec, wrap_succ (by omega)]
          generalize s.2.2.getD i dL = l
          by_cases y1 : l.2.1.length ≤ 40
          · by_cases y2 : l.2.2.length ≤ 40
            · rw [if_neg (fun z => z y1), if_neg (fun z => z y2), loop_all l.2.1.length (fun j => (l.2.1.getD j dF).2.2.length ≤ 40) (r := .inr (.inr false)) (by omega) ?_ ?_]
              · have e3 := forall_getD (l := l.2.1) dF (p := fun f => f.2.2.length ≤ 40)
                by_cases y3 : ∀ j, j < l.2.1.length → (l.2.1.getD j dF).2.2.length ≤ 40
                · rw [if_pos y3, if_pos (show SmallL l from ⟨y1, y2, e3.1 y3⟩)]
                · rw [if_neg y3, if_neg (fun z : SmallL l => y3 (e3.2 z.2.2))]
              · intro j hj
                try dsimp only
                rw [cond_true, ilt_len hj, cond_true, cond_true, inb_len hj, cond_true, get_nat, ilt_dec40, cond_dec, wrap_succ (by omega)]
                by_cases y3 : (l.2.1.getD j dF).2.2.length ≤ 40
                · rw [if_neg (fun z => z y3), if_pos y3]
                · rw [if_pos y3, if_neg y3]
              · try dsimp only
                rw [cond_true, ilt_end]; rfl
            · rw [if_neg (fun z => z y1), if_pos y2, if_neg (fun z : SmallL l => y2 z.2.1)]
          · rw [if_pos y1, if_neg (fun z : SmallL l => y1 z.1)]
        · try dsimp only
          rw [ilt_end]; rfl
      · intro i hi
        try dsimp only
        rw [ilt_len hi, cond_true, inb_len hi, cond_true, get_nat, ilt_dec40, cond_dec, wrap_succ (by omega)]
        by_cases y3 : (s.2.1.getD i dB).2.length ≤ 40
        · rw [if_neg (fun z => z y3), if_pos y3]
        · rw [if_pos y3, if_neg y3]
      · try dsimp only
        rw [ilt_end]; rfl
    · rw [if_neg (fun z => z q1), if_pos q2, decide_eq_false (fun z : SmallT s => q2 z.2.1)]
  · rw [if_pos q1, decide_eq_false (fun z : SmallT s => q1 z.1)]
/-! ### within -/
def WithinT (a b : Sta) : Prop := MayS a ∧ MayS b ∧ (a.1 = true ∨ (b.1 = false ∧ (∀ v, v ∈ a.2.1 → Within v.2 (var b.2.1 v.1)) ∧ (∀ v, v ∈ b.2.1 → Within (var a.2.1 v.1) v.2) ∧ ∀ l, l ∈ a.2.2 → (locR b.2.2 l.1).2 = true ∧ WithinO l.2 (locR b.2.2 l.1).1))
instance (a b : Sta) : Decidable (WithinT a b) := by unfold WithinT; exact inferInstance
theorem var_few {s : Sta} (h : FewT s) (n : ByteArray) : (var s.2.1 n).length ≤ 100000 := by
  unfold var getV
  cases q : s.2.1.find? fun b => decide (b.1 = n) with
  | none => simp
  | some b => exact h.2.1 b (List.mem_of_find?_eq_some q)
theorem loc_few {s : Sta} (h : FewT s) (x : At) : FewS (locR s.2.2 x).1 := by
  unfold locR getL
  cases q : s.2.2.find? fun b => decide (b.1 = x) with
  | none => exact ⟨by simp, by simp, by simp⟩
  | some b => exact h.2.2.2 b (List.mem_of_find?_eq_some q)
theorem ref_within8 (a b : Sta) (ha : FewT a) (hb : FewT b) : ref08_Within K (a, b) = some (decide (WithinT a b)) := by
  unfold ref08_Within
  try dsimp only
  obtain ⟨h1, h2, h3, h4⟩ := ha
  obtain ⟨g1, g2, g3, g4⟩ := hb
  rw [ref_may8 a ⟨h1, h2, h3, h4⟩, bind_some, cond_ndec, ref_may8 b ⟨g1, g2, g3, g4⟩, bind_some, cond_ndec]
  by_cases m1 : MayS a
  · by_cases m2 : MayS b
    · rw [if_pos m1, if_pos m2]
      cases da : a.1
      · cases db : b.1
        · rw [cond_false, cond_false, loop_all a.2.1.length (fun i => Within (a.2.1.getD i dB).2 (var b.2.1 (a.2.1.getD i dB).1)) (r := false) (by omega) ?_ ?_]
          · rw [loop_all b.2.1.length (fun i => Within (var a.2.1 (b.2.1.getD i dB).1) (b.2.1.getD i dB).2) (r := false) (by omega) ?_ ?_]
            · rw [loop_all a.2.2.length (fun i => (locR b.2.2 (a.2.2.getD i dL).1).2 = true ∧ WithinO (a.2.2.getD i dL).2 (locR b.2.2 (a.2.2.getD i dL).1).1) (r := false) (by omega) ?_ ?_]
              · have e1 := forall_getD (l := a.2.1) dB (p := fun v => Within v.2 (var b.2.1 v.1))
                have e2 := forall_getD (l := b.2.1) dB (p := fun v => Within (var a.2.1 v.1) v.2)
                have e3 := forall_getD (l := a.2.2) dL (p := fun l => (locR b.2.2 l.1).2 = true ∧ WithinO l.2 (locR b.2.2 l.1).1)
                by_cases z1 : ∀ i, i < a.2.1.length → Within (a.2.1.getD i dB).2 (var b.2.1 (a.2.1.getD i dB).1)
                · by_cases z2 : ∀ i, i < b.2.1.length → Within (var a.2.1 (b.2.1.getD i dB).1) (b.2.1.getD i dB).2
                  · by_cases z3 : ∀ i, i < a.2.2.length → (locR b.2.2 (a.2.2.getD i dL).1).2 = true ∧ WithinO (a.2.2.getD i dL).2 (locR b.2.2 (a.2.2.getD i dL).1).1
                    · rw [if_pos z1, if_pos z2, if_pos z3, decide_eq_true (show WithinT a b from ⟨m1, m2, .inr ⟨db, e1.1 z1, e2.1 z2, e3.1 z3⟩⟩)]
                    · rw [if_pos z1, if_pos z2, if_neg z3, decide_eq_false (fun z : WithinT a b => by
                        rcases z.2.2 with y | y
                        · rw [da] at y; cases y
                        · exact z3 (e3.2 y.2.2.2))]
                  · rw [if_pos z1, if_neg z2, decide_eq_false (fun z : WithinT a b => by
                      rcases z.2.2 with y | y
                      · rw [da] at y; cases y
                      · exact z2 (e2.2 y.2.2.1))]
                · rw [if_neg z1, decide_eq_false (fun z : WithinT a b => by
                    rcases z.2.2 with y | y
                    · rw [da] at y; cases y
                    · exact z1 (e1.2 y.2.1))]
              · intro i hi
                try dsimp only
                have hm := getD_mem hi dL
                rw [ilt_len hi, cond_true, inb_len hi, cond_true, get_nat, ref_loc b _ (by omega), bind_some, cond_true, ref_within7 _ _ (h4 _ hm) (loc_few ⟨g1, g2, g3, g4⟩ _), bind_some, cond_ndec, wrap_succ (by omega)]
                cases q : (locR b.2.2 (a.2.2.getD i dL).1).2
                · rw [not_false', cond_true, if_neg (fun z => by cases z.1)]
                · rw [not_true, cond_false]
                  by_cases y : WithinO (a.2.2.getD i dL).2 (locR b.2.2 (a.2.2.getD i dL).1).1
                  · rw [if_pos y, if_pos ⟨rfl, y⟩]
                  · rw [if_neg y, if_neg (fun z => y z.2)]
              · try dsimp only
                rw [ilt_end]; rfl
            · intro i hi
              try dsimp only
              have hm := getD_mem hi dB
              have hv := var_few ⟨h1, h2, h3, h4⟩ (b.2.1.getD i dB).1
              rw [ilt_len hi, cond_true, inb_len hi, cond_true, get_nat, ref_var a _ (by omega), bind_some, cond_true, ref_within (var a.2.1 (b.2.1.getD i dB).1) (b.2.1.getD i dB).2 (by omega) (by have := g2 _ hm; omega), bind_some, cond_ndec, wrap_succ (by omega)]
              by_cases y : Within (var a.2.1 (b.2.1.getD i dB).1) (b.2.1.getD i dB).2
              · rw [if_pos y, if_pos y]
              · rw [if_neg y, if_neg y]
            · try dsimp only
              rw [ilt_end]; rfl
          · intro i hi
            try dsimp only
            have hm := getD_mem hi dB
            have hv := var_few (s := b) ⟨g1, g2, g3, g4⟩ (a.2.1.getD i dB).1
            rw [ilt_len hi, cond_true, inb_len hi, cond_true, cond_true, get_nat, ref_var b _ (by omega), bind_some, ref_within (a.2.1.getD i dB).2 (var b.2.1 (a.2.1.getD i dB).1) (by have := h2 _ hm; omega) (by omega), bind_some, cond_ndec, wrap_succ (by omega)]
            by_cases y : Within (a.2.1.getD i dB).2 (var b.2.1 (a.2.1.getD i dB).1)
            · rw [if_pos y, if_pos y]
            · rw [if_neg y, if_neg y]
          · try dsimp only
            rw [ilt_end]; rfl
        · rw [cond_false, cond_true, decide_eq_false (fun z : WithinT a b => by
            rcases z.2.2 with y | y
            · rw [da] at y; cases y
            · rw [db] at y; cases y.1)]
      · rw [cond_true, decide_eq_true (show WithinT a b from ⟨m1, m2, .inl da⟩)]
    · rw [if_pos m1, if_neg m2, decide_eq_false (fun z : WithinT a b => m2 z.2.1)]
  · rw [if_neg m1, decide_eq_false (fun z : WithinT a b => m1 z.1)]
end Go.PL
end
section
/- States: copied; what is written. -/
open Go Go.PG Go.PL
set_option linter.all false
namespace Go.PL
theorem loop_st {τ ρ σ : Type} (n : Nat) (s : Nat → τ) (s0 e : τ) {f : Int × τ → Option ((Int × τ) ⊕ (τ ⊕ ρ))} {A : τ → Option σ} {B : ρ → Option σ} (hn : n ≤ 1000000000) (h0 : s 0 = s0) (h1 : s n = e)
    (hs : ∀ i : Nat, i < n → f ((i : Int), s i) = some (.inl (((i + 1 : Nat) : Int), s (i + 1)))) (he : f ((n : Int), e) = some (.inr (.inl e))) :
    P.bind (P.iter K f (0, s0)) (P.either A B) = A e := by
  subst h0; subst h1
  exact loop_fold n s hn hs he
theorem room_one {α : Type} (l : List α) (x : α) (b : Nat) (h : l.length ≤ 1000000) (hb : b ≤ 64) : P.room (P.add (P.len l) (P.len [x])) b = true := by
  rw [len_eq, len_eq, room_nat]
  have : (l.length + [x].length) * b ≤ 1000001 * 64 := Nat.mul_le_mul (by simp; omega) hb
  omega
theorem take_len {α : Type} (l : List α) (i : Nat) (h : l.length ≤ 1000000) : (l.take i).length ≤ 1000000 := by rw [List.length_take]; omega
theorem app_take {α : Type} {l : List α} {i : Nat} (h : i < l.length) (d : α) : P.app (l.take i) [l.getD i d] = l.take (i + 1) := (take_getD' h d).symm
theorem ob_copy (o : Sp) (h : FewS o) : object_Copy K o = some o := by
  unfold object_Copy
  try dsimp only
  rw [at_clone K o.2 (by have := h.2.2; omega), bind_some, copy_run o.1 o.2 (by have := h.1; omega) _ (fun i hi => copy_step o.1 (by have := h.1; omega) h.2.1 o.2 i hi) (copy_end _ _ _), bind_some, either_inl]
/-- A list in part gone over. -/
def mixG {α : Type} (c : α → α) (l : List α) (i : Nat) : List α := (l.take i).map c ++ l.drop i
theorem mixG_len {α : Type} (c : α → α) (l : List α) (i : Nat) : (mixG c l i).length = l.length := by simp [mixG]; omega
theorem mixG_get {α : Type} (c : α → α) (l : List α) {i : Nat} (h : i < l.length) (d : α) : (mixG c l i).getD i d = l.getD i d := by
  have hl : ((l.take i).map c).length = i := by rw [List.length_map, List.length_take]; omega
  simp only [mixG, List.getD_eq_getElem?_getD]
  rw [List.getElem?_append_right (by omega), hl, Nat.sub_self, List.getElem?_drop, Nat.add_zero]
theorem drop_getD' {α : Type} {l : List α} {j : Nat} (h : j < l.length) (d : α) : l.drop j = l.getD j d :: l.drop (j + 1) := by
  rw [List.drop_eq_getElem_cons h]; simp [List.getD_eq_getElem?_getD, h]
theorem mixG_set {α : Type} (c : α → α) (l : List α) {i : Nat} (h : i < l.length) (d : α) : (mixG c l i).set i (c (l.getD i d)) = mixG c l (i + 1) := by
  have hl : ((l.take i).map c).length = i := by rw [List.length_map, List.length_take]; omega
  unfold mixG
  rw [List.set_append_right _ _ (by omega), hl, Nat.sub_self, drop_getD' h d, List.set_cons_zero, take_getD' h d, List.map_append]
  simp
theorem mixG_same {α : Type} (c : α → α) (l : List α) {i : Nat} (h : i < l.length) (d : α) (q : c (l.getD i d) = l.getD i d) : mixG c l i = mixG c l (i + 1) := by
  rw [← mixG_set c l h d, q]
  have := mixG_get c l h d
  have hi : i < (mixG c l i).length := by rw [mixG_len]; exact h
  rw [List.getD_eq_getElem?_getD, List.getElem?_eq_getElem hi] at this
  simp only [Option.getD_some] at this
  rw [← this, List.set_getElem_self]
theorem mixG_zero {α : Type} (c : α → α) (l : List α) : mixG c l 0 = l := by simp [mixG]
theorem mixG_all {α : Type} (c : α → α) (l : List α) : mixG c l l.length = l.map c := by simp [mixG]
/-! ### what is written -/
def stg (v : List At) : Prop := (norm v).length = 1 ∧ ((norm v).getD 0 dA).1 = 4
instance (v : List At) : Decidable (stg v) := by unfold stg; exact inferInstance
def hits (v : List At) (x : At) : Prop := (6, 0) ∈ norm v ∨ x ∈ norm v
instance (v : List At) (x : At) : Decidable (hits v x) := by unfold hits; exact inferInstance
def wr (v : List At) (n : ByteArray) (w : List At) (o : Sp) : Sp := if stg v then strong o n w else weak o n w
def wrL (v : List At) (n : ByteArray) (w : List At) (l : Lc) : Lc := if hits v l.1 then (l.1, wr v n w l.2) else l
def writeT (s : Sta) (v : List At) (n : ByteArray) (w : List At) : Sta := if MayS s then (s.1, s.2.1, s.2.2.map (wrL v n w)) else (false, [], [])
theorem norm_norm (l : List At) : norm (norm l) = norm l := (canon_iff.2 (norm_canon l)).symm
theorem stg_norm (v : List At) : stg (norm v) ↔ stg v := by unfold stg; rw [norm_norm]
/-- The copy of a state: its two loops. -/
theorem copy_vars {ρ σ : Type} (s : Sta) (h : FewT s) {f : Int × Sta → Option ((Int × Sta) ⊕ (Sta ⊕ ρ))} {A : Sta → Option σ} {B : ρ → Option σ}
    (hs : ∀ i : Nat, i < s.2.1.length → f ((i : Int), s.1, s.2.1.take i, []) = (P.bind (slices_Clone_api_Atom_api_Atom K (P.get s.2.1 (i : Int) ((ByteArray.mk #[]), [])).snd) fun (r : List (Int × Int)) => P.cond (P.room (P.add (P.len (s.2.1.take i)) (P.len [((P.get s.2.1 (i : Int) ((ByteArray.mk #[]), [])).fst, r)])) 40) (some (Sum.inl (P.wrap IntKind.i64 (P.add (i : Int) (1 : Int)), s.1, P.app (s.2.1.take i) [((P.get s.2.1 (i : Int) ((ByteArray.mk #[]), [])).fst, r)], []))) none))
    (he : f ((s.2.1.length : Int), s.1, s.2.1, []) = some (.inr (.inl (s.1, s.2.1, [])))) :
    P.bind (P.iter K f (0, s.1, [], [])) (P.either A B) = A (s.1, s.2.1, []) := by
  obtain ⟨h1, h2, h3, h4⟩ := h
  refine loop_st s.2.1.length (fun i => (s.1, s.2.1.take i, [])) _ _ (by omega) (by simp) (by simp) (fun i hi => ?_) he
  have hm := getD_mem hi dB
  rw [hs i hi, get_nat, at_clone K (s.2.1.getD i dB).2 (by have := h2 _ hm; omega), bind_some, room_one _ _ 40 (take_len _ _ (by omega)) (by omega), cond_true, wrap_succ (by omega)]
  rw [show P.app (s.2.1.take i) [((s.2.1.getD i dB).1, (s.2.1.getD i dB).2)] = s.2.1.take (i + 1) from app_take hi dB]
theorem copy_locs {ρ σ : Type} (s : Sta) (h : FewT s) {f : Int × Sta → Option ((Int × Sta) ⊕ (Sta ⊕ ρ))} {A : Sta → Option σ} {B : ρ → Option σ}
    (hs : ∀ i : Nat, i < s.2.2.length → f ((i : Int), s.1, s.2.1, s.2.2.take i) = (P.bind (object_Copy K (P.get s.2.2 (i : Int) (((0 : Int), (0 : Int)), [], [])).snd) fun (r : Sp) => P.cond (P.room (P.add (P.len (s.2.2.take i)) (P.len [((P.get s.2.2 (i : Int) (((0 : Int), (0 : Int)), [], [])).fst, r)])) 64) (some (Sum.inl (P.wrap IntKind.i64 (P.add (i : Int) (1 : Int)), s.1, s.2.1, P.app (s.2.2.take i) [((P.get s.2.2 (i : Int) (((0 : Int), (0 : Int)), [], [])).fst, r)]))) none))
    (he : f ((s.2.2.length : Int), s.1, s.2.1, s.2.2) = some (.inr (.inl (s.1, s.2.1, s.2.2)))) :
    P.bind (P.iter K f (0, s.1, s.2.1, [])) (P.either A B) = A (s.1, s.2.1, s.2.2) := by
  obtain ⟨h1, h2, h3, h4⟩ := h
  refine loop_st s.2.2.length (fun i => (s.1, s.2.1, s.2.2.take i)) _ _ (by omega) (by simp) (by simp) (fun i hi => ?_) he
  have hm := getD_mem hi dL
  rw [hs i hi, get_nat, ob_copy (s.2.2.getD i dL).2 (h4 _ hm), bind_some, room_one _ _ 64 (take_len _ _ (by omega)) (by omega), cond_true, wrap_succ (by omega)]
  rw [show P.app (s.2.2.take i) [((s.2.2.getD i dL).1, (s.2.2.getD i dL).2)] = s.2.2.take (i + 1) from app_take hi dL]
theorem get_dL (l : List Lc) (i : Nat) : P.get l (i : Int) (((0 : Int), (0 : Int)), [], []) = l.getD i dL := get_nat _ _ _
theorem get_dB (l : List Bv) (i : Nat) : P.get l (i : Int) ((ByteArray.mk #[]), []) = l.getD i dB := get_nat _ _ _
theorem set_nat {α : Type} (l : List α) (i : Nat) (x : α) : P.set l (i : Int) x = l.set i x := by simp [P.set]
end Go.PL
end
section
/- What is written: the document's answer; names written by nobody knows whom. -/
open Go Go.PG Go.PL
set_option linter.all false
namespace Go.PL
theorem stg_hits {v : List At} (h : stg v) (x : At) : hits v x ↔ x = (norm v).getD 0 dA := by
  obtain ⟨h1, h2⟩ := h
  unfold hits
  obtain ⟨a, ha⟩ := List.length_eq_one_iff.1 h1
  rw [ha] at h2 ⊢
  simp only [List.mem_singleton, List.getD_cons_zero] at h2 ⊢
  constructor
  · rintro (q | q)
    · rw [← q] at h2; cases h2
    · exact q
  · exact .inr
theorem app_map {α : Type} {l : List α} {i : Nat} (h : i < l.length) (d : α) (c : α → α) : P.app ((l.take i).map c) [c (l.getD i d)] = (l.take (i + 1)).map c := by
  rw [take_getD' h d, List.map_append]; rfl
theorem map_take_len {α : Type} (c : α → α) (l : List α) (i : Nat) (h : l.length ≤ 1000000) : ((l.take i).map c).length ≤ 1000000 := by rw [List.length_map, List.length_take]; omega
/-! ### havoc -/
def hav (ns : List ByteArray) (o : Sp) : Sp := ns.foldl (fun o n => weak o n [(6, 0)]) o
def havocT (s : Sta) (ns : List ByteArray) : Sta := if MayS s then (s.1, s.2.1, s.2.2.map fun l => (l.1, hav ns l.2)) else (false, [], [])
abbrev dS : ByteArray := ⟨#[]⟩
def FewB (k : Nat) (o : Sp) : Prop := Bd k o
theorem hav_bd (ns : List ByteArray) : ∀ {k : Nat} {o : Sp}, Bd k o → Bd (k + 2 * ns.length) (hav ns o) := by
  induction ns with
  | nil => intro k o h; exact h
  | cons n ns ih =>
    intro k o h
    have := ih (weak_bd h n (v := [(6, 0)]) (j := 1) (by decide))
    rw [show k + 1 + 1 + 2 * ns.length = k + 2 * (n :: ns).length by simp; omega] at this
    exact this
theorem hav_take (ns : List ByteArray) (o : Sp) {i : Nat} (h : i < ns.length) : hav (ns.take (i + 1)) o = weak (hav (ns.take i) o) (ns.getD i dS) [(6, 0)] := by
  unfold hav
  rw [take_getD' h dS, List.foldl_append]
  rfl
/-- States of so many of each thing. -/
def BdT (k : Nat) (s : Sta) : Prop := s.2.1.length ≤ k ∧ (∀ b, b ∈ s.2.1 → b.2.length ≤ k) ∧ s.2.2.length ≤ k ∧ ∀ l, l ∈ s.2.2 → Bd k l.2
theorem small_bdT {s : Sta} (h : SmallT s) : BdT 40 s := ⟨h.1, h.2.2.1, h.2.1, fun l hl => ⟨(h.2.2.2 l hl).1, (h.2.2.2 l hl).2.2, (h.2.2.2 l hl).2.1⟩⟩
theorem bd_fewT {s : Sta} {k : Nat} (h : BdT k s) (hk : k ≤ 100000) : FewT s := ⟨Nat.le_trans h.1 hk, fun b hb => Nat.le_trans (h.2.1 b hb) hk, Nat.le_trans h.2.2.1 hk, fun l hl => bd_few (h.2.2.2 l hl) hk⟩
theorem at_dyn (k : Nat) : ref06_Dyn k () = some [(6, 0)] := rfl
end Go.PL
end
section
/- What is written: laws. -/
open Go Go.PG Go.PL
set_option linter.all false
namespace Go.PL
/-! ### weakly, strongly, asx seen at each name -/
theorem wk_view {o : Sp} (h : MayO o) (n : ByteArray) (v : List At) (m : ByteArray) : pr (weak o n v).1 m = (decide (n = m) || pr o.1 m) ∧ su (weak o n v).1 m = su o.1 m ∧ va (weak o n v).1 m = if n = m then norm (va o.1 n ++ v) else va o.1 m := by
  obtain ⟨a1, a2, a3⟩ := put_view h.1 (n, su o.1 n, norm (va o.1 n ++ v)) m
  rw [weak_eq h]
  show pr (put o.1 (n, su o.1 n, norm (va o.1 n ++ v))) m = _ ∧ su (put o.1 (n, su o.1 n, norm (va o.1 n ++ v))) m = _ ∧ va (put o.1 (n, su o.1 n, norm (va o.1 n ++ v))) m = _
  rw [a1, a2, a3]
  by_cases q : n = m
  · subst q; simp
  · simp [q]
theorem st_view {o : Sp} (h : MayO o) (n : ByteArray) (v : List At) (m : ByteArray) : pr (strong o n v).1 m = (decide (n = m) || pr o.1 m) ∧ su (strong o n v).1 m = (decide (n = m) || su o.1 m) ∧ va (strong o n v).1 m = if n = m then norm v else va o.1 m := by
  obtain ⟨a1, a2, a3⟩ := put_view h.1 (n, true, norm v) m
  rw [strong_eq h]
  show pr (put o.1 (n, true, norm v)) m = _ ∧ su (put o.1 (n, true, norm v)) m = _ ∧ va (put o.1 (n, true, norm v)) m = _
  rw [a1, a2, a3]
  by_cases q : n = m
  · subst q; simp
  · simp [q]
theorem wk_snd {o : Sp} (h : MayO o) (n : ByteArray) (v : List At) : (weak o n v).2 = o.2 := by rw [weak_eq h]
theorem st_snd {o : Sp} (h : MayO o) (n : ByteArray) (v : List At) : (strong o n v).2 = o.2 := by rw [strong_eq h]
theorem norm_mono {l m : List At} (h : Within l m) : Within (norm l) (norm m) := fun z hz => mem_norm.2 ⟨h z (mem_norm.1 hz).1, (mem_norm.1 hz).2⟩
theorem within_app {a b c d : List At} (h1 : Within a b) (h2 : Within c d) : Within (a ++ c) (b ++ d) := fun z hz => by
  rcases List.mem_append.1 hz with h | h
  · exact List.mem_append_left _ (h1 z h)
  · exact List.mem_append_right _ (h2 z h)
theorem weak_mono {a b : Sp} (h : WithinO a b) (n : ByteArray) {v w : List At} (hv : Within v w) : WithinO (weak a n v) (weak b n w) := by
  obtain ⟨ha, hb, p, q⟩ := within_view.1 h
  refine within_view.2 ⟨weak_may ha n v, weak_may hb n w, by rw [wk_snd ha, wk_snd hb]; exact p, fun m => ?_⟩
  obtain ⟨a1, a2, a3⟩ := wk_view ha n v m
  obtain ⟨b1, b2, b3⟩ := wk_view hb n w m
  obtain ⟨q1, q2, q3⟩ := q m
  unfold WinV
  rw [a1, a2, a3, b1, b2, b3]
  refine ⟨fun z => ?_, ?_, q3⟩
  · rw [Bool.or_eq_true] at z ⊢
    exact z.imp id q1
  · by_cases e : n = m
    · rw [if_pos e, if_pos e]; exact norm_mono (within_app (q n).2.1 hv)
    · rw [if_neg e, if_neg e]; exact q2
theorem strong_mono {a b : Sp} (h : WithinO a b) (n : ByteArray) {v w : List At} (hv : Within v w) : WithinO (strong a n v) (strong b n w) := by
  obtain ⟨ha, hb, p, q⟩ := within_view.1 h
  refine within_view.2 ⟨strong_may ha n v, strong_may hb n w, by rw [st_snd ha, st_snd hb]; exact p, fun m => ?_⟩
  obtain ⟨a1, a2, a3⟩ := st_view ha n v m
  obtain ⟨b1, b2, b3⟩ := st_view hb n w m
  obtain ⟨q1, q2, q3⟩ := q m
  unfold WinV
  rw [a1, a2, a3, b1, b2, b3]
  refine ⟨fun z => ?_, ?_, fun z => ?_⟩
  · rw [Bool.or_eq_true] at z ⊢
    exact z.imp id q1
  · by_cases e : n = m
    · rw [if_pos e, if_pos e]; exact norm_mono hv
    · rw [if_neg e, if_neg e]; exact q2
  · rw [Bool.or_eq_true] at z ⊢
    exact z.imp id q3
theorem strong_weak_mono {a b : Sp} (h : WithinO a b) (n : ByteArray) {v w : List At} (hv : Within v w) : WithinO (strong a n v) (weak b n w) := by
  obtain ⟨ha, hb, p, q⟩ := within_view.1 h
  refine within_view.2 ⟨strong_may ha n v, weak_may hb n w, by rw [st_snd ha, wk_snd hb]; exact p, fun m => ?_⟩
  obtain ⟨a1, a2, a3⟩ := st_view ha n v m
  obtain ⟨b1, b2, b3⟩ := wk_view hb n w m
  obtain ⟨q1, q2, q3⟩ := q m
  unfold WinV
  rw [a1, a2, a3, b1, b2, b3]
  refine ⟨fun z => ?_, ?_, fun z => ?_⟩
  · rw [Bool.or_eq_true] at z ⊢
    exact z.imp id q1
  · by_cases e : n = m
    · rw [if_pos e, if_pos e]; exact norm_mono fun z hz => List.mem_append_right _ (hv z hz)
    · rw [if_neg e, if_neg e]; exact q2
  · rw [Bool.or_eq_true]; exact .inr (q3 z)
theorem norm_app_norm (a b : List At) : norm (norm a ++ b) = norm (a ++ b) := by
  refine canon_ext (norm_canon _) (norm_canon _) fun z => ?_
  rw [mem_norm, mem_norm, List.mem_append, List.mem_append, mem_norm]
  exact ⟨fun h => ⟨h.1.imp (fun x => x.1) id, h.2⟩, fun h => ⟨h.1.imp (fun x => ⟨x, h.2⟩) id, h.2⟩⟩
theorem norm_norm_app (a b : List At) : norm (a ++ norm b) = norm (a ++ b) := by
  refine canon_ext (norm_canon _) (norm_canon _) fun z => ?_
  rw [mem_norm, mem_norm, List.mem_append, List.mem_append, mem_norm]
  exact ⟨fun h => ⟨h.1.imp id (fun x => x.1), h.2⟩, fun h => ⟨h.1.imp id (fun x => ⟨x, h.2⟩), h.2⟩⟩
theorem weak_twice {o : Sp} (h : MayO o) (n : ByteArray) (v w : List At) : weak (weak o n v) n w = weak o n (norm (v ++ w)) := by
  have hw := weak_may h n v
  refine sp_ext (weak_may hw n w) (weak_may h n _) (by rw [wk_snd hw, wk_snd h, wk_snd h]) fun m => ?_
  obtain ⟨a1, a2, a3⟩ := wk_view h n v m
  obtain ⟨_, _, a4⟩ := wk_view h n v n
  obtain ⟨b1, b2, b3⟩ := wk_view hw n w m
  obtain ⟨c1, c2, c3⟩ := wk_view h n (norm (v ++ w)) m
  rw [b1, b2, b3, c1, c2, c3, a1, a2, a3, a4, if_pos rfl]
  refine ⟨by rw [← Bool.or_assoc, Bool.or_self], rfl, ?_⟩
  by_cases e : n = m
  · rw [if_pos e, if_pos e, norm_app_norm, norm_norm_app, List.append_assoc]
  · rw [if_neg e, if_neg e, if_neg e]
theorem weak_turn {o : Sp} (h : MayO o) (n m : ByteArray) (v : List At) : weak (weak o n v) m v = weak (weak o m v) n v := by
  have h1 := weak_may h n v
  have h2 := weak_may h m v
  refine sp_ext (weak_may h1 m v) (weak_may h2 n v) (by rw [wk_snd h1, wk_snd h2, wk_snd h, wk_snd h]) fun k => ?_
  obtain ⟨a1, a2, a3⟩ := wk_view h n v k
  obtain ⟨b1, b2, b3⟩ := wk_view h m v k
  obtain ⟨_, _, a4⟩ := wk_view h n v m
  obtain ⟨_, _, b4⟩ := wk_view h m v n
  obtain ⟨c1, c2, c3⟩ := wk_view h1 m v k
  obtain ⟨d1, d2, d3⟩ := wk_view h2 n v k
  rw [c1, c2, c3, d1, d2, d3, a1, a2, a3, b1, b2, b3, a4, b4]
  refine ⟨by rw [← Bool.or_assoc, ← Bool.or_assoc, Bool.or_comm (decide (m = k))], rfl, ?_⟩
  by_cases e1 : m = k
  · subst e1
    by_cases e2 : n = m
    · subst e2; simp
    · have : ¬ m = n := fun z => e2 z.symm
      simp [e2, this]
  · by_cases e2 : n = k
    · subst e2
      simp [e1]
    · simp [e1, e2]
theorem weak_again {o : Sp} (h : MayO o) (n : ByteArray) (v : List At) : weak (weak o n v) n v = weak o n v := by
  rw [weak_twice h]
  refine sp_ext (weak_may h n _) (weak_may h n _) (by rw [wk_snd h, wk_snd h]) fun m => ?_
  obtain ⟨a1, a2, a3⟩ := wk_view h n v m
  obtain ⟨c1, c2, c3⟩ := wk_view h n (norm (v ++ v)) m
  rw [c1, c2, c3, a1, a2, a3]
  refine ⟨rfl, rfl, ?_⟩
  by_cases e : n = m
  · rw [if_pos e, if_pos e, norm_norm_app]
    refine canon_ext (norm_canon _) (norm_canon _) fun z => ?_
    simp [mem_norm]
  · rw [if_neg e, if_neg e]
/-! ### states -/
theorem getL_map {l : List Lc} {c : Lc → Lc} (hc : ∀ x, (c x).1 = x.1) (x : At) : getL (l.map c) x = (getL l x).map c := by
  induction l with
  | nil => rfl
  | cons f l ih =>
    simp only [getL, List.map_cons, List.find?_cons, hc] at ih ⊢
    by_cases q : f.1 = x
    · simp only [q, decide_true, Option.map_some]
    · simp only [q, decide_false]
      exact ih
theorem getL_mem {l : List Lc} {x : At} {b : Lc} (h : getL l x = some b) : b ∈ l ∧ b.1 = x := ⟨List.mem_of_find?_eq_some h, of_decide_eq_true (by have := List.find?_some h; exact this)⟩
theorem risesL_inj {l : List Lc} (h : RisesL l) {f g : Lc} (hf : f ∈ l) (hg : g ∈ l) (e : f.1 = g.1) : f = g := by
  induction l with
  | nil => cases hf
  | cons a l ih =>
    obtain ⟨h1, h2⟩ := List.pairwise_cons.1 h
    rcases List.mem_cons.1 hf with rfl | hf'
    · rcases List.mem_cons.1 hg with rfl | hg'
      · rfl
      · exact absurd (h1 g hg') (by rw [e]; exact ltA_irrefl _)
    · rcases List.mem_cons.1 hg with rfl | hg'
      · exact absurd (h1 f hf') (by rw [e]; exact ltA_irrefl _)
      · exact ih h2 hf' hg'
theorem getL_none {l : List Lc} {x : At} (h : getL l x = none) {f : Lc} (hf : f ∈ l) : f.1 ≠ x := by
  unfold getL at h
  rw [List.find?_eq_none] at h
  intro e
  exact h f hf (decide_eq_true e)
theorem getL_of_mem {l : List Lc} (h : RisesL l) {f : Lc} (hf : f ∈ l) : getL l f.1 = some f := by
  cases q : getL l f.1 with
  | none => exact absurd rfl (getL_none q hf)
  | some g => rw [risesL_inj h (getL_mem q).1 hf (getL_mem q).2]
theorem locR_of_mem {l : List Lc} (h : RisesL l) {f : Lc} (hf : f ∈ l) : locR l f.1 = (f.2, true) := by unfold locR; rw [getL_of_mem h hf]
theorem locR_map {l : List Lc} {c : Lc → Lc} (hc : ∀ x, (c x).1 = x.1) {x : At} (h : (locR l x).2 = true) : locR (l.map c) x = ((c (x, (locR l x).1)).2, true) := by
  unfold locR at h ⊢
  rw [getL_map hc]
  cases q : getL l x with
  | none => rw [q] at h; cases h
  | some b =>
    have := (getL_mem q).2
    subst this
    rfl
theorem risesL_map {l : List Lc} {c : Lc → Lc} (hc : ∀ x, (c x).1 = x.1) (h : RisesL l) : RisesL (l.map c) := by
  refine List.pairwise_map.2 (h.imp fun {a b} q => ?_)
  rw [hc, hc]; exact q
/-- A state's objects changed, each one to one that may be. -/
theorem mapS_may {s : Sta} (h : MayS s) {c : Lc → Lc} (hc : ∀ x, (c x).1 = x.1) (hm : ∀ l : Lc, MayO l.2 → MayO (c l).2) : MayS (s.1, s.2.1, s.2.2.map c) := by
  obtain ⟨h1, ⟨h2, h3⟩, h4⟩ := h
  refine ⟨h1, ⟨risesL_map hc h2, fun l hl => ?_⟩, fun hd => ⟨(h4 hd).1, by show s.2.2.map c = []; rw [(h4 hd).2]; rfl⟩⟩
  obtain ⟨x, hx, rfl⟩ := List.mem_map.1 hl
  rw [hc]
  exact ⟨(h3 x hx).1, hm x (h3 x hx).2⟩
theorem mapS_within {s t : Sta} (h : WithinT s t) {c d : Lc → Lc} (hc : ∀ x, (c x).1 = x.1) (hd : ∀ x, (d x).1 = x.1) (mc : ∀ l : Lc, MayO l.2 → MayO (c l).2) (md : ∀ l : Lc, MayO l.2 → MayO (d l).2)
    (hw : ∀ (x : At) (o p : Sp), (x, o) ∈ s.2.2 → WithinO o p → WithinO (c (x, o)).2 (d (x, p)).2) : WithinT (s.1, s.2.1, s.2.2.map c) (t.1, t.2.1, t.2.2.map d) := by
  obtain ⟨h1, h2, h3⟩ := h
  refine ⟨mapS_may h1 hc mc, mapS_may h2 hd md, h3.imp id ?_⟩
  rintro ⟨e, a1, a2, a3⟩
  refine ⟨e, a1, a2, fun l hl => ?_⟩
  obtain ⟨x, hx, rfl⟩ := List.mem_map.1 hl
  obtain ⟨b1, b2⟩ := a3 x hx
  rw [hc]
  rw [locR_map hd b1]
  exact ⟨rfl, hw x.1 x.2 _ hx b2⟩
theorem wrL_fst (v : List At) (n : ByteArray) (w : List At) (x : Lc) : (wrL v n w x).1 = x.1 := by unfold wrL; split <;> rfl
theorem wr_may {o : Sp} (h : MayO o) (v : List At) (n : ByteArray) (w : List At) : MayO (wr v n w o) := by
  unfold wr
  split
  · exact strong_may h n w
  · exact weak_may h n w
theorem wrL_may (v : List At) (n : ByteArray) (w : List At) (l : Lc) (h : MayO l.2) : MayO (wrL v n w l).2 := by
  unfold wrL
  split
  · exact wr_may h v n w
  · exact h
theorem writeT_eq {s : Sta} (h : MayS s) (v : List At) (n : ByteArray) (w : List At) : writeT s v n w = (s.1, s.2.1, s.2.2.map (wrL v n w)) := by unfold writeT; rw [if_pos h]
theorem writeT_may {s : Sta} (h : MayS s) (v : List At) (n : ByteArray) (w : List At) : MayS (writeT s v n w) := by rw [writeT_eq h]; exact mapS_may h (wrL_fst v n w) (wrL_may v n w)
theorem havocT_eq {s : Sta} (h : MayS s) (ns : List ByteArray) : havocT s ns = (s.1, s.2.1, s.2.2.map fun l => (l.1, hav ns l.2)) := by unfold havocT; rw [if_pos h]
theorem hav_may (ns : List ByteArray) : ∀ {o : Sp}, MayO o → MayO (hav ns o) := by
  induction ns with
  | nil => intro o h; exact h
  | cons n ns ih => intro o h; exact ih (weak_may h n _)
theorem havocT_may {s : Sta} (h : MayS s) (ns : List ByteArray) : MayS (havocT s ns) := by rw [havocT_eq h]; exact mapS_may h (fun _ => rfl) (fun l hl => hav_may ns hl)
theorem writeT_bd {s : Sta} {k : Nat} (h : BdT k s) (v : List At) (n : ByteArray) {w : List At} {j : Nat} (hw : w.length ≤ j) : BdT (k + j + 1) (writeT s v n w) := by
  unfold writeT
  split
  · refine ⟨by have := h.1; show s.2.1.length ≤ _; omega, fun b hb => by have := h.2.1 b hb; omega, by have := h.2.2.1; show (s.2.2.map _).length ≤ _; rw [List.length_map]; omega, fun l hl => ?_⟩
    obtain ⟨x, hx, rfl⟩ := List.mem_map.1 hl
    have hb := h.2.2.2 x hx
    unfold wrL
    split
    · unfold wr
      split
      · exact strong_bd hb n hw
      · exact weak_bd hb n hw
    · exact ⟨by have := hb.1; omega, fun f hf => by have := hb.2.1 f hf; omega, by have := hb.2.2; omega⟩
  · exact ⟨by simp, by simp, by simp, by simp⟩
theorem havocT_bd {s : Sta} {k : Nat} (h : BdT k s) (ns : List ByteArray) : BdT (k + 2 * ns.length) (havocT s ns) := by
  unfold havocT
  split
  · refine ⟨by have := h.1; show s.2.1.length ≤ _; omega, fun b hb => by have := h.2.1 b hb; omega, by have := h.2.2.1; show (s.2.2.map _).length ≤ _; rw [List.length_map]; omega, fun l hl => ?_⟩
    obtain ⟨x, hx, rfl⟩ := List.mem_map.1 hl
    exact hav_bd ns (h.2.2.2 x hx)
  · exact ⟨by simp, by simp, by simp, by simp⟩
end Go.PL
end
section
/- States: variables by name; within is reflexive. -/
open Go Go.PG Go.PL
set_option linter.all false
namespace Go.PL
theorem getV_mem {l : List Bv} {n : ByteArray} {b : Bv} (h : getV l n = some b) : b ∈ l ∧ b.1 = n := ⟨List.mem_of_find?_eq_some h, of_decide_eq_true (by have := List.find?_some h; exact this)⟩
theorem getV_none {l : List Bv} {n : ByteArray} (h : getV l n = none) {f : Bv} (hf : f ∈ l) : f.1 ≠ n := by
  unfold getV at h
  rw [List.find?_eq_none] at h
  intro e
  exact h f hf (decide_eq_true e)
theorem risesB_inj {l : List Bv} (h : RisesB l) {f g : Bv} (hf : f ∈ l) (hg : g ∈ l) (e : f.1 = g.1) : f = g := by
  induction l with
  | nil => cases hf
  | cons a l ih =>
    obtain ⟨h1, h2⟩ := List.pairwise_cons.1 h
    rcases List.mem_cons.1 hf with rfl | hf'
    · rcases List.mem_cons.1 hg with rfl | hg'
      · rfl
      · exact absurd (h1 g hg') (by rw [e]; exact ltS_irrefl _)
    · rcases List.mem_cons.1 hg with rfl | hg'
      · exact absurd (h1 f hf') (by rw [e]; exact ltS_irrefl _)
      · exact ih h2 hf' hg'
theorem getV_of_mem {l : List Bv} (h : RisesB l) {f : Bv} (hf : f ∈ l) : getV l f.1 = some f := by
  cases q : getV l f.1 with
  | none => exact absurd rfl (getV_none q hf)
  | some g => rw [risesB_inj h (getV_mem q).1 hf (getV_mem q).2]
theorem var_of_mem {l : List Bv} (h : RisesB l) {f : Bv} (hf : f ∈ l) : var l f.1 = f.2 := by unfold var; rw [getV_of_mem h hf]
theorem withinT_refl {s : Sta} (h : MayS s) : WithinT s s := by
  refine ⟨h, h, ?_⟩
  cases hd : s.1
  · refine .inr ⟨rfl, fun v hv => ?_, fun v hv => ?_, fun l hl => ?_⟩
    · rw [var_of_mem h.1.1 hv]; exact fun _ z => z
    · rw [var_of_mem h.1.1 hv]; exact fun _ z => z
    · rw [locR_of_mem h.2.1.1 hl]; exact ⟨rfl, within_refl (h.2.1.2 l hl).2⟩
  · exact .inl rfl
end Go.PL
end
section
/- Lists that rise by a key: a thing put in at its place. -/
open Go Go.PG Go.PL
set_option linter.all false
namespace Go.PL
/-- An order of keys. -/
structure Ord {κ : Type} (lt : κ → κ → Prop) : Prop where
  irr : ∀ a, ¬ lt a a
  tr : ∀ {a b c}, lt a b → lt b c → lt a c
  tri : ∀ a b, lt a b ∨ a = b ∨ lt b a
theorem ordS : Ord ltS := ⟨ltS_irrefl, ltS_trans, ltS_tri⟩
theorem ordA : Ord ltA := ⟨ltA_irrefl, ltA_trans, ltA_tri⟩
section
variable {α κ : Type} {lt : κ → κ → Prop} [DecidableRel lt] {key : α → κ}
abbrev Up (lt : κ → κ → Prop) (key : α → κ) (l : List α) : Prop := l.Pairwise fun a b => lt (key a) (key b)
def insK (lt : κ → κ → Prop) [DecidableRel lt] (key : α → κ) (l : List α) (x : α) : List α := l.filter (fun a => decide (lt (key a) (key x))) ++ x :: l.filter (fun a => decide (lt (key x) (key a)))
theorem insK_mem (O : Ord lt) {l : List α} {x a : α} : a ∈ insK lt key l x ↔ a = x ∨ (a ∈ l ∧ key a ≠ key x) := by
  unfold insK
  simp only [List.mem_append, List.mem_cons, List.mem_filter, decide_eq_true_eq]
  constructor
  · rintro (⟨h1, h2⟩ | rfl | ⟨h1, h2⟩)
    · exact .inr ⟨h1, fun e => O.irr (key x) (by rw [e] at h2; exact h2)⟩
    · exact .inl rfl
    · exact .inr ⟨h1, fun e => O.irr (key x) (by rw [e] at h2; exact h2)⟩
  · rintro (rfl | ⟨h1, h2⟩)
    · exact .inr (.inl rfl)
    · rcases O.tri (key a) (key x) with h | h | h
      · exact .inl ⟨h1, h⟩
      · exact absurd h h2
      · exact .inr (.inr ⟨h1, h⟩)
theorem insK_up (O : Ord lt) {l : List α} (h : Up lt key l) (x : α) : Up lt key (insK lt key l x) := by
  unfold insK Up
  rw [List.pairwise_append, List.pairwise_cons]
  refine ⟨h.filter _, ⟨fun b hb => ?_, h.filter _⟩, fun a ha b hb => ?_⟩
  · exact of_decide_eq_true (List.mem_filter.1 hb).2
  · have h1 := of_decide_eq_true (List.mem_filter.1 ha).2
    rcases List.mem_cons.1 hb with rfl | hb
    · exact h1
    · exact O.tr h1 (of_decide_eq_true (List.mem_filter.1 hb).2)
theorem insK_length (l : List α) (x : α) : (insK lt key l x).length ≤ l.length + l.length + 1 := by
  unfold insK
  have h1 := List.length_filter_le (fun a => decide (lt (key a) (key x))) l
  have h2 := List.length_filter_le (fun a => decide (lt (key x) (key a))) l
  simp only [List.length_append, List.length_cons]
  omega
/-- Two that rise and have the same in them are one. -/
theorem up_ext (O : Ord lt) : ∀ {a b : List α}, Up lt key a → Up lt key b → (∀ x, x ∈ a ↔ x ∈ b) → a = b := by
  intro a
  induction a with
  | nil =>
    intro b _ _ h
    cases b with
    | nil => rfl
    | cons y b => exact absurd ((h y).2 (by simp)) (by simp)
  | cons x a ih =>
    intro b ha hb h
    cases b with
    | nil => exact absurd ((h x).1 (by simp)) (by simp)
    | cons y b =>
      obtain ⟨ha1, ha2⟩ := List.pairwise_cons.1 ha
      obtain ⟨hb1, hb2⟩ := List.pairwise_cons.1 hb
      have e : x = y := by
        rcases List.mem_cons.1 ((h x).1 (by simp)) with e | hx
        · exact e
        · rcases List.mem_cons.1 ((h y).2 (by simp)) with e | hy
          · exact e.symm
          · exact absurd (O.tr (ha1 y hy) (hb1 x hx)) (O.irr _)
      subst e
      congr 1
      refine ih ha2 hb2 fun z => ⟨fun hz => ?_, fun hz => ?_⟩
      · rcases List.mem_cons.1 ((h z).1 (by simp [hz])) with e | hz'
        · subst e; exact absurd (ha1 z hz) (O.irr _)
        · exact hz'
      · rcases List.mem_cons.1 ((h z).2 (by simp [hz])) with e | hz'
        · subst e; exact absurd (hb1 z hz) (O.irr _)
        · exact hz'
theorem up_key (O : Ord lt) {l : List α} (h : Up lt key l) {f g : α} (hf : f ∈ l) (hg : g ∈ l) (e : key f = key g) : f = g := by
  induction l with
  | nil => cases hf
  | cons a l ih =>
    obtain ⟨h1, h2⟩ := List.pairwise_cons.1 h
    rcases List.mem_cons.1 hf with rfl | hf'
    · rcases List.mem_cons.1 hg with rfl | hg'
      · rfl
      · exact absurd (h1 g hg') (by rw [e]; exact O.irr _)
    · rcases List.mem_cons.1 hg with rfl | hg'
      · exact absurd (h1 f hf') (by rw [e]; exact O.irr _)
      · exact ih h2 hf' hg'
/-- At the end. -/
theorem insK_end (O : Ord lt) {l : List α} {x : α} (h : ∀ a, a ∈ l → lt (key a) (key x)) : insK lt key l x = l ++ [x] := by
  unfold insK
  rw [List.filter_eq_self.2 fun a ha => decide_eq_true (h a ha), List.filter_eq_nil_iff.2 fun a ha q => O.irr _ (O.tr (h a ha) (of_decide_eq_true q))]
theorem split_at (O : Ord lt) {l : List α} (hu : Up lt key l) (d x : α) (m : Nat) (hm : m ≤ l.length) (h1 : ∀ i, i < m → lt (key (l.getD i d)) (key x)) (h2 : m < l.length → ¬ lt (key (l.getD m d)) (key x)) :
    l.take m = l.filter (fun a => decide (lt (key a) (key x))) ∧
    (m < l.length → key (l.getD m d) = key x → l.drop (m + 1) = l.filter (fun a => decide (lt (key x) (key a)))) ∧
    ((m < l.length → key (l.getD m d) ≠ key x) → l.drop m = l.filter (fun a => decide (lt (key x) (key a)))) := by
  have ht : ∀ a, a ∈ l.take m → lt (key a) (key x) := fun a ha => by
    obtain ⟨i, hi, rfl⟩ := List.getElem_of_mem ha
    rw [List.length_take] at hi
    have := h1 i (by omega)
    rw [List.getElem_take]
    simpa [List.getD_eq_getElem?_getD, show i < l.length by omega] using this
  have hp : ∀ a b, a ∈ l.take m → b ∈ l.drop m → lt (key a) (key b) := fun a b ha hb => by
    have : Up lt key (l.take m ++ l.drop m) := by rw [List.take_append_drop]; exact hu
    exact (List.pairwise_append.1 this).2.2 a ha b hb
  have hd : ∀ a, a ∈ l.drop m → ¬ lt (key a) (key x) := fun a ha => by
    have hlt : m < l.length := by
      apply Classical.byContradiction
      intro q
      rw [List.drop_eq_nil_of_le (by omega)] at ha
      cases ha
    rw [drop_getD' hlt d] at ha
    have hud : Up lt key (l.getD m d :: l.drop (m + 1)) := by rw [← drop_getD' hlt d]; exact hu.sublist (List.drop_sublist _ _)
    rcases List.mem_cons.1 ha with rfl | ha
    · exact h2 hlt
    · intro q
      exact h2 hlt (O.tr ((List.pairwise_cons.1 hud).1 a ha) q)
  have e : ∀ p : α → Bool, l.filter p = (l.take m).filter p ++ (l.drop m).filter p := fun p => by rw [← List.filter_append, List.take_append_drop]
  refine ⟨?_, fun hlt hk => ?_, fun hk => ?_⟩
  · rw [e, List.filter_eq_self.2 fun a ha => decide_eq_true (ht a ha), List.filter_eq_nil_iff.2 fun a ha q => hd a ha (of_decide_eq_true q), List.append_nil]
  · have hud : Up lt key (l.getD m d :: l.drop (m + 1)) := by rw [← drop_getD' hlt d]; exact hu.sublist (List.drop_sublist _ _)
    rw [e, List.filter_eq_nil_iff.2 fun a ha q => O.irr _ (O.tr (ht a ha) (of_decide_eq_true q)), List.nil_append, drop_getD' hlt d, List.filter_cons_of_neg (by
      rw [decide_eq_true_eq, hk]; exact O.irr _), List.filter_eq_self.2 fun a ha => decide_eq_true (by rw [← hk]; exact (List.pairwise_cons.1 hud).1 a ha)]
  · rw [e, List.filter_eq_nil_iff.2 fun a ha q => O.irr _ (O.tr (ht a ha) (of_decide_eq_true q)), List.nil_append]
    refine (List.filter_eq_self.2 fun a ha => decide_eq_true ?_).symm
    rcases O.tri (key x) (key a) with q | q | q
    · exact q
    · exfalso
      have hlt : m < l.length := by
        apply Classical.byContradiction
        intro z
        rw [List.drop_eq_nil_of_le (by omega)] at ha
        cases ha
      rw [drop_getD' hlt d] at ha
      have hud : Up lt key (l.getD m d :: l.drop (m + 1)) := by rw [← drop_getD' hlt d]; exact hu.sublist (List.drop_sublist _ _)
      rcases List.mem_cons.1 ha with rfl | ha
      · exact hk hlt q.symm
      · have := (List.pairwise_cons.1 hud).1 a ha
        rw [← q] at this
        exact h2 hlt this
    · exact absurd q (hd a ha)
/-- The first place that is not below. -/
def fstK (lt : κ → κ → Prop) [DecidableRel lt] (key : α → κ) (l : List α) (x : κ) : Nat := (l.takeWhile fun a => decide (lt (key a) x)).length
theorem fstK_le (l : List α) (x : κ) : fstK lt key l x ≤ l.length := (List.takeWhile_sublist _).length_le
theorem fstK_lt (d : α) : ∀ (l : List α) (x : κ) (i : Nat), i < fstK lt key l x → lt (key (l.getD i d)) x := by
  intro l
  induction l with
  | nil => intro x i hi; simp [fstK] at hi
  | cons a l ih =>
    intro x i hi
    unfold fstK at hi
    by_cases q : lt (key a) x
    · rw [List.takeWhile_cons, if_pos (decide_eq_true q)] at hi
      cases i with
      | zero => simpa using q
      | succ i => simpa using ih x i (by simpa [fstK] using hi)
    · rw [List.takeWhile_cons, if_neg (by simpa using q)] at hi
      simp at hi
theorem fstK_at (d : α) : ∀ (l : List α) (x : κ), fstK lt key l x < l.length → ¬ lt (key (l.getD (fstK lt key l x) d)) x := by
  intro l
  induction l with
  | nil => intro x hi; simp at hi
  | cons a l ih =>
    intro x hi
    by_cases q : lt (key a) x
    · have e : fstK lt key (a :: l) x = fstK lt key l x + 1 := by unfold fstK; rw [List.takeWhile_cons, if_pos (decide_eq_true q)]; rfl
      rw [e] at hi ⊢
      simpa using ih x (by simpa using hi)
    · have e : fstK lt key (a :: l) x = 0 := by unfold fstK; rw [List.takeWhile_cons, if_neg (by simpa using q)]; rfl
      rw [e]
      simpa using q
/-- By a flag: asx the document does it. -/
def refK (lt : κ → κ → Prop) [DecidableRel lt] (key : α → κ) (t : List α) (x : α) : Bool × List α := if ∀ a, a ∈ t → lt (key a) (key x) then (false, t) else (true, insK lt key t x)
theorem refK_step (O : Ord lt) {t : List α} {y : α} (hu : Up lt key (t ++ [y])) (x : α) :
    (lt (key y) (key x) → (∀ a, a ∈ t → lt (key a) (key x)) ∧ refK lt key (t ++ [y]) x = (false, t ++ [y])) ∧
    (¬ lt (key y) (key x) → (∀ a, a ∈ t → lt (key a) (key x)) → (key y = key x → refK lt key (t ++ [y]) x = (true, t ++ [x])) ∧ (key y ≠ key x → refK lt key (t ++ [y]) x = (true, t ++ [x] ++ [y]))) ∧
    (¬ (∀ a, a ∈ t → lt (key a) (key x)) → key y ≠ key x ∧ refK lt key (t ++ [y]) x = (true, insK lt key t x ++ [y])) := by
  have hp := (List.pairwise_append.1 hu).2.2
  refine ⟨fun h => ?_, fun h h2 => ?_, fun h => ?_⟩
  · have ha : ∀ a, a ∈ t → lt (key a) (key x) := fun a ha => O.tr (hp a ha y (by simp)) h
    exact ⟨ha, by
      unfold refK
      rw [if_pos fun a q => ?_]
      rcases List.mem_append.1 q with q | q
      · exact ha a q
      · rw [List.mem_singleton] at q; subst q; exact h⟩
  · have e1 : refK lt key (t ++ [y]) x = (true, insK lt key (t ++ [y]) x) := by unfold refK; rw [if_neg fun q => h (q y (by simp))]
    have e2 : (t ++ [y]).filter (fun a => decide (lt (key a) (key x))) = t := by
      rw [List.filter_append, List.filter_eq_self.2 fun a ha => decide_eq_true (h2 a ha), List.filter_cons_of_neg (by simpa using h)]; simp
    have e3 : t.filter (fun a => decide (lt (key x) (key a))) = [] := List.filter_eq_nil_iff.2 fun a ha q => O.irr _ (O.tr (h2 a ha) (of_decide_eq_true q))
    refine ⟨fun q => ?_, fun q => ?_⟩
    · rw [e1, insK, e2, List.filter_append, e3, List.filter_cons_of_neg (by rw [decide_eq_true_eq, q]; exact O.irr _)]; simp
    · rw [e1, insK, e2, List.filter_append, e3, List.filter_cons_of_pos (by
        rw [decide_eq_true_eq]
        rcases O.tri (key x) (key y) with z | z | z
        · exact z
        · exact absurd z.symm q
        · exact absurd z h)]
      simp
  · have hy : lt (key x) (key y) := by
      apply Classical.byContradiction
      intro q
      refine h fun a ha => ?_
      have := hp a ha y (by simp)
      rcases O.tri (key x) (key y) with z | z | z
      · exact absurd z q
      · rw [z]; exact this
      · exact O.tr this z
    refine ⟨fun e => O.irr (key x) (by rw [e] at hy; exact hy), ?_⟩
    unfold refK
    rw [if_neg fun q => h fun a ha => q a (by simp [ha])]
    congr 1
    unfold insK
    rw [List.filter_append, List.filter_append, List.filter_cons_of_neg (by rw [decide_eq_true_eq]; exact fun z => O.irr _ (O.tr hy z)), List.filter_cons_of_pos (by rw [decide_eq_true_eq]; exact hy)]
    simp
theorem refK_end (O : Ord lt) {l : List α} (x : α) : (if (refK lt key l x).1 then (refK lt key l x).2 else (refK lt key l x).2 ++ [x]) = insK lt key l x := by
  unfold refK
  by_cases h : ∀ a, a ∈ l → lt (key a) (key x)
  · rw [if_pos h]; simp [insK_end O h]
  · rw [if_neg h]; simp
theorem insK_comm (O : Ord lt) {l : List α} (h : Up lt key l) {x y : α} (hk : key x ≠ key y) : insK lt key (insK lt key l x) y = insK lt key (insK lt key l y) x := by
  refine up_ext O (insK_up O (insK_up O h x) y) (insK_up O (insK_up O h y) x) fun a => ?_
  simp only [insK_mem O]
  constructor
  · rintro (rfl | ⟨rfl | ⟨h1, h2⟩, h3⟩)
    · exact .inr ⟨.inl rfl, Ne.symm hk⟩
    · exact .inl rfl
    · exact .inr ⟨.inr ⟨h1, h3⟩, h2⟩
  · rintro (rfl | ⟨rfl | ⟨h1, h2⟩, h3⟩)
    · exact .inr ⟨.inl rfl, hk⟩
    · exact .inl rfl
    · exact .inr ⟨.inr ⟨h1, h3⟩, h2⟩
theorem insK_twice (O : Ord lt) {l : List α} (h : Up lt key l) {x y : α} (hk : key x = key y) : insK lt key (insK lt key l x) y = insK lt key l y := by
  refine up_ext O (insK_up O (insK_up O h x) y) (insK_up O h y) fun a => ?_
  simp only [insK_mem O]
  constructor
  · rintro (rfl | ⟨rfl | ⟨h1, h2⟩, h3⟩)
    · exact .inl rfl
    · exact absurd hk h3
    · exact .inr ⟨h1, h3⟩
  · rintro (rfl | ⟨h1, h2⟩)
    · exact .inl rfl
    · exact .inr ⟨.inr ⟨h1, by rw [hk]; exact h2⟩, h2⟩
end
instance : DecidableRel ltA := fun a b => by unfold ltA; exact inferInstance
/-- A count that ends at a place. -/
theorem loop_first {ρ σ : Type} (m : Nat) (r : Unit ⊕ ρ) {f : Int → Option (Int ⊕ (Unit ⊕ ρ))} {A : Unit → Option σ} {B : ρ → Option σ} (hm : m ≤ 1000000000)
    (hs : ∀ i : Nat, i < m → f (i : Int) = some (.inl ((i + 1 : Nat) : Int))) (he : f (m : Int) = some (.inr r)) : P.bind (P.iter K f 0) (P.either A B) = P.either A B r := by
  have := iter_run (f := f) (fun i => (i : Int)) r m 0 K (by unfold K; omega) (fun j hj => by simp only [Nat.zero_add]; exact hs j hj) (by simpa using he)
  rw [show ((0 : Nat) : Int) = 0 from rfl] at this
  rw [this, bind_some]
end Go.PL
end
section
/- States: a variable set, an object put. -/
open Go Go.PG Go.PL
set_option linter.all false
namespace Go.PL
abbrev insB (l : List Bv) (x : Bv) : List Bv := insK ltS (fun b : Bv => b.1) l x
abbrev insL (l : List Lc) (x : Lc) : List Lc := insK ltA (fun b : Lc => b.1) l x
abbrev kB (l : List Bv) (n : ByteArray) : Nat := fstK ltS (fun b : Bv => b.1) l n
abbrev kL (l : List Lc) (x : At) : Nat := fstK ltA (fun b : Lc => b.1) l x
def setT (s : Sta) (n : ByteArray) (v : List At) : Sta := if MayS s then (if s.1 = true then (true, [], []) else (s.1, insB s.2.1 (n, norm v), s.2.2)) else (false, [], [])
def putT (s : Sta) (x : At) (o : Sp) : Sta := if MayS s then (if PlaceA x then (if MayO o then (if s.1 = true then (true, [], []) else (s.1, s.2.1, insL s.2.2 (x, o))) else (false, [], [])) else (false, [], [])) else (false, [], [])
theorem cond_of {α : Type} {b : Bool} (h : b = true) (x y : α) : P.cond b x y = x := by rw [h]; rfl
theorem cond_of' {α : Type} {b : Bool} (h : ¬ b = true) (x y : α) : P.cond b x y = y := by
  cases b with
  | false => rfl
  | true => exact absurd rfl h
theorem delAt_one {α : Type} (l : List α) (m : Nat) : P.delAt l (m : Int) ((m + 1 : Nat) : Int) = l.take m ++ l.drop (m + 1) := rfl
theorem delAt_len {α : Type} {l : List α} {m : Nat} (h : m < l.length) : (P.delAt l (m : Int) ((m + 1 : Nat) : Int)).length = l.length - 1 := by
  rw [delAt_one]; simp; omega
theorem del_ins {α : Type} {l : List α} {m : Nat} (h : m < l.length) (x : α) : P.insAt (P.delAt l (m : Int) ((m + 1 : Nat) : Int)) (m : Int) [x] = l.take m ++ x :: l.drop (m + 1) := by
  rw [delAt_one]
  have hl : (l.take m).length = m := by rw [List.length_take]; omega
  unfold P.insAt
  rw [Int.toNat_natCast, List.take_left' hl, List.drop_left' hl]
  simp
theorem ins_at {α : Type} (l : List α) (m : Nat) (x : α) : P.insAt l (m : Int) [x] = l.take m ++ x :: l.drop m := by
  unfold P.insAt
  rw [Int.toNat_natCast]
  simp
theorem map_some' {α β : Type} (f : α → β) (x : α) : P.map f (some x) = some (f x) := rfl
theorem lt_one {α : Type} (x : α) : P.ilt (0 : Int) (P.len [x]) = true := rfl
end Go.PL
end
section
/- States: asx the document sets and puts; what is there. -/
open Go Go.PG Go.PL
set_option linter.all false
namespace Go.PL
theorem loop_gen {τ ε ρ σ : Type} (n : Nat) (s : Nat → τ) (s0 : τ) (e : ε) {f : τ → Option (τ ⊕ (ε ⊕ ρ))} {A : ε → Option σ} {B : ρ → Option σ} (hn : n ≤ 1000000000) (h0 : s 0 = s0)
    (hs : ∀ i : Nat, i < n → f (s i) = some (.inl (s (i + 1)))) (he : f (s n) = some (.inr (.inl e))) :
    P.bind (P.iter K f s0) (P.either A B) = A e := by
  have := iter_run (f := f) s (.inl e) n 0 K (by unfold K; omega) (fun j hj => by simp only [Nat.zero_add]; exact hs j hj) (by simpa using he)
  rw [h0] at this
  rw [this, bind_some, either_inl]
theorem sle_not (a b : ByteArray) : P.sle a b = decide (¬ ltS b a) := by
  rw [Bool.eq_iff_iff, sle_iff, decide_eq_true_eq]
  constructor
  · rintro (h | rfl)
    · exact ltS_asymm h
    · exact ltS_irrefl _
  · intro h
    rcases ltS_tri a b with q | q | q
    · exact .inl q
    · exact .inr q
    · exact absurd q h
theorem refK_nil {α κ : Type} {lt : κ → κ → Prop} [DecidableRel lt] {key : α → κ} (x : α) : refK lt key [] x = (false, []) := by
  unfold refK; rw [if_pos (by simp)]
theorem refK_len {α κ : Type} {lt : κ → κ → Prop} [DecidableRel lt] {key : α → κ} (t : List α) (x : α) : (refK lt key t x).2.length ≤ t.length + t.length + 1 := by
  unfold refK
  split
  · show t.length ≤ _; omega
  · exact insK_length t x
theorem app_eq {α : Type} (a b : List α) : P.app a b = a ++ b := rfl
theorem up_take {α κ : Type} {lt : κ → κ → Prop} {key : α → κ} {l : List α} (h : Up lt key l) {i : Nat} (hi : i < l.length) (d : α) : Up lt key (l.take i ++ [l.getD i d]) := by
  rw [← take_getD' hi d]; exact h.sublist (List.take_sublist _ _)
theorem st_loc (s : Sta) (x : At) (h : FewT s) : state_Loc K (s, x) = some (locR s.2.2 x) := by
  unfold state_Loc
  try dsimp only
  have h3 := h.2.2.1
  rw [loop_find s.2.2 dL (fun b => b.1 = x) (fun b => (b.2, true)) (by omega) ?_ ?_]
  · unfold locR getL
    cases s.2.2.find? fun b => decide (b.1 = x) with
    | none => rfl
    | some b => rfl
  · intro i hi
    have hm := getD_mem hi dL
    try dsimp only
    rw [ilt_len hi, cond_true, inb_len hi, cond_true, get_dL, eqA_dec, cond_dec, wrap_succ (by omega)]
    by_cases q : (s.2.2.getD i dL).1 = x
    · rw [if_pos q, if_pos q, show P.ile (0 : Int) (i : Int) = true from ile_iff.2 (by omega), cond_true, cond_true, ob_copy _ (h.2.2.2 _ hm), bind_some, map_some']
    · rw [if_neg q, if_neg q]
  · try dsimp only
    rw [ilt_end]; rfl
end Go.PL
end
section
/- States: a site's newest object grows old: the list. -/
open Go Go.PG Go.PL
set_option linter.all false
namespace Go.PL
def renV (i : Int) (b : Bv) : Bv := (b.1, norm (b.2.map (renA i)))
def renL (i : Int) (b : Lc) : Lc := (b.1, rename b.2 i)
def base (i : Int) (l : List Lc) : List Lc := (l.filter fun b => decide (b.1 ≠ (4, i))).map (renL i)
def oldO (i : Int) (l : List Lc) (o : Lc) : Sp := match getL l (5, i) with
  | some p => join (rename o.2 i) (rename p.2 i)
  | none => rename o.2 i
def ageL (i : Int) (l : List Lc) : List Lc := match getL l (4, i) with
  | none => base i l
  | some o => insL (base i l) ((5, i), oldO i l o)
theorem getL_app (t : List Lc) (y : Lc) (x : At) : getL (t ++ [y]) x = (getL t x).or (if y.1 = x then some y else none) := by
  unfold getL
  rw [List.find?_append, List.find?_cons]
  by_cases q : y.1 = x
  · rw [decide_eq_true q, if_pos q]
  · rw [decide_eq_false q, if_neg q]; rfl
theorem getL_no {l : List Lc} {x : At} (h : ∀ b, b ∈ l → b.1 ≠ x) : getL l x = none := by
  unfold getL
  rw [List.find?_eq_none]
  intro b hb q
  exact h b hb (of_decide_eq_true q)
theorem locR_no {l : List Lc} {x : At} (h : ∀ b, b ∈ l → b.1 ≠ x) : locR l x = (([], []), false) := by unfold locR; rw [getL_no h]
theorem mem_base {i : Int} {l : List Lc} {x : Lc} : x ∈ base i l ↔ ∃ b, b ∈ l ∧ b.1 ≠ (4, i) ∧ x = renL i b := by
  unfold base
  simp only [List.mem_map, List.mem_filter, decide_eq_true_eq]
  constructor
  · rintro ⟨b, ⟨h1, h2⟩, rfl⟩; exact ⟨b, h1, h2, rfl⟩
  · rintro ⟨b, h1, h2, rfl⟩; exact ⟨b, ⟨h1, h2⟩, rfl⟩
theorem base_app (i : Int) (t : List Lc) (y : Lc) : base i (t ++ [y]) = if y.1 = (4, i) then base i t else base i t ++ [renL i y] := by
  unfold base
  rw [List.filter_append, List.map_append]
  by_cases q : y.1 = (4, i)
  · rw [if_pos q, List.filter_cons_of_neg (by simp [q])]; simp
  · rw [if_neg q, List.filter_cons_of_pos (by simp [q])]; simp
theorem base_up {i : Int} {l : List Lc} (h : RisesL l) : RisesL (base i l) := by
  unfold base
  rw [RisesL, List.pairwise_map]
  exact h.filter _
theorem ageL_up {i : Int} {l : List Lc} (h : RisesL l) : RisesL (ageL i l) := by
  unfold ageL
  split
  · exact base_up h
  · exact insK_up ordA (base_up h) _
/-- One object more. -/
def stepO (i : Int) (L : List Lc) (y : Lc) : List Lc := insL L (if y.1 = (4, i) then (5, i) else y.1, if (locR L (if y.1 = (4, i) then (5, i) else y.1)).2 = true then join (locR L (if y.1 = (4, i) then (5, i) else y.1)).1 (rename y.2 i) else rename y.2 i)
theorem age_step {i : Int} {t : List Lc} {y : Lc} (h : RisesL (t ++ [y])) : stepO i (ageL i t) y = ageL i (t ++ [y]) := by
  have ht : RisesL t := h.sublist (List.sublist_append_left _ _)
  have hp : ∀ a, a ∈ t → ltA a.1 y.1 := fun a ha => (List.pairwise_append.1 h).2.2 a ha y (by simp)
  have hb : ∀ a, a ∈ base i t → ltA a.1 y.1 := fun a ha => by
    obtain ⟨b, h1, _, rfl⟩ := mem_base.1 ha
    exact hp b h1
  have ne_of : ∀ {a b : At}, ltA a b → a ≠ b := fun h e => ltA_irrefl _ (by rw [e] at h; exact h)
  have h45 : ltA (4, i) (5, i) := by unfold ltA; simp
  have hbe := base_app i t y
  by_cases q : y.1 = (4, i)
  · have n4 : getL t (4, i) = none := getL_no fun b hb' => by rw [← q]; exact ne_of (hp b hb')
    have n5 : getL t (5, i) = none := getL_no fun b hb' => ne_of (ltA_trans (hp b hb') (by rw [q]; exact h45))
    have e1 : ageL i t = base i t := by unfold ageL; rw [n4]
    have e2 : locR (base i t) (5, i) = (([], []), false) := locR_no fun b hb' => ne_of (ltA_trans (hb b hb') (by rw [q]; exact h45))
    rw [if_pos q] at hbe
    unfold stepO
    rw [if_pos q, e1, e2, if_neg (by simp)]
    unfold ageL oldO
    rw [getL_app, n4, if_pos q, getL_app, n5, if_neg (by rw [q]; exact ne_of h45), hbe]
    rfl
  · rw [if_neg q] at hbe
    have hend : insL (base i t) (renL i y) = base i t ++ [renL i y] := insK_end ordA hb
    unfold stepO
    rw [if_neg q]
    cases g4 : getL t (4, i) with
    | none =>
      have e1 : ageL i t = base i t := by unfold ageL; rw [g4]
      have e2 : locR (base i t) y.1 = (([], []), false) := locR_no fun b hb' => ne_of (hb b hb')
      rw [e1, e2, if_neg (by simp)]
      have e3 : ageL i (t ++ [y]) = base i (t ++ [y]) := by unfold ageL; rw [getL_app, g4, if_neg q]; rfl
      rw [e3, hbe, ← hend]
      rfl
    | some o =>
      have e1 : ageL i t = insL (base i t) ((5, i), oldO i t o) := by unfold ageL; rw [g4]
      have e3 : ageL i (t ++ [y]) = insL (base i (t ++ [y])) ((5, i), oldO i (t ++ [y]) o) := by unfold ageL; rw [getL_app, g4]; rfl
      by_cases q5 : y.1 = (5, i)
      · have n5 : getL t (5, i) = none := getL_no fun b hb' => by rw [← q5]; exact ne_of (hp b hb')
        have o1 : oldO i t o = rename o.2 i := by unfold oldO; rw [n5]
        have o2 : oldO i (t ++ [y]) o = join (rename o.2 i) (rename y.2 i) := by unfold oldO; rw [getL_app, n5, if_pos q5]; rfl
        have hm : ((5, i), rename o.2 i) ∈ insL (base i t) ((5, i), rename o.2 i) := (insK_mem ordA).2 (.inl rfl)
        have e4 : locR (insL (base i t) ((5, i), rename o.2 i)) (5, i) = (rename o.2 i, true) := locR_of_mem (insK_up ordA (base_up ht) _) hm
        rw [e1, o1, q5, e4, if_pos rfl, e3, o2, hbe, ← hend]
        have a1 := insK_twice (lt := ltA) (key := fun b : Lc => b.1) ordA (base_up ht (i := i)) (x := ((5, i), rename o.2 i)) (y := ((5, i), join (rename o.2 i) (rename y.2 i))) rfl
        have a2 := insK_twice (lt := ltA) (key := fun b : Lc => b.1) ordA (base_up ht (i := i)) (x := renL i y) (y := ((5, i), join (rename o.2 i) (rename y.2 i))) q5
        exact a1.trans a2.symm
      · have o2 : oldO i (t ++ [y]) o = oldO i t o := by
          unfold oldO
          rw [getL_app, if_neg q5]
          cases getL t (5, i) <;> rfl
        have e4 : locR (insL (base i t) ((5, i), oldO i t o)) y.1 = (([], []), false) := locR_no fun b hb' => by
          rcases (insK_mem ordA).1 hb' with rfl | ⟨h1, _⟩
          · exact fun z => q5 z.symm
          · exact ne_of (hb b h1)
        rw [e1, e4, if_neg (by simp), e3, o2, hbe, ← hend]
        exact insK_comm (lt := ltA) (key := fun b : Lc => b.1) ordA (base_up ht (i := i)) (x := ((5, i), oldO i t o)) (y := renL i y) (fun z => q5 z.symm)
/-! ### what may be, and how much there is -/
theorem base_ok {i : Int} {l : List Lc} (h : ∀ b, b ∈ l → PlaceA b.1 ∧ MayO b.2) : ∀ b, b ∈ base i l → PlaceA b.1 ∧ MayO b.2 := fun x hx => by
  obtain ⟨b, h1, _, rfl⟩ := mem_base.1 hx
  exact ⟨(h b h1).1, rename_may (h b h1).2 i⟩
theorem old_may {i : Int} {l : List Lc} (h : ∀ b, b ∈ l → PlaceA b.1 ∧ MayO b.2) {o : Lc} (ho : o ∈ l) : MayO (oldO i l o) := by
  unfold oldO
  split
  · rename_i p hp
    exact join_may (rename_may (h o ho).2 i) (rename_may (h p (getL_mem hp).1).2 i)
  · exact rename_may (h o ho).2 i
theorem ageL_ok {i : Int} (hi : 0 ≤ i) {l : List Lc} (h : ∀ b, b ∈ l → PlaceA b.1 ∧ MayO b.2) : ∀ b, b ∈ ageL i l → PlaceA b.1 ∧ MayO b.2 := fun x hx => by
  unfold ageL at hx
  split at hx
  · exact base_ok h x hx
  · rename_i o ho
    rcases (insK_mem ordA).1 hx with rfl | ⟨h1, _⟩
    · exact ⟨⟨.inr rfl, hi⟩, old_may h (getL_mem ho).1⟩
    · exact base_ok h x h1
theorem base_len (i : Int) (l : List Lc) : (base i l).length ≤ l.length := by
  unfold base; rw [List.length_map]; exact List.length_filter_le _ _
theorem old_bd {i : Int} {l : List Lc} {k : Nat} (h : ∀ b, b ∈ l → Bd k b.2) {o : Lc} (ho : o ∈ l) : Bd (k + k) (oldO i l o) := by
  unfold oldO
  split
  · rename_i p hp
    exact join_bd (rename_bd (h o ho) i) (rename_bd (h p (getL_mem hp).1) i)
  · have := rename_bd (h o ho) i
    exact ⟨by have := this.1; omega, fun f hf => by have := this.2.1 f hf; omega, by have := this.2.2; omega⟩
theorem ageL_bd {i : Int} {l : List Lc} {k : Nat} (hl : l.length ≤ k) (h : ∀ b, b ∈ l → Bd k b.2) : (ageL i l).length ≤ k + k + 1 ∧ ∀ b, b ∈ ageL i l → Bd (k + k) b.2 := by
  have hb := base_len i l
  have hB : ∀ b, b ∈ base i l → Bd (k + k) b.2 := fun x hx => by
    obtain ⟨b, h1, _, rfl⟩ := mem_base.1 hx
    have := rename_bd (h b h1) i
    exact ⟨by have := this.1; show (rename b.2 i).1.length ≤ _; omega, fun f hf => by have := this.2.1 f hf; omega, by have := this.2.2; show (rename b.2 i).2.length ≤ _; omega⟩
  unfold ageL
  split
  · exact ⟨by omega, hB⟩
  · rename_i o ho
    have hle : (insL (base i l) ((5, i), oldO i l o)).length ≤ _ := insK_length (lt := ltA) (key := fun b : Lc => b.1) (base i l) ((5, i), oldO i l o)
    refine ⟨by omega, fun x hx => ?_⟩
    rcases (insK_mem ordA).1 hx with rfl | ⟨h1, _⟩
    · exact old_bd h (getL_mem ho).1
    · exact hB x h1
end Go.PL
end
section
/- States: a site's newest object grows old; a new one. -/
open Go Go.PG Go.PL
set_option linter.all false
namespace Go.PL
def ageT (s : Sta) (i : Int) : Sta := if i < 0 then (false, [], []) else if MayS s then (if s.1 = true then (true, [], []) else (false, s.2.1.map (renV i), ageL i s.2.2)) else (false, [], [])
theorem mayS_mk {V : List Bv} {L : List Lc} (h1 : RisesB V ∧ ∀ b, b ∈ V → b.2 = norm b.2) (h2 : RisesL L ∧ ∀ l, l ∈ L → PlaceA l.1 ∧ MayO l.2) : MayS (false, V, L) := ⟨h1, h2, fun z => by cases z⟩
theorem setT_ok {V : List Bv} {L : List Lc} (h : MayS (false, V, L)) (n : ByteArray) (v : List At) : setT (false, V, L) n v = (false, insB V (n, norm v), L) := by
  unfold setT; rw [if_pos h, if_neg (by simp)]
theorem putT_ok {V : List Bv} {L : List Lc} (h : MayS (false, V, L)) {x : At} (hx : PlaceA x) {o : Sp} (ho : MayO o) : putT (false, V, L) x o = (false, V, insL L (x, o)) := by
  unfold putT; rw [if_pos h, if_pos hx, if_pos ho, if_neg (by simp)]
theorem renV_ok {i : Int} {V : List Bv} (h : RisesB V) : RisesB (V.map (renV i)) ∧ ∀ b, b ∈ V.map (renV i) → b.2 = norm b.2 := by
  refine ⟨?_, fun b hb => ?_⟩
  · rw [RisesB, List.pairwise_map]; exact h
  · obtain ⟨c, _, rfl⟩ := List.mem_map.1 hb
    exact (norm_norm _).symm
theorem renV_len {i : Int} {V : List Bv} {k : Nat} (h : ∀ b, b ∈ V → b.2.length ≤ k) : ∀ b, b ∈ V.map (renV i) → b.2.length ≤ k := fun b hb => by
  obtain ⟨c, hc, rfl⟩ := List.mem_map.1 hb
  have := norm_length (c.2.map (renA i))
  rw [List.length_map] at this
  exact Nat.le_trans this (h c hc)
theorem take_all {α : Type} {p : α → Prop} {l : List α} (h : ∀ b, b ∈ l → p b) (j : Nat) : ∀ b, b ∈ l.take j → p b := fun b hb => h b (List.mem_of_mem_take hb)
theorem ageT_ok {s : Sta} {i : Int} (hi : ¬ i < 0) (m : MayS s) (hd : ¬ s.1 = true) : ageT s i = (false, s.2.1.map (renV i), ageL i s.2.2) := by
  unfold ageT; rw [if_neg hi, if_pos m, if_neg hd]
theorem age_may {s : Sta} {i : Int} (hi : ¬ i < 0) (m : MayS s) : MayS (ageT s i) := by
  by_cases hd : s.1 = true
  · unfold ageT; rw [if_neg hi, if_pos m, if_pos hd]
    exact ⟨⟨List.Pairwise.nil, by simp⟩, ⟨List.Pairwise.nil, by simp⟩, fun _ => ⟨rfl, rfl⟩⟩
  · rw [ageT_ok hi m hd]
    exact mayS_mk (renV_ok m.1.1) ⟨ageL_up m.2.1.1, ageL_ok (by omega) m.2.1.2⟩
theorem age_bd {s : Sta} {i : Int} {k : Nat} (h : BdT k s) : BdT (k + k + 1) (ageT s i) := by
  have e : BdT (k + k + 1) (false, [], []) := ⟨by simp, by simp, by simp, by simp⟩
  have e' : BdT (k + k + 1) (true, [], []) := ⟨by simp, by simp, by simp, by simp⟩
  unfold ageT
  split
  · exact e
  · split
    · split
      · exact e'
      · obtain ⟨h1, h2, h3, h4⟩ := h
        obtain ⟨b1, b2⟩ := ageL_bd (i := i) h3 h4
        exact ⟨by simp only [List.length_map]; omega, fun b hb => by have := renV_len (i := i) h2 b hb; omega, b1, fun l hl => by
          have := b2 l hl
          exact ⟨by have := this.1; omega, fun f hf => by have := this.2.1 f hf; omega, by have := this.2.2; omega⟩⟩
    · exact e
end Go.PL
end
section
/- States: asx the document says it; a new object. -/
open Go Go.PG Go.PL
set_option linter.all false
namespace Go.PL
def allocT (s : Sta) (x : ByteArray) (i : Int) (o : Sp) : Sta := if i < 0 then (false, [], []) else if MayS s then (if MayO o then (if s.1 = true then (true, [], []) else (false, insB (s.2.1.map (renV i)) (x, [(4, i)]), insL (ageL i s.2.2) ((4, i), rename o i))) else (false, [], [])) else (false, [], [])
theorem norm_rec {i : Int} (hi : ¬ i < 0) : norm [((4 : Int), i)] = [((4 : Int), i)] := (norm_one.2 (place_right ⟨.inl rfl, by show 0 ≤ i; omega⟩)).symm
theorem alloc_mid {s : Sta} {i : Int} {o : Sp} (hi : ¬ i < 0) (m : MayS s) (mo : MayO o) (hd : ¬ s.1 = true) :
    putT (ageT s i) (4, i) (rename o i) = (false, s.2.1.map (renV i), insL (ageL i s.2.2) ((4, i), rename o i)) ∧ MayS (false, s.2.1.map (renV i), insL (ageL i s.2.2) ((4, i), rename o i)) ∧
    ∀ x, setT (putT (ageT s i) (4, i) (rename o i)) x [(4, i)] = allocT s x i o := by
  have hp : PlaceA (4, i) := ⟨.inl rfl, by show 0 ≤ i; omega⟩
  have hmay := age_may hi m
  rw [ageT_ok hi m hd] at hmay ⊢
  have hrm := rename_may mo i
  have e1 := putT_ok hmay hp hrm
  have m2 : MayS (false, s.2.1.map (renV i), insL (ageL i s.2.2) ((4, i), rename o i)) := mayS_mk hmay.1 ⟨insK_up ordA hmay.2.1.1 _, fun l hl => by
    rcases (insK_mem ordA).1 hl with rfl | ⟨g, _⟩
    · exact ⟨hp, hrm⟩
    · exact hmay.2.1.2 l g⟩
  refine ⟨e1, m2, fun x => ?_⟩
  rw [e1, setT_ok m2, norm_rec hi]
  unfold allocT
  rw [if_neg hi, if_pos m, if_pos mo, if_neg hd]
theorem alloc_few {s : Sta} {i : Int} {o : Sp} {k : Nat} (h : BdT k s) (ho : Bd k o) (hk : k ≤ 1000) : FewT (false, s.2.1.map (renV i), insL (ageL i s.2.2) ((4, i), rename o i)) := by
  obtain ⟨h1, h2, h3, h4⟩ := h
  obtain ⟨b1, b2⟩ := ageL_bd (i := i) h3 h4
  have hle : (insL (ageL i s.2.2) ((4, i), rename o i)).length ≤ _ := insK_length (lt := ltA) (key := fun b : Lc => b.1) (ageL i s.2.2) ((4, i), rename o i)
  exact ⟨by simp only [List.length_map]; omega, fun b hb => by have := renV_len (i := i) h2 b hb; omega, by simp only; omega, fun l hl => by
    rcases (insK_mem ordA).1 hl with rfl | ⟨g, _⟩
    · exact bd_few (rename_bd ho i) (by omega)
    · exact bd_few (b2 l g) (by omega)⟩
end Go.PL
end
section
/- The fixed calls of law 09. -/
open Go Go.PG Go.PL
set_option linter.all false
namespace Go.PL
def s9 : Sta := (false, [(⟨#[120]⟩, [(4, 0)])], [((4, 0), ([(⟨#[112]⟩, true, [(2, 0)])], [(0, 0)]))])
def t9 : Sta := (false, [(⟨#[120]⟩, [(5, 0)]), (⟨#[121]⟩, [(4, 0)])], [((4, 0), ([], [(5, 0)])), ((5, 0), ([(⟨#[112]⟩, true, [(2, 0)])], [(0, 0)]))])
def u9 : Sta := (false, [(⟨#[120]⟩, [(5, 0)])], [((5, 0), ([(⟨#[112]⟩, true, [(2, 0)])], [(0, 0)]))])
end Go.PL
end
section
/- Law 09: what it tells; others; turns. -/
open Go Go.PG Go.PL
set_option linter.all false
namespace Go.PL
theorem one_bd {o : Sp} (h : SmallT (false, [], [((0, 0), o)])) : Bd 40 o := by
  have := h.2.2.2 ((0, 0), o) (by simp)
  exact ⟨this.1, this.2.2, this.2.1⟩
theorem alloc_fewT {s : Sta} {x : ByteArray} {i : Int} {o : Sp} (h : BdT 40 s) (ho : Bd 40 o) : FewT (allocT s x i o) := by
  have e : FewT (false, [], []) := ⟨by simp, by simp, by simp, by simp⟩
  have e' : FewT (true, [], []) := ⟨by simp, by simp, by simp, by simp⟩
  unfold allocT
  split
  · exact e
  · split
    · split
      · split
        · exact e'
        · obtain ⟨f1, f2, f3, f4⟩ := alloc_few (i := i) h ho (by omega)
          have hle : (insB (s.2.1.map (renV i)) (x, [(4, i)])).length ≤ _ := insK_length (lt := ltS) (key := fun b : Bv => b.1) (s.2.1.map (renV i)) (x, [(4, i)])
          have hl : (s.2.1.map (renV i)).length ≤ 40 := by rw [List.length_map]; exact h.1
          refine ⟨by simp only; omega, fun b hb => ?_, f3, f4⟩
          rcases (insK_mem ordS).1 hb with rfl | ⟨g, _⟩
          · simp
          · exact f2 b g
      · exact e
    · exact e
end Go.PL
end
section
/- Objects by what is at each place: grown old. -/
open Go Go.PG Go.PL
set_option linter.all false
namespace Go.PL
def gl (l : List Lc) (x : At) : Option Sp := (getL l x).map fun b => b.2
theorem gl_some {l : List Lc} {x : At} {o : Sp} : gl l x = some o → (x, o) ∈ l := by
  intro h
  unfold gl at h
  cases g : getL l x with
  | none => rw [g] at h; cases h
  | some b =>
    rw [g] at h
    injection h with h
    obtain ⟨h1, h2⟩ := getL_mem g
    rw [← h, ← h2]; exact h1
theorem gl_mem {l : List Lc} (h : RisesL l) {x : At} {o : Sp} (hm : (x, o) ∈ l) : gl l x = some o := by
  unfold gl
  rw [getL_of_mem h hm]; rfl
theorem gl_none {l : List Lc} {x : At} : gl l x = none ↔ ∀ b, b ∈ l → b.1 ≠ x := by
  constructor
  · intro h b hb
    unfold gl at h
    cases g : getL l x with
    | none => exact getL_none g hb
    | some b => rw [g] at h; cases h
  · intro h; unfold gl; rw [getL_no h]; rfl
theorem gl_ext {l m : List Lc} (hl : RisesL l) (hm : RisesL m) (h : ∀ x, gl l x = gl m x) : l = m :=
  up_ext (lt := ltA) (key := fun b : Lc => b.1) ordA hl hm fun b => ⟨fun hb => gl_some (x := b.1) (o := b.2) (by rw [← h]; exact gl_mem hl hb), fun hb => gl_some (x := b.1) (o := b.2) (by rw [h]; exact gl_mem hm hb)⟩
theorem gl_locR (l : List Lc) (x : At) : locR l x = match gl l x with
    | some o => (o, true)
    | none => (([], []), false) := by
  unfold locR gl
  cases getL l x <;> rfl
theorem gl_ins {l : List Lc} (h : RisesL l) (y : Lc) (x : At) : gl (insL l y) x = if x = y.1 then some y.2 else gl l x := by
  have hu := insK_up (lt := ltA) (key := fun b : Lc => b.1) ordA h y
  by_cases q : x = y.1
  · rw [if_pos q, q]
    exact gl_mem hu ((insK_mem ordA).2 (.inl rfl))
  · rw [if_neg q]
    cases g : gl l x with
    | none =>
      rw [gl_none] at g ⊢
      intro b hb
      rcases (insK_mem ordA).1 hb with rfl | ⟨h1, _⟩
      · exact fun z => q z.symm
      · exact g b h1
    | some o => exact gl_mem hu ((insK_mem ordA).2 (.inr ⟨gl_some g, q⟩))
theorem gl_base {i : Int} {l : List Lc} (h : RisesL l) (x : At) : gl (base i l) x = if x = (4, i) then none else (gl l x).map fun o => rename o i := by
  by_cases q : x = (4, i)
  · rw [if_pos q, gl_none]
    intro b hb
    obtain ⟨c, _, h2, rfl⟩ := mem_base.1 hb
    rw [q]; exact h2
  · rw [if_neg q]
    cases g : gl l x with
    | none =>
      rw [gl_none] at g
      show _ = none
      rw [gl_none]
      intro b hb
      obtain ⟨c, h1, _, rfl⟩ := mem_base.1 hb
      exact g c h1
    | some o => exact gl_mem (base_up h) (mem_base.2 ⟨(x, o), gl_some g, q, rfl⟩)
def comb (i : Int) : Option Sp → Option Sp → Option Sp
  | some o, some p => some (join (rename o i) (rename p i))
  | some o, none => some (rename o i)
  | none, q => q.map fun o => rename o i
theorem gl_age {i : Int} {l : List Lc} (h : RisesL l) (x : At) : gl (ageL i l) x = if x = (4, i) then none else if x = (5, i) then comb i (gl l (4, i)) (gl l (5, i)) else (gl l x).map fun o => rename o i := by
  have n54 : ((5 : Int), i) ≠ (4, i) := by simp
  unfold ageL oldO
  have e4 : gl l (4, i) = (getL l (4, i)).map fun b => b.2 := rfl
  have e5 : gl l (5, i) = (getL l (5, i)).map fun b => b.2 := rfl
  cases g4 : getL l (4, i) with
  | none =>
    rw [g4] at e4
    show gl (base i l) x = _
    rw [gl_base h]
    by_cases q : x = (4, i)
    · rw [if_pos q, if_pos q]
    · rw [if_neg q, if_neg q]
      by_cases q5 : x = (5, i)
      · rw [if_pos q5, e4, q5]; rfl
      · rw [if_neg q5]
  | some o =>
    rw [g4] at e4
    have n4 : ((4 : Int), i) ≠ (5, i) := by simp
    have fin : ∀ Z : Sp, comb i (gl l (4, i)) (gl l (5, i)) = some Z → gl (insL (base i l) ((5, i), Z)) x = if x = (4, i) then none else if x = (5, i) then comb i (gl l (4, i)) (gl l (5, i)) else (gl l x).map fun o => rename o i := by
      intro Z hZ
      rw [gl_ins (base_up h), gl_base h]
      by_cases q : x = (4, i)
      · rw [if_pos q, if_pos q, if_neg (by rw [q]; exact n4)]
      · rw [if_neg q, if_neg q]
        by_cases q5 : x = (5, i)
        · rw [if_pos q5, if_pos q5, hZ]
        · rw [if_neg q5, if_neg q5]
    cases g5 : getL l (5, i) with
    | none => rw [g5] at e5; exact fin _ (by rw [e4, e5]; rfl)
    | some p => rw [g5] at e5; exact fin _ (by rw [e4, e5]; rfl)
theorem renA_comm {a b : Int} (h : a ≠ b) (x : At) : renA b (renA a x) = renA a (renA b x) := by
  unfold renA
  obtain ⟨k, n⟩ := x
  simp only [Prod.mk.injEq]
  by_cases h1 : k = 4 ∧ n = a
  · obtain ⟨rfl, rfl⟩ := h1
    simp [h]
  · by_cases h2 : k = 4 ∧ n = b
    · obtain ⟨rfl, rfl⟩ := h2
      simp [Ne.symm h]
    · simp [h1, h2]
theorem ren_canon (l : List At) (i : Int) : Canon (norm (l.map (renA i))) := norm_canon _
theorem ren_comm {l : List At} (hl : Canon l) {a b : Int} (h : a ≠ b) : norm ((norm (l.map (renA a))).map (renA b)) = norm ((norm (l.map (renA b))).map (renA a)) := by
  refine canon_ext (norm_canon _) (norm_canon _) fun z => ?_
  rw [mem_ren (norm_canon _), mem_ren (norm_canon _)]
  constructor
  · rintro ⟨y, hy, rfl⟩
    obtain ⟨x, hx, rfl⟩ := (mem_ren hl).1 hy
    exact ⟨renA b x, (mem_ren hl).2 ⟨x, hx, rfl⟩, (renA_comm h x).symm⟩
  · rintro ⟨y, hy, rfl⟩
    obtain ⟨x, hx, rfl⟩ := (mem_ren hl).1 hy
    exact ⟨renA a x, (mem_ren hl).2 ⟨x, hx, rfl⟩, renA_comm h x⟩
theorem rename_comm {o : Sp} (m : MayO o) {a b : Int} (h : a ≠ b) : rename (rename o a) b = rename (rename o b) a := by
  rw [rename_eq (rename_may m a), rename_eq (rename_may m b), rename_eq m, rename_eq m]
  refine Prod.ext ?_ ?_
  · simp only [List.map_map]
    refine List.map_congr_left fun f hf => ?_
    have hc : Canon f.2.2 := canon_iff.1 (m.2.1 f hf)
    simp only [Function.comp, renF]
    rw [ren_comm hc h]
  · exact ren_comm (canon_iff.1 m.2.2) h
theorem gl_ok {l : List Lc} (h : ∀ b, b ∈ l → PlaceA b.1 ∧ MayO b.2) {x : At} {o : Sp} (g : gl l x = some o) : MayO o := (h _ (gl_some g)).2
theorem age_turn {l : List Lc} (hu : RisesL l) (h : ∀ b, b ∈ l → PlaceA b.1 ∧ MayO b.2) {a b : Int} (ne : a ≠ b) : ageL b (ageL a l) = ageL a (ageL b l) := by
  refine gl_ext (ageL_up (ageL_up hu)) (ageL_up (ageL_up hu)) fun x => ?_
  have n1 : ∀ k k' : Int, ((k, a) : At) ≠ (k', b) := fun k k' z => ne (by injection z)
  have n2 : ∀ k k' : Int, ((k, b) : At) ≠ (k', a) := fun k k' z => ne (by injection z with _ z; exact z.symm)
  have mm : ∀ (c d : Int) (ncd : c ≠ d) (y : At), ((gl l y).map fun o => rename o c).map (fun o => rename o d) = ((gl l y).map fun o => rename o d).map fun o => rename o c := fun c d ncd y => by
    cases g : gl l y with
    | none => rfl
    | some o => exact congrArg some (rename_comm (gl_ok h g) ncd)
  have cc : ∀ (c d : Int) (ncd : c ≠ d), comb d ((gl l (4, d)).map fun o => rename o c) ((gl l (5, d)).map fun o => rename o c) = (comb d (gl l (4, d)) (gl l (5, d))).map fun o => rename o c := fun c d ncd => by
    cases g4 : gl l (4, d) with
    | none =>
      have := mm c d ncd (5, d)
      show ((gl l (5, d)).map fun o => rename o c).map (fun o => rename o d) = _
      rw [this]; rfl
    | some o =>
      have mo := gl_ok h g4
      cases g5 : gl l (5, d) with
      | none => exact congrArg some (rename_comm mo ncd)
      | some p =>
        have mp := gl_ok h g5
        show some (join (rename (rename o c) d) (rename (rename p c) d)) = some (rename (join (rename o d) (rename p d)) c)
        rw [rename_join (rename_may mo d) (rename_may mp d), rename_comm mo ncd, rename_comm mp ncd]
  rw [gl_age (ageL_up hu), gl_age (ageL_up hu)]
  simp only [gl_age hu]
  rw [if_neg (n2 4 4), if_neg (n2 4 5), if_neg (n2 5 4), if_neg (n2 5 5), if_neg (n1 4 4), if_neg (n1 4 5), if_neg (n1 5 4), if_neg (n1 5 5)]
  by_cases q1 : x = (4, a)
  · subst q1
    rw [if_neg (n1 4 4), if_neg (n1 4 5), if_pos rfl, if_pos rfl]; rfl
  by_cases q2 : x = (4, b)
  · subst q2
    rw [if_pos rfl, if_neg (n2 4 4), if_neg (n2 4 5), if_pos rfl]; rfl
  by_cases q3 : x = (5, a)
  · subst q3
    rw [if_neg (n1 5 4), if_neg (n1 5 5), if_neg q1, if_pos rfl, if_neg q1, if_pos rfl]
    exact (cc b a (Ne.symm ne)).symm
  by_cases q4 : x = (5, b)
  · subst q4
    rw [if_neg q2, if_pos rfl, if_neg q1, if_neg q3, if_neg q2, if_pos rfl]
    exact cc a b ne
  rw [if_neg q2, if_neg q4, if_neg q1, if_neg q3, if_neg q1, if_neg q3, if_neg q2, if_neg q4]
  exact mm a b ne x
theorem turnT {s : Sta} (m : MayS s) {a b : Int} (ha : ¬ a < 0) (hb : ¬ b < 0) : ageT (ageT s a) b = ageT (ageT s b) a := by
  by_cases ne : a = b
  · rw [ne]
  by_cases hd : s.1 = true
  · have e : ∀ i : Int, ¬ i < 0 → ageT s i = (true, [], []) := fun i hi => by unfold ageT; rw [if_neg hi, if_pos m, if_pos hd]
    have m2 : MayS (true, [], []) := by rw [← e a ha]; exact age_may ha m
    have e2 : ∀ i : Int, ¬ i < 0 → ageT (true, [], []) i = (true, [], []) := fun i hi => by unfold ageT; rw [if_neg hi, if_pos m2, if_pos rfl]
    rw [e a ha, e b hb, e2 a ha, e2 b hb]
  · rw [ageT_ok hb (age_may ha m) (by rw [ageT_ok ha m hd]; simp), ageT_ok ha (age_may hb m) (by rw [ageT_ok hb m hd]; simp), ageT_ok ha m hd, ageT_ok hb m hd]
    refine Prod.ext rfl (Prod.ext ?_ (age_turn m.2.1.1 m.2.1.2 ne))
    simp only [List.map_map]
    refine List.map_congr_left fun v hv => ?_
    simp only [Function.comp, renV]
    rw [ren_comm (canon_iff.1 (m.1.2 v hv)) ne]
end Go.PL
end
section
/- Law 09: others; whom a state speaks of. -/
open Go Go.PG Go.PL
set_option linter.all false
namespace Go.PL
def SpeakL (x : At) (l : Lc) : Prop := l.1 = x ∨ x ∈ l.2.2 ∨ ∃ f, f ∈ l.2.1 ∧ x ∈ f.2.2
instance (x : At) (l : Lc) : Decidable (SpeakL x l) := by unfold SpeakL; exact inferInstance
def Speaks (s : Sta) (x : At) : Prop := (∃ b, b ∈ s.2.1 ∧ x ∈ b.2) ∨ ∃ l, l ∈ s.2.2 ∧ SpeakL x l
instance (s : Sta) (x : At) : Decidable (Speaks s x) := by unfold Speaks; exact inferInstance
theorem not_speakL {x : At} {l : Lc} : ¬ SpeakL x l ↔ l.1 ≠ x ∧ x ∉ l.2.2 ∧ ∀ f, f ∈ l.2.1 → x ∉ f.2.2 := by
  unfold SpeakL
  constructor
  · intro h; exact ⟨fun z => h (.inl z), fun z => h (.inr (.inl z)), fun f hf z => h (.inr (.inr ⟨f, hf, z⟩))⟩
  · rintro ⟨h1, h2, h3⟩ (z | z | ⟨f, hf, z⟩)
    · exact h1 z
    · exact h2 z
    · exact h3 f hf z
theorem not_speaks {s : Sta} {x : At} : ¬ Speaks s x ↔ (∀ b, b ∈ s.2.1 → x ∉ b.2) ∧ ∀ l, l ∈ s.2.2 → ¬ SpeakL x l := by
  unfold Speaks
  constructor
  · intro h; exact ⟨fun b hb z => h (.inl ⟨b, hb, z⟩), fun l hl z => h (.inr ⟨l, hl, z⟩)⟩
  · rintro ⟨h1, h2⟩ (⟨b, hb, z⟩ | ⟨l, hl, z⟩)
    · exact h1 b hb z
    · exact h2 l hl z
theorem renA_id {i : Int} {x : At} (h : x ≠ (4, i)) : renA i x = x := by unfold renA; rw [if_neg h]
theorem ren_id {l : List At} (hl : l = norm l) {i : Int} (h : (4, i) ∉ l) : norm (l.map (renA i)) = l := by
  have : l.map (renA i) = l := by
    conv => rhs; rw [← List.map_id l]
    exact List.map_congr_left fun x hx => renA_id fun z => h (by rw [← z]; exact hx)
  rw [this, ← hl]
theorem rename_id {o : Sp} (m : MayO o) {i : Int} (h1 : (4, i) ∉ o.2) (h2 : ∀ f, f ∈ o.1 → (4, i) ∉ f.2.2) : rename o i = o := by
  rw [rename_eq m]
  refine Prod.ext ?_ (ren_id m.2.2 h1)
  conv => rhs; rw [← List.map_id o.1]
  refine List.map_congr_left fun f hf => ?_
  unfold renF
  rw [ren_id (m.2.1 f hf) (h2 f hf)]; rfl
theorem age_id {s : Sta} (m : MayS s) {i : Int} (hi : ¬ i < 0) (h : ¬ Speaks s (4, i)) : ageT s i = s := by
  obtain ⟨h1, h2⟩ := not_speaks.1 h
  by_cases hd : s.1 = true
  · unfold ageT
    rw [if_neg hi, if_pos m, if_pos hd]
    obtain ⟨e1, e2⟩ := m.2.2 hd
    exact (Prod.ext hd (Prod.ext e1 e2)).symm
  · rw [ageT_ok hi m hd]
    have g4 : getL s.2.2 (4, i) = none := getL_no fun b hb => (not_speakL.1 (h2 b hb)).1
    refine Prod.ext (by simpa using Eq.symm (by simpa using hd : s.1 = false)) (Prod.ext ?_ ?_)
    · show s.2.1.map (renV i) = s.2.1
      conv => rhs; rw [← List.map_id s.2.1]
      refine List.map_congr_left fun b hb => ?_
      unfold renV
      rw [ren_id (m.1.2 b hb) (h1 b hb)]; rfl
    · show ageL i s.2.2 = s.2.2
      unfold ageL
      rw [g4]
      show base i s.2.2 = s.2.2
      unfold base
      rw [List.filter_eq_self.2 fun b hb => decide_eq_true (not_speakL.1 (h2 b hb)).1]
      conv => rhs; rw [← List.map_id s.2.2]
      refine List.map_congr_left fun b hb => ?_
      obtain ⟨y1, y2, y3⟩ := not_speakL.1 (h2 b hb)
      unfold renL
      rw [rename_id (m.2.1.2 b hb).2 y2 y3]; rfl
end Go.PL
end
section
/- Law 09: what is forgotten. -/
open Go Go.PG Go.PL
set_option linter.all false
namespace Go.PL
theorem lt_bytes9 {l : Nat} (h : l * BAtom TAtom ≤ reachBytes) : l ≤ 8796093022000 := by
  have e : BAtom TAtom = 16 := rfl
  rw [e] at h
  unfold reachBytes at h
  omega
theorem ref_may7B (s : Sp) (h1 : s.1.length < 9223372036854775808) (h2 : ∀ f, f ∈ s.1 → f.2.2.length ≤ 8796093022000) (h3 : s.2.length ≤ 8796093022000) : ref07_May K s = some (decide (MayO s)) := by
  unfold ref07_May
  try dsimp only
  rw [iter_all (n := s.1.length) (e := .inl ()) (r := .inr false) (fun i => StepO s.1 i) K ?_ ?_ (by unfold K; omega)]
  · rw [bind_some]
    by_cases q : ∀ i, i < s.1.length → StepO s.1 i
    · rw [if_pos q, either_inl, ref_may _ (by omega), bind_some]
      congr 1
      rw [Bool.eq_iff_iff, decide_eq_true_eq, decide_eq_true_eq]
      have := steps_iff.1 q
      exact ⟨fun z => ⟨this.1, this.2, z⟩, fun z => z.2.2⟩
    · rw [if_neg q, either_inr, decide_eq_false fun z => q (steps_iff.2 ⟨z.1, z.2.1⟩)]
  · intro i hi
    try dsimp only
    rw [show P.ilt (i : Int) (P.len s.1) = true from ilt_iff.2 (by rw [len_eq]; omega), cond_true, show P.inb (i : Int) (P.len s.1) = true from inb_iff.2 (by rw [len_eq]; omega), cond_true, get_nat, ref_may (s.1.getD i dF).2.2 (by have := h2 _ (mem_getD hi); omega), bind_some, wrap_succ (by omega)]
    by_cases q : (s.1.getD i dF).2.2 = norm (s.1.getD i dF).2.2
    · rw [decide_eq_true q, show P.not true = false from rfl, cond_false]
      by_cases h0 : 0 < i
      · rw [show P.ilt ((0 : Int)) (i : Int) = true from ilt_iff.2 (by omega), cond_true, wrap_pred h0 (by omega), show P.inb ((i - 1 : Nat) : Int) (P.len s.1) = true from inb_iff.2 (by rw [len_eq]; omega), cond_true, cond_true, get_nat]
        by_cases z : ltS (s.1.getD (i - 1) dF).1 (s.1.getD i dF).1
        · rw [show P.slt (s.1.getD (i - 1) dF).1 (s.1.getD i dF).1 = true from slt_iff.2 z, if_pos (show StepO s.1 i from ⟨q, fun _ => z⟩)]; rfl
        · rw [show P.slt (s.1.getD (i - 1) dF).1 (s.1.getD i dF).1 = false from by rw [Bool.eq_false_iff]; exact fun y => z (slt_iff.1 y), if_neg (show ¬ StepO s.1 i from fun y => z (y.2 h0))]; rfl
      · rw [show P.ilt ((0 : Int)) (i : Int) = false from by rw [Bool.eq_false_iff, Ne, ilt_iff]; omega, cond_false, if_pos (show StepO s.1 i from ⟨q, fun z => absurd z h0⟩)]
    · rw [decide_eq_false q, show P.not false = true from rfl, cond_true, if_neg (show ¬ StepO s.1 i from fun z => q z.1)]
  · try dsimp only
    rw [show P.ilt (s.1.length : Int) (P.len s.1) = false from by rw [Bool.eq_false_iff, Ne, ilt_iff, len_eq]; omega]; rfl
/-- Nothing in it is a site's newest object. -/
def Clean (i : Int) (o : Sp) : Prop := (4, i) ∉ o.2 ∧ ∀ n, (4, i) ∉ va o.1 n
theorem ren_clean (l : List At) (i : Int) : (4, i) ∉ norm (l.map (renA i)) := fun h => by
  obtain ⟨x, _, e⟩ := List.mem_map.1 (mem_norm.1 h).1
  unfold renA at e
  split at e
  · simp at e
  · rename_i q; exact q e
theorem rename_clean {o : Sp} (m : MayO o) (i : Int) : Clean i (rename o i) := by
  rw [rename_eq m]
  refine ⟨ren_clean _ _, fun n => ?_⟩
  rw [(ren_view o.1 i n).2.2]
  exact ren_clean _ _
theorem join_clean {a b : Sp} (ha : MayO a) (hb : MayO b) {i : Int} (h1 : Clean i a) (h2 : Clean i b) : Clean i (join a b) := by
  rw [join_eq ha hb]
  refine ⟨fun h => ?_, fun n h => ?_⟩
  · rcases List.mem_append.1 (mem_norm.1 h).1 with z | z
    · exact h1.1 z
    · exact h2.1 z
  · rw [(join_view a.1 b.1 n).2.2] at h
    rcases List.mem_append.1 (mem_norm.1 h).1 with z | z
    · exact h1.2 n z
    · exact h2.2 n z
theorem clean_fields {o : Sp} (m : MayO o) {i : Int} (h : Clean i o) : ∀ f, f ∈ o.1 → (4, i) ∉ f.2.2 := fun f hf => by
  have := h.2 f.1
  unfold va at this
  rw [view_mem m.1 hf] at this
  exact this
theorem age_clean {i : Int} {l : List Lc} (h : ∀ b, b ∈ l → PlaceA b.1 ∧ MayO b.2) : ∀ b, b ∈ ageL i l → b.1 ≠ (4, i) ∧ Clean i b.2 := fun x hx => by
  have hb : ∀ b, b ∈ base i l → b.1 ≠ (4, i) ∧ Clean i b.2 := fun x hx => by
    obtain ⟨b, h1, h2, rfl⟩ := mem_base.1 hx
    exact ⟨h2, rename_clean (h b h1).2 i⟩
  unfold ageL at hx
  split at hx
  · exact hb x hx
  · rename_i o ho
    rcases (insK_mem ordA).1 hx with rfl | ⟨h1, _⟩
    · refine ⟨by simp, ?_⟩
      have mo := (h o (getL_mem ho).1).2
      unfold oldO
      split
      · rename_i p hp
        have mp := (h p (getL_mem hp).1).2
        exact join_clean (rename_may mo i) (rename_may mp i) (rename_clean mo i) (rename_clean mp i)
      · exact rename_clean mo i
    · exact hb x h1
theorem age_quiet {s : Sta} {i : Int} (hi : ¬ i < 0) (m : MayS s) (hd : ¬ s.1 = true) : ¬ Speaks (ageT s i) (4, i) := by
  have hm := age_may hi m
  rw [ageT_ok hi m hd] at hm ⊢
  refine not_speaks.2 ⟨fun b hb => ?_, fun l hl => ?_⟩
  · obtain ⟨c, _, rfl⟩ := List.mem_map.1 hb
    exact ren_clean _ _
  · obtain ⟨h1, h2⟩ := age_clean m.2.1.2 l hl
    exact not_speakL.2 ⟨h1, h2.1, clean_fields (hm.2.1.2 l hl).2 h2⟩
end Go.PL
end
section
/- States joined, asx the document does it. -/
open Go Go.PG Go.PL
set_option linter.all false
namespace Go.PL
def gv (l : List Bv) (n : ByteArray) : Option (List At) := (getV l n).map fun b => b.2
theorem var_gv (l : List Bv) (n : ByteArray) : var l n = (gv l n).getD [(0, 0)] := by
  unfold var gv
  cases getV l n <;> rfl
theorem gv_some {l : List Bv} {n : ByteArray} {v : List At} (h : gv l n = some v) : (n, v) ∈ l := by
  unfold gv at h
  cases g : getV l n with
  | none => rw [g] at h; cases h
  | some b =>
    rw [g] at h
    injection h with h
    obtain ⟨h1, h2⟩ := getV_mem g
    rw [← h, ← h2]; exact h1
theorem gv_mem {l : List Bv} (h : RisesB l) {n : ByteArray} {v : List At} (hm : (n, v) ∈ l) : gv l n = some v := by
  unfold gv
  rw [getV_of_mem h hm]; rfl
theorem gv_none {l : List Bv} {n : ByteArray} : gv l n = none ↔ ∀ b, b ∈ l → b.1 ≠ n := by
  constructor
  · intro h b hb
    unfold gv at h
    cases g : getV l n with
    | none => exact getV_none g hb
    | some b => rw [g] at h; cases h
  · intro h
    unfold gv getV
    rw [List.find?_eq_none.2 fun b hb q => h b hb (of_decide_eq_true q)]; rfl
theorem gv_ext {l m : List Bv} (hl : RisesB l) (hm : RisesB m) (h : ∀ n, gv l n = gv m n) : l = m :=
  up_ext (lt := ltS) (key := fun b : Bv => b.1) ordS hl hm fun b => ⟨fun hb => gv_some (n := b.1) (v := b.2) (by rw [← h]; exact gv_mem hl hb), fun hb => gv_some (n := b.1) (v := b.2) (by rw [h]; exact gv_mem hm hb)⟩
theorem gv_ins {l : List Bv} (h : RisesB l) (y : Bv) (n : ByteArray) : gv (insB l y) n = if n = y.1 then some y.2 else gv l n := by
  have hu := insK_up (lt := ltS) (key := fun b : Bv => b.1) ordS h y
  by_cases q : n = y.1
  · rw [if_pos q, q]
    exact gv_mem hu ((insK_mem ordS).2 (.inl rfl))
  · rw [if_neg q]
    cases g : gv l n with
    | none =>
      rw [gv_none] at g ⊢
      intro b hb
      rcases (insK_mem ordS).1 hb with rfl | ⟨h1, _⟩
      · exact fun z => q z.symm
      · exact g b h1
    | some o => exact gv_mem hu ((insK_mem ordS).2 (.inr ⟨gv_some g, q⟩))
/-- Both's values of a name. -/
def both (a b : List Bv) (n : ByteArray) : List At := norm (var a n ++ var b n)
def setJ (a b : List Bv) (V l : List Bv) : List Bv := l.foldl (fun V v => insB V (v.1, both a b v.1)) V
theorem setJ_spec (a b : List Bv) : ∀ (l V : List Bv), RisesB V → RisesB (setJ a b V l) ∧ ∀ n, gv (setJ a b V l) n = if ∃ v, v ∈ l ∧ v.1 = n then some (both a b n) else gv V n := by
  intro l
  induction l with
  | nil => intro V h; exact ⟨h, fun n => by rw [if_neg (by simp)]; rfl⟩
  | cons y l ih =>
    intro V h
    obtain ⟨h1, h2⟩ := ih (insB V (y.1, both a b y.1)) (insK_up ordS h _)
    refine ⟨h1, fun n => ?_⟩
    show gv (setJ a b (insB V (y.1, both a b y.1)) l) n = _
    rw [h2, gv_ins h]
    by_cases q : ∃ v, v ∈ l ∧ v.1 = n
    · rw [if_pos q, if_pos (by obtain ⟨v, g1, g2⟩ := q; exact ⟨v, List.mem_cons_of_mem _ g1, g2⟩)]
    · rw [if_neg q]
      by_cases e : n = y.1
      · rw [if_pos e, if_pos ⟨y, by simp, e.symm⟩, e]
      · rw [if_neg e, if_neg]
        rintro ⟨v, g1, g2⟩
        rcases List.mem_cons.1 g1 with rfl | g1
        · exact e g2.symm
        · exact q ⟨v, g1, g2⟩
def oneJ (a : List Lc) (y : Lc) : Lc := (y.1, match gl a y.1 with
  | some o => join o y.2
  | none => y.2)
def putJ (a : List Lc) (L l : List Lc) : List Lc := l.foldl (fun L y => insL L (oneJ a y)) L
theorem putJ_up (a : List Lc) : ∀ (l L : List Lc), RisesL L → RisesL (putJ a L l) := by
  intro l
  induction l with
  | nil => intro L h; exact h
  | cons y l ih => intro L h; exact ih _ (insK_up ordA h _)
theorem putJ_spec (a : List Lc) : ∀ (l L : List Lc), RisesL L → RisesL l → ∀ x, gl (putJ a L l) x = match gl l x with
    | some o => some (oneJ a (x, o)).2
    | none => gl L x := by
  intro l
  induction l with
  | nil => intro L _ _ x; rfl
  | cons y l ih =>
    intro L h hl x
    obtain ⟨p1, p2⟩ := List.pairwise_cons.1 hl
    show gl (putJ a (insL L (oneJ a y)) l) x = _
    rw [ih _ (insK_up ordA h _) p2, gl_ins h]
    by_cases e : x = y.1
    · have g1 : gl l x = none := gl_none.2 fun b hb z => by
        have := p1 b hb
        rw [z, e] at this
        exact ltA_irrefl _ this
      have g2 : gl (y :: l) x = some y.2 := by rw [e]; exact gl_mem hl (by simp)
      rw [g1, g2]
      show (if x = y.1 then some (oneJ a y).2 else gl L x) = some (oneJ a (x, y.2)).2
      rw [if_pos e, e]
    · have g3 : gl (y :: l) x = gl l x := by
        unfold gl getL
        rw [List.find?_cons, decide_eq_false (fun z => e z.symm)]
      rw [g3]
      cases gl l x with
      | none => exact if_neg e
      | some o => rfl
def joinT (a b : Sta) : Sta := if MayS a then (if MayS b then (if a.1 = true then b else if b.1 = true then a else (false, setJ a.2.1 b.2.1 (setJ a.2.1 b.2.1 a.2.1 a.2.1) b.2.1, putJ a.2.2 a.2.2 b.2.2)) else (false, [], [])) else (false, [], [])
theorem setJ_app (a b V l : List Bv) (y : Bv) : setJ a b V (l ++ [y]) = insB (setJ a b V l) (y.1, both a b y.1) := by
  unfold setJ; rw [List.foldl_append]; rfl
theorem putJ_app (a L l : List Lc) (y : Lc) : putJ a L (l ++ [y]) = insL (putJ a L l) (oneJ a y) := by
  unfold putJ; rw [List.foldl_append]; rfl
end Go.PL
end
section
/- States joined: the document's function. -/
open Go Go.PG Go.PL
set_option linter.all false
namespace Go.PL
theorem insK_len1 {α κ : Type} {lt : κ → κ → Prop} [DecidableRel lt] {key : α → κ} (O : Ord lt) (l : List α) (x : α) : (insK lt key l x).length ≤ l.length + 1 := by
  have h : ∀ l : List α, (l.filter fun a => decide (lt (key a) (key x))).length + (l.filter fun a => decide (lt (key x) (key a))).length ≤ l.length := by
    intro l
    induction l with
    | nil => simp
    | cons a l ih =>
      by_cases h1 : lt (key a) (key x)
      · have h2 : ¬ lt (key x) (key a) := fun z => O.irr _ (O.tr h1 z)
        rw [List.filter_cons_of_pos (by simpa using h1), List.filter_cons_of_neg (by simpa using h2)]
        simp only [List.length_cons]; omega
      · by_cases h2 : lt (key x) (key a)
        · rw [List.filter_cons_of_neg (by simpa using h1), List.filter_cons_of_pos (by simpa using h2)]
          simp only [List.length_cons]; omega
        · rw [List.filter_cons_of_neg (by simpa using h1), List.filter_cons_of_neg (by simpa using h2)]
          simp only [List.length_cons]; omega
  have := h l
  unfold insK
  simp only [List.length_append, List.length_cons]
  omega
theorem setJ_len (a b : List Bv) : ∀ (l V : List Bv), (setJ a b V l).length ≤ V.length + l.length := by
  intro l
  induction l with
  | nil => intro V; exact Nat.le_refl _
  | cons y l ih =>
    intro V
    have h1 := ih (insB V (y.1, both a b y.1))
    have h2 : (insB V (y.1, both a b y.1)).length ≤ V.length + 1 := insK_len1 ordS V _
    show (setJ a b (insB V (y.1, both a b y.1)) l).length ≤ _
    simp only [List.length_cons]
    omega
theorem putJ_len (a : List Lc) : ∀ (l L : List Lc), (putJ a L l).length ≤ L.length + l.length := by
  intro l
  induction l with
  | nil => intro V; exact Nat.le_refl _
  | cons y l ih =>
    intro L
    have h1 := ih (insL L (oneJ a y))
    have h2 : (insL L (oneJ a y)).length ≤ L.length + 1 := insK_len1 ordA L _
    show (putJ a (insL L (oneJ a y)) l).length ≤ _
    simp only [List.length_cons]
    omega
theorem setJ_mem (a b : List Bv) : ∀ (l V : List Bv) (v : Bv), v ∈ setJ a b V l → v ∈ V ∨ v.2 = both a b v.1 := by
  intro l
  induction l with
  | nil => intro V v h; exact .inl h
  | cons y l ih =>
    intro V v h
    rcases ih _ v h with h | h
    · rcases (insK_mem ordS).1 h with rfl | ⟨h, _⟩
      · exact .inr rfl
      · exact .inl h
    · exact .inr h
theorem putJ_mem (a : List Lc) : ∀ (l L : List Lc) (v : Lc), v ∈ putJ a L l → v ∈ L ∨ ∃ y, y ∈ l ∧ v = oneJ a y := by
  intro l
  induction l with
  | nil => intro L v h; exact .inl h
  | cons y l ih =>
    intro L v h
    rcases ih _ v h with h | ⟨z, h1, h2⟩
    · rcases (insK_mem ordA).1 h with rfl | ⟨h, _⟩
      · exact .inr ⟨y, by simp, rfl⟩
      · exact .inl h
    · exact .inr ⟨z, List.mem_cons_of_mem _ h1, h2⟩
theorem var_bd {l : List Bv} {k : Nat} (h : ∀ b, b ∈ l → b.2.length ≤ k) (n : ByteArray) : (var l n).length ≤ k + 1 := by
  unfold var
  split
  · rename_i b hb
    have := h b (getV_mem hb).1
    omega
  · simp
theorem both_len {a b : List Bv} {k : Nat} (ha : ∀ v, v ∈ a → v.2.length ≤ k) (hb : ∀ v, v ∈ b → v.2.length ≤ k) (n : ByteArray) : (both a b n).length ≤ k + k + 2 := by
  have h1 := var_bd ha n
  have h2 := var_bd hb n
  have h3 := norm_length (var a n ++ var b n)
  rw [List.length_append] at h3
  unfold both
  omega
theorem oneJ_ok {a : List Lc} (ha : ∀ l, l ∈ a → PlaceA l.1 ∧ MayO l.2) {y : Lc} (hy : PlaceA y.1 ∧ MayO y.2) : PlaceA (oneJ a y).1 ∧ MayO (oneJ a y).2 := by
  refine ⟨hy.1, ?_⟩
  unfold oneJ
  cases g : gl a y.1 with
  | none => exact hy.2
  | some o => exact join_may (gl_ok ha g) hy.2
theorem bd_up {s : Sp} {k j : Nat} (h : Bd k s) (hk : k ≤ j) : Bd j s := ⟨Nat.le_trans h.1 hk, fun f hf => Nat.le_trans (h.2.1 f hf) hk, Nat.le_trans h.2.2 hk⟩
theorem oneJ_bd {a : List Lc} {k : Nat} (ha : ∀ l, l ∈ a → Bd k l.2) {y : Lc} (hy : Bd k y.2) : Bd (k + k) (oneJ a y).2 := by
  unfold oneJ
  cases g : gl a y.1 with
  | none => exact bd_up hy (by omega)
  | some o => exact join_bd (ha _ (gl_some g)) hy
theorem join_bdT {a b : Sta} {k : Nat} (ha : BdT k a) (hb : BdT k b) : BdT (k + k + k + 2) (joinT a b) := by
  have e : BdT (k + k + k + 2) (false, [], []) := ⟨by simp, by simp, by simp, by simp⟩
  have up : ∀ {s : Sta}, BdT k s → BdT (k + k + k + 2) s := fun h => ⟨by have := h.1; omega, fun b hb => by have := h.2.1 b hb; omega, by have := h.2.2.1; omega, fun l hl => bd_up (h.2.2.2 l hl) (by omega)⟩
  unfold joinT
  split
  · split
    · split
      · exact up hb
      · split
        · exact up ha
        · refine ⟨?_, fun v hv => ?_, ?_, fun l hl => ?_⟩
          · have h1 := setJ_len a.2.1 b.2.1 b.2.1 (setJ a.2.1 b.2.1 a.2.1 a.2.1)
            have h2 := setJ_len a.2.1 b.2.1 a.2.1 a.2.1
            have := ha.1; have := hb.1
            show (setJ a.2.1 b.2.1 (setJ a.2.1 b.2.1 a.2.1 a.2.1) b.2.1).length ≤ _
            omega
          · have hbl := both_len ha.2.1 hb.2.1 v.1
            rcases setJ_mem _ _ _ _ v hv with h | h
            · rcases setJ_mem _ _ _ _ v h with h | h
              · have := ha.2.1 v h; omega
              · rw [h]; omega
            · rw [h]; omega
          · have h1 := putJ_len a.2.2 b.2.2 a.2.2
            have := ha.2.2.1; have := hb.2.2.1
            show (putJ a.2.2 a.2.2 b.2.2).length ≤ _
            omega
          · rcases putJ_mem _ _ _ l hl with h | ⟨y, h1, rfl⟩
            · exact bd_up (ha.2.2.2 l h) (by omega)
            · exact bd_up (oneJ_bd ha.2.2.2 (hb.2.2.2 y h1)) (by omega)
    · exact e
  · exact e
end Go.PL
end
section
/- States joined: the function; by what is at each name and place. -/
open Go Go.PG Go.PL
set_option linter.all false
namespace Go.PL
theorem setJ_ok {a b V l : List Bv} (h : RisesB V ∧ ∀ v, v ∈ V → v.2 = norm v.2) : RisesB (setJ a b V l) ∧ ∀ v, v ∈ setJ a b V l → v.2 = norm v.2 := by
  refine ⟨(setJ_spec a b l V h.1).1, fun v hv => ?_⟩
  rcases setJ_mem a b l V v hv with q | q
  · exact h.2 v q
  · rw [q]; exact (norm_norm _).symm
theorem putJ_ok {a L l : List Lc} (h : RisesL L ∧ ∀ v, v ∈ L → PlaceA v.1 ∧ MayO v.2) (ha : ∀ v, v ∈ a → PlaceA v.1 ∧ MayO v.2) (hl : ∀ v, v ∈ l → PlaceA v.1 ∧ MayO v.2) : RisesL (putJ a L l) ∧ ∀ v, v ∈ putJ a L l → PlaceA v.1 ∧ MayO v.2 := by
  refine ⟨putJ_up a l L h.1, fun v hv => ?_⟩
  rcases putJ_mem a l L v hv with q | ⟨y, q, rfl⟩
  · exact h.2 v q
  · exact oneJ_ok ha (hl y q)
theorem joinT_ok {a b : Sta} (ma : MayS a) (mb : MayS b) (ha : ¬ a.1 = true) (hb : ¬ b.1 = true) : joinT a b = (false, setJ a.2.1 b.2.1 (setJ a.2.1 b.2.1 a.2.1 a.2.1) b.2.1, putJ a.2.2 a.2.2 b.2.2) := by
  unfold joinT; rw [if_pos ma, if_pos mb, if_neg ha, if_neg hb]
theorem joinT_may {a b : Sta} (ma : MayS a) (mb : MayS b) : MayS (joinT a b) := by
  by_cases ha : a.1 = true
  · unfold joinT; rw [if_pos ma, if_pos mb, if_pos ha]; exact mb
  by_cases hb : b.1 = true
  · unfold joinT; rw [if_pos ma, if_pos mb, if_neg ha, if_pos hb]; exact ma
  rw [joinT_ok ma mb ha hb]
  exact mayS_mk (setJ_ok (setJ_ok ma.1)) (putJ_ok ma.2.1 ma.2.1.2 mb.2.1.2)
theorem few_mk {V : List Bv} {L : List Lc} {k : Nat} (hk : k ≤ 100000) (h1 : V.length ≤ k) (h2 : ∀ b, b ∈ V → b.2.length ≤ k) (h3 : L.length ≤ k) (h4 : ∀ l, l ∈ L → Bd k l.2) : FewT (false, V, L) :=
  ⟨by simp only; omega, fun b hb => by have := h2 b hb; omega, by simp only; omega, fun l hl => bd_few (h4 l hl) hk⟩
end Go.PL
end
section
/- Law 09: what is kept. -/
open Go Go.PG Go.PL
set_option linter.all false
namespace Go.PL
def mj : Option Sp → Option Sp → Option Sp
  | some p, some o => some (join p o)
  | none, some o => some o
  | p, none => p
def OkO (p : Option Sp) : Prop := ∀ o, p = some o → MayO o
theorem mj_ok {p q : Option Sp} (hp : OkO p) (hq : OkO q) : OkO (mj p q) := by
  cases p with
  | none =>
    cases q with
    | none => exact hp
    | some o => exact hq
  | some p =>
    cases q with
    | none => exact hp
    | some o => intro z h; injection h with h; rw [← h]; exact join_may (hp p rfl) (hq o rfl)
theorem mj_comm {p q : Option Sp} (hp : OkO p) (hq : OkO q) : mj p q = mj q p := by
  cases p with
  | none => cases q <;> rfl
  | some p =>
    cases q with
    | none => rfl
    | some o => exact congrArg some (join_comm (hp p rfl) (hq o rfl))
theorem mj_assoc {p q r : Option Sp} (hp : OkO p) (hq : OkO q) (hr : OkO r) : mj (mj p q) r = mj p (mj q r) := by
  cases p with
  | none => cases q <;> cases r <;> rfl
  | some p =>
    cases q with
    | none => cases r <;> rfl
    | some o =>
      cases r with
      | none => rfl
      | some r => exact congrArg some (join_assoc (hp p rfl) (hq o rfl) (hr r rfl))
theorem mj_swap {a b c d : Option Sp} (ha : OkO a) (hb : OkO b) (hc : OkO c) (hd : OkO d) : mj (mj a b) (mj c d) = mj (mj a c) (mj b d) := by
  rw [mj_assoc ha hb (mj_ok hc hd), ← mj_assoc hb hc hd, mj_comm hb hc, mj_assoc hc hb hd, ← mj_assoc ha hc (mj_ok hb hd)]
abbrev renO (i : Int) (p : Option Sp) : Option Sp := p.map fun o => rename o i
theorem ren_mj {p q : Option Sp} (hp : OkO p) (hq : OkO q) (i : Int) : renO i (mj p q) = mj (renO i p) (renO i q) := by
  cases p with
  | none => cases q <;> rfl
  | some p =>
    cases q with
    | none => rfl
    | some o => exact congrArg some (rename_join (hp p rfl) (hq o rfl) i)
theorem ren_ok {p : Option Sp} (hp : OkO p) (i : Int) : OkO (renO i p) := by
  cases p with
  | none => intro o h; cases h
  | some p => intro z h; injection h with h; rw [← h]; exact rename_may (hp p rfl) i
theorem comb_mj (i : Int) (p q : Option Sp) : comb i p q = mj (renO i p) (renO i q) := by
  cases p <;> cases q <;> rfl
theorem gl_okO {l : List Lc} (h : ∀ b, b ∈ l → PlaceA b.1 ∧ MayO b.2) (x : At) : OkO (gl l x) := fun o g => gl_ok h g
theorem gl_put {a b : List Lc} (ha : RisesL a) (hb : RisesL b) (x : At) : gl (putJ a a b) x = mj (gl a x) (gl b x) := by
  rw [putJ_spec a b a ha hb x]
  cases g : gl b x with
  | none => cases gl a x <;> rfl
  | some o =>
    show some (oneJ a (x, o)).2 = _
    unfold oneJ
    try dsimp only
    cases gl a x <;> rfl
theorem age_put {a b : List Lc} {i : Int} (ha : RisesL a ∧ ∀ v, v ∈ a → PlaceA v.1 ∧ MayO v.2) (hb : RisesL b ∧ ∀ v, v ∈ b → PlaceA v.1 ∧ MayO v.2) : ageL i (putJ a a b) = putJ (ageL i a) (ageL i a) (ageL i b) := by
  have hj := putJ_ok (a := a) (L := a) (l := b) ha ha.2 hb.2
  refine gl_ext (ageL_up hj.1) (putJ_up _ _ _ (ageL_up ha.1)) fun x => ?_
  rw [gl_put (ageL_up ha.1) (ageL_up hb.1), gl_age hj.1, gl_age ha.1, gl_age hb.1]
  have oa := gl_okO ha.2
  have ob := gl_okO hb.2
  by_cases q : x = (4, i)
  · rw [if_pos q, if_pos q, if_pos q]; rfl
  rw [if_neg q, if_neg q, if_neg q]
  by_cases q5 : x = (5, i)
  · rw [if_pos q5, if_pos q5, if_pos q5, comb_mj, comb_mj, comb_mj, gl_put ha.1 hb.1, gl_put ha.1 hb.1, ren_mj (oa _) (ob _), ren_mj (oa _) (ob _)]
    exact mj_swap (ren_ok (oa _) i) (ren_ok (ob _) i) (ren_ok (oa _) i) (ren_ok (ob _) i)
  · rw [if_neg q5, if_neg q5, if_neg q5, gl_put ha.1 hb.1]
    exact ren_mj (oa _) (ob _) i
/-! ### variables -/
theorem canon_null : Canon [((0 : Int), (0 : Int))] := canon_iff.1 (norm_one.2 (by unfold RightA; omega))
theorem var_canon {l : List Bv} (h : ∀ v, v ∈ l → v.2 = norm v.2) (n : ByteArray) : Canon (var l n) := by
  unfold var
  split
  · rename_i b hb; exact canon_iff.1 (h b (getV_mem hb).1)
  · exact canon_null
theorem ren_null (i : Int) : norm ([((0 : Int), (0 : Int))].map (renA i)) = [((0 : Int), (0 : Int))] := by
  have : [((0 : Int), (0 : Int))].map (renA i) = [((0 : Int), (0 : Int))] := by simp [renA]
  rw [this]
  exact (canon_iff.2 canon_null).symm
theorem gv_ren {V : List Bv} (h : RisesB V) (i : Int) (n : ByteArray) : gv (V.map (renV i)) n = (gv V n).map fun v => norm (v.map (renA i)) := by
  have hu : RisesB (V.map (renV i)) := by rw [RisesB, List.pairwise_map]; exact h
  cases g : gv V n with
  | none =>
    rw [gv_none] at g
    show _ = none
    rw [gv_none]
    intro b hb
    obtain ⟨c, h1, rfl⟩ := List.mem_map.1 hb
    exact g c h1
  | some v => exact gv_mem hu (List.mem_map.2 ⟨(n, v), gv_some g, rfl⟩)
theorem var_ren {V : List Bv} (h : RisesB V) (i : Int) (n : ByteArray) : var (V.map (renV i)) n = norm ((var V n).map (renA i)) := by
  rw [var_gv, var_gv, gv_ren h]
  cases gv V n with
  | none => exact (ren_null i).symm
  | some v => rfl
theorem gv_join {a b : List Bv} (ha : RisesB a) (hb : RisesB b) (n : ByteArray) : gv (setJ a b (setJ a b a a) b) n = if (gv a n).isSome = true ∨ (gv b n).isSome = true then some (both a b n) else none := by
  have ex : ∀ l : List Bv, RisesB l → ((∃ v, v ∈ l ∧ v.1 = n) ↔ (gv l n).isSome = true) := fun l hl => by
    constructor
    · rintro ⟨v, h1, h2⟩
      have : gv l n = some v.2 := gv_mem hl (by rw [← h2]; exact h1)
      rw [this]; rfl
    · intro h
      cases g : gv l n with
      | none => rw [g] at h; cases h
      | some v => exact ⟨(n, v), gv_some g, rfl⟩
  obtain ⟨s1, s2⟩ := setJ_spec a b a a ha
  rw [(setJ_spec a b b _ s1).2, s2]
  by_cases q : (gv b n).isSome = true
  · rw [if_pos ((ex b hb).2 q), if_pos (.inr q)]
  · rw [if_neg (fun z => q ((ex b hb).1 z))]
    by_cases q2 : (gv a n).isSome = true
    · rw [if_pos ((ex a ha).2 q2), if_pos (.inl q2)]
    · rw [if_neg (fun z => q2 ((ex a ha).1 z)), if_neg (fun z => z.elim q2 q)]
      cases g : gv a n with
      | none => rfl
      | some v => rw [g] at q2; exact absurd rfl q2
theorem ren_both {a b : List Bv} (ha : RisesB a ∧ ∀ v, v ∈ a → v.2 = norm v.2) (hb : RisesB b ∧ ∀ v, v ∈ b → v.2 = norm v.2) (i : Int) (n : ByteArray) : norm ((both a b n).map (renA i)) = both (a.map (renV i)) (b.map (renV i)) n := by
  unfold both
  rw [var_ren ha.1, var_ren hb.1]
  exact ren_join (var_canon ha.2 n) (var_canon hb.2 n) i
theorem vars_join {a b : List Bv} (ha : RisesB a ∧ ∀ v, v ∈ a → v.2 = norm v.2) (hb : RisesB b ∧ ∀ v, v ∈ b → v.2 = norm v.2) (i : Int) : (setJ a b (setJ a b a a) b).map (renV i) = setJ (a.map (renV i)) (b.map (renV i)) (setJ (a.map (renV i)) (b.map (renV i)) (a.map (renV i)) (a.map (renV i))) (b.map (renV i)) := by
  have hj := setJ_ok (a := a) (b := b) (l := b) (setJ_ok (a := a) (b := b) (l := a) ha)
  have ra := (renV_ok (i := i) ha.1)
  have rb := (renV_ok (i := i) hb.1)
  refine gv_ext (renV_ok hj.1).1 (setJ_ok (setJ_ok ra)).1 fun n => ?_
  rw [gv_ren hj.1, gv_join ha.1 hb.1, gv_join ra.1 rb.1, gv_ren ha.1, gv_ren hb.1]
  simp only [Option.isSome_map]
  by_cases q : (gv a n).isSome = true ∨ (gv b n).isSome = true
  · rw [if_pos q, if_pos q, ← ren_both ha hb]; rfl
  · rw [if_neg q, if_neg q]; rfl
theorem age_dead {s : Sta} {i : Int} (hi : ¬ i < 0) (m : MayS s) (hd : s.1 = true) : ageT s i = (true, [], []) := by
  unfold ageT; rw [if_neg hi, if_pos m, if_pos hd]
theorem age_live {s : Sta} {i : Int} (hi : ¬ i < 0) (m : MayS s) (hd : ¬ s.1 = true) : ¬ (ageT s i).1 = true := by rw [ageT_ok hi m hd]; simp
theorem age_join {a b : Sta} {i : Int} (hi : ¬ i < 0) (ma : MayS a) (mb : MayS b) : ageT (joinT a b) i = joinT (ageT a i) (ageT b i) := by
  have aa := age_may hi ma
  have ab := age_may hi mb
  by_cases da : a.1 = true
  · have e1 : joinT a b = b := by unfold joinT; rw [if_pos ma, if_pos mb, if_pos da]
    have e2 : joinT (ageT a i) (ageT b i) = ageT b i := by unfold joinT; rw [if_pos aa, if_pos ab, if_pos (by rw [age_dead hi ma da])]
    rw [e1, e2]
  by_cases db : b.1 = true
  · have e1 : joinT a b = a := by unfold joinT; rw [if_pos ma, if_pos mb, if_neg da, if_pos db]
    have e2 : joinT (ageT a i) (ageT b i) = ageT a i := by unfold joinT; rw [if_pos aa, if_pos ab, if_neg (age_live hi ma da), if_pos (by rw [age_dead hi mb db])]
    rw [e1, e2]
  rw [ageT_ok hi (joinT_may ma mb) (by rw [joinT_ok ma mb da db]; simp), joinT_ok aa ab (age_live hi ma da) (age_live hi mb db), joinT_ok ma mb da db, ageT_ok hi ma da, ageT_ok hi mb db]
  exact Prod.ext rfl (Prod.ext (vars_join ma.1 mb.1 i) (age_put ma.2.1 mb.2.1))
end Go.PL
end
section
/- Law 09: what is within stays within. -/
open Go Go.PG Go.PL
set_option linter.all false
namespace Go.PL
def leO (p q : Option Sp) : Prop := ∀ o, p = some o → ∃ o', q = some o' ∧ WithinO o o'
theorem win_may {a b : Sp} (h : WithinO a b) : MayO a ∧ MayO b := ⟨(within_view.1 h).1, (within_view.1 h).2.1⟩
theorem leO_mj {p q p' q' : Option Sp} (oq : OkO q') (op : OkO p') (h1 : leO p p') (h2 : leO q q') : leO (mj p q) (mj p' q') := by
  have left : ∀ {u o : Sp}, WithinO u o → OkO (some o) → ∀ {r : Option Sp}, OkO r → ∃ o', mj (some o) r = some o' ∧ WithinO u o' := by
    intro u o hu ho r hr
    cases r with
    | none => exact ⟨o, rfl, hu⟩
    | some r => exact ⟨join o r, rfl, within_trans hu (within_join_left (ho o rfl) (hr r rfl))⟩
  have right : ∀ {u o : Sp}, WithinO u o → OkO (some o) → ∀ {r : Option Sp}, OkO r → ∃ o', mj r (some o) = some o' ∧ WithinO u o' := by
    intro u o hu ho r hr
    cases r with
    | none => exact ⟨o, rfl, hu⟩
    | some r => exact ⟨join r o, rfl, within_trans hu (within_join_right (hr r rfl) (ho o rfl))⟩
  intro o ho
  cases p with
  | none =>
    cases q with
    | none => cases ho
    | some q =>
      injection ho with ho
      subst ho
      obtain ⟨z, rfl, hz⟩ := h2 q rfl
      exact right hz oq op
  | some p =>
    obtain ⟨y, rfl, hy⟩ := h1 p rfl
    cases q with
    | none =>
      injection ho with ho
      subst ho
      exact left hy op oq
    | some q =>
      injection ho with ho
      subst ho
      obtain ⟨z, rfl, hz⟩ := h2 q rfl
      have my := op y rfl
      have mz := oq z rfl
      exact ⟨join y z, rfl, join_least (within_trans hy (within_join_left my mz)) (within_trans hz (within_join_right my mz))⟩
theorem leO_ren {p q : Option Sp} (h : leO p q) (i : Int) : leO (renO i p) (renO i q) := by
  cases p with
  | none => intro o ho; cases ho
  | some p =>
    obtain ⟨y, rfl, hy⟩ := h p rfl
    intro o ho
    injection ho with ho
    subst ho
    exact ⟨_, rfl, rename_within hy i⟩
/-- Within, by what is at each name and place. -/
def WinS (A B : List Bv) (L M : List Lc) : Prop := (∀ n, Within (var A n) (var B n)) ∧ ∀ x, leO (gl L x) (gl M x)
theorem within_views {a b : Sta} (ma : MayS a) (mb : MayS b) (da : ¬ a.1 = true) : WithinT a b ↔ b.1 = false ∧ WinS a.2.1 b.2.1 a.2.2 b.2.2 := by
  have hvar : ∀ {l : List Bv} {n : ByteArray}, gv l n = none → var l n = [(0, 0)] := fun h => by rw [var_gv, h]; rfl
  constructor
  · rintro ⟨_, _, h⟩
    obtain ⟨h1, h2, h3, h4⟩ := h.resolve_left da
    refine ⟨h1, fun n => ?_, fun x o g => ?_⟩
    · cases g : gv a.2.1 n with
      | some v => have := h2 _ (gv_some g); rw [var_gv, g]; exact this
      | none =>
        cases g2 : gv b.2.1 n with
        | some v => have := h3 _ (gv_some g2); rw [var_gv b.2.1, g2]; exact this
        | none => rw [hvar g, hvar g2]; exact fun _ z => z
    · obtain ⟨q1, q2⟩ := h4 _ (gl_some g)
      try dsimp only at q1 q2
      rw [gl_locR] at q1 q2
      cases g2 : gl b.2.2 x with
      | none => rw [g2] at q1; cases q1
      | some p => rw [g2] at q2; exact ⟨p, rfl, q2⟩
  · rintro ⟨h1, h2, h3⟩
    refine ⟨ma, mb, .inr ⟨h1, fun v hv => ?_, fun v hv => ?_, fun l hl => ?_⟩⟩
    · have := h2 v.1; rwa [var_of_mem ma.1.1 hv] at this
    · have := h2 v.1; rwa [var_of_mem mb.1.1 hv] at this
    · obtain ⟨p, g, q⟩ := h3 l.1 l.2 (gl_mem ma.2.1.1 hl)
      rw [gl_locR, g]
      exact ⟨rfl, q⟩
theorem winS_age {A B : List Bv} {L M : List Lc} (hA : RisesB A ∧ ∀ v, v ∈ A → v.2 = norm v.2) (hB : RisesB B ∧ ∀ v, v ∈ B → v.2 = norm v.2) (hL : RisesL L ∧ ∀ v, v ∈ L → PlaceA v.1 ∧ MayO v.2) (hM : RisesL M ∧ ∀ v, v ∈ M → PlaceA v.1 ∧ MayO v.2) (h : WinS A B L M) (i : Int) :
    WinS (A.map (renV i)) (B.map (renV i)) (ageL i L) (ageL i M) := by
  refine ⟨fun n => ?_, fun x => ?_⟩
  · rw [var_ren hA.1, var_ren hB.1]
    exact ren_within (var_canon hA.2 n) (var_canon hB.2 n) i (h.1 n)
  · rw [gl_age hL.1, gl_age hM.1]
    by_cases q : x = (4, i)
    · rw [if_pos q]; intro o z; cases z
    rw [if_neg q, if_neg q]
    by_cases q5 : x = (5, i)
    · rw [if_pos q5, if_pos q5, comb_mj, comb_mj]
      exact leO_mj (ren_ok (gl_okO hM.2 _) i) (ren_ok (gl_okO hM.2 _) i) (leO_ren (h.2 _) i) (leO_ren (h.2 _) i)
    · rw [if_neg q5, if_neg q5]
      exact leO_ren (h.2 x) i
theorem within_age {a b : Sta} {i : Int} (hi : ¬ i < 0) (h : WithinT a b) : WithinT (ageT a i) (ageT b i) := by
  have ma := h.1
  have mb := h.2.1
  have aa := age_may hi ma
  have ab := age_may hi mb
  by_cases da : a.1 = true
  · exact ⟨aa, ab, .inl (by rw [age_dead hi ma da])⟩
  obtain ⟨db, hv⟩ := (within_views ma mb da).1 h
  have db' : ¬ b.1 = true := by rw [db]; simp
  refine (within_views aa ab (age_live hi ma da)).2 ?_
  rw [ageT_ok hi ma da, ageT_ok hi mb db']
  exact ⟨rfl, winS_age ma.1 mb.1 ma.2.1 mb.2.1 hv i⟩
theorem alloc_ok {s : Sta} {x : ByteArray} {i : Int} {o : Sp} (hi : ¬ i < 0) (m : MayS s) (mo : MayO o) (hd : ¬ s.1 = true) : allocT s x i o = (false, insB (s.2.1.map (renV i)) (x, [(4, i)]), insL (ageL i s.2.2) ((4, i), rename o i)) ∧ MayS (allocT s x i o) := by
  have eal : allocT s x i o = (false, insB (s.2.1.map (renV i)) (x, [(4, i)]), insL (ageL i s.2.2) ((4, i), rename o i)) := by
    unfold allocT; rw [if_neg hi, if_pos m, if_pos mo, if_neg hd]
  refine ⟨eal, ?_⟩
  obtain ⟨a1, a2, a3⟩ := alloc_mid hi m mo hd
  have hV := renV_ok (i := i) m.1.1
  rw [eal]
  refine mayS_mk ⟨insK_up ordS hV.1 _, fun b hb => ?_⟩ a2.2.1
  rcases (insK_mem ordS).1 hb with rfl | ⟨g, _⟩
  · exact (norm_rec hi).symm
  · exact hV.2 b g
theorem within_alloc {a b : Sta} {x : ByteArray} {i : Int} {o : Sp} (hi : ¬ i < 0) (mo : MayO o) (h : WithinT a b) : WithinT (allocT a x i o) (allocT b x i o) := by
  have ma := h.1
  have mb := h.2.1
  have dead : ∀ {s : Sta}, MayS s → s.1 = true → allocT s x i o = (true, [], []) := fun m d => by unfold allocT; rw [if_neg hi, if_pos m, if_pos mo, if_pos d]
  have dm : MayS (true, [], []) := ⟨⟨List.Pairwise.nil, by simp⟩, ⟨List.Pairwise.nil, by simp⟩, fun _ => ⟨rfl, rfl⟩⟩
  by_cases da : a.1 = true
  · have e := dead ma da
    have mb2 : MayS (allocT b x i o) := by
      by_cases db : b.1 = true
      · rw [dead mb db]; exact dm
      · exact (alloc_ok hi mb mo db).2
    rw [e]
    exact ⟨dm, mb2, .inl rfl⟩
  obtain ⟨db, hv⟩ := (within_views ma mb da).1 h
  have db' : ¬ b.1 = true := by rw [db]; simp
  obtain ⟨e1, m1⟩ := alloc_ok (x := x) hi ma mo da
  obtain ⟨e2, m2⟩ := alloc_ok (x := x) hi mb mo db'
  refine (within_views m1 m2 (by rw [e1]; simp)).2 ?_
  rw [e1, e2]
  have w := winS_age ma.1 mb.1 ma.2.1 mb.2.1 hv i
  refine ⟨rfl, fun n => ?_, fun y => ?_⟩
  · show Within (var (insB (a.2.1.map (renV i)) (x, [(4, i)])) n) (var (insB (b.2.1.map (renV i)) (x, [(4, i)])) n)
    rw [var_gv, var_gv, gv_ins (renV_ok ma.1.1).1, gv_ins (renV_ok mb.1.1).1]
    by_cases q : n = x
    · rw [if_pos q, if_pos q]; exact fun _ z => z
    · rw [if_neg q, if_neg q, ← var_gv, ← var_gv]; exact w.1 n
  · show leO (gl (insL (ageL i a.2.2) ((4, i), rename o i)) y) (gl (insL (ageL i b.2.2) ((4, i), rename o i)) y)
    rw [gl_ins (ageL_up ma.2.1.1), gl_ins (ageL_up mb.2.1.1)]
    by_cases q : y = (4, i)
    · rw [if_pos q, if_pos q]
      intro z hz
      exact ⟨z, hz, by injection hz with hz; rw [← hz]; exact within_refl (rename_may mo i)⟩
    · rw [if_neg q, if_neg q]; exact w.2 y
end Go.PL
end
section
/- Law 10: what is reached. -/
open Go Go.PG Go.PL
set_option linter.all false
namespace Go.PL
/-- What comes next of an atom. -/
def nx (T : List Lc) (n : ByteArray) (x : At) : List At := if PlaceA x ∧ (locR T x).2 = true ∧ su (locR T x).1.1 n = false then (locR T x).1.2 else []
/-- What is reached. -/
inductive Rch (T : List Lc) (n : ByteArray) (v : List At) : At → Prop
  | base {y : At} : y ∈ v → RightA y → Rch T n v y
  | step {x y : At} : Rch T n v x → y ∈ nx T n x → RightA y → Rch T n v y
theorem Rch.right {T : List Lc} {n : ByteArray} {v : List At} {y : At} (h : Rch T n v y) : RightA y := by cases h <;> assumption
def allA (T : List Lc) (v : List At) : List At := v ++ T.flatMap fun l => l.2.2
theorem nx_mem {T : List Lc} {n : ByteArray} {x y : At} (h : y ∈ nx T n x) : ∃ l, l ∈ T ∧ l.1 = x ∧ y ∈ l.2.2 ∧ locR T x = (l.2, true) := by
  unfold nx at h
  split at h
  · rename_i q
    unfold locR at q h ⊢
    cases g : getL T x with
    | none => rw [g] at h; simp at h
    | some b =>
      rw [g] at h
      obtain ⟨h1, h2⟩ := getL_mem g
      exact ⟨b, h1, h2, h, rfl⟩
  · cases h
theorem Rch.all {T : List Lc} {n : ByteArray} {v : List At} {y : At} (h : Rch T n v y) : y ∈ allA T v := by
  unfold allA
  cases h with
  | base h1 _ => exact List.mem_append_left _ h1
  | step _ h2 _ =>
    obtain ⟨l, h1, _, h3, _⟩ := nx_mem h2
    exact List.mem_append_right _ (List.mem_flatMap.2 ⟨l, h1, h3⟩)
/-- All of it, in order. -/
noncomputable def reachL (T : List Lc) (n : ByteArray) (v : List At) : List At := norm ((allA T v).filter fun y => @decide (Rch T n v y) (Classical.propDecidable _))
theorem mem_reachL {T : List Lc} {n : ByteArray} {v : List At} {y : At} : y ∈ reachL T n v ↔ Rch T n v y := by
  unfold reachL
  rw [mem_norm, List.mem_filter, @decide_eq_true_eq _ (Classical.propDecidable _)]
  exact ⟨fun h => h.1.2, fun h => ⟨⟨h.all, h⟩, h.right⟩⟩
theorem canon_reachL (T : List Lc) (n : ByteArray) (v : List At) : Canon (reachL T n v) := norm_canon _
/-! ### lengths -/
theorem nodup_le : ∀ {l m : List At}, l.Nodup → (∀ z, z ∈ l → z ∈ m) → l.length ≤ m.length := by
  intro l
  induction l with
  | nil => intro m _ _; exact Nat.zero_le _
  | cons a l ih =>
    intro m hd hs
    obtain ⟨h1, h2⟩ := List.nodup_cons.1 hd
    have ha := hs a (by simp)
    have := ih (m := m.erase a) h2 fun z hz => (List.mem_erase_of_ne (fun e => h1 (by rw [← e]; exact hz))).2 (hs z (List.mem_cons_of_mem _ hz))
    rw [List.length_erase_of_mem ha] at this
    have hp : 0 < m.length := List.length_pos_of_mem ha
    simp only [List.length_cons]
    omega
theorem flat_len {α β : Type} (f : α → List β) (k : Nat) : ∀ l : List α, (∀ a, a ∈ l → (f a).length ≤ k) → (l.flatMap f).length ≤ l.length * k := by
  intro l
  induction l with
  | nil => intro _; simp
  | cons a l ih =>
    intro h
    have h1 := h a (by simp)
    have h2 := ih fun b hb => h b (List.mem_cons_of_mem _ hb)
    rw [List.flatMap_cons, List.length_append, List.length_cons, Nat.add_mul]
    omega
theorem allA_len {T : List Lc} {v : List At} {k : Nat} (h : ∀ l, l ∈ T → l.2.2.length ≤ k) : (allA T v).length ≤ v.length + T.length * k := by
  unfold allA
  rw [List.length_append]
  have := flat_len (fun l : Lc => l.2.2) k T h
  omega
theorem reachL_len {T : List Lc} {n : ByteArray} {v : List At} {k : Nat} (h : ∀ l, l ∈ T → l.2.2.length ≤ k) : (reachL T n v).length ≤ v.length + T.length * k := by
  have h1 := nodup_le (nodup_rises (canon_reachL T n v).1) (m := allA T v) fun z hz => (mem_reachL.1 hz).all
  have := allA_len (v := v) h
  omega
/-- What is still to come. -/
def restT : List Lc → List At → Nat
  | [], _ => 0
  | l :: T, out => (if l.1 ∈ out then 0 else l.2.2.length) + restT T out
theorem restT_le (out : List At) (x : At) : ∀ T, restT T (out ++ [x]) ≤ restT T out := by
  intro T
  induction T with
  | nil => exact Nat.le_refl _
  | cons l T ih =>
    simp only [restT]
    by_cases h : l.1 ∈ out
    · rw [if_pos h, if_pos (List.mem_append_left _ h)]; omega
    · rw [if_neg h]; split <;> omega
theorem restT_lt {out : List At} {x : At} (hx : x ∉ out) : ∀ {T : List Lc} {l : Lc}, l ∈ T → l.1 = x → restT T (out ++ [x]) + l.2.2.length ≤ restT T out := by
  intro T
  induction T with
  | nil => intro l h; cases h
  | cons m T ih =>
    intro l h e
    simp only [restT]
    rcases List.mem_cons.1 h with rfl | h
    · rw [if_pos (show l.1 ∈ out ++ [x] by rw [e]; simp), if_neg (show ¬ l.1 ∈ out by rw [e]; exact hx)]
      have := restT_le out x T
      omega
    · have := ih h e
      by_cases q : m.1 ∈ out
      · rw [if_pos q, if_pos (List.mem_append_left _ q)]; omega
      · rw [if_neg q]; split <;> omega
theorem restT_nx {T : List Lc} {n : ByteArray} {out : List At} {x : At} (hx : x ∉ out) : restT T (out ++ [x]) + (norm (nx T n x)).length ≤ restT T out := by
  have hn := norm_length (nx T n x)
  by_cases q : PlaceA x ∧ (locR T x).2 = true ∧ su (locR T x).1.1 n = false
  · have e : nx T n x = (locR T x).1.2 := by unfold nx; rw [if_pos q]
    rw [e] at hn ⊢
    have q2 := q.2.1
    unfold locR at q2 hn ⊢
    cases g : getL T x with
    | none => rw [g] at q2; cases q2
    | some b =>
      rw [g] at hn
      obtain ⟨h1, h2⟩ := getL_mem g
      have := restT_lt hx h1 h2
      simp only at hn ⊢
      omega
  · have e : nx T n x = [] := by unfold nx; rw [if_neg q]
    rw [e]
    have := restT_le out x T
    simpa [norm_nil] using this
theorem restT_zero (k : Nat) (out : List At) : ∀ T : List Lc, (∀ l, l ∈ T → l.2.2.length ≤ k) → restT T out ≤ T.length * k := by
  intro T
  induction T with
  | nil => intro _; exact Nat.zero_le _
  | cons l T ih =>
    intro h
    have h1 := h l (by simp)
    have h2 := ih fun b hb => h b (List.mem_cons_of_mem _ hb)
    simp only [restT, List.length_cons, Nat.add_mul]
    split <;> omega
/-! ### the walk -/
abbrev eqK : At → At → Bool := fun x y => P.and (P.ieq x.1 y.1) (P.ieq x.2 y.2)
def marks (out : List At) : List (At × Bool) := out.map fun x => (x, true)
theorem mval_marks (x : At) : ∀ out : List At, P.mval eqK (marks out) x false = decide (x ∈ out) := by
  intro out
  induction out with
  | nil => rfl
  | cons a l ih =>
    have e : P.mval eqK (marks (a :: l)) x false = match eqK x a with
      | true => true
      | false => P.mval eqK (marks l) x false := rfl
    rw [e, ih]
    have h : eqK x a = decide (x = a) := eqA_dec x a
    rw [h]
    by_cases q : x = a
    · subst q; simp
    · rw [decide_eq_false q]; simp [q]
theorem mput_marks (x : At) : ∀ out : List At, x ∉ out → P.mput eqK (marks out) x true = marks (out ++ [x]) := by
  intro out
  induction out with
  | nil => intro _; rfl
  | cons a l ih =>
    intro h
    have e : P.mput eqK (marks (a :: l)) x true = match eqK x a with
      | true => (x, true) :: marks l
      | false => (a, true) :: P.mput eqK (marks l) x true := rfl
    rw [e, ih (fun z => h (List.mem_cons_of_mem _ z))]
    have h2 : eqK x a = decide (x = a) := eqA_dec x a
    rw [h2, decide_eq_false (fun z => h (by rw [z]; simp))]
    rfl
theorem walk_run {τ ρ : Type} (T : List Lc) (n : ByteArray) (v : List At) (g : τ → At → τ) (a0 : τ) (ok : τ → Nat → Prop) (E : τ → List (At × Bool) → ρ) {f : List At × τ × List (At × Bool) → Option ((List At × τ × List (At × Bool)) ⊕ ρ)} (hN : v.length + restT T [] ≤ 100000)
    (he : ∀ (out : List At), f ([], out.foldl g a0, marks out) = some (.inr (E (out.foldl g a0) (marks out))))
    (h1 : ∀ (out r : List At) (x : At), x ∈ out → r.length ≤ 100000 → f (x :: r, out.foldl g a0, marks out) = some (.inl (r, out.foldl g a0, marks out)))
    (h2 : ∀ (out r : List At) (x : At), x ∉ out → RightA x → (∀ z, z ∈ out → Rch T n v z) → out.Nodup → r.length + out.length + (norm (nx T n x)).length ≤ 100000 → f (x :: r, out.foldl g a0, marks out) = some (.inl (r ++ norm (nx T n x), (out ++ [x]).foldl g a0, marks (out ++ [x])))) :
    ∃ out, P.iter K f (norm v, a0, []) = some (E (out.foldl g a0) (marks out)) ∧ out.Nodup ∧ (∀ y, y ∈ out ↔ Rch T n v y) := by
  have key : ∀ (m : Nat) (q out : List At) (k : Nat), q.length + restT T out ≤ m → m < k → out.length + (q.length + restT T out) ≤ 100000 → (∀ z, z ∈ q ∨ z ∈ out → Rch T n v z) → out.Nodup → (∀ z, z ∈ v → RightA z → z ∈ q ∨ z ∈ out) →
      (∀ x, x ∈ out → ∀ z, z ∈ nx T n x → RightA z → z ∈ q ∨ z ∈ out) → ∃ out', P.iter k f (q, out.foldl g a0, marks out) = some (E (out'.foldl g a0) (marks out')) ∧ out'.Nodup ∧ (∀ y, y ∈ out' ↔ Rch T n v y) := by
    intro m
    induction m with
    | zero =>
      intro q out k hm hk hlen hr hd hv hc
      have : q = [] := List.eq_nil_of_length_eq_zero (by omega)
      subst this
      refine ⟨out, iter_done (by omega) (he out), hd, fun y => ⟨fun h => hr y (.inr h), fun h => ?_⟩⟩
      induction h with
      | base h1 h2 => exact (hv _ h1 h2).resolve_left (by simp)
      | step _ h2 h3 ih => exact (hc _ ih _ h2 h3).resolve_left (by simp)
    | succ m ih =>
      intro q out k hm hk hlen hr hd hv hc
      cases q with
      | nil =>
        refine ⟨out, iter_done (by omega) (he out), hd, fun y => ⟨fun h => hr y (.inr h), fun h => ?_⟩⟩
        induction h with
        | base h1 h2 => exact (hv _ h1 h2).resolve_left (by simp)
        | step _ h2 h3 ih => exact (hc _ ih _ h2 h3).resolve_left (by simp)
      | cons x r =>
        simp only [List.length_cons] at hm hlen
        have hx := hr x (.inl (by simp))
        by_cases hin : x ∈ out
        · rw [iter_step (by omega) (h1 out r x hin (by omega))]
          refine ih r out (k - 1) (by omega) (by omega) (by omega) (fun z hz => hr z (hz.imp (List.mem_cons_of_mem _) id)) hd (fun z h1 h2 => ?_) (fun y hy z h1 h2 => ?_)
          · rcases hv z h1 h2 with q | q
            · rcases List.mem_cons.1 q with rfl | q
              · exact .inr hin
              · exact .inl q
            · exact .inr q
          · rcases hc y hy z h1 h2 with q | q
            · rcases List.mem_cons.1 q with rfl | q
              · exact .inr hin
              · exact .inl q
            · exact .inr q
        · have hrest := restT_nx (T := T) (n := n) hin
          rw [iter_step (by omega) (h2 out r x hin hx.right (fun z hz => hr z (.inr hz)) hd (by omega))]
          refine ih _ _ (k - 1) (by rw [List.length_append]; omega) (by omega) (by rw [List.length_append, List.length_append, List.length_cons, List.length_nil]; omega) (fun z hz => ?_) ?_ (fun z h1 h2 => ?_) (fun y hy z h1 h2 => ?_)
          · rcases hz with hz | hz
            · rcases List.mem_append.1 hz with hz | hz
              · exact hr z (.inl (List.mem_cons_of_mem _ hz))
              · obtain ⟨a, b⟩ := mem_norm.1 hz
                exact .step hx a b
            · rcases List.mem_append.1 hz with hz | hz
              · exact hr z (.inr hz)
              · rw [List.mem_singleton.1 hz]; exact hx
          · rw [List.nodup_append]
            exact ⟨hd, by simp, fun a ha b hb e => by rw [List.mem_singleton.1 hb] at e; exact hin (e ▸ ha)⟩
          · rcases hv z h1 h2 with q | q
            · rcases List.mem_cons.1 q with rfl | q
              · exact .inr (by simp)
              · exact .inl (List.mem_append_left _ q)
            · exact .inr (List.mem_append_left _ q)
          · rcases List.mem_append.1 hy with hy | hy
            · rcases hc y hy z h1 h2 with q | q
              · rcases List.mem_cons.1 q with rfl | q
                · exact .inr (by simp)
                · exact .inl (List.mem_append_left _ q)
              · exact .inr (List.mem_append_left _ q)
            · rw [List.mem_singleton.1 hy] at h1
              exact .inl (List.mem_append_right _ (mem_norm.2 ⟨h1, h2⟩))
  have hn := norm_length v
  exact key ((norm v).length + restT T []) (norm v) [] K (Nat.le_refl _) (by unfold K; omega) (by simp only [List.length_nil]; omega) (fun z hz => by
    rcases hz with hz | hz
    · obtain ⟨a, b⟩ := mem_norm.1 hz; exact .base a b
    · cases hz) List.nodup_nil (fun z h1 h2 => .inl (mem_norm.2 ⟨h1, h2⟩)) (fun x hx => by cases hx)
end Go.PL
end
section
/- Law 10: what both sides reach. -/
open Go Go.PG Go.PL
set_option linter.all false
namespace Go.PL
theorem at_place (k : Nat) (x : At) (h : RightA x) : lookup_place k x = some (decide (PlaceA x)) := by
  obtain ⟨a, b⟩ := x
  unfold lookup_place
  try dsimp only
  simp only [cond_eq, ieq_iff]
  unfold RightA at h
  simp only at h
  by_cases q : a = 4
  · rw [if_pos q, decide_eq_true (show PlaceA (a, b) from ⟨.inl q, by show 0 ≤ b; omega⟩)]
  · rw [if_neg q, ieq_eq]
    congr 1
    rw [decide_eq_decide]
    unfold PlaceA
    simp only
    omega
theorem sub_tail (x : At) (r : List At) : P.sub_ (x :: r) 1 (P.add 1 (P.sub (P.len (x :: r)) 1)) = r := by
  unfold P.sub_ P.add P.sub P.len
  rw [show (1 + (((x :: r).length : Int) - 1)).toNat = (x :: r).length by simp only [List.length_cons]; omega, List.take_length]
  rfl
theorem pos_len (x : At) (r : List At) : P.ilt 0 (P.len (x :: r)) = true := ilt_iff.2 (by rw [len_eq]; simp only [List.length_cons]; omega)
theorem inb_0 (x : At) (r : List At) : P.inb 0 (P.len (x :: r)) = true := inb_iff.2 (by rw [len_eq]; simp only [List.length_cons]; omega)
theorem cut_1 (x : At) (r : List At) : P.cut 1 (P.len (x :: r)) (P.len (x :: r)) = true := cut_iff.2 (by rw [len_eq]; simp only [List.length_cons]; omega)
theorem get_0 (x : At) (r : List At) : P.get (x :: r) 0 ((0 : Int), (0 : Int)) = x := rfl
theorem snoc_fold : ∀ (l a : List At), l.foldl (fun (o : List At) x => o ++ [x]) a = a ++ l := by
  intro l
  induction l with
  | nil => intro a; simp
  | cons x l ih => intro a; rw [List.foldl_cons, ih]; simp
theorem room16 {l m : List At} (h : l.length + m.length ≤ 8796093022000) : P.room (P.add (P.len l) (P.len m)) 16 = true := by
  rw [len_eq, len_eq, room_nat]; omega
/-- Bounds that a small state gives. -/
def BdL (k : Nat) (T : List Lc) : Prop := T.length ≤ k ∧ ∀ l, l ∈ T → Bd k l.2
theorem bdL_rest {k : Nat} {T : List Lc} (h : BdL k T) (out : List At) : restT T out ≤ k * k := by
  have h1 := restT_zero k out T fun l hl => (h.2 l hl).2.2
  have h2 := Nat.mul_le_mul_right k h.1
  omega
theorem small_bdL {s : Sta} (h : SmallT s) : BdL 40 s.2.2 := ⟨h.2.1, fun l hl => ⟨(h.2.2.2 l hl).1, fun f hf => (h.2.2.2 l hl).2.2 f hf, (h.2.2.2 l hl).2.1⟩⟩
theorem nx_norm {T : List Lc} {n : ByteArray} {x : At} : nx T n x = if PlaceA x then (if (locR T x).2 = true then (if su (locR T x).1.1 n = true then [] else (locR T x).1.2) else []) else [] := by
  unfold nx
  by_cases a : PlaceA x
  · rw [if_pos a]
    by_cases b : (locR T x).2 = true
    · rw [if_pos b]
      by_cases c : su (locR T x).1.1 n = true
      · rw [if_pos c, if_neg (fun z => by rw [c] at z; exact absurd z.2.2 (by decide))]
      · rw [if_neg c, if_pos ⟨a, b, by simpa using c⟩]
    · rw [if_neg b, if_neg (fun z => b z.2.1)]
  · rw [if_neg a, if_neg (fun z => a z.1)]
theorem loc_len {T : List Lc} {k : Nat} (h : BdL k T) (x : At) : Bd k (locR T x).1 := by
  unfold locR
  cases g : getL T x with
  | none => exact bd_empty k
  | some b => exact h.2 b (getL_mem g).1
theorem at_reach (s : Sta) (v : List At) (n : ByteArray) (hs : SmallT s) (hv : v.length ≤ 10000) : lookup_Reach K (s, v, n) = some (reachL s.2.2 n v) := by
  have hb := small_bdL hs
  have hF := small_fewT hs
  unfold lookup_Reach
  try dsimp only
  rw [at_norm' v (by omega), bind_some]
  have hr := bdL_rest hb []
  generalize hf : (fun (y : List (Int × Int) × List (Int × Int) × List ((Int × Int) × Bool)) => _ : List (Int × Int) × List (Int × Int) × List ((Int × Int) × Bool) → Option ((List (Int × Int) × List (Int × Int) × List ((Int × Int) × Bool)) ⊕ ((List (Int × Int) × List ((Int × Int) × Bool)) ⊕ List (Int × Int)))) = f
  obtain ⟨out, h1, h2, h3⟩ := walk_run s.2.2 n v (fun (o : List At) x => o ++ [x]) [] (fun _ _ => True) (fun a sn => (Sum.inl (a, sn) : (List At × List (At × Bool)) ⊕ List At)) (f := f) (by omega)
    (fun out => by
      rw [← hf]
      rfl)
    (fun out r x hx hl => by
      rw [← hf]
      try dsimp only
      rw [pos_len, cond_true, inb_0, cond_true, cut_1, cond_true, get_0, mval_marks, decide_eq_true hx, cond_true, sub_tail])
    (fun out r x hx hR hall hd hl => by
      rw [← hf]
      try dsimp only
      rw [snoc_fold, snoc_fold, List.nil_append, List.nil_append]
      rw [pos_len, cond_true, inb_0, cond_true, cut_1, cond_true, get_0, mval_marks, decide_eq_false hx, cond_false, sub_tail, mput_marks x out hx]
      have hB := loc_len hb x
      have hn := norm_length (nx s.2.2 n x)
      rw [st_loc s x hF, bind_some, ob_get _ _ (bd_few hB (by decide)), bind_some, room16 (by simp only [List.length_cons, List.length_nil]; omega), cond_true, at_place K x hR, bind_some]
      rw [nx_norm] at hl ⊢
      by_cases a : PlaceA x
      · rw [decide_eq_true a, cond_true]
        rw [if_pos a] at hl ⊢
        by_cases b : (locR s.2.2 x).2 = true
        · rw [if_pos b] at hl ⊢
          rw [b, cond_true]
          by_cases c : su (locR s.2.2 x).1.1 n = true
          · rw [show (getR (locR s.2.2 x).1.1 n).1.2.1 = true from c, show P.not true = false from rfl, cond_false, if_pos c, norm_nil, List.append_nil]
            rfl
          · rw [show (getR (locR s.2.2 x).1.1 n).1.2.1 = false from by simpa [su] using c, show P.not false = true from rfl, cond_true]
            rw [if_neg c] at hl ⊢
            rw [at_norm' _ (by have := hB.2.2; omega), bind_some, room16 (by omega), cond_true]
            rfl
        · rw [if_neg b, show (locR s.2.2 x).2 = false from by simpa using b, cond_false, norm_nil, List.append_nil]
          rfl
      · rw [decide_eq_false a, cond_false, if_neg a, norm_nil, List.append_nil]
        rfl)
  rw [h1, bind_some, either_inl]
  rw [snoc_fold, List.nil_append]
  have hlen : out.length ≤ 100000 := by
    have := nodup_le h2 (m := allA s.2.2 v) fun z hz => ((h3 z).1 hz).all
    have := allA_len (T := s.2.2) (v := v) (k := 40) fun l hl => (hb.2 l hl).2.2
    have := Nat.mul_le_mul_right 40 hb.1
    omega
  rw [at_norm' out (by omega), bind_some]
  congr 1
  exact canon_ext (norm_canon _) (canon_reachL _ _ _) fun z => by
    rw [mem_norm, mem_reachL, h3]
    exact ⟨fun h => h.1, fun h => ⟨h, h.right⟩⟩
/-! ### the document's side -/
/-- One round: all that comes next. -/
noncomputable def moreL (T : List Lc) (n : ByteArray) (l : List At) : List At := norm (l ++ l.flatMap (nx T n))
theorem ref_reach (s : Sta) (v : List At) (n : ByteArray) (hs : SmallT s) (hv : v.length ≤ 1000) : ref10_Reach K (s, v, n) = some (reachL s.2.2 n v) := by
  have hb := small_bdL hs
  have hF := small_fewT hs
  have hall := allA_len (T := s.2.2) (v := v) (k := 40) fun l hl => (hb.2 l hl).2.2
  have hm := Nat.mul_le_mul_right 40 hb.1
  unfold ref10_Reach
  try dsimp only
  rw [ref_norm v (by omega), bind_some]
  generalize hf : (fun (y : List At) => _ : List At → Option (List At ⊕ List At)) = f
  -- what one round does
  have step : ∀ l : List At, Canon l → (∀ z, z ∈ l → Rch s.2.2 n v z) → f l = some (if moreL s.2.2 n l = l then .inr l else .inl (moreL s.2.2 n l)) := by
    intro l hc hR
    have hlen : l.length ≤ 3000 := by
      have := nodup_le (nodup_rises hc.1) (m := allA s.2.2 v) fun z hz => (hR z hz).all
      omega
    rw [← hf]
    try dsimp only
    have hmix : ∀ j, (norm (l ++ (l.take j).flatMap (nx s.2.2 n))).length ≤ l.length + j * 40 := by
      intro j
      have h1 := norm_length (l ++ (l.take j).flatMap (nx s.2.2 n))
      have h2 := flat_len (nx s.2.2 n) 40 (l.take j) (fun x _ => by
        unfold nx
        split
        · exact (loc_len hb x).2.2
        · simp)
      rw [List.length_append] at h1
      rw [List.length_take] at h2
      have h3 := Nat.mul_le_mul_right 40 (Nat.min_le_left j l.length)
      omega
    generalize hg : (fun (y_1 : List (Int × Int) × Int) => _ : List (Int × Int) × Int → Option ((List (Int × Int) × Int) ⊕ (List (Int × Int) ⊕ (List (Int × Int) ⊕ List (Int × Int))))) = g2
    have := iter_run (f := g2) (fun i => (norm (l ++ (l.take i).flatMap (nx s.2.2 n)), (i : Int))) (.inl (moreL s.2.2 n l)) l.length 0 K (by unfold K; omega) (fun j hj => ?_) ?_
    · rw [List.take_zero, List.flatMap_nil, List.append_nil, ← canon_iff.2 hc] at this
      have this : P.iter K g2 (l, (0 : Int)) = _ := this
      rw [this, bind_some, either_inl, ieq_eq]
      have hsub : ∀ z, z ∈ l → z ∈ moreL s.2.2 n l := fun z hz => mem_norm.2 ⟨List.mem_append_left _ hz, hc.2 z hz⟩
      have hiff : (P.len (moreL s.2.2 n l) = P.len l) ↔ moreL s.2.2 n l = l := by
        constructor
        · intro e
          rw [len_eq, len_eq] at e
          refine rises_ext (norm_rises _) hc.1 fun z => ⟨fun hz => ?_, hsub z⟩
          apply Classical.byContradiction
          intro hnot
          have := nodup_le (l := z :: l) (m := moreL s.2.2 n l) (List.nodup_cons.2 ⟨hnot, nodup_rises hc.1⟩) fun y hy => (List.mem_cons.1 hy).elim (fun e => e ▸ hz) (hsub y)
          simp only [List.length_cons] at this
          omega
        · intro e; rw [e]
      by_cases q : moreL s.2.2 n l = l
      · rw [decide_eq_true (hiff.2 q), cond_true, if_pos q]
      · rw [decide_eq_false (fun e => q (hiff.1 e)), cond_false, if_neg q]
    · simp only [Nat.zero_add]
      rw [← hg]
      try dsimp only
      have hin : l[j] ∈ l := List.getElem_mem hj
      have hB := loc_len hb l[j]
      have hl1 := hmix j
      rw [ilt_len hj, cond_true, inb_len hj, cond_true, get_lt l hj, ref_loc s _ (by have := hb.1; omega), bind_some, ref_get _ _ (by have := hB.1; omega), bind_some, cond_true, ref_place, bind_some, wrap_succ (by omega)]
      have hnext : (l.take (j + 1)).flatMap (nx s.2.2 n) = (l.take j).flatMap (nx s.2.2 n) ++ nx s.2.2 n l[j] := by
        rw [List.take_add_one, List.getElem?_eq_getElem hj, List.flatMap_append]
        simp
      rw [hnext, ← List.append_assoc]
      have hu := ref_union (norm (l ++ (l.take j).flatMap (nx s.2.2 n))) (nx s.2.2 n l[j])
      have hnn : ∀ a b : List At, norm (norm a ++ b) = norm (a ++ b) := fun a b => canon_ext (norm_canon _) (norm_canon _) fun z => by
        simp only [mem_norm, List.mem_append]
        exact ⟨fun ⟨h, r⟩ => ⟨h.imp (fun q => q.1) id, r⟩, fun ⟨h, r⟩ => ⟨h.imp (fun q => ⟨q, r⟩) id, r⟩⟩
      rw [hnn] at hu
      rw [nx_norm] at hu ⊢
      by_cases b : (locR s.2.2 l[j]).2 = true
      · rw [if_pos b] at hu ⊢
        rw [b, cond_true]
        by_cases a : PlaceA l[j]
        · rw [decide_eq_true a, cond_true]
          rw [if_pos a] at hu ⊢
          by_cases c : su (locR s.2.2 l[j]).1.1 n = true
          · rw [show (getR (locR s.2.2 l[j]).1.1 n).1.2.1 = true from c, show P.not true = false from rfl, cond_false, if_pos c, List.append_nil]
          · rw [show (getR (locR s.2.2 l[j]).1.1 n).1.2.1 = false from by simpa [su] using c, show P.not false = true from rfl, cond_true]
            rw [if_neg c] at hu ⊢
            rw [hu (by have := hB.2.2; omega), bind_some]
        · rw [decide_eq_false a, cond_false, if_neg a, List.append_nil]
      · rw [if_neg b, show (locR s.2.2 l[j]).2 = false from by simpa using b, cond_false]
        split <;> rw [List.append_nil]
    · simp only [Nat.zero_add]
      rw [← hg]
      try dsimp only
      rw [ilt_end, cond_false, List.take_length]; rfl
  have key : ∀ (m : Nat) (l : List At) (k : Nat), (allA s.2.2 v).length ≤ l.length + m → m < k → Canon l → (∀ z, z ∈ l → Rch s.2.2 n v z) → (∀ z, z ∈ v → RightA z → z ∈ l) → P.iter k f l = some (reachL s.2.2 n v) := by
    intro m
    induction m with
    | zero =>
      intro l k hm hk hc hR hv
      have hst := step l hc hR
      have hmc : Canon (moreL s.2.2 n l) := norm_canon _
      have hmR : ∀ z, z ∈ moreL s.2.2 n l → Rch s.2.2 n v z := fun z hz => by
        obtain ⟨h1, h2⟩ := mem_norm.1 hz
        rcases List.mem_append.1 h1 with h1 | h1
        · exact hR z h1
        · obtain ⟨x, hx, h3⟩ := List.mem_flatMap.1 h1
          exact .step (hR x hx) h3 h2
      have hsub : ∀ z, z ∈ l → z ∈ moreL s.2.2 n l := fun z hz => mem_norm.2 ⟨List.mem_append_left _ hz, hc.2 z hz⟩
      have hfull : ∀ z, z ∈ moreL s.2.2 n l → z ∈ l := fun z hz => by
        apply Classical.byContradiction
        intro hnot
        have := nodup_le (l := z :: l) (m := allA s.2.2 v) (List.nodup_cons.2 ⟨hnot, nodup_rises hc.1⟩) fun y hy => (List.mem_cons.1 hy).elim (fun e => e ▸ (hmR z hz).all) (fun h => (hR y h).all)
        simp only [List.length_cons] at this
        omega
      have he : moreL s.2.2 n l = l := rises_ext hmc.1 hc.1 fun z => ⟨hfull z, hsub z⟩
      rw [if_pos he] at hst
      rw [iter_done (by omega) hst]
      congr 1
      refine canon_ext hc (canon_reachL _ _ _) fun z => ?_
      rw [mem_reachL]
      refine ⟨hR z, fun h => ?_⟩
      induction h with
      | base h1 h2 => exact hv _ h1 h2
      | step _ h2 h3 ih => exact hfull _ (mem_norm.2 ⟨List.mem_append_right _ (List.mem_flatMap.2 ⟨_, ih, h2⟩), h3⟩)
    | succ m ih =>
      intro l k hm hk hc hR hv
      have hst := step l hc hR
      have hmc : Canon (moreL s.2.2 n l) := norm_canon _
      have hmR : ∀ z, z ∈ moreL s.2.2 n l → Rch s.2.2 n v z := fun z hz => by
        obtain ⟨h1, h2⟩ := mem_norm.1 hz
        rcases List.mem_append.1 h1 with h1 | h1
        · exact hR z h1
        · obtain ⟨x, hx, h3⟩ := List.mem_flatMap.1 h1
          exact .step (hR x hx) h3 h2
      have hsub : ∀ z, z ∈ l → z ∈ moreL s.2.2 n l := fun z hz => mem_norm.2 ⟨List.mem_append_left _ hz, hc.2 z hz⟩
      by_cases he : moreL s.2.2 n l = l
      · rw [if_pos he] at hst
        rw [iter_done (by omega) hst]
        congr 1
        refine canon_ext hc (canon_reachL _ _ _) fun z => ?_
        rw [mem_reachL]
        refine ⟨hR z, fun h => ?_⟩
        induction h with
        | base h1 h2 => exact hv _ h1 h2
        | step _ h2 h3 ih => rw [← he]; exact mem_norm.2 ⟨List.mem_append_right _ (List.mem_flatMap.2 ⟨_, ih, h2⟩), h3⟩
      · rw [if_neg he] at hst
        rw [iter_step (by omega) hst]
        refine ih _ (k - 1) ?_ (by omega) hmc hmR (fun z h1 h2 => hsub z (hv z h1 h2))
        have : l.length + 1 ≤ (moreL s.2.2 n l).length := by
          have hex : ∃ z, z ∈ moreL s.2.2 n l ∧ z ∉ l := by
            apply Classical.byContradiction
            intro q
            exact he (rises_ext hmc.1 hc.1 fun z => ⟨fun hz => Classical.byContradiction fun hn => q ⟨z, hz, hn⟩, hsub z⟩)
          obtain ⟨z, hz, hn⟩ := hex
          have := nodup_le (l := z :: l) (m := moreL s.2.2 n l) (List.nodup_cons.2 ⟨hn, nodup_rises hc.1⟩) fun y hy => (List.mem_cons.1 hy).elim (fun e => e ▸ hz) (hsub y)
          simpa using this
        omega
  exact key (allA s.2.2 v).length (norm v) K (by omega) (by unfold K; omega) (norm_canon v) (fun z hz => by obtain ⟨a, b⟩ := mem_norm.1 hz; exact .base a b) (fun z h1 h2 => mem_norm.2 ⟨h1, h2⟩)
end Go.PL
end
section
/- Law 10: what both sides find. -/
open Go Go.PG Go.PL
set_option linter.all false
namespace Go.PL
abbrev Fnd := List At × Bool × Bool × Bool
/-- Is it an object that has the property? -/
def hp (T : List Lc) (n : ByteArray) (x : At) : Bool := decide (PlaceA x) && pr (locR T x).1.1 n
def vv (T : List Lc) (n : ByteArray) (x : At) : List At := if hp T n x = true then va (locR T x).1.1 n else []
def six (x : At) : Bool := P.ieq x.1 6
def plB (x : At) : Bool := decide (PlaceA x)
def found (T : List Lc) (n : ByteArray) (l : List At) : Fnd := (l.flatMap (vv T n), l.any six, l.all plB, l.any (hp T n))
def gF (T : List Lc) (n : ByteArray) (a : Fnd) (x : At) : Fnd := (a.1 ++ vv T n x, a.2.1 || six x, a.2.2.1 && plB x, a.2.2.2 || hp T n x)
theorem fold_gF (T : List Lc) (n : ByteArray) : ∀ (l : List At) (a : Fnd), l.foldl (gF T n) a = (a.1 ++ l.flatMap (vv T n), a.2.1 || l.any six, a.2.2.1 && l.all plB, a.2.2.2 || l.any (hp T n)) := by
  intro l
  induction l with
  | nil => intro a; simp
  | cons x l ih => intro a; rw [List.foldl_cons, ih]; simp [gF, Bool.or_assoc, Bool.and_assoc]
theorem found_fold (T : List Lc) (n : ByteArray) (l : List At) : l.foldl (gF T n) ([], false, true, false) = found T n l := by rw [fold_gF]; simp [found]
theorem found_snoc (T : List Lc) (n : ByteArray) (l : List At) (x : At) : found T n (l ++ [x]) = gF T n (found T n l) x := by simp [found, gF]
theorem vv_len {T : List Lc} {n : ByteArray} {k : Nat} (h : BdL k T) (x : At) : (vv T n x).length ≤ k := by
  unfold vv
  split
  · exact bd_va (loc_len h x) n
  · simp
/-- What is found. -/
noncomputable def findL (T : List Lc) (n : ByteArray) (v : List At) : Fnd := (norm ((reachL T n v).flatMap (vv T n)), (reachL T n v).any six, (reachL T n v).all plB, (reachL T n v).any (hp T n))
theorem found_ext {T : List Lc} {n : ByteArray} {l m : List At} (h : ∀ z, z ∈ l ↔ z ∈ m) : (norm (found T n l).1, (found T n l).2) = (norm (found T n m).1, (found T n m).2) := by
  have e1 : norm (l.flatMap (vv T n)) = norm (m.flatMap (vv T n)) := canon_ext (norm_canon _) (norm_canon _) fun z => by
    rw [mem_norm, mem_norm, List.mem_flatMap, List.mem_flatMap]
    exact ⟨fun ⟨⟨x, a, b⟩, c⟩ => ⟨⟨x, (h x).1 a, b⟩, c⟩, fun ⟨⟨x, a, b⟩, c⟩ => ⟨⟨x, (h x).2 a, b⟩, c⟩⟩
  have e2 : ∀ p : At → Bool, l.any p = m.any p := fun p => by
    rw [Bool.eq_iff_iff, List.any_eq_true, List.any_eq_true]
    exact ⟨fun ⟨x, a, b⟩ => ⟨x, (h x).1 a, b⟩, fun ⟨x, a, b⟩ => ⟨x, (h x).2 a, b⟩⟩
  have e3 : l.all plB = m.all plB := by
    rw [Bool.eq_iff_iff, List.all_eq_true, List.all_eq_true]
    exact ⟨fun q x hx => q x ((h x).2 hx), fun q x hx => q x ((h x).1 hx)⟩
  unfold found
  rw [e1, e2 six, e2 (hp T n), e3]
theorem at_find (s : Sta) (v : List At) (n : ByteArray) (hs : SmallT s) (hv : v.length ≤ 1000) : lookup_Find K (s, v, n) = some (findL s.2.2 n v) := by
  have hb := small_bdL hs
  have hF := small_fewT hs
  unfold lookup_Find
  try dsimp only
  rw [at_norm' v (by omega), bind_some]
  have hr := bdL_rest hb []
  generalize hf : (fun (y : List (Int × Int) × (List (Int × Int) × Bool × Bool × Bool) × List ((Int × Int) × Bool)) => _ : List (Int × Int) × (List (Int × Int) × Bool × Bool × Bool) × List ((Int × Int) × Bool) → Option ((List (Int × Int) × (List (Int × Int) × Bool × Bool × Bool) × List ((Int × Int) × Bool)) ⊕ (((List (Int × Int) × Bool × Bool × Bool) × List ((Int × Int) × Bool)) ⊕ (List (Int × Int) × Bool × Bool × Bool)))) = f
  obtain ⟨out, h1, h2, h3⟩ := walk_run s.2.2 n v (gF s.2.2 n) ([], false, true, false) (fun _ _ => True) (fun a sn => (Sum.inl (a, sn) : (Fnd × List (At × Bool)) ⊕ Fnd)) (f := f) (by omega)
    (fun out => by
      rw [← hf]
      rfl)
    (fun out r x hx hl => by
      rw [← hf]
      try dsimp only
      rw [pos_len, cond_true, inb_0, cond_true, cut_1, cond_true, get_0, mval_marks, decide_eq_true hx, cond_true, sub_tail])
    (fun out r x hx hR hall hd hl => by
      rw [found_fold, found_fold, found_snoc]
      have hV : (found s.2.2 n out).1.length ≤ 4000000 := by
        have := flat_len (vv s.2.2 n) 40 out (fun x _ => vv_len hb x)
        have e : (found s.2.2 n out).1 = out.flatMap (vv s.2.2 n) := rfl
        rw [e]; omega
      generalize found s.2.2 n out = fd at hV ⊢
      obtain ⟨V, D, S, M⟩ := fd
      have hV : V.length ≤ 4000000 := hV
      rw [← hf]
      try dsimp only
      rw [pos_len, cond_true, inb_0, cond_true, cut_1, cond_true, get_0, mval_marks, decide_eq_false hx, cond_false, sub_tail, mput_marks x out hx]
      have hB := loc_len hb x
      rw [st_loc s x hF, bind_some, ob_get _ _ (bd_few hB (by decide)), bind_some]
      simp only [at_place K x hR, bind_some]
      have hva := bd_va hB n
      have hcat := at_concat V (va (locR s.2.2 x).1.1 n) (by omega)
      have hnrm := at_norm' (locR s.2.2 x).1.2 (by have := hB.2.2; omega)
      have hnl := norm_length (locR s.2.2 x).1.2
      have hroom := room16 (l := r) (m := norm (locR s.2.2 x).1.2) (by have := hB.2.2; omega)
      have e2 : (getR (locR s.2.2 x).1.1 n).2 = pr (locR s.2.2 x).1.1 n := rfl
      have e3 : (getR (locR s.2.2 x).1.1 n).1.2.1 = su (locR s.2.2 x).1.1 n := rfl
      have e4 : (getR (locR s.2.2 x).1.1 n).1.2.2 = va (locR s.2.2 x).1.1 n := rfl
      simp only [e2, e3, e4, hcat, hnrm, hroom, bind_some]
      have g1 : gF s.2.2 n (V, D, S, M) x = (V ++ vv s.2.2 n x, D || six x, S && plB x, M || hp s.2.2 n x) := rfl
      rw [g1, nx_norm]
      unfold vv hp plB six
      generalize pr (locR s.2.2 x).1.1 n = p
      generalize su (locR s.2.2 x).1.1 n = q
      generalize (locR s.2.2 x).2 = b
      by_cases a : PlaceA x
      · rw [decide_eq_true a, if_pos a]
        cases D <;> cases S <;> cases M <;> cases p <;> cases q <;> cases b <;> simp [P.not, P.cond, P.app, norm_nil]
      · rw [decide_eq_false a, if_neg a]
        cases D <;> cases S <;> cases M <;> cases p <;> cases q <;> cases b <;> simp [P.not, P.cond, P.app, norm_nil])
  rw [h1, bind_some, either_inl]
  rw [found_fold]
  have hlen : out.length ≤ 10000 := by
    have := nodup_le h2 (m := allA s.2.2 v) fun z hz => ((h3 z).1 hz).all
    have := allA_len (T := s.2.2) (v := v) (k := 40) fun l hl => (hb.2 l hl).2.2
    have := Nat.mul_le_mul_right 40 hb.1
    omega
  have hV : (found s.2.2 n out).1.length ≤ 4000000 := by
    have := flat_len (vv s.2.2 n) 40 out (fun x _ => vv_len hb x)
    have e : (found s.2.2 n out).1 = out.flatMap (vv s.2.2 n) := rfl
    rw [e]; omega
  try dsimp only
  rw [at_norm' _ (by omega), bind_some]
  congr 1
  have := found_ext (T := s.2.2) (n := n) (l := out) (m := reachL s.2.2 n v) fun z => by rw [h3, mem_reachL]
  exact this
theorem ref_dyn10 (l : List At) (h : l.length ≤ 100000) : ref06_IsDyn K l = some (decide (((6 : Int), (0 : Int)) ∈ l)) := by
  unfold ref06_IsDyn
  rw [ref_has l _ (by omega), bind_some]
theorem six_iff {x : At} (h : RightA x) : six x = true ↔ x = (6, 0) := by
  obtain ⟨a, b⟩ := x
  unfold six
  rw [ieq_iff]
  unfold RightA at h
  simp only at h
  constructor
  · intro e; simp only at e; subst e; rw [show b = 0 by omega]
  · intro e; exact congrArg Prod.fst e
theorem ref_find (s : Sta) (v : List At) (n : ByteArray) (hs : SmallT s) (hv : v.length ≤ 1000) : ref10_Find K (s, v, n) = some (findL s.2.2 n v) := by
  have hb := small_bdL hs
  have hF := small_fewT hs
  unfold ref10_Find
  try dsimp only
  rw [ref_reach s v n hs hv, bind_some]
  have hlen : (reachL s.2.2 n v).length ≤ 10000 := by
    have := reachL_len (T := s.2.2) (n := n) (v := v) (k := 40) fun l hl => (hb.2 l hl).2.2
    have := Nat.mul_le_mul_right 40 hb.1
    omega
  rw [ref_dyn10 _ (by omega), bind_some]
  have hcan := canon_reachL s.2.2 n v
  have hsix : decide (((6 : Int), (0 : Int)) ∈ reachL s.2.2 n v) = (reachL s.2.2 n v).any six := by
    rw [Bool.eq_iff_iff, decide_eq_true_eq, List.any_eq_true]
    exact ⟨fun h => ⟨_, h, (six_iff (hcan.2 _ h)).2 rfl⟩, fun ⟨x, h1, h2⟩ => by rw [← (six_iff (hcan.2 _ h1)).1 h2]; exact h1⟩
  rw [hsix]
  unfold findL
  generalize reachL s.2.2 n v = l at hlen hcan ⊢
  have hcat : ∀ j, (norm ((l.take j).flatMap (vv s.2.2 n))).length ≤ j * 40 := fun j => by
    have h1 := norm_length ((l.take j).flatMap (vv s.2.2 n))
    have h2 := flat_len (vv s.2.2 n) 40 (l.take j) (fun x _ => vv_len hb x)
    rw [List.length_take] at h2
    have h3 := Nat.mul_le_mul_right 40 (Nat.min_le_left j l.length)
    omega
  generalize hf : (fun (y : Int × List (Int × Int) × Bool × Bool × Bool) => _ : Int × List (Int × Int) × Bool × Bool × Bool → Option ((Int × List (Int × Int) × Bool × Bool × Bool) ⊕ ((List (Int × Int) × Bool × Bool × Bool) ⊕ (List (Int × Int) × Bool × Bool × Bool)))) = f
  have := loop_fold (ρ := Fnd) (σ := Fnd) l.length (fun j => (norm ((l.take j).flatMap (vv s.2.2 n)), l.any six, (l.take j).all plB, (l.take j).any (hp s.2.2 n))) (f := f) (A := fun z => some z) (B := fun r => some r) (by omega) (fun j hj => ?_) ?_
  · rw [List.take_length] at this
    exact this
  · rw [← hf]
    try dsimp only
    have hB := loc_len hb l[j]
    have hRj := hcan.2 _ (List.getElem_mem hj)
    have hnext : l.take (j + 1) = l.take j ++ [l[j]] := by rw [List.take_add_one, List.getElem?_eq_getElem hj]; rfl
    rw [ilt_len hj, cond_true, inb_len hj, cond_true, get_lt l hj, ref_place, bind_some, cond_true, ref_loc s _ (by have := hb.1; omega), bind_some, ref_get _ _ (by have := hB.1; omega), bind_some, wrap_succ (by omega), hnext]
    have hnn : ∀ a b : List At, norm (norm a ++ b) = norm (a ++ b) := fun a b => canon_ext (norm_canon _) (norm_canon _) fun z => by
      simp only [mem_norm, List.mem_append]
      exact ⟨fun ⟨h, r⟩ => ⟨h.imp (fun q => q.1) id, r⟩, fun ⟨h, r⟩ => ⟨h.imp (fun q => ⟨q, r⟩) id, r⟩⟩
    have hc1 := hcat j
    have hva := bd_va hB n
    have hu := ref_union (norm ((l.take j).flatMap (vv s.2.2 n))) (va (locR s.2.2 l[j]).1.1 n) (by omega)
    rw [hnn] at hu
    have e2 : (getR (locR s.2.2 l[j]).1.1 n).2 = pr (locR s.2.2 l[j]).1.1 n := rfl
    have e4 : (getR (locR s.2.2 l[j]).1.1 n).1.2.2 = va (locR s.2.2 l[j]).1.1 n := rfl
    rw [e2, e4, hu, bind_some]
    rw [List.flatMap_append, List.all_append, List.any_append]
    simp only [List.flatMap_cons, List.flatMap_nil, List.append_nil, List.all_cons, List.all_nil, List.any_cons, List.any_nil, Bool.and_true, Bool.or_false]
    have ev : vv s.2.2 n l[j] = if hp s.2.2 n l[j] = true then va (locR s.2.2 l[j]).1.1 n else [] := rfl
    rw [ev]
    unfold hp plB
    by_cases a : PlaceA l[j]
    · rw [decide_eq_true a, show P.not true = false from rfl, cond_false]
      cases pr (locR s.2.2 l[j]).1.1 n
      · simp [P.cond]
      · simp [P.cond]
    · rw [decide_eq_false a, show P.not false = true from rfl, cond_true]
      simp
  · rw [← hf]
    try dsimp only
    rw [ilt_end, cond_false]
end Go.PL
end
section
/- Law 10: the statements. -/
open Go Go.PG Go.PL
set_option linter.all false
namespace Go.PL
/-! ### the fixed calls -/
def twoS (b : Bool) : Sta := (false, [], [((4, 0), [], [(5, 1)]), ((5, 1), [(⟨#[112]⟩, b, [(2, 0)])], [(0, 0)])])
theorem two_eq (b : Bool) : law10_two K b = some (twoS b) := rfl
theorem two_small (b : Bool) : SmallT (twoS b) := by cases b <;> decide
theorem find_eq {s : Sta} {v : List At} {n : ByteArray} (hs : SmallT s) (hv : v.length ≤ 1000) : lookup_Find K (s, v, n) = ref10_Find K (s, v, n) := by rw [at_find s v n hs hv, ref_find s v n hs hv]
theorem reach_eq {s : Sta} {v : List At} {n : ByteArray} (hs : SmallT s) (hv : v.length ≤ 1000) : lookup_Reach K (s, v, n) = ref10_Reach K (s, v, n) := by rw [at_reach s v n hs (by omega), ref_reach s v n hs hv]
theorem fx1 : ref10_Find K (twoS true, [(4, 0)], ⟨#[112]⟩) = some ([(2, 0)], false, true, true) := by decide +kernel
theorem fx2 : ref10_Find K (twoS false, [(4, 0)], ⟨#[112]⟩) = some ([(2, 0)], false, false, true) := by decide +kernel
theorem fx3 : ref10_Find K (twoS true, [(6, 0)], ⟨#[112]⟩) = some ([], true, false, false) := by decide +kernel
theorem fx4 : ref10_Reach K (twoS true, [(4, 0)], ⟨#[112]⟩) = some [(4, 0), (5, 1)] := by decide +kernel
theorem fx5 : ref10_Reach K (twoS false, [(4, 0)], ⟨#[112]⟩) = some [(0, 0), (4, 0), (5, 1)] := by decide +kernel
theorem fx6 : ref06_Text K [(4, 0), (5, 1)] = some ⟨#[114, 101, 99, 48, 32, 115, 117, 109, 49]⟩ := by decide +kernel
theorem fx7 : ref06_Text K [(0, 0), (4, 0), (5, 1)] = some ⟨#[110, 117, 108, 108, 32, 114, 101, 99, 48, 32, 115, 117, 109, 49]⟩ := by decide +kernel
theorem dyn_eq (k : Nat) : ref06_Dyn k () = some [(6, 0)] := rfl
theorem num_eq (k : Nat) : ref06_Num k () = some [(2, 0)] := rfl
theorem fixed10 : law10_fixed K () = some true := by
  unfold law10_fixed
  rw [two_eq, bind_some, find_eq (two_small true) (by decide), fx1, bind_some, two_eq, bind_some, find_eq (two_small false) (by decide), fx2, bind_some, bind_some, dyn_eq, bind_some, find_eq (two_small true) (by decide), fx3, bind_some, num_eq, bind_some,
    ref_same _ _ (by decide), bind_some, bind_some, reach_eq (two_small true) (by decide), fx4, bind_some, fx6, bind_some, bind_some, reach_eq (two_small false) (by decide), fx5, bind_some, fx7, bind_some]
  decide +kernel
theorem g10 {b : Bool} {F X : Option Bool} (h : b = true → X = some true) (hF : F = some true := by first | rfl | (rw [fixed10]; rfl)) : P.cond (P.not b) F X = some true := by
  cases b
  · rw [show P.not false = true from rfl, cond_true, hF]
  · rw [show P.not true = false from rfl, cond_false]; exact h rfl
theorem g10l {l : List At} {F X : Option Bool} (h : l.length ≤ 40 → X = some true) (hF : F = some true := by first | rfl | (rw [fixed10]; rfl)) : P.cond (P.ilt (40 : Int) (P.len l)) F X = some true := by
  by_cases q : l.length ≤ 40
  · rw [show P.ilt (40 : Int) (P.len l) = false from by rw [Bool.eq_false_iff, Ne, ilt_iff, len_eq]; omega, cond_false]; exact h q
  · rw [show P.ilt (40 : Int) (P.len l) = true from by rw [ilt_iff, len_eq]; omega, cond_true, hF]
theorem reach_len {s : Sta} (hs : SmallT s) (n : ByteArray) {v : List At} (hv : v.length ≤ 1000) : (reachL s.2.2 n v).length ≤ 2600 := by
  have hb := small_bdL hs
  have h1 := reachL_len (T := s.2.2) (n := n) (v := v) (k := 40) fun l hl => (hb.2 l hl).2.2
  have h2 := Nat.mul_le_mul_right 40 hb.1
  omega
theorem find_len {s : Sta} (hs : SmallT s) (n : ByteArray) {v : List At} (hv : v.length ≤ 1000) : (findL s.2.2 n v).1.length ≤ 104000 := by
  have hb := small_bdL hs
  have h1 := reach_len hs n hv
  have h2 := flat_len (vv s.2.2 n) 40 (reachL s.2.2 n v) (fun x _ => vv_len hb x)
  have h3 := norm_length ((reachL s.2.2 n v).flatMap (vv s.2.2 n))
  have h4 := Nat.mul_le_mul_right 40 h1
  show (norm _).length ≤ _
  omega
theorem var_len {s : Sta} (hs : SmallT s) (n : ByteArray) : (var s.2.1 n).length ≤ 40 := by
  unfold var
  cases g : getV s.2.1 n with
  | none => simp
  | some b => exact hs.2.2.1 b (List.mem_of_find?_eq_some g)
theorem same10 (a b : Fnd) (h : a.1.length ≤ 200000) : ref10_Same K (a, b) = some (decide (a = b)) := by
  obtain ⟨V, D, S, M⟩ := a
  obtain ⟨V', D', S', M'⟩ := b
  have h : V.length ≤ 200000 := h
  unfold ref10_Same
  try dsimp only
  rw [ref_same V V' (by omega), bind_some]
  by_cases hV : V = V'
  · subst hV
    cases D <;> cases D' <;> cases S <;> cases S' <;> cases M <;> cases M' <;> simp [P.beq, P.cond]
  · cases D <;> cases D' <;> cases S <;> cases S' <;> cases M <;> cases M' <;> simp [P.beq, P.cond, hV]
theorem tells10 (x : Sta × List At × ByteArray) : law10_LookupTells K x = some true := by
  obtain ⟨s, v, n⟩ := x
  unfold law10_LookupTells
  try dsimp only
  rw [ref_small8 s, bind_some]
  refine g10 fun hs => ?_
  have hs := of_decide_eq_true hs
  refine g10l fun hv => ?_
  have h1 := reach_len hs n (v := v) (by omega)
  have h2 := find_len hs n (v := v) (by omega)
  rw [fixed10, bind_some, cond_true, at_reach s v n hs (by omega), bind_some, ref_reach s v n hs (by omega), bind_some, ref_same _ _ (by omega), bind_some, decide_eq_true rfl, cond_true, at_find s v n hs (by omega), bind_some, ref_find s v n hs (by omega), bind_some, same10 _ _ (by omega), bind_some, decide_eq_true rfl]
/-! ### what is surely one's own -/
theorem rch_one {T : List Lc} {n : ByteArray} {x : At} (hx : RightA x) (h : nx T n x = []) : reachL T n [x] = [x] := by
  refine canon_ext (canon_reachL _ _ _) (canon_iff.1 (norm_one.2 hx)) fun z => ?_
  rw [mem_reachL, List.mem_singleton]
  constructor
  · intro hz
    induction hz with
    | base h1 _ => exact List.mem_singleton.1 h1
    | step _ h2 _ ih => rw [ih, h] at h2; cases h2
  · rintro rfl; exact .base (by simp) hx
theorem may_loc {s : Sta} (m : MayS s) {x : At} (h : (locR s.2.2 x).2 = true) : PlaceA x ∧ MayO (locR s.2.2 x).1 := by
  unfold locR at h ⊢
  cases g : getL s.2.2 x with
  | none => rw [g] at h; cases h
  | some b =>
    obtain ⟨h1, h2⟩ := getL_mem g
    obtain ⟨h3, h4⟩ := m.2.1.2 b h1
    exact ⟨h2 ▸ h3, h4⟩
theorem own10 (x : Sta × At × ByteArray) : law10_LookupOwn K x = some true := by
  obtain ⟨s, x, n⟩ := x
  unfold law10_LookupOwn
  try dsimp only
  rw [fixed10, bind_some]
  refine g10 fun _ => ?_
  rw [ref_small8 s, bind_some]
  refine g10 fun hs => ?_
  have hs := of_decide_eq_true hs
  have hb := small_bdL hs
  rw [ref_may8 s (small_fewT hs), bind_some]
  refine g10 fun hm => ?_
  have m := of_decide_eq_true hm
  have hB := loc_len hb x
  rw [ref_loc s x (by have := hb.1; omega), bind_some, ref_get _ _ (by have := hB.1; omega), bind_some]
  by_cases b : (locR s.2.2 x).2 = true
  case neg => rw [show (locR s.2.2 x).2 = false from by simpa using b]; rfl
  rw [b, show P.not true = false from rfl, cond_false]
  by_cases p : (getR (locR s.2.2 x).1.1 n).2 = true
  case neg => rw [show (getR (locR s.2.2 x).1.1 n).2 = false from by simpa using p]; rfl
  rw [p, show P.not true = false from rfl, cond_false]
  by_cases q : (getR (locR s.2.2 x).1.1 n).1.2.1 = true
  case neg => rw [show (getR (locR s.2.2 x).1.1 n).1.2.1 = false from by simpa using q]; rfl
  rw [q, show P.not true = false from rfl, cond_false]
  obtain ⟨hP, mo⟩ := may_loc m b
  have hR := place_right hP
  have hnx : nx s.2.2 n x = [] := by
    rw [nx_norm, if_pos hP, if_pos b, if_pos (show su (locR s.2.2 x).1.1 n = true from q)]
  have hone := rch_one hR hnx
  rw [at_find s [x] n hs (by simp), bind_some, at_reach s [x] n hs (by simp), bind_some]
  have hhp : hp s.2.2 n x = true := by unfold Go.PL.hp; rw [decide_eq_true hP]; exact p
  have hf : findL s.2.2 n [x] = (va (locR s.2.2 x).1.1 n, false, true, true) := by
    unfold findL
    rw [hone]
    simp only [List.flatMap_cons, List.flatMap_nil, List.append_nil, List.any_cons, List.any_nil, Bool.or_false, List.all_cons, List.all_nil, Bool.and_true, hhp]
    have h6 : six x = false := by
      rw [Bool.eq_false_iff]
      intro h
      have := (six_iff hR).1 h
      subst this
      exact absurd hP (by decide)
    have hv : vv s.2.2 n x = va (locR s.2.2 x).1.1 n := by unfold vv; rw [if_pos hhp]
    rw [h6, hv, show plB x = true from decide_eq_true hP, ← canon_iff.2 (va_canon mo n)]
  rw [hf, hone]
  try dsimp only
  have hva := bd_va hB n
  rw [cond_true, cond_true, show P.not false = true from rfl, cond_true, ref_same _ _ (by omega), bind_some]
  rw [show decide (va (locR s.2.2 x).1.1 n = (getR (locR s.2.2 x).1.1 n).1.2.2) = true from decide_eq_true rfl, cond_true, ref_same _ _ (by simp), bind_some, decide_eq_true rfl]
/-! ### what is reached is closed -/
theorem closed10 (x : Sta × List At × ByteArray) : law10_LookupClosed K x = some true := by
  obtain ⟨s, v, n⟩ := x
  unfold law10_LookupClosed
  try dsimp only
  rw [fixed10, bind_some]
  refine g10 fun _ => ?_
  rw [ref_small8 s, bind_some]
  refine g10 fun hs => g10l fun hv => ?_
  have hs := of_decide_eq_true hs
  have hb := small_bdL hs
  rw [ref_may8 s (small_fewT hs), bind_some]
  refine g10 fun hm => ?_
  have m := of_decide_eq_true hm
  rw [at_reach s v n hs (by omega), bind_some]
  have hlen := reach_len hs n (v := v) (by omega)
  have hlen2 : (reachL s.2.2 n v).length ≤ 1700 := by
    have h1 := reachL_len (T := s.2.2) (n := n) (v := v) (k := 40) fun l hl => (hb.2 l hl).2.2
    have h2 := Nat.mul_le_mul_right 40 hb.1
    omega
  have hcan := canon_reachL s.2.2 n v
  have hmem : ∀ z, z ∈ reachL s.2.2 n v ↔ Rch s.2.2 n v z := fun z => mem_reachL
  have hself : ∀ z, Rch s.2.2 n (reachL s.2.2 n v) z ↔ z ∈ reachL s.2.2 n v := fun z => by
    constructor
    · intro h
      induction h with
      | base h1 _ => exact h1
      | step _ h2 h3 ih => exact mem_reachL.2 (.step (mem_reachL.1 ih) h2 h3)
    · intro h; exact .base h (hcan.2 z h)
  rw [loop_all (reachL s.2.2 n v).length (fun _ => True) (r := false) (by omega) ?_ ?_]
  · rw [if_pos (fun _ _ => trivial)]
    have hr2 : ∀ T : List Lc, T = s.2.2 → reachL T n (reachL T n v) = reachL T n v := fun T e => by
      subst e
      exact canon_ext (canon_reachL _ _ _) hcan fun z => by rw [mem_reachL]; exact hself z
    have hF := small_fewT hs
    have e1 : lookup_Reach K (s, reachL s.2.2 n v, n) = some (reachL s.2.2 n v) := by rw [at_reach s _ n hs (by omega), hr2 _ rfl]
    rw [e1, bind_some, ref_same _ _ (by omega), bind_some, decide_eq_true rfl, cond_true, ref_norm v (by omega), bind_some]
    have hnl := norm_length v
    rw [ref_within _ _ (by omega) (by omega), bind_some, decide_eq_true (show Within (norm v) (reachL s.2.2 n v) from fun z hz => by obtain ⟨a, b⟩ := mem_norm.1 hz; exact mem_reachL.2 (.base a b)), cond_true, ref_may _ (by omega), bind_some, decide_eq_true (canon_iff.2 hcan)]
  · intro j hj
    try dsimp only
    have hin := List.getElem_mem hj
    rw [ilt_len hj, cond_true, inb_len hj, cond_true, get_lt _ hj]
    have hB := loc_len hb (reachL s.2.2 n v)[j]
    rw [ref_loc s _ (by have := hb.1; omega), bind_some, ref_get _ _ (by have := hB.1; omega), bind_some, if_pos trivial, wrap_succ (by omega)]
    by_cases b : (locR s.2.2 (reachL s.2.2 n v)[j]).2 = true
    · rw [b, cond_true]
      by_cases q : (getR (locR s.2.2 (reachL s.2.2 n v)[j]).1.1 n).1.2.1 = true
      · rw [q, show P.not true = false from rfl, cond_false]
      · rw [show (getR (locR s.2.2 (reachL s.2.2 n v)[j]).1.1 n).1.2.1 = false from by simpa using q, show P.not false = true from rfl, cond_true, ref_within _ _ (by have := hB.2.2; omega) (by omega), bind_some]
        obtain ⟨hp, mo⟩ := may_loc m b
        rw [decide_eq_true (show Within (locR s.2.2 (reachL s.2.2 n v)[j]).1.2 (reachL s.2.2 n v) from fun z hz => ?_)]
        · rfl
        · refine mem_reachL.2 (.step (mem_reachL.1 hin) ?_ ((prot_canon mo).2 z hz))
          rw [nx_norm, if_pos hp, if_pos b, if_neg (show ¬ su (locR s.2.2 (reachL s.2.2 n v)[j]).1.1 n = true from q)]
          exact hz
    · rw [show (locR s.2.2 (reachL s.2.2 n v)[j]).2 = false from by simpa using b, cond_false]
  · try dsimp only
    rw [ilt_end]; rfl
/-! ### anything, nothing -/
theorem any10 (x : Sta × List At × ByteArray) : law10_LookupAny K x = some true := by
  obtain ⟨s, v, n⟩ := x
  unfold law10_LookupAny
  try dsimp only
  rw [fixed10, bind_some]
  refine g10 fun _ => ?_
  rw [ref_small8 s, bind_some]
  refine g10 fun hs => g10l fun hv => ?_
  have hs := of_decide_eq_true hs
  rw [ref_may8 s (small_fewT hs), bind_some]
  refine g10 fun hm => ?_
  rw [ref_may v (by omega), bind_some]
  refine g10 fun hmv => ?_
  have hul := norm_length (v ++ [((6 : Int), (0 : Int))])
  rw [List.length_append] at hul
  have hul : (norm (v ++ [((6 : Int), (0 : Int))])).length ≤ v.length + 1 := hul
  rw [dyn_eq, bind_some, ref_union v _ (by simp only [List.length_cons, List.length_nil]; omega), bind_some, at_find s _ n hs (by omega), bind_some, num_eq, bind_some, at_find s _ n hs (by simp), bind_some, at_find s [] n hs (by simp), bind_some]
  have r6 : RightA ((6 : Int), (0 : Int)) := by unfold RightA; simp
  have r2 : RightA ((2 : Int), (0 : Int)) := by unfold RightA; simp
  have h1 : ((6 : Int), (0 : Int)) ∈ reachL s.2.2 n (norm (v ++ [((6 : Int), (0 : Int))])) := mem_reachL.2 (.base (mem_norm.2 ⟨by simp, r6⟩) r6)
  have a1 : (findL s.2.2 n (norm (v ++ [((6 : Int), (0 : Int))]))).2.1 = true := List.any_eq_true.2 ⟨_, h1, (six_iff r6).2 rfl⟩
  have a2 : (findL s.2.2 n (norm (v ++ [((6 : Int), (0 : Int))]))).2.2.1 = false := by
    rw [Bool.eq_false_iff]
    intro h
    have := List.all_eq_true.1 h _ h1
    exact absurd (of_decide_eq_true this) (by decide)
  have hnot : ¬ PlaceA ((2 : Int), (0 : Int)) := by decide
  have hone : reachL s.2.2 n [((2 : Int), (0 : Int))] = [((2 : Int), (0 : Int))] := rch_one r2 (by rw [nx_norm, if_neg hnot])
  have hhp : hp s.2.2 n ((2 : Int), (0 : Int)) = false := by unfold hp; rw [decide_eq_false hnot]; rfl
  have b1 : findL s.2.2 n [((2 : Int), (0 : Int))] = ([], false, false, false) := by
    unfold findL
    rw [hone]
    simp only [List.flatMap_cons, List.flatMap_nil, List.append_nil, List.any_cons, List.any_nil, Bool.or_false, List.all_cons, List.all_nil, Bool.and_true, hhp]
    have hv : vv s.2.2 n ((2 : Int), (0 : Int)) = [] := by unfold vv; rw [hhp]; rfl
    rw [hv, show plB ((2 : Int), (0 : Int)) = false from decide_eq_false hnot]
    rfl
  have hnil : reachL s.2.2 n [] = [] := canon_ext (canon_reachL _ _ _) (canon_iff.1 norm_nil.symm) fun z => by
    rw [mem_reachL]
    constructor
    · intro h
      induction h with
      | base h1 _ => exact h1
      | step _ _ _ ih => cases ih
    · intro h; cases h
  have c1 : findL s.2.2 n [] = ([], false, true, false) := by unfold findL; rw [hnil]; rfl
  rw [a1, a2, b1, c1]
  rfl
/-! ### more is known -/
theorem rch_mono {L M : List Lc} {n : ByteArray} {v w : List At} (hl : ∀ x, leO (gl L x) (gl M x)) (hv : ∀ z, z ∈ v → z ∈ w) {z : At} (h : Rch L n v z) : Rch M n w z := by
  induction h with
  | base h1 h2 => exact .base (hv _ h1) h2
  | step _ h2 h3 ih =>
    rename_i x y _
    refine .step ih ?_ h3
    rw [nx_norm] at h2 ⊢
    have hx := hl x
    rw [gl_locR] at h2
    rw [gl_locR]
    cases g : gl L x with
    | none => rw [g] at h2; simp at h2
    | some o =>
      rw [g] at h2
      obtain ⟨o', g', hw⟩ := hx o g
      rw [g']
      obtain ⟨_, _, hpw, hvw⟩ := within_view.1 hw
      by_cases a : PlaceA x
      · simp only [if_pos a, if_true] at h2 ⊢
        by_cases q : su o.1 n = true
        · rw [if_pos q] at h2; cases h2
        · rw [if_neg q] at h2
          have q' : ¬ su o'.1 n = true := fun z => q ((hvw n).2.2 z)
          rw [if_neg q']
          exact hpw y h2
      · simp only [if_neg a] at h2; cases h2
theorem rch_app {T : List Lc} {n : ByteArray} {v w : List At} {z : At} : Rch T n (norm (v ++ w)) z ↔ Rch T n v z ∨ Rch T n w z := by
  constructor
  · intro h
    induction h with
    | base h1 h2 =>
      rcases List.mem_append.1 (mem_norm.1 h1).1 with q | q
      · exact .inl (.base q h2)
      · exact .inr (.base q h2)
    | step _ h2 h3 ih => exact ih.imp (fun q => .step q h2 h3) (fun q => .step q h2 h3)
  · rintro (h | h)
    · induction h with
      | base h1 h2 => exact .base (mem_norm.2 ⟨List.mem_append_left _ h1, h2⟩) h2
      | step _ h2 h3 ih => exact .step ih h2 h3
    · induction h with
      | base h1 h2 => exact .base (mem_norm.2 ⟨List.mem_append_right _ h1, h2⟩) h2
      | step _ h2 h3 ih => exact .step ih h2 h3
theorem hp_mono {L M : List Lc} {n : ByteArray} (hl : ∀ x, leO (gl L x) (gl M x)) {x : At} (h : hp L n x = true) : hp M n x = true ∧ Within (va (locR L x).1.1 n) (va (locR M x).1.1 n) := by
  unfold hp at h ⊢
  rw [Bool.and_eq_true] at h ⊢
  obtain ⟨h1, h2⟩ := h
  have hx := hl x
  rw [gl_locR] at h2 ⊢
  rw [gl_locR]
  cases g : gl L x with
  | none => rw [g] at h2; cases h2
  | some o =>
    rw [g] at h2
    obtain ⟨o', g', hw⟩ := hx o g
    rw [g']
    obtain ⟨_, _, _, hvw⟩ := within_view.1 hw
    exact ⟨⟨h1, (hvw n).1 h2⟩, (hvw n).2.1⟩
theorem find_vals {T : List Lc} {n : ByteArray} {v : List At} {z : At} : z ∈ (findL T n v).1 ↔ RightA z ∧ ∃ x, Rch T n v x ∧ hp T n x = true ∧ z ∈ va (locR T x).1.1 n := by
  show z ∈ norm _ ↔ _
  rw [mem_norm, List.mem_flatMap]
  constructor
  · rintro ⟨⟨x, h1, h2⟩, h3⟩
    refine ⟨h3, x, mem_reachL.1 h1, ?_⟩
    unfold vv at h2
    split at h2
    · rename_i q; exact ⟨q, h2⟩
    · cases h2
  · rintro ⟨h3, x, h1, h2, h4⟩
    exact ⟨⟨x, mem_reachL.2 h1, by unfold vv; rw [if_pos h2]; exact h4⟩, h3⟩
theorem bool10 : ∀ (aD bD aM bM aS bS dD dM dS : Bool), (aD = true → bD = true) → (aM = true → bM = true) → (bS = true → aS = true) →
    P.cond aD (P.cond (P.not bD) (some false) (P.cond aM (P.cond (P.not bM) (some false) (P.cond bS (P.cond (P.not aS) (some false) (some true)) (some true))) (P.cond bS (P.cond (P.not aS) (some false) (some true)) (some true)))) (P.cond aM (P.cond (P.not bM) (some false) (P.cond bS (P.cond (P.not aS) (some false) (some true)) (some true))) (P.cond bS (P.cond (P.not aS) (some false) (some true)) (some true))) = some true := by
  intro aD bD aM bM aS bS dD dM dS h1 h2 h3
  cases aD <;> cases bD <;> cases aM <;> cases bM <;> cases aS <;> cases bS <;> first | rfl | (exact absurd (h1 rfl) (by decide)) | (exact absurd (h2 rfl) (by decide)) | (exact absurd (h3 rfl) (by decide))
theorem tail10 (bD bM bS dD dM dS : Bool) : P.cond bS (P.cond (P.beq (bS && dS) dS) (P.cond bD (P.cond (P.beq (bD || dD) true) (P.cond bM (some (P.beq (bM || dM) true)) (some (P.beq (bM || dM) dM))) (some false)) (P.cond (P.beq (bD || dD) dD) (P.cond bM (some (P.beq (bM || dM) true)) (some (P.beq (bM || dM) dM))) (some false))) (some false)) (P.cond (P.beq (bS && dS) false) (P.cond bD (P.cond (P.beq (bD || dD) true) (P.cond bM (some (P.beq (bM || dM) true)) (some (P.beq (bM || dM) dM))) (some false)) (P.cond (P.beq (bD || dD) dD) (P.cond bM (some (P.beq (bM || dM) true)) (some (P.beq (bM || dM) dM))) (some false))) (some false)) = some true := by
  cases bD <;> cases bM <;> cases bS <;> cases dD <;> cases dM <;> cases dS <;> rfl
theorem rises10 (x : Sta × Sta × List At × ByteArray) : law10_LookupRises K x = some true := by
  obtain ⟨s, t, v, n⟩ := x
  unfold law10_LookupRises
  try dsimp only
  rw [fixed10, bind_some]
  refine g10 fun _ => ?_
  rw [ref_small8 s, bind_some]
  refine g10 fun hs => ?_
  rw [ref_small8 t, bind_some]
  refine g10 fun ht => g10l fun hv => ?_
  have hs := of_decide_eq_true hs
  have ht := of_decide_eq_true ht
  rw [ref_may v (by omega), bind_some]
  refine g10 fun hmv => ?_
  by_cases hd : s.1 = true
  · rw [hd, cond_true, bind_some]
  rw [show s.1 = false from by simpa using hd, cond_false, ref_within8 s t (small_fewT hs) (small_fewT ht), bind_some]
  refine g10 fun hw => ?_
  have hw := of_decide_eq_true hw
  have ms : MayS s := hw.1
  have mt : MayS t := hw.2.1
  obtain ⟨_, _, hl⟩ := (within_views ms mt hd).1 hw
  have cv := canon_iff.1 (of_decide_eq_true hmv)
  have hreach : ∀ {z}, Rch s.2.2 n v z → Rch t.2.2 n v z := fun h => rch_mono hl (fun _ q => q) h
  have la := find_len hs n (v := v) (by omega)
  have lb := find_len ht n (v := v) (by omega)
  have lra := reach_len hs n (v := v) (by omega)
  have lrb := reach_len ht n (v := v) (by omega)
  have hvar := var_len ht n
  have hul := norm_length (v ++ var t.2.1 n)
  rw [List.length_append] at hul
  rw [at_find s v n hs (by omega), bind_some, at_find t v n ht (by omega), bind_some, at_reach s v n hs (by omega), bind_some, at_reach t v n ht (by omega), bind_some]
  rw [ref_within _ _ (by omega) (by omega), bind_some, decide_eq_true (show Within (reachL s.2.2 n v) (reachL t.2.2 n v) from fun z hz => mem_reachL.2 (hreach (mem_reachL.1 hz))), show P.not true = false from rfl, cond_false]
  rw [ref_within _ _ (by omega) (by omega), bind_some, decide_eq_true (show Within (findL s.2.2 n v).1 (findL t.2.2 n v).1 from fun z hz => by
    obtain ⟨h1, x, h2, h3, h4⟩ := find_vals.1 hz
    obtain ⟨h5, h6⟩ := hp_mono hl h3
    exact find_vals.2 ⟨h1, x, hreach h2, h5, h6 z h4⟩), show P.not true = false from rfl, cond_false]
  simp only [ref_var t n (by have := ht.1; omega), bind_some, ref_union v (var t.2.1 n) (by omega), at_find t (norm (v ++ var t.2.1 n)) n ht (by omega), at_find t (var t.2.1 n) n ht (by omega)]
  have ld := find_len ht n (v := var t.2.1 n) (by omega)
  have lc := find_len ht n (v := norm (v ++ var t.2.1 n)) (by omega)
  have hmo : ∀ z, z ∈ reachL t.2.2 n (norm (v ++ var t.2.1 n)) ↔ z ∈ reachL t.2.2 n v ∨ z ∈ reachL t.2.2 n (var t.2.1 n) := fun z => by rw [mem_reachL, mem_reachL, mem_reachL, rch_app]
  have cV : (findL t.2.2 n (norm (v ++ var t.2.1 n))).1 = norm ((findL t.2.2 n v).1 ++ (findL t.2.2 n (var t.2.1 n)).1) := canon_ext (norm_canon _) (norm_canon _) fun z => by
    rw [mem_norm, List.mem_append, find_vals, find_vals, find_vals]
    constructor
    · rintro ⟨h1, x, h2, h3⟩
      exact ⟨(rch_app.1 h2).imp (fun q => ⟨h1, x, q, h3⟩) fun q => ⟨h1, x, q, h3⟩, h1⟩
    · rintro ⟨⟨h1, x, h2, h3⟩ | ⟨h1, x, h2, h3⟩, _⟩
      · exact ⟨h1, x, rch_app.2 (.inl h2), h3⟩
      · exact ⟨h1, x, rch_app.2 (.inr h2), h3⟩
  have any_or : ∀ p : At → Bool, (reachL t.2.2 n (norm (v ++ var t.2.1 n))).any p = ((reachL t.2.2 n v).any p || (reachL t.2.2 n (var t.2.1 n)).any p) := fun p => by
    rw [Bool.eq_iff_iff, Bool.or_eq_true, List.any_eq_true, List.any_eq_true, List.any_eq_true]
    constructor
    · rintro ⟨x, h1, h2⟩
      exact ((hmo x).1 h1).imp (fun q => ⟨x, q, h2⟩) fun q => ⟨x, q, h2⟩
    · rintro (⟨x, h1, h2⟩ | ⟨x, h1, h2⟩)
      · exact ⟨x, (hmo x).2 (.inl h1), h2⟩
      · exact ⟨x, (hmo x).2 (.inr h1), h2⟩
  have cD : (findL t.2.2 n (norm (v ++ var t.2.1 n))).2.1 = ((findL t.2.2 n v).2.1 || (findL t.2.2 n (var t.2.1 n)).2.1) := any_or six
  have cM : (findL t.2.2 n (norm (v ++ var t.2.1 n))).2.2.2 = ((findL t.2.2 n v).2.2.2 || (findL t.2.2 n (var t.2.1 n)).2.2.2) := any_or (hp t.2.2 n)
  have cS : (findL t.2.2 n (norm (v ++ var t.2.1 n))).2.2.1 = ((findL t.2.2 n v).2.2.1 && (findL t.2.2 n (var t.2.1 n)).2.2.1) := by
    show (reachL t.2.2 n (norm (v ++ var t.2.1 n))).all plB = ((reachL t.2.2 n v).all plB && (reachL t.2.2 n (var t.2.1 n)).all plB)
    rw [Bool.eq_iff_iff, Bool.and_eq_true, List.all_eq_true, List.all_eq_true, List.all_eq_true]
    exact ⟨fun q => ⟨fun x hx => q x ((hmo x).2 (.inl hx)), fun x hx => q x ((hmo x).2 (.inr hx))⟩, fun q x hx => ((hmo x).1 hx).elim (q.1 x) (q.2 x)⟩
  have hD : (findL s.2.2 n v).2.1 = true → (findL t.2.2 n v).2.1 = true := fun h => by
    obtain ⟨x, h1, h2⟩ := List.any_eq_true.1 h
    exact List.any_eq_true.2 ⟨x, mem_reachL.2 (hreach (mem_reachL.1 h1)), h2⟩
  have hM : (findL s.2.2 n v).2.2.2 = true → (findL t.2.2 n v).2.2.2 = true := fun h => by
    obtain ⟨x, h1, h2⟩ := List.any_eq_true.1 h
    exact List.any_eq_true.2 ⟨x, mem_reachL.2 (hreach (mem_reachL.1 h1)), (hp_mono hl h2).1⟩
  have hS : (findL t.2.2 n v).2.2.1 = true → (findL s.2.2 n v).2.2.1 = true := fun h =>
    List.all_eq_true.2 fun x hx => List.all_eq_true.1 h x (mem_reachL.2 (hreach (mem_reachL.1 hx)))
  have hsum := norm_length ((findL t.2.2 n v).1 ++ (findL t.2.2 n (var t.2.1 n)).1)
  rw [List.length_append] at hsum
  simp only [ref_union (findL t.2.2 n v).1 (findL t.2.2 n (var t.2.1 n)).1 (by omega), bind_some, cV, ref_same (norm ((findL t.2.2 n v).1 ++ (findL t.2.2 n (var t.2.1 n)).1)) _ (by omega), decide_eq_true, cond_true, cD, cM, cS, tail10]
  exact bool10 _ _ _ _ _ _ true true true hD hM hS
end Go.PL
end

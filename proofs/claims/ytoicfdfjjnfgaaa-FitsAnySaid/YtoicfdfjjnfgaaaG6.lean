/- Lemmas for the claim. -/
import Derived.Test.YtoicfdfjjnfgaaaG1
import Derived.Lib.Bytealg
import Derived.Laws.Strings
import Derived.Test.YtoicfdfjjnfgaaaG5
import Derived.Test.YtoicfdfjjnfgaaaG4
set_option linter.all false
section
namespace Go.PL
open Go.PG
theorem cond_eq {α : Type} (b : Bool) (x y : α) : P.cond b x y = if b = true then x else y := by cases b <;> rfl
theorem cond_true {α : Type} (x y : α) : P.cond true x y = x := rfl
theorem cond_false {α : Type} (x y : α) : P.cond false x y = y := rfl
theorem bind_some {α β : Type} (a : α) (f : α → Option β) : P.bind (some a) f = f a := rfl
theorem either_inl {α β γ : Type} (f : α → γ) (g : β → γ) (a : α) : P.either f g (.inl a) = f a := rfl
theorem either_inr {α β γ : Type} (f : α → γ) (g : β → γ) (b : β) : P.either f g (.inr b) = g b := rfl
section
variable {τ ρ : Type} {f : τ → Option (τ ⊕ ρ)}
theorem iter_succ (k : Nat) (x : τ) : P.iter (k + 1) f x = match f x with
    | none => none
    | some (.inl y) => P.iter k f y
    | some (.inr r) => some r := rfl
theorem iter_step {k : Nat} {x y : τ} (hk : 0 < k) (h : f x = some (.inl y)) : P.iter k f x = P.iter (k - 1) f y := by
  obtain ⟨k, rfl⟩ : ∃ m, k = m + 1 := ⟨k - 1, by omega⟩
  rw [iter_succ, h]; rfl
theorem iter_done {k : Nat} {x : τ} {r : ρ} (hk : 0 < k) (h : f x = some (.inr r)) : P.iter k f x = some r := by
  obtain ⟨k, rfl⟩ : ∃ m, k = m + 1 := ⟨k - 1, by omega⟩
  rw [iter_succ, h]
theorem iter_run (s : Nat → τ) (r : ρ) : ∀ (n i k : Nat), n < k → (∀ j, j < n → f (s (i + j)) = some (.inl (s (i + j + 1)))) → f (s (i + n)) = some (.inr r) → P.iter k f (s i) = some r := by
  intro n
  induction n with
  | zero => intro i k hk _ he; exact iter_done (by omega) (by simpa using he)
  | succ n ih =>
    intro i k hk hs he
    rw [iter_step (x := s i) (y := s (i + 1)) (by omega) (by simpa using hs 0 (by omega))]
    refine ih (i + 1) (k - 1) (by omega) (fun j hj => ?_) (by rw [show i + 1 + n = i + (n + 1) by omega]; exact he)
    have := hs (j + 1) (by omega)
    rw [show i + 1 + j = i + (j + 1) by omega]
    exact this
theorem iter_find {f : Int → Option (Int ⊕ ρ)} {n : Nat} {e : ρ} (g : Nat → Option ρ) (hs : ∀ i : Nat, i < n → f (i : Int) = some (match g i with
    | none => .inl ((i + 1 : Nat) : Int)
    | some r => .inr r)) (he : f (n : Int) = some (.inr e)) : ∀ (d i k : Nat), i + d = n → d < k → P.iter k f (i : Int) = some (((List.range' i d).findSome? g).getD e) := by
  intro d
  induction d with
  | zero =>
    intro i k hi hk
    obtain rfl : i = n := by omega
    exact iter_done (by omega) he
  | succ d ih =>
    intro i k hi hk
    have h := hs i (by omega)
    rw [List.range'_succ, List.findSome?_cons]
    cases q : g i with
    | none =>
      rw [q] at h
      simp only at h ⊢
      rw [iter_step (by omega) h]
      exact ih (i + 1) (k - 1) (by omega) (by omega)
    | some r =>
      rw [q] at h
      simp only at h
      rw [iter_done (by omega) h]
      rfl
theorem iter_find0 {f : Int → Option (Int ⊕ ρ)} {n : Nat} {e : ρ} (g : Nat → Option ρ) (k : Nat) (hs : ∀ i : Nat, i < n → f (i : Int) = some (match g i with
    | none => .inl ((i + 1 : Nat) : Int)
    | some r => .inr r)) (he : f (n : Int) = some (.inr e)) (hk : n < k) : P.iter k f 0 = some (((List.range n).findSome? g).getD e) := by
  have := iter_find g hs he n 0 k (by omega) hk
  rw [List.range_eq_range']
  exact this
theorem iter_all {f : Int → Option (Int ⊕ ρ)} {n : Nat} {e r : ρ} (p : Nat → Prop) [DecidablePred p] (k : Nat) (hs : ∀ i : Nat, i < n → f (i : Int) = some (if p i then .inl ((i + 1 : Nat) : Int) else .inr r)) (he : f (n : Int) = some (.inr e)) (hk : n < k) :
    P.iter k f 0 = some (if ∀ i, i < n → p i then e else r) := by
  rw [iter_find0 (n := n) (e := e) (fun i => if p i then none else some r) k (fun i hi => by rw [hs i hi]; by_cases h : p i <;> simp [h]) he hk]
  by_cases h : ∀ i, i < n → p i
  · rw [if_pos h]
    have : (List.range n).findSome? (fun i => if p i then none else some r) = none := by
      rw [List.findSome?_eq_none_iff]
      intro i hi
      simp [h i (List.mem_range.1 hi)]
    rw [this]; rfl
  · rw [if_neg h]
    have hh : ∃ i, i < n ∧ ¬ p i := by
      apply Classical.byContradiction
      intro q
      exact h fun i hi => Classical.byContradiction fun z => q ⟨i, hi, z⟩
    obtain ⟨i, hi, hp⟩ := hh
    have : ∃ y, (List.range n).findSome? (fun i => if p i then none else some r) = some y := by
      rw [← Option.isSome_iff_exists, List.findSome?_isSome_iff]
      exact ⟨i, List.mem_range.2 hi, by simp [hp]⟩
    obtain ⟨y, hy⟩ := this
    rw [hy]
    obtain ⟨j, _, hj⟩ := List.exists_of_findSome?_eq_some hy
    by_cases q : p j
    · simp [q] at hj
    · simp [q] at hj; simp [hj]
end
theorem ieq_iff {x y : Int} : P.ieq x y = true ↔ x = y := by simp [P.ieq]
theorem ieq_eq (x y : Int) : P.ieq x y = decide (x = y) := by rw [Bool.eq_iff_iff]; simp [P.ieq]
theorem ilt_iff {x y : Int} : P.ilt x y = true ↔ x < y := by simp [P.ilt]
theorem ile_iff {x y : Int} : P.ile x y = true ↔ x ≤ y := by simp [P.ile]
theorem inb_iff {i n : Int} : P.inb i n = true ↔ 0 ≤ i ∧ i < n := by simp [P.inb]
theorem wrap_i64 {x : Int} (h0 : -9223372036854775808 ≤ x) (h1 : x < 9223372036854775808) : P.wrap .i64 x = x := by
  show IntKind.i64.wrap x = x
  simp only [IntKind.wrap, IntKind.bits, IntKind.signed]
  simp
  omega
theorem wrap_nat {n : Nat} (h : n < 9223372036854775808) : P.wrap .i64 (n : Int) = n := wrap_i64 (by omega) (by omega)
theorem wrap_succ {n : Nat} (h : n + 1 < 9223372036854775808) : P.wrap .i64 (P.add (n : Int) 1) = ((n + 1 : Nat) : Int) := by
  rw [wrap_i64 (by simp [P.add]; omega) (by simp [P.add]; omega)]; simp [P.add]
theorem wrap_pred {n : Nat} (h0 : 0 < n) (h : n < 9223372036854775808) : P.wrap .i64 (P.sub (n : Int) 1) = ((n - 1 : Nat) : Int) := by
  rw [wrap_i64 (by simp [P.sub]; omega) (by simp [P.sub]; omega)]; simp [P.sub]; omega
theorem and_iff {a b : Bool} : P.and a b = true ↔ a = true ∧ b = true := by simp [P.and]
theorem beq_iff {a b : Bool} : P.beq a b = true ↔ a = b := by simp [P.beq]
theorem cut_iff {l u n : Int} : P.cut l u n = true ↔ 0 ≤ l ∧ l ≤ u ∧ u ≤ n := by simp [P.cut, and_assoc]
theorem room_iff {n : Int} {b : Nat} : P.room n b = true ↔ n.toNat * b ≤ 140737488355328 := by simp [P.room]
theorem room_nat {a b n : Nat} : P.room (P.add (a : Int) (b : Int)) n = true ↔ (a + b) * n ≤ 140737488355328 := by
  rw [room_iff]
  have : (P.add (a : Int) (b : Int)).toNat = a + b := by simp [P.add]; omega
  rw [this]
theorem get_nat {α : Type} (l : List α) (i : Nat) (d : α) : P.get l (i : Int) d = l.getD i d := by simp [P.get]
theorem len_eq {α : Type} (l : List α) : P.len l = (l.length : Int) := rfl
def ltS (a b : ByteArray) : Prop := a.data.toList < b.data.toList
instance (a b : ByteArray) : Decidable (ltS a b) := inferInstanceAs (Decidable (a.data.toList < b.data.toList))
theorem ba_ext {a b : ByteArray} (h : a.data.toList = b.data.toList) : a = b := by
  cases a; cases b; simp at h; simp [h]
theorem bytesLess_eq : ∀ (x y : List UInt8), Op.bytesLess x y = decide (x < y)
  | [], [] => by simp [Op.bytesLess]
  | _ :: _, [] => by simp [Op.bytesLess]
  | [], _ :: _ => by simp [Op.bytesLess]
  | a :: x, b :: y => by
    rw [Op.bytesLess, bytesLess_eq x y]
    simp only [List.cons_lt_cons_iff]
    by_cases h1 : a < b <;> by_cases h2 : a = b <;> by_cases h3 : x < y <;> simp [h1, h2, h3]
theorem slt_iff {a b : ByteArray} : P.slt a b = true ↔ ltS a b := by
  unfold P.slt ltS
  rw [bytesLess_eq, ByteArray.toList_eq, ByteArray.toList_eq]
  simp
theorem seq_iff {a b : ByteArray} : P.seq a b = true ↔ a = b := by
  unfold P.seq
  simp only [beq_iff_eq]
  exact ⟨ba_ext, fun h => by rw [h]⟩
theorem ltS_irrefl (a : ByteArray) : ¬ ltS a a := List.lt_irrefl _
theorem ltS_trans {a b c : ByteArray} (h1 : ltS a b) (h2 : ltS b c) : ltS a c := List.lt_trans h1 h2
end Go.PL
end
section
open Go Go.PG Go.PL
set_option linter.unusedVariables false
namespace Go.PL
noncomputable def compactT (k : Nat) (ys : List (Int × Int)) : Option (List (Int × Int)) := P.cond (P.ilt (P.len ys) ((2 : Int))) (some ys) (P.bind (P.iter k (fun (y : Int × List (Int × Int)) => P.cond (P.ilt y.fst (P.len y.snd)) (P.cond (P.inb y.fst (P.len y.snd)) (P.cond (P.inb (P.wrap IntKind.i64 (P.sub y.fst ((1 : Int)))) (P.len y.snd)) (P.cond (P.and (P.ieq (P.get y.snd y.fst ((0 : Int), (0 : Int))).fst (P.get y.snd (P.wrap IntKind.i64 (P.sub y.fst ((1 : Int)))) ((0 : Int), (0 : Int))).fst) (P.ieq (P.get y.snd y.fst ((0 : Int), (0 : Int))).snd (P.get y.snd (P.wrap IntKind.i64 (P.sub y.fst ((1 : Int)))) ((0 : Int), (0 : Int))).snd)) (P.cond (P.cut y.fst (P.len y.snd) (P.len y.snd)) (P.bind (P.iter k (fun (y_1 : Int × Int × List (Int × Int)) => P.cond (P.ilt y_1.snd.fst (P.sub (P.len y.snd) y.fst)) (P.cond (P.inb y_1.snd.fst (P.sub (P.len y.snd) y.fst)) (P.cond (P.inb (P.wrap IntKind.i64 (P.sub y_1.snd.fst ((1 : Int)))) (P.sub (P.len y.snd) y.fst)) (P.cond (P.not (P.and (P.ieq (P.get y_1.snd.snd (P.add y.fst y_1.snd.fst) ((0 : Int), (0 : Int))).fst (P.get y_1.snd.snd (P.add y.fst (P.wrap IntKind.i64 (P.sub y_1.snd.fst ((1 : Int))))) ((0 : Int), (0 : Int))).fst) (P.ieq (P.get y_1.snd.snd (P.add y.fst y_1.snd.fst) ((0 : Int), (0 : Int))).snd (P.get y_1.snd.snd (P.add y.fst (P.wrap IntKind.i64 (P.sub y_1.snd.fst ((1 : Int))))) ((0 : Int), (0 : Int))).snd))) (P.cond (P.inb y_1.snd.fst (P.sub (P.len y.snd) y.fst)) (P.cond (P.inb y_1.fst (P.len y_1.snd.snd)) (some (Sum.inl (P.wrap IntKind.i64 (P.add y_1.fst ((1 : Int))), P.wrap IntKind.i64 (P.add y_1.snd.fst ((1 : Int))), P.set y_1.snd.snd y_1.fst (P.get y_1.snd.snd (P.add y.fst y_1.snd.fst) ((0 : Int), (0 : Int)))))) none) none) (some (Sum.inl (y_1.fst, P.wrap IntKind.i64 (P.add y_1.snd.fst ((1 : Int))), y_1.snd.snd)))) none) none) (some (Sum.inr (Sum.inl (y_1.fst, y_1.snd.snd))))) (y.fst, (1 : Int), y.snd)) (P.either (fun (z : Int × List (Int × Int)) => P.cond (P.cut z.fst (P.len z.snd) (P.len z.snd)) (P.cond (P.cut ((0 : Int)) z.fst (P.len (P.fill z.snd z.fst (P.sub (P.len z.snd) z.fst) ((0 : Int), (0 : Int))))) (some (Sum.inr (Sum.inr (P.sub_ (P.fill z.snd z.fst (P.sub (P.len z.snd) z.fst) ((0 : Int), (0 : Int))) ((0 : Int)) z.fst)))) none) none) fun (r : Int × List (Int × Int) ⊕ List (Int × Int) ⊕ List (Int × Int)) => some r)) none) (some (Sum.inl (P.wrap IntKind.i64 (P.add y.fst ((1 : Int))), y.snd)))) none) none) (some (Sum.inr (Sum.inl y.snd)))) ((1 : Int), ys)) (P.either (fun (z : List (Int × Int)) => some z) fun (r : List (Int × Int)) => some r))
noncomputable def shiftT (k : Nat) (s : Int) (x : List (Int × Int)) : Option (List (Int × Int)) := (P.bind (P.iter k (fun (y : Int × Int × List (Int × Int)) => P.cond (P.ilt y.snd.fst (P.len y.snd.snd)) (P.cond (P.inb y.snd.fst (P.len y.snd.snd)) (P.bind (atoms_Norm_1 k (P.get y.snd.snd y.snd.fst ((0 : Int), (0 : Int)))) fun (r : Bool) => P.cond (P.not r) (P.cond (P.inb y.fst (P.len y.snd.snd)) (some (Sum.inl (P.wrap IntKind.i64 (P.add y.fst ((1 : Int))), P.wrap IntKind.i64 (P.add y.snd.fst ((1 : Int))), P.set y.snd.snd y.fst (P.get y.snd.snd y.snd.fst ((0 : Int), (0 : Int)))))) none) (some (Sum.inl (y.fst, P.wrap IntKind.i64 (P.add y.snd.fst ((1 : Int))), y.snd.snd)))) none) (some (Sum.inr (Sum.inl (y.fst, y.snd.snd))))) (s, P.wrap IntKind.i64 (P.add s ((1 : Int))), P.app [] x)) (P.either (fun (z : Int × List (Int × Int)) => P.cond (P.cut z.fst (P.len z.snd) (P.len z.snd)) (P.cond (P.cut ((0 : Int)) z.fst (P.len (P.fill z.snd z.fst (P.sub (P.len z.snd) z.fst) ((0 : Int), (0 : Int))))) (P.bind (sortF (P.sub_ (P.fill z.snd z.fst (P.sub (P.len z.snd) z.fst) ((0 : Int), (0 : Int))) ((0 : Int)) z.fst)) fun (ys : List (Int × Int)) => compactT k ys) none) none) fun (r : List (Int × Int)) => some r))
noncomputable def delT (k : Nat) (x : List (Int × Int)) : Option (List (Int × Int)) := (P.bind (P.iter k (fun (y : Int) => P.cond (P.ilt y (P.len (P.app [] x))) (P.cond (P.inb y (P.len (P.app [] x))) (P.bind (atoms_Norm_1 k (P.get (P.app [] x) y ((0 : Int), (0 : Int)))) fun (r : Bool) => P.cond r (P.map (fun (r : List (Int × Int)) => Sum.inr (Sum.inr r)) (P.cond (P.ieq y ((-1 : Int))) (P.bind (sortF (P.app [] x)) fun (ys : List (Int × Int)) => compactT k ys) (shiftT k y x))) (some (Sum.inl (P.wrap IntKind.i64 (P.add y ((1 : Int))))))) none) (some (Sum.inr (Sum.inl PUnit.unit)))) ((0 : Int))) (P.either (fun (z : PUnit) => P.cond (P.ieq ((-1 : Int)) ((-1 : Int))) (P.bind (sortF (P.app [] x)) fun (ys : List (Int × Int)) => compactT k ys) (shiftT k (-1 : Int) x)) fun (r : List (Int × Int)) => some r))
noncomputable def nilT (k : Nat) : Option (List (Int × Int)) := (P.bind (P.iter k (fun (y : Int) => P.cond (P.ilt y ((0 : Int))) none (some (Sum.inr (Sum.inl PUnit.unit)))) ((0 : Int))) (P.either (fun (z : PUnit) => P.cond (P.ieq ((-1 : Int)) ((-1 : Int))) (P.bind (sortF []) fun (x : List (Int × Int)) => P.cond (P.ilt ((0 : Int)) ((2 : Int))) (some []) (P.bind (P.iter k (fun (y : Int × List (Int × Int)) => P.cond (P.ilt y.fst ((0 : Int))) none (some (Sum.inr (Sum.inl [])))) ((1 : Int), [])) (P.either (fun (z : List (Int × Int)) => some []) fun (r : List (Int × Int)) => some r))) (P.bind (P.iter k (fun (y : Int × Int × List (Int × Int)) => P.cond (P.ilt y.snd.fst ((0 : Int))) none (some (Sum.inr (Sum.inl (y.fst, []))))) ((-1 : Int), P.wrap IntKind.i64 (P.add ((-1 : Int)) ((1 : Int))), [])) (P.either (fun (z : Int × List (Int × Int)) => P.cond (P.cut z.fst ((0 : Int)) ((0 : Int))) (P.cond (P.cut ((0 : Int)) z.fst ((0 : Int))) (P.bind (sortF []) fun (x : List (Int × Int)) => P.cond (P.ilt ((0 : Int)) ((2 : Int))) (some []) (P.bind (P.iter k (fun (y : Int × List (Int × Int)) => P.cond (P.ilt y.fst ((0 : Int))) none (some (Sum.inr (Sum.inl [])))) ((1 : Int), [])) (P.either (fun (z : List (Int × Int)) => some []) fun (r : List (Int × Int)) => some r))) none) none) fun (r : List (Int × Int)) => some r))) fun (r : List (Int × Int)) => some r))
theorem norm_form (k : Nat) (x : List (Int × Int)) : atoms_Norm k x = P.cond (P.ilt ((0 : Int)) (P.len x)) (P.cond (P.not true) (nilT k) (P.cond (P.room (P.add (P.len (P.nil (Int × Int))) (P.len x)) 16) (delT k x) none)) (P.amb (nilT k) (P.cond (P.room (P.add (P.len (P.nil (Int × Int))) (P.len x)) 16) (delT k x) none)) := rfl
end Go.PL
end
section
open Go Go.PG Go.PL
set_option linter.unusedVariables false
namespace Go.PL
abbrev At := Int × Int
abbrev dA : At := (0, 0)
def ltA (a b : At) : Prop := a.1 < b.1 ∨ (a.1 = b.1 ∧ a.2 < b.2)
instance (a b : At) : Decidable (ltA a b) := by unfold ltA; exact inferInstance
def RightA (a : At) : Prop := (3 ≤ a.1 ∧ a.1 ≤ 5 ∧ 0 ≤ a.2) ∨ ((a.1 = 0 ∨ a.1 = 1 ∨ a.1 = 2 ∨ a.1 = 6) ∧ a.2 = 0)
instance (a : At) : Decidable (RightA a) := by unfold RightA; exact inferInstance
theorem ltA_irrefl (a : At) : ¬ ltA a a := by unfold ltA; omega
theorem ltA_trans {a b c : At} (h1 : ltA a b) (h2 : ltA b c) : ltA a c := by unfold ltA at *; omega
theorem ltA_tri (a b : At) : ltA a b ∨ a = b ∨ ltA b a := by
  obtain ⟨a1, a2⟩ := a; obtain ⟨b1, b2⟩ := b
  simp only [ltA, Prod.mk.injEq]; omega
theorem ltA_asymm {a b : At} (h1 : ltA a b) : ¬ ltA b a := fun h2 => ltA_irrefl _ (ltA_trans h1 h2)
abbrev Rises (l : List At) : Prop := l.Pairwise ltA
theorem rises_ext : ∀ {l m : List At}, Rises l → Rises m → (∀ z, z ∈ l ↔ z ∈ m) → l = m := by
  intro l
  induction l with
  | nil =>
    intro m _ _ h
    cases m with
    | nil => rfl
    | cons b m => exact absurd ((h b).2 (by simp)) (by simp)
  | cons a l ih =>
    intro m hl hm h
    cases m with
    | nil => exact absurd ((h a).1 (by simp)) (by simp)
    | cons b m =>
      obtain ⟨h1, h2⟩ := List.pairwise_cons.1 hl
      obtain ⟨h3, h4⟩ := List.pairwise_cons.1 hm
      have hab : a = b := by
        rcases List.mem_cons.1 ((h a).1 (by simp)) with q | q
        · exact q
        · rcases List.mem_cons.1 ((h b).2 (by simp)) with q' | q'
          · exact q'.symm
          · exact absurd (ltA_trans (h3 a q) (h1 b q')) (ltA_irrefl _)
      subst hab
      congr 1
      refine ih h2 h4 fun z => ⟨fun hz => ?_, fun hz => ?_⟩
      · rcases List.mem_cons.1 ((h z).1 (List.mem_cons_of_mem _ hz)) with q | q
        · subst q; exact absurd (h1 z hz) (ltA_irrefl _)
        · exact q
      · rcases List.mem_cons.1 ((h z).2 (List.mem_cons_of_mem _ hz)) with q | q
        · subst q; exact absurd (h3 z hz) (ltA_irrefl _)
        · exact q
def insA (x : At) : List At → List At
  | [] => [x]
  | y :: l => if ltA x y then x :: y :: l else y :: insA x l
theorem mem_insA {x z : At} : ∀ {l : List At}, z ∈ insA x l ↔ z = x ∨ z ∈ l := by
  intro l
  induction l with
  | nil => simp [insA]
  | cons y l ih =>
    simp only [insA]
    split
    · simp
    · simp only [List.mem_cons, ih]
      constructor
      · rintro (h | h | h) <;> simp [h]
      · rintro (h | h | h) <;> simp [h]
theorem rises_insA {x : At} : ∀ {l : List At}, Rises l → x ∉ l → Rises (insA x l) := by
  intro l
  induction l with
  | nil => intro _ _; simp [insA, Rises]
  | cons y l ih =>
    intro h hx
    obtain ⟨h1, h2⟩ := List.pairwise_cons.1 h
    simp only [insA]
    split
    · rename_i q
      refine List.pairwise_cons.2 ⟨fun z hz => ?_, h⟩
      rcases List.mem_cons.1 hz with rfl | hz
      · exact q
      · exact ltA_trans q (h1 z hz)
    · rename_i q
      refine List.pairwise_cons.2 ⟨fun z hz => ?_, ih h2 fun z => hx (List.mem_cons_of_mem _ z)⟩
      rcases mem_insA.1 hz with rfl | hz
      · rcases ltA_tri z y with z' | z' | z'
        · exact absurd z' q
        · subst z'; exact absurd (by simp) hx
        · exact z'
      · exact h1 z hz
def addA (l : List At) (x : At) : List At := if RightA x ∧ x ∉ l then insA x l else l
def norm (l : List At) : List At := l.foldl addA []
theorem mem_addA {l : List At} {x z : At} : z ∈ addA l x ↔ z ∈ l ∨ (z = x ∧ RightA x) := by
  unfold addA
  split
  · rename_i h
    rw [mem_insA]
    constructor
    · rintro (q | q)
      · exact .inr ⟨q, h.1⟩
      · exact .inl q
    · rintro (q | q)
      · exact .inr q
      · exact .inl q.1
  · rename_i h
    constructor
    · exact .inl
    · rintro (q | ⟨rfl, q⟩)
      · exact q
      · apply Classical.byContradiction
        intro z'
        exact h ⟨q, z'⟩
theorem rises_addA {l : List At} {x : At} (h : Rises l) : Rises (addA l x) := by
  unfold addA
  split
  · rename_i q; exact rises_insA h q.2
  · exact h
theorem fold_spec : ∀ (l acc : List At), Rises acc → Rises (l.foldl addA acc) ∧ ∀ z, z ∈ l.foldl addA acc ↔ z ∈ acc ∨ (z ∈ l ∧ RightA z) := by
  intro l
  induction l with
  | nil => intro acc h; exact ⟨h, fun z => by simp⟩
  | cons x l ih =>
    intro acc h
    obtain ⟨h1, h2⟩ := ih (addA acc x) (rises_addA h)
    refine ⟨h1, fun z => ?_⟩
    rw [List.foldl_cons, h2, mem_addA, List.mem_cons]
    constructor
    · rintro ((q | ⟨rfl, q⟩) | q)
      · exact .inl q
      · exact .inr ⟨.inl rfl, q⟩
      · exact .inr ⟨.inr q.1, q.2⟩
    · rintro (q | ⟨rfl | q, q'⟩)
      · exact .inl (.inl q)
      · exact .inl (.inr ⟨rfl, q'⟩)
      · exact .inr ⟨q, q'⟩
theorem norm_rises (l : List At) : Rises (norm l) := (fold_spec l [] List.Pairwise.nil).1
theorem mem_norm {l : List At} {z : At} : z ∈ norm l ↔ z ∈ l ∧ RightA z := by
  unfold norm
  rw [(fold_spec l [] List.Pairwise.nil).2]
  simp
def Canon (l : List At) : Prop := Rises l ∧ ∀ z, z ∈ l → RightA z
theorem norm_canon (l : List At) : Canon (norm l) := ⟨norm_rises l, fun z h => (mem_norm.1 h).2⟩
theorem norm_eq {l m : List At} (h : Canon m) (hm : ∀ z, RightA z → (z ∈ m ↔ z ∈ l)) : norm l = m :=
  rises_ext (norm_rises l) h.1 fun z => by
    rw [mem_norm]
    exact ⟨fun q => (hm z q.2).2 q.1, fun q => ⟨(hm z (h.2 z q)).1 q, h.2 z q⟩⟩
theorem canon_iff {l : List At} : l = norm l ↔ Canon l := ⟨fun h => by rw [h]; exact norm_canon l, fun h => (norm_eq h fun _ _ => Iff.rfl).symm⟩
theorem norm_nil : norm [] = [] := rfl
def K : Nat := 18446744073709551616
def leB (a b : At) : Bool := decide (a.1 < b.1 ∨ (a.1 = b.1 ∧ a.2 ≤ b.2))
theorem leB_iff {a b : At} : leB a b = true ↔ ¬ ltA b a := by
  unfold leB ltA; rw [decide_eq_true_eq]; omega
theorem sortF_spec (l : List At) (hlen : l.length < 4611686018427387904) : ∃ s, sortF l = some s ∧ s.length = l.length ∧ (∀ z, z ∈ s ↔ z ∈ l) ∧ s.Pairwise (fun a b => ¬ ltA b a) := by
  refine ⟨l.mergeSort leB, by unfold sortF SortH.sortF; rw [if_pos hlen]; rfl, by simp, fun z => List.mem_mergeSort, ?_⟩
  have h := List.pairwise_mergeSort (le := leB) (fun a b c h1 h2 => by
    rw [leB_iff] at *
    intro h3
    rcases ltA_tri a b with q | q | q
    · exact h2 (ltA_trans h3 q)
    · subst q; exact h2 h3
    · exact h1 q) (fun a b => by
    rw [Bool.or_eq_true, leB_iff, leB_iff]
    by_cases q : ltA b a
    · exact .inr (ltA_asymm q)
    · exact .inl q) l
  exact h.imp fun q => leB_iff.1 q
end Go.PL
end
section
open Go Go.PG Go.PL
set_option linter.unusedVariables false
namespace Go.PL
theorem at_right (k : Nat) (a : At) : atoms_right k a = some (decide (RightA a)) := by
  obtain ⟨a, b⟩ := a
  unfold atoms_right
  dsimp only
  simp only [cond_eq, ieq_iff]
  repeat' split
  all_goals
    rw [Option.some.injEq, Bool.eq_iff_iff, decide_eq_true_eq]
    simp only [RightA, ieq_iff, ile_iff, Bool.false_eq_true, false_iff]
    omega
theorem at_bad (k : Nat) (a : At) : atoms_Norm_1 k a = some (!decide (RightA a)) := by
  unfold atoms_Norm_1
  rw [at_right, bind_some]
  rfl
theorem getD_set_ne {l : List At} {i j : Nat} (h : i ≠ j) (x : At) : (l.set i x).getD j dA = l.getD j dA := by
  simp [List.getD_eq_getElem?_getD, List.getElem?_set_ne h]
theorem take_set_succ {l : List At} {i : Nat} (h : i < l.length) (x : At) : (l.set i x).take (i + 1) = l.take i ++ [x] := by
  rw [List.take_add_one, List.take_set_of_le (Nat.le_refl i)]
  simp [h]
theorem drop_getD {l : List At} {j : Nat} (h : j < l.length) : l.drop j = l.getD j dA :: l.drop (j + 1) := by
  rw [List.drop_eq_getElem_cons h]
  simp [List.getD_eq_getElem?_getD, h]
theorem take_getD {l : List At} {j : Nat} (h : j < l.length) : l.take (j + 1) = l.take j ++ [l.getD j dA] := by
  rw [List.take_add_one, List.getElem?_eq_getElem h]
  simp [List.getD_eq_getElem?_getD, h]
theorem iter_keep {ρ : Type} {f : Int × Int × List At → Option ((Int × Int × List At) ⊕ ((Int × List At) ⊕ ρ))} (p : At → Bool) (n : Nat) (x : List At) (hn : x.length = n)
    (hs : ∀ (i j : Nat) (xs : List At), i ≤ j → j < n → xs.length = n → xs.getD j dA = x.getD j dA → f ((i : Int), (j : Int), xs) = some (.inl (if p (x.getD j dA) = true then (((i + 1 : Nat) : Int), ((j + 1 : Nat) : Int), xs.set i (x.getD j dA)) else ((i : Int), ((j + 1 : Nat) : Int), xs))))
    (he : ∀ (i : Nat) (xs : List At), i ≤ n → xs.length = n → f ((i : Int), (n : Int), xs) = some (.inr (.inl ((i : Int), xs)))) :
    ∀ (d i j k : Nat) (xs : List At), j + d = n → d < k → i ≤ j → xs.length = n → (∀ m, j ≤ m → xs.getD m dA = x.getD m dA) →
      ∃ (i' : Nat) (xs' : List At), P.iter k f ((i : Int), (j : Int), xs) = some (.inl ((i' : Int), xs')) ∧ i' ≤ n ∧ xs'.length = n ∧ xs'.take i' = xs.take i ++ (x.drop j).filter p := by
  intro d
  induction d with
  | zero =>
    intro i j k xs hj hk hij hl hm
    obtain rfl : j = n := by omega
    refine ⟨i, xs, iter_done (by omega) (he i xs (by omega) hl), by omega, hl, ?_⟩
    rw [List.drop_eq_nil_of_le (by omega)]
    simp
  | succ d ih =>
    intro i j k xs hj hk hij hl hm
    have hstep := hs i j xs hij (by omega) hl (hm j (Nat.le_refl _))
    rw [drop_getD (l := x) (j := j) (by omega)]
    by_cases hp : p (x.getD j dA) = true
    · rw [if_pos hp] at hstep
      obtain ⟨i', xs', h1, h2, h3, h4⟩ := ih (i + 1) (j + 1) (k - 1) (xs.set i (x.getD j dA)) (by omega) (by omega) (by omega) (by simpa using hl) (fun m hm' => by rw [getD_set_ne (by omega)]; exact hm m (by omega))
      refine ⟨i', xs', by rw [iter_step (by omega) hstep]; exact h1, h2, h3, ?_⟩
      rw [h4, take_set_succ (by omega), List.filter_cons_of_pos hp]
      simp
    · rw [if_neg hp] at hstep
      obtain ⟨i', xs', h1, h2, h3, h4⟩ := ih i (j + 1) (k - 1) xs (by omega) (by omega) (by omega) hl (fun m hm' => hm m (by omega))
      refine ⟨i', xs', by rw [iter_step (by omega) hstep]; exact h1, h2, h3, ?_⟩
      rw [h4, List.filter_cons_of_neg hp]
theorem sub_fill {l : List At} {i : Nat} (h : i ≤ l.length) (m : Int) (z : At) : P.sub_ (P.fill l (i : Int) m z) 0 (i : Int) = l.take i := by
  simp only [P.sub_, P.fill, Int.toNat_natCast, Int.toNat_zero, List.drop_zero]
  rw [List.append_assoc, List.take_append_of_le_length (by rw [List.length_take]; omega), List.take_take]
  simp
theorem len_fill {l : List At} {i : Nat} (h : i ≤ l.length) (z : At) : P.len (P.fill l (i : Int) (P.sub (P.len l) (i : Int)) z) = (l.length : Int) := by
  simp only [P.len, P.fill, P.sub, Int.toNat_natCast]
  have : ((l.length : Int) - (i : Int)).toNat = l.length - i := by omega
  rw [this]
  simp
  omega
noncomputable def rest (l : List At) : Option (List At) := P.bind (sortF l) (compactT K)
def good (a : At) : Bool := decide (RightA a)
theorem nil_spec (hc : ∀ ys : List At, ys = [] → True) : nilT K = some [] := by
  have s0 : sortF [] = some [] := by
    obtain ⟨s, h1, h2, _⟩ := sortF_spec [] (by simp)
    rw [h1]
    rw [List.length_eq_zero_iff.1 h2]
  unfold nilT
  rw [iter_done (r := .inl ()) (by unfold K; omega) (by rfl), bind_some, either_inl]
  simp only [s0, bind_some, cond_eq, ieq_iff, ilt_iff]
  rfl
theorem shift_spec (x : List At) (hx : x.length < 9223372036854775808) (i : Nat) (hi : i < x.length) : shiftT K (i : Int) x = rest (x.take i ++ (x.drop (i + 1)).filter good) := by
  unfold shiftT
  have happ : P.app [] x = x := rfl
  rw [happ, wrap_succ (by omega)]
  have fin : ∀ f : Int × Int × List At → Option ((Int × Int × List At) ⊕ ((Int × List At) ⊕ List At)),
      (∀ (i j : Nat) (xs : List At), i ≤ j → j < x.length → xs.length = x.length → xs.getD j dA = x.getD j dA → f ((i : Int), (j : Int), xs) = some (.inl (if good (x.getD j dA) = true then (((i + 1 : Nat) : Int), ((j + 1 : Nat) : Int), xs.set i (x.getD j dA)) else ((i : Int), ((j + 1 : Nat) : Int), xs)))) →
      (∀ (i : Nat) (xs : List At), i ≤ x.length → xs.length = x.length → f ((i : Int), (x.length : Int), xs) = some (.inr (.inl ((i : Int), xs)))) →
      P.bind (P.iter K f ((i : Int), ((i + 1 : Nat) : Int), x)) (P.either (fun (z : Int × List (Int × Int)) => P.cond (P.cut z.fst (P.len z.snd) (P.len z.snd)) (P.cond (P.cut ((0 : Int)) z.fst (P.len (P.fill z.snd z.fst (P.sub (P.len z.snd) z.fst) ((0 : Int), (0 : Int))))) (P.bind (sortF (P.sub_ (P.fill z.snd z.fst (P.sub (P.len z.snd) z.fst) ((0 : Int), (0 : Int))) ((0 : Int)) z.fst)) fun (ys : List (Int × Int)) => compactT K ys) none) none) fun (r : List (Int × Int)) => some r) = rest (x.take i ++ (x.drop (i + 1)).filter good) := by
    intro f hs he
    obtain ⟨i', xs', h1, h2, h3, h4⟩ := iter_keep good x.length x rfl hs he (x.length - (i + 1)) i (i + 1) K x (by omega) (by unfold K; omega) (by omega) rfl (fun _ _ => rfl)
    rw [h1, bind_some, either_inl]
    simp only [cond_eq, cut_iff, len_eq]
    rw [if_pos ⟨by omega, by omega, by omega⟩]
    have hl := len_fill (l := xs') (i := i') (by omega) ((0 : Int), (0 : Int))
    simp only [len_eq] at hl
    rw [if_pos ⟨by omega, by omega, by rw [hl]; omega⟩, sub_fill (by omega), h4]
    rfl
  refine fin _ (fun i j xs hij hj hl hg => ?_) (fun i xs hi hl => ?_)
  · simp only [cond_eq, ilt_iff, inb_iff, len_eq, get_nat, hl]
    rw [if_pos (by omega), if_pos ⟨by omega, by omega⟩, hg, at_bad, bind_some, wrap_succ (by omega), wrap_succ (by omega)]
    by_cases q : RightA (x.getD j dA)
    · rw [if_pos (show P.not (!decide (RightA (x.getD j dA))) = true by simp only [P.not, decide_eq_true q]; rfl), if_pos ⟨by omega, by omega⟩, if_pos (show good (x.getD j dA) = true from decide_eq_true q)]
      rfl
    · rw [if_neg (show ¬ P.not (!decide (RightA (x.getD j dA))) = true by simp only [P.not, decide_eq_false q]; decide), if_neg (show ¬ good (x.getD j dA) = true by unfold good; rw [decide_eq_false q]; decide)]
  · simp only [cond_eq, ilt_iff, len_eq, hl]
    rw [if_neg (by omega)]
theorem del_spec (x : List At) (hx : x.length < 9223372036854775808) : delT K x = rest (x.filter good) := by
  have happ : P.app [] x = x := rfl
  unfold delT
  rw [happ]
  have key : ∀ (d i k : Nat) (f : Int → Option (Int ⊕ (Unit ⊕ List At))), i + d = x.length → d < k → (∀ a, a ∈ x.take i → good a = true) →
      (∀ j : Nat, j < x.length → f (j : Int) = if good (x.getD j dA) = true then some (.inl ((j + 1 : Nat) : Int)) else P.map (fun r => Sum.inr (Sum.inr r)) (shiftT K (j : Int) x)) → f (x.length : Int) = some (.inr (.inl ())) →
      P.bind (P.iter k f (i : Int)) (P.either (fun (z : Unit) => P.bind (sortF x) fun ys => compactT K ys) fun r => some r) = rest (x.filter good) := by
    intro d
    induction d with
    | zero =>
      intro i k f hi hk hg hs he
      obtain rfl : i = x.length := by omega
      rw [iter_done (by omega) he, bind_some, either_inl]
      rw [List.take_length] at hg
      rw [List.filter_eq_self.2 hg]
      rfl
    | succ d ih =>
      intro i k f hi hk hg hs he
      have h := hs i (by omega)
      by_cases q : good (x.getD i dA) = true
      · rw [if_pos q] at h
        rw [iter_step (by omega) h]
        refine ih (i + 1) (k - 1) f (by omega) (by omega) (fun a ha => ?_) hs he
        rw [take_getD (by omega), List.mem_append, List.mem_singleton] at ha
        rcases ha with ha | ha
        · exact hg a ha
        · rw [ha]; exact q
      · rw [if_neg q, shift_spec x hx i (by omega)] at h
        have e : x.take i ++ (x.drop (i + 1)).filter good = x.filter good := by
          conv => rhs; rw [← List.take_append_drop i x, List.filter_append, List.filter_eq_self.2 hg, drop_getD (l := x) (j := i) (by omega), List.filter_cons_of_neg q]
        rw [e] at h
        cases hr : rest (x.filter good) with
        | none =>
          rw [hr] at h
          obtain ⟨m, rfl⟩ : ∃ m, k = m + 1 := ⟨k - 1, by omega⟩
          rw [iter_succ, h]
          rfl
        | some r =>
          rw [hr] at h
          rw [iter_done (by omega) h, bind_some, either_inr]
  rw [show P.ieq ((-1 : Int)) ((-1 : Int)) = true from by decide]
  simp only [cond_true]
  refine key x.length 0 K _ (by omega) (by unfold K; omega) (by simp) (fun j hj => ?_) ?_
  · simp only [cond_eq, ilt_iff, inb_iff, len_eq, get_nat, ieq_iff]
    rw [if_pos (by omega), if_pos ⟨by omega, by omega⟩, at_bad, bind_some, wrap_succ (by omega), if_neg (show ¬ (j : Int) = -1 by omega)]
    by_cases q : RightA (x.getD j dA)
    · rw [if_neg (by rw [decide_eq_true q]; decide), if_pos (show good (x.getD j dA) = true from decide_eq_true q)]
    · rw [if_pos (by rw [decide_eq_false q]; rfl), if_neg (show ¬ good (x.getD j dA) = true by unfold good; rw [decide_eq_false q]; decide)]
  · simp only [cond_eq, ilt_iff, len_eq]
    rw [if_neg (by omega)]
end Go.PL
end
section
open Go Go.PG Go.PL
set_option linter.unusedVariables false
namespace Go.PL
abbrev Sorted (ys : List At) : Prop := ys.Pairwise fun a b => ¬ ltA b a
theorem sorted_at {ys : List At} (h : Sorted ys) {i j : Nat} (hij : i ≤ j) (hj : j < ys.length) : ¬ ltA (ys.getD j dA) (ys.getD i dA) := by
  rcases Nat.lt_or_eq_of_le hij with q | q
  · have := List.pairwise_iff_getElem.1 h i j (by omega) hj q
    simpa [List.getD_eq_getElem?_getD, hj, show i < ys.length by omega] using this
  · subst q; exact ltA_irrefl _
theorem mem_take_getD {ys : List At} {m : Nat} {z : At} (h : z ∈ ys.take m) : ∃ i, i < m ∧ i < ys.length ∧ z = ys.getD i dA := by
  obtain ⟨i, hi, rfl⟩ := List.getElem_of_mem h
  rw [List.length_take] at hi
  exact ⟨i, by omega, by omega, by rw [List.getElem_take]; simp [List.getD_eq_getElem?_getD, show i < ys.length by omega]⟩
theorem getD_mem_take {ys : List At} {i m : Nat} (h : i < m) (hi : i < ys.length) : ys.getD i dA ∈ ys.take m := by
  have : (ys.take m)[i]? = some (ys.getD i dA) := by rw [List.getElem?_take, if_pos h]; simp [List.getD_eq_getElem?_getD, hi]
  exact List.mem_of_getElem? this
theorem iter_dd {ρ : Type} {f : Int × Int × List At → Option ((Int × Int × List At) ⊕ ((Int × List At) ⊕ ρ))} (ys : List At) (hsrt : Sorted ys) (j0 : Nat) (hj0 : 0 < j0) (hjn : j0 < ys.length)
    (hs : ∀ (i k2 : Nat) (xs : List At), 0 < k2 → i < j0 + k2 → j0 + k2 < ys.length → xs.length = ys.length → xs.getD (j0 + k2) dA = ys.getD (j0 + k2) dA → xs.getD (j0 + (k2 - 1)) dA = ys.getD (j0 + (k2 - 1)) dA →
      f ((i : Int), (k2 : Int), xs) = some (.inl (if ys.getD (j0 + k2) dA = ys.getD (j0 + (k2 - 1)) dA then ((i : Int), ((k2 + 1 : Nat) : Int), xs) else (((i + 1 : Nat) : Int), ((k2 + 1 : Nat) : Int), xs.set i (ys.getD (j0 + k2) dA)))))
    (he : ∀ (i k2 : Nat) (xs : List At), j0 + k2 = ys.length → i ≤ ys.length → xs.length = ys.length → f ((i : Int), (k2 : Int), xs) = some (.inr (.inl ((i : Int), xs)))) :
    ∀ (d i k2 k : Nat) (xs : List At), j0 + k2 + d = ys.length → d < k → 0 < k2 → i < j0 + k2 → xs.length = ys.length → (∀ m, j0 + k2 ≤ m + 1 → xs.getD m dA = ys.getD m dA) → Rises (xs.take i) → (∀ z, z ∈ xs.take i ↔ z ∈ ys.take (j0 + k2)) →
      ∃ (i' : Nat) (xs' : List At), P.iter k f ((i : Int), (k2 : Int), xs) = some (.inl ((i' : Int), xs')) ∧ i' ≤ ys.length ∧ xs'.length = ys.length ∧ Rises (xs'.take i') ∧ ∀ z, z ∈ xs'.take i' ↔ z ∈ ys := by
  intro d
  induction d with
  | zero =>
    intro i k2 k xs hd hk h2 hi hl hm hr hz
    refine ⟨i, xs, iter_done (by omega) (he i k2 xs (by omega) (by omega) hl), by omega, hl, hr, fun z => ?_⟩
    rw [hz, List.take_of_length_le (by omega)]
  | succ d ih =>
    intro i k2 k xs hd hk h2 hi hl hm hr hz
    have hstep := hs i k2 xs h2 hi (by omega) hl (hm _ (by omega)) (hm _ (by omega))
    have hprev : ys.getD (j0 + (k2 - 1)) dA ∈ ys.take (j0 + k2) := getD_mem_take (by omega) (by omega)
    by_cases q : ys.getD (j0 + k2) dA = ys.getD (j0 + (k2 - 1)) dA
    · rw [if_pos q] at hstep
      obtain ⟨i', xs', r1, r2, r3, r4, r5⟩ := ih i (k2 + 1) (k - 1) xs (by omega) (by omega) (by omega) (by omega) hl (fun m hm' => hm m (by omega)) hr (fun z => by
        rw [hz, show j0 + (k2 + 1) = j0 + k2 + 1 by omega, take_getD (by omega), List.mem_append, List.mem_singleton]
        exact ⟨.inl, fun h => h.elim id fun h => by rw [h, q]; exact hprev⟩)
      exact ⟨i', xs', by rw [iter_step (by omega) hstep]; exact r1, r2, r3, r4, r5⟩
    · rw [if_neg q] at hstep
      have htake : (xs.set i (ys.getD (j0 + k2) dA)).take (i + 1) = xs.take i ++ [ys.getD (j0 + k2) dA] := take_set_succ (by omega) _
      obtain ⟨i', xs', r1, r2, r3, r4, r5⟩ := ih (i + 1) (k2 + 1) (k - 1) (xs.set i (ys.getD (j0 + k2) dA)) (by omega) (by omega) (by omega) (by omega) (by simpa using hl) (fun m hm' => by rw [getD_set_ne (by omega)]; exact hm m (by omega)) (by
        rw [htake]
        refine List.pairwise_append.2 ⟨hr, List.pairwise_singleton _ _, fun a ha b hb => ?_⟩
        rw [List.mem_singleton] at hb
        subst hb
        obtain ⟨m, m1, m2, rfl⟩ := mem_take_getD ((hz a).1 ha)
        have s1 := sorted_at hsrt (i := m) (j := j0 + (k2 - 1)) (by omega) (by omega)
        have s2 := sorted_at hsrt (i := j0 + (k2 - 1)) (j := j0 + k2) (by omega) (by omega)
        rcases ltA_tri (ys.getD (j0 + (k2 - 1)) dA) (ys.getD (j0 + k2) dA) with t | t | t
        · rcases ltA_tri (ys.getD m dA) (ys.getD (j0 + (k2 - 1)) dA) with u | u | u
          · exact ltA_trans u t
          · rw [u]; exact t
          · exact absurd u s1
        · exact absurd t.symm q
        · exact absurd t s2) (fun z => by
        rw [htake, show j0 + (k2 + 1) = j0 + k2 + 1 by omega, take_getD (by omega), List.mem_append, List.mem_append, hz])
      exact ⟨i', xs', by rw [iter_step (by omega) hstep]; exact r1, r2, r3, r4, r5⟩
theorem eqA_iff {a b : At} : P.and (P.ieq a.1 b.1) (P.ieq a.2 b.2) = true ↔ a = b := by
  rw [and_iff, ieq_iff, ieq_iff]
  exact ⟨fun h => Prod.ext h.1 h.2, fun h => by rw [h]; exact ⟨rfl, rfl⟩⟩
theorem rises_take {ys : List At} (hs : Sorted ys) {j : Nat} (h : Rises (ys.take j)) (hj : j < ys.length) (h0 : 0 < j) (hne : ys.getD j dA ≠ ys.getD (j - 1) dA) : Rises (ys.take (j + 1)) := by
  rw [take_getD hj]
  refine List.pairwise_append.2 ⟨h, List.pairwise_singleton _ _, fun a ha b hb => ?_⟩
  rw [List.mem_singleton] at hb
  subst hb
  obtain ⟨m, m1, m2, rfl⟩ := mem_take_getD ha
  have s1 := sorted_at hs (i := m) (j := j - 1) (by omega) (by omega)
  have s2 := sorted_at hs (i := j - 1) (j := j) (by omega) (by omega)
  rcases ltA_tri (ys.getD (j - 1) dA) (ys.getD j dA) with t | t | t
  · rcases ltA_tri (ys.getD m dA) (ys.getD (j - 1) dA) with u | u | u
    · exact ltA_trans u t
    · rw [u]; exact t
    · exact absurd u s1
  · exact absurd t.symm hne
  · exact absurd t s2
theorem compact_spec (ys : List At) (hl : ys.length < 9223372036854775808) (hsrt : Sorted ys) : ∃ r, compactT K ys = some r ∧ Rises r ∧ ∀ z, z ∈ r ↔ z ∈ ys := by
  unfold compactT
  by_cases h2 : ys.length < 2
  · refine ⟨ys, ?_, ?_, fun z => Iff.rfl⟩
    · rw [show P.ilt (P.len ys) ((2 : Int)) = true from ilt_iff.2 (by rw [len_eq]; omega)]; rfl
    · match ys, h2 with
      | [], _ => exact List.Pairwise.nil
      | [a], _ => exact List.pairwise_singleton _ _
  rw [show P.ilt (P.len ys) ((2 : Int)) = false from by rw [Bool.eq_false_iff, Ne, ilt_iff, len_eq]; omega]
  rw [cond_false]
  have key : ∀ (d j k : Nat) (f : Int × List At → Option ((Int × List At) ⊕ (List At ⊕ List At))), j + d = ys.length → d < k → 0 < j → Rises (ys.take j) →
      (∀ j : Nat, 0 < j → j < ys.length → ys.getD j dA ≠ ys.getD (j - 1) dA → f ((j : Int), ys) = some (.inl (((j + 1 : Nat) : Int), ys))) →
      (∀ j : Nat, 0 < j → j < ys.length → ys.getD j dA = ys.getD (j - 1) dA → Rises (ys.take j) → ∃ r, f ((j : Int), ys) = some (.inr (.inr r)) ∧ Rises r ∧ ∀ z, z ∈ r ↔ z ∈ ys) →
      f ((ys.length : Int), ys) = some (.inr (.inl ys)) →
      ∃ r, P.bind (P.iter k f ((j : Int), ys)) (P.either (fun (z : List At) => some z) fun r => some r) = some r ∧ Rises r ∧ ∀ z, z ∈ r ↔ z ∈ ys := by
    intro d
    induction d with
    | zero =>
      intro j k f hj hk h0 hr hs1 hs2 he
      obtain rfl : j = ys.length := by omega
      rw [List.take_length] at hr
      exact ⟨ys, by rw [iter_done (by omega) he]; rfl, hr, fun z => Iff.rfl⟩
    | succ d ih =>
      intro j k f hj hk h0 hr hs1 hs2 he
      by_cases q : ys.getD j dA = ys.getD (j - 1) dA
      · obtain ⟨r, r1, r2, r3⟩ := hs2 j h0 (by omega) q hr
        exact ⟨r, by rw [iter_done (by omega) r1]; rfl, r2, r3⟩
      · have h := hs1 j h0 (by omega) q
        obtain ⟨r, r1, r2, r3⟩ := ih (j + 1) (k - 1) f (by omega) (by omega) (by omega) (rises_take hsrt hr (by omega) h0 q) hs1 hs2 he
        exact ⟨r, by rw [iter_step (by omega) h]; exact r1, r2, r3⟩
  refine key (ys.length - 1) 1 K _ (by omega) (by unfold K; omega) (by omega) ?_ (fun j h0 hj hne => ?_) (fun j h0 hj heq hr => ?_) ?_
  · rw [show (1 : Nat) = 0 + 1 from rfl, take_getD (by omega)]; simp
  · simp only [cond_eq, ilt_iff, inb_iff, len_eq]
    rw [if_pos (by omega), if_pos ⟨by omega, by omega⟩, wrap_pred h0 (by omega), if_pos ⟨by omega, by omega⟩]
    simp only [get_nat]
    rw [if_neg (fun q => hne (eqA_iff.1 q)), wrap_succ (by omega)]
  · have inner : ∀ f : Int × Int × List At → Option ((Int × Int × List At) ⊕ ((Int × List At) ⊕ ((Int × List At) ⊕ (List At ⊕ List At)))),
        (∀ (i k2 : Nat) (xs : List At), 0 < k2 → i < j + k2 → j + k2 < ys.length → xs.length = ys.length → xs.getD (j + k2) dA = ys.getD (j + k2) dA → xs.getD (j + (k2 - 1)) dA = ys.getD (j + (k2 - 1)) dA →
          f ((i : Int), (k2 : Int), xs) = some (.inl (if ys.getD (j + k2) dA = ys.getD (j + (k2 - 1)) dA then ((i : Int), ((k2 + 1 : Nat) : Int), xs) else (((i + 1 : Nat) : Int), ((k2 + 1 : Nat) : Int), xs.set i (ys.getD (j + k2) dA))))) →
        (∀ (i k2 : Nat) (xs : List At), j + k2 = ys.length → i ≤ ys.length → xs.length = ys.length → f ((i : Int), (k2 : Int), xs) = some (.inr (.inl ((i : Int), xs)))) →
        ∃ r, P.bind (P.iter K f ((j : Int), (1 : Int), ys)) (P.either (fun (z : Int × List (Int × Int)) => P.cond (P.cut z.fst (P.len z.snd) (P.len z.snd)) (P.cond (P.cut ((0 : Int)) z.fst (P.len (P.fill z.snd z.fst (P.sub (P.len z.snd) z.fst) ((0 : Int), (0 : Int))))) (some (Sum.inr (Sum.inr (P.sub_ (P.fill z.snd z.fst (P.sub (P.len z.snd) z.fst) ((0 : Int), (0 : Int))) ((0 : Int)) z.fst)))) none) none) fun (r : Int × List (Int × Int) ⊕ List (Int × Int) ⊕ List (Int × Int)) => some r) = some (.inr (.inr r)) ∧ Rises r ∧ ∀ z, z ∈ r ↔ z ∈ ys := by
      intro f hs he
      obtain ⟨i', xs', r1, r2, r3, r4, r5⟩ := iter_dd ys hsrt j h0 hj hs he (ys.length - (j + 1)) j 1 K ys (by omega) (by unfold K; omega) (by omega) (by omega) rfl (fun _ _ => rfl) hr (fun z => by
        rw [take_getD (by omega), List.mem_append, List.mem_singleton]
        exact ⟨.inl, fun h => h.elim id fun h => by rw [h, heq]; exact getD_mem_take (by omega) (by omega)⟩)
      refine ⟨xs'.take i', ?_, r4, r5⟩
      rw [show ((1 : Nat) : Int) = (1 : Int) from rfl] at r1
      rw [r1, bind_some, either_inl]
      simp only [cond_eq, cut_iff, len_eq]
      rw [if_pos ⟨by omega, by omega, by omega⟩]
      have hlf := len_fill (l := xs') (i := i') (by omega) ((0 : Int), (0 : Int))
      simp only [len_eq] at hlf
      rw [if_pos ⟨by omega, by omega, by rw [hlf]; omega⟩, sub_fill (by omega)]
    dsimp only
    rw [show P.ilt (j : Int) (P.len ys) = true from ilt_iff.2 (by rw [len_eq]; omega), cond_true, show P.inb (j : Int) (P.len ys) = true from inb_iff.2 (by rw [len_eq]; omega), cond_true, wrap_pred h0 (by omega),
      show P.inb ((j - 1 : Nat) : Int) (P.len ys) = true from inb_iff.2 (by rw [len_eq]; omega), cond_true, get_nat, get_nat, show P.and (P.ieq (ys.getD j dA).1 (ys.getD (j - 1) dA).1) (P.ieq (ys.getD j dA).2 (ys.getD (j - 1) dA).2) = true from eqA_iff.2 heq, cond_true,
      show P.cut (j : Int) (P.len ys) (P.len ys) = true from cut_iff.2 (by rw [len_eq]; omega), cond_true]
    refine inner _ (fun i k2 xs hk0 hi hk hlx hg1 hg2 => ?_) (fun i k2 xs hk hi hlx => ?_)
    · have e1 : P.add (j : Int) (k2 : Int) = ((j + k2 : Nat) : Int) := by simp [P.add]
      have e2 : P.add (j : Int) ((k2 - 1 : Nat) : Int) = ((j + (k2 - 1) : Nat) : Int) := by simp [P.add]
      have e3 : P.sub (P.len ys) (j : Int) = ((ys.length - j : Nat) : Int) := by simp only [P.sub, len_eq]; omega
      dsimp only
      rw [e3, show P.ilt (k2 : Int) ((ys.length - j : Nat) : Int) = true from ilt_iff.2 (by omega), cond_true, show P.inb (k2 : Int) ((ys.length - j : Nat) : Int) = true from inb_iff.2 (by omega), cond_true, wrap_pred hk0 (by omega),
        show P.inb ((k2 - 1 : Nat) : Int) ((ys.length - j : Nat) : Int) = true from inb_iff.2 (by omega), cond_true, e1, e2, get_nat, get_nat, hg1, hg2, wrap_succ (by omega), wrap_succ (by omega)]
      by_cases q : ys.getD (j + k2) dA = ys.getD (j + (k2 - 1)) dA
      · rw [if_pos q, show P.and (P.ieq (ys.getD (j + k2) dA).1 (ys.getD (j + (k2 - 1)) dA).1) (P.ieq (ys.getD (j + k2) dA).2 (ys.getD (j + (k2 - 1)) dA).2) = true from eqA_iff.2 q]
        rfl
      · rw [if_neg q, show P.and (P.ieq (ys.getD (j + k2) dA).1 (ys.getD (j + (k2 - 1)) dA).1) (P.ieq (ys.getD (j + k2) dA).2 (ys.getD (j + (k2 - 1)) dA).2) = false from by rw [Bool.eq_false_iff]; exact fun z => q (eqA_iff.1 z),
          show P.not false = true from rfl, cond_true, show P.inb (i : Int) (P.len xs) = true from inb_iff.2 (by rw [len_eq]; omega), cond_true]
        rfl
    · have e3 : P.sub (P.len ys) (j : Int) = ((ys.length - j : Nat) : Int) := by simp only [P.sub, len_eq]; omega
      dsimp only
      rw [e3, show P.ilt (k2 : Int) ((ys.length - j : Nat) : Int) = false from by rw [Bool.eq_false_iff, Ne, ilt_iff]; omega]
      rfl
  · simp only [cond_eq, ilt_iff, len_eq]
    rw [if_neg (by omega)]
theorem at_norm (x : List At) (hx : x.length < 9223372036854775808) (hr : x.length * 16 ≤ 140737488355328) : atoms_Norm K x = some (norm x) := by
  have hd : delT K x = some (norm x) := by
    rw [del_spec x hx]
    unfold rest
    have hlen := List.length_filter_le good x
    obtain ⟨s, s1, s2, s3, s4⟩ := sortF_spec (x.filter good) (by omega)
    obtain ⟨r, r1, r2, r3⟩ := compact_spec s (by omega) s4
    rw [s1, bind_some, r1]
    congr 1
    refine (norm_eq ⟨r2, fun z hz => ?_⟩ fun z hz => ?_).symm
    · have := (s3 z).1 ((r3 z).1 hz)
      exact of_decide_eq_true (List.mem_filter.1 this).2
    · rw [r3, s3, List.mem_filter]
      exact ⟨fun h => h.1, fun h => ⟨h, decide_eq_true hz⟩⟩
  rw [norm_form]
  have hroom : P.room (P.add (P.len (P.nil (Int × Int))) (P.len x)) 16 = true := by
    rw [show P.len (P.nil (Int × Int)) = ((0 : Nat) : Int) from rfl, len_eq, room_nat]
    omega
  rw [hroom, cond_true, hd]
  by_cases h0 : P.ilt ((0 : Int)) (P.len x) = true
  · rw [h0]; rfl
  · rw [Bool.eq_false_iff.2 h0, cond_false]
    have : x = [] := by
      rw [ilt_iff, len_eq] at h0
      exact List.length_eq_zero_iff.1 (by omega)
    subst this
    rw [nil_spec fun _ _ => trivial, norm_nil]
    simp [P.amb]
end Go.PL
end
section
open Go Go.PG Go.PL
set_option linter.unusedVariables false
namespace Go.PL
theorem nodup_rises {l : List At} (h : Rises l) : l.Nodup := h.imp fun h e => by subst e; exact ltA_irrefl _ h
theorem insA_length (x : At) : ∀ l : List At, (insA x l).length = l.length + 1
  | [] => rfl
  | y :: l => by simp only [insA]; split <;> simp [insA_length x l]
theorem addA_length (l : List At) (x : At) : (addA l x).length ≤ l.length + 1 := by
  unfold addA; split
  · rw [insA_length]; exact Nat.le_refl _
  · omega
theorem fold_length : ∀ (l acc : List At), (l.foldl addA acc).length ≤ acc.length + l.length
  | [], acc => by simp
  | x :: l, acc => by
    have h1 := fold_length l (addA acc x)
    have h2 := addA_length acc x
    simp only [List.foldl_cons, List.length_cons]
    omega
theorem norm_length (l : List At) : (norm l).length ≤ l.length := by
  have := fold_length l []
  simpa [norm] using this
theorem at_norm' (x : List At) (hx : x.length ≤ 8796093022100) : atoms_Norm K x = some (norm x) := at_norm x (by omega) (by omega)
theorem at_clone (k : Nat) (x : List At) (hx : x.length ≤ 8796093022100) : slCloneAtom k x = some x := by
  unfold slCloneAtom
  have hroom : P.room (P.add (P.len (P.nil (Int × Int))) (P.len x)) 16 = true := by
    rw [show P.len (P.nil (Int × Int)) = ((0 : Nat) : Int) from rfl, len_eq, room_nat]
    omega
  try dsimp only
  rw [hroom, cond_true, show P.app [] x = x from rfl]
  by_cases h0 : P.ilt ((0 : Int)) (P.len x) = true
  · rw [h0]; rfl
  · rw [Bool.eq_false_iff.2 h0, cond_false]
    have : x = [] := by
      rw [ilt_iff, len_eq] at h0
      exact List.length_eq_zero_iff.1 (by omega)
    subst this
    simp [P.amb]
theorem eq_iff_getD {a b : List At} (h : a.length = b.length) : (∀ i, i < a.length → a.getD i dA = b.getD i dA) ↔ a = b := by
  constructor
  · intro q
    refine List.ext_getElem h fun i h1 h2 => ?_
    have := q i h1
    simpa [List.getD_eq_getElem?_getD, h1, h2] using this
  · rintro rfl i _; rfl
theorem at_equal (a b : List At) (ha : a.length ≤ 8796093022100) : slEqualAtom K (a, b) = some (decide (a = b)) := by
  unfold slEqualAtom
  try dsimp only
  by_cases hl : a.length = b.length
  · rw [show P.ieq (P.len a) (P.len b) = true from ieq_iff.2 (by simp [len_eq, hl]), show P.not true = false from rfl, cond_false]
    rw [iter_all (n := a.length) (e := .inl ()) (r := .inr false) (fun i => a.getD i dA = b.getD i dA) K ?_ ?_ (by unfold K; omega)]
    · rw [bind_some]
      by_cases h : ∀ i, i < a.length → a.getD i dA = b.getD i dA
      · rw [if_pos h, either_inl, decide_eq_true ((eq_iff_getD hl).1 h)]
      · rw [if_neg h, either_inr, decide_eq_false fun q => h ((eq_iff_getD hl).2 q)]
    · intro i hi
      try dsimp only
      rw [show P.ilt (i : Int) (P.len a) = true from ilt_iff.2 (by rw [len_eq]; omega), cond_true, show P.inb (i : Int) (P.len a) = true from inb_iff.2 (by rw [len_eq]; omega), cond_true, show P.inb (i : Int) (P.len b) = true from inb_iff.2 (by rw [len_eq]; omega), cond_true, get_nat, get_nat, wrap_succ (by omega)]
      by_cases q : a.getD i dA = b.getD i dA
      · rw [show P.and (P.ieq (a.getD i dA).1 (b.getD i dA).1) (P.ieq (a.getD i dA).2 (b.getD i dA).2) = true from eqA_iff.2 q, if_pos q]; rfl
      · rw [show P.and (P.ieq (a.getD i dA).1 (b.getD i dA).1) (P.ieq (a.getD i dA).2 (b.getD i dA).2) = false from by rw [Bool.eq_false_iff]; exact fun z => q (eqA_iff.1 z), if_neg q]; rfl
    · try dsimp only
      rw [show P.ilt (a.length : Int) (P.len a) = false from by rw [Bool.eq_false_iff, Ne, ilt_iff, len_eq]; omega]; rfl
  · rw [show P.ieq (P.len a) (P.len b) = false from by rw [Bool.eq_false_iff, Ne, ieq_iff, len_eq, len_eq]; omega, show P.not false = true from rfl, cond_true, decide_eq_false fun q => hl (by rw [q])]
theorem ref_same (a b : List At) (ha : a.length ≤ 8796093022100) : ref06_Same K (a, b) = some (decide (a = b)) := by
  unfold ref06_Same
  try dsimp only
  by_cases hl : a.length = b.length
  · rw [show P.ieq (P.len a) (P.len b) = true from ieq_iff.2 (by simp [len_eq, hl]), show P.not true = false from rfl, cond_false]
    rw [iter_all (n := a.length) (e := .inl ()) (r := .inr false) (fun i => a.getD i dA = b.getD i dA) K ?_ ?_ (by unfold K; omega)]
    · rw [bind_some]
      by_cases h : ∀ i, i < a.length → a.getD i dA = b.getD i dA
      · rw [if_pos h, either_inl, decide_eq_true ((eq_iff_getD hl).1 h)]
      · rw [if_neg h, either_inr, decide_eq_false fun q => h ((eq_iff_getD hl).2 q)]
    · intro i hi
      try dsimp only
      rw [show P.ilt (i : Int) (P.len a) = true from ilt_iff.2 (by rw [len_eq]; omega), cond_true, show P.inb (i : Int) (P.len a) = true from inb_iff.2 (by rw [len_eq]; omega), cond_true, show P.inb (i : Int) (P.len b) = true from inb_iff.2 (by rw [len_eq]; omega), cond_true, get_nat, get_nat, wrap_succ (by omega)]
      by_cases q : a.getD i dA = b.getD i dA
      · rw [show P.and (P.ieq (a.getD i dA).1 (b.getD i dA).1) (P.ieq (a.getD i dA).2 (b.getD i dA).2) = true from eqA_iff.2 q, if_pos q]; rfl
      · rw [show P.and (P.ieq (a.getD i dA).1 (b.getD i dA).1) (P.ieq (a.getD i dA).2 (b.getD i dA).2) = false from by rw [Bool.eq_false_iff]; exact fun z => q (eqA_iff.1 z), if_neg q]; rfl
    · try dsimp only
      rw [show P.ilt (a.length : Int) (P.len a) = false from by rw [Bool.eq_false_iff, Ne, ilt_iff, len_eq]; omega]; rfl
  · rw [show P.ieq (P.len a) (P.len b) = false from by rw [Bool.eq_false_iff, Ne, ieq_iff, len_eq, len_eq]; omega, show P.not false = true from rfl, cond_true, decide_eq_false fun q => hl (by rw [q])]
theorem mem_iff_getD {l : List At} {x : At} : x ∈ l ↔ ∃ i, i < l.length ∧ l.getD i dA = x := by
  rw [List.mem_iff_getElem]
  constructor
  · rintro ⟨i, h, rfl⟩; exact ⟨i, h, by simp [List.getD_eq_getElem?_getD, h]⟩
  · rintro ⟨i, h, rfl⟩; exact ⟨i, h, by simp [List.getD_eq_getElem?_getD, h]⟩
theorem ref_has (l : List At) (x : At) (hl : l.length ≤ 8796093022100) : ref06_Has K (l, x) = some (decide (x ∈ l)) := by
  unfold ref06_Has
  try dsimp only
  rw [iter_all (n := l.length) (e := .inl ()) (r := .inr true) (fun i => l.getD i dA ≠ x) K ?_ ?_ (by unfold K; omega)]
  · rw [bind_some]
    by_cases h : ∀ i, i < l.length → l.getD i dA ≠ x
    · rw [if_pos h, either_inl, decide_eq_false]
      intro q
      obtain ⟨i, h1, h2⟩ := mem_iff_getD.1 q
      exact h i h1 h2
    · rw [if_neg h, either_inr, decide_eq_true]
      refine mem_iff_getD.2 (Classical.byContradiction fun q => h fun i hi e => q ⟨i, hi, e⟩)
  · intro i hi
    try dsimp only
    rw [show P.ilt (i : Int) (P.len l) = true from ilt_iff.2 (by rw [len_eq]; omega), cond_true, show P.inb (i : Int) (P.len l) = true from inb_iff.2 (by rw [len_eq]; omega), cond_true, get_nat, wrap_succ (by omega)]
    by_cases q : l.getD i dA = x
    · rw [show P.and (P.ieq (l.getD i dA).1 x.1) (P.ieq (l.getD i dA).2 x.2) = true from eqA_iff.2 q, if_neg (fun z => z q)]; rfl
    · rw [show P.and (P.ieq (l.getD i dA).1 x.1) (P.ieq (l.getD i dA).2 x.2) = false from by rw [Bool.eq_false_iff]; exact fun z => q (eqA_iff.1 z), if_pos q]; rfl
  · try dsimp only
    rw [show P.ilt (l.length : Int) (P.len l) = false from by rw [Bool.eq_false_iff, Ne, ilt_iff, len_eq]; omega]; rfl
def Within (a b : List At) : Prop := ∀ z, z ∈ a → z ∈ b
instance (a b : List At) : Decidable (Within a b) := by unfold Within; exact inferInstance
theorem at_may (l : List At) (hl : l.length ≤ 8796093022100) : atoms_May K l = some (decide (l = norm l)) := by
  unfold atoms_May
  rw [at_norm' l hl, bind_some, at_equal l _ hl, bind_some]
end Go.PL
end
section
open Go Go.PG Go.PL
set_option linter.unusedVariables false
namespace Go.PL
theorem ref_right (k : Nat) (a : At) : ref06_Right k a = some (decide (RightA a)) := by
  obtain ⟨a, b⟩ := a
  unfold ref06_Right
  dsimp only
  simp only [cond_eq, ieq_iff, ile_iff]
  repeat' split
  all_goals
    rw [Option.some.injEq, Bool.eq_iff_iff, decide_eq_true_eq]
    simp only [RightA, ieq_iff, ile_iff, Bool.false_eq_true, false_iff]
    omega
theorem ref_less (k : Nat) (a b : At) : ref06_Less k (a, b) = some (decide (ltA a b)) := by
  obtain ⟨a1, a2⟩ := a; obtain ⟨b1, b2⟩ := b
  unfold ref06_Less
  dsimp only
  simp only [cond_eq, ieq_iff, ilt_iff]
  repeat' split
  all_goals
    rw [Option.some.injEq, Bool.eq_iff_iff, decide_eq_true_eq]
    simp only [ltA, ilt_iff, true_iff, Bool.false_eq_true, false_iff]
    omega
theorem room1 (l : List At) (x : At) (h : l.length ≤ 8796093022200) : P.room (P.add (P.len l) (P.len [x])) 16 = true := by
  rw [len_eq, len_eq, room_nat]; simp; omega
def stepA (x : At) (s : List At × Bool) (y : At) : List At × Bool := if s.2 = false ∧ ltA x y then (s.1 ++ [x] ++ [y], true) else (s.1 ++ [y], s.2)
def finA (x : At) (s : List At × Bool) : List At := if s.2 = true then s.1 else s.1 ++ [x]
def layA (x : At) (l : List At) (i : Nat) : List At × Bool := (l.take i).foldl (stepA x) ([], false)
theorem layA_succ {x : At} {l : List At} {i : Nat} (h : i < l.length) : layA x l (i + 1) = stepA x (layA x l i) (l.getD i dA) := by
  unfold layA
  rw [take_getD h, List.foldl_append]
  rfl
theorem lay_len (x : At) (l : List At) : ∀ i, i ≤ l.length → (layA x l i).1.length ≤ i + 1 ∧ ((layA x l i).2 = false → (layA x l i).1.length ≤ i)
  | 0, _ => by simp [layA]
  | i + 1, h => by
    obtain ⟨h1, h2⟩ := lay_len x l i (by omega)
    rw [layA_succ (by omega)]
    unfold stepA
    split
    · rename_i q
      have := h2 q.1
      simp; omega
    · simp
      exact ⟨h1, fun q => h2 q⟩
theorem step_true (x : At) : ∀ (l acc : List At), l.foldl (stepA x) (acc, true) = (acc ++ l, true)
  | [], acc => by simp
  | y :: l, acc => by
    rw [List.foldl_cons, show stepA x (acc, true) y = (acc ++ [y], true) from by simp [stepA], step_true x l]
    simp
theorem step_false (x : At) : ∀ (l acc : List At), finA x (l.foldl (stepA x) (acc, false)) = acc ++ insA x l
  | [], acc => by simp [insA, finA]
  | y :: l, acc => by
    rw [List.foldl_cons]
    unfold insA
    by_cases q : ltA x y
    · rw [show stepA x (acc, false) y = (acc ++ [x] ++ [y], true) from by simp [stepA, q], step_true, if_pos q]; simp [finA]
    · rw [show stepA x (acc, false) y = (acc ++ [y], false) from by simp [stepA, q], step_false x l, if_neg q]; simp
theorem lay_all (x : At) (l : List At) : finA x (layA x l l.length) = insA x l := by
  have := step_false x l []
  unfold layA
  rw [List.take_length]
  simpa using this
theorem ref_add (l : List At) (x : At) (hl : l.length ≤ 8796093022100) : ref06_add K (l, x) = some (addA l x) := by
  unfold ref06_add
  dsimp only
  rw [ref_right, bind_some]
  by_cases h1 : RightA x
  · rw [decide_eq_true h1, show P.not true = false from rfl, cond_false, ref_has l x hl, bind_some]
    by_cases h2 : x ∈ l
    · rw [decide_eq_true h2, cond_true]
      unfold addA
      rw [if_neg (fun q => q.2 h2)]
    · rw [decide_eq_false h2, cond_false]
      unfold addA
      rw [if_pos ⟨h1, h2⟩, ← lay_all]
      have run : ∀ f : List At × Bool × Int → Option ((List At × Bool × Int) ⊕ ((List At × Bool) ⊕ List At)),
          (∀ i, i < l.length → f ((layA x l i).1, (layA x l i).2, (i : Int)) = some (.inl ((layA x l (i + 1)).1, (layA x l (i + 1)).2, ((i + 1 : Nat) : Int)))) →
          f ((layA x l l.length).1, (layA x l l.length).2, (l.length : Int)) = some (.inr (.inl (layA x l l.length))) → P.iter K f ([], false, (0 : Int)) = some (.inl (layA x l l.length)) := by
        intro f hs he
        exact iter_run (fun i => ((layA x l i).1, (layA x l i).2, (i : Int))) _ l.length 0 K (by unfold K; omega) (fun j hj => by simpa using hs j hj) (by simpa using he)
      rw [run _ (fun i hi => ?_) ?_]
      · rw [bind_some, either_inl]
        cases hb : (layA x l l.length).2
        · rw [show P.not false = true from rfl, cond_true, room1 _ _ (by have := (lay_len x l l.length (Nat.le_refl _)).1; omega), cond_true]
          unfold finA
          rw [if_neg (by simp [hb])]; rfl
        · rw [show P.not true = false from rfl, cond_false]
          unfold finA
          rw [if_pos hb]
      · try dsimp only
        rw [show P.ilt (l.length : Int) (P.len l) = false from by rw [Bool.eq_false_iff, Ne, ilt_iff, len_eq]; omega]; rfl
      · try dsimp only
        have hr := (lay_len x l i (by omega)).1
        have r1 : P.room (P.add (P.len (layA x l i).1) (P.len [x])) 16 = true := room1 _ _ (by omega)
        have r2 : P.room (P.add (P.len (layA x l i).1) (P.len [l.getD i dA])) 16 = true := room1 _ _ (by omega)
        have r3 : P.room (P.add (P.len (P.app (layA x l i).1 [x])) (P.len [l.getD i dA])) 16 = true := room1 _ _ (by simp [P.app]; omega)
        simp only [show P.ilt (i : Int) (P.len l) = true from ilt_iff.2 (by rw [len_eq]; omega), show P.inb (i : Int) (P.len l) = true from inb_iff.2 (by rw [len_eq]; omega), cond_true, get_nat, wrap_succ (show i + 1 < 9223372036854775808 by omega), r1, r2, r3]
        rw [ref_less, bind_some, layA_succ hi]
        unfold stepA
        cases hb : (layA x l i).2
        · rw [show P.not false = true from rfl, cond_true]
          by_cases q : ltA x (l.getD i dA)
          · rw [decide_eq_true q, cond_true, if_pos ⟨rfl, q⟩]; rfl
          · rw [decide_eq_false q, cond_false, if_neg (fun z => q z.2)]; rfl
        · rw [show P.not true = false from rfl, cond_false, if_neg (fun z => by cases z.1)]; rfl
  · rw [decide_eq_false h1, show P.not false = true from rfl, cond_true]
    unfold addA
    rw [if_neg (fun q => h1 q.1)]
theorem fold_add (l acc : List At) (h : acc.length + l.length ≤ 8796093022000) :
    P.bind (P.iter K (fun (y : List (Int × Int) × Int) => P.cond (P.ilt y.snd (P.len l)) (P.cond (P.inb y.snd (P.len l)) (P.bind (ref06_add K (y.fst, P.get l y.snd ((0 : Int), (0 : Int)))) fun (r : List (Int × Int)) => some (Sum.inl (r, P.wrap IntKind.i64 (P.add y.snd ((1 : Int)))))) none) (some (Sum.inr (Sum.inl y.fst)))) (acc, (0 : Int))) (P.either (fun (z : List (Int × Int)) => some z) fun (r : List (Int × Int)) => some r) = some (l.foldl addA acc) := by
  have run : ∀ f : List At × Int → Option ((List At × Int) ⊕ (List At ⊕ List At)),
      (∀ i, i < l.length → f ((l.take i).foldl addA acc, (i : Int)) = some (.inl ((l.take (i + 1)).foldl addA acc, ((i + 1 : Nat) : Int)))) →
      f (l.foldl addA acc, (l.length : Int)) = some (.inr (.inl (l.foldl addA acc))) → P.iter K f (acc, (0 : Int)) = some (.inl (l.foldl addA acc)) := by
    intro f hs he
    exact iter_run (fun i => ((l.take i).foldl addA acc, (i : Int))) _ l.length 0 K (by unfold K; omega) (fun j hj => by simpa using hs j hj) (by simpa using he)
  rw [run _ (fun i hi => ?_) ?_]
  · rfl
  · try dsimp only
    rw [show P.ilt (l.length : Int) (P.len l) = false from by rw [Bool.eq_false_iff, Ne, ilt_iff, len_eq]; omega]; rfl
  · try dsimp only
    have hr := fold_length (l.take i) acc
    rw [List.length_take] at hr
    rw [show P.ilt (i : Int) (P.len l) = true from ilt_iff.2 (by rw [len_eq]; omega), cond_true, show P.inb (i : Int) (P.len l) = true from inb_iff.2 (by rw [len_eq]; omega), cond_true, get_nat, wrap_succ (by omega), ref_add _ _ (by omega), bind_some, take_getD hi, List.foldl_append]
    rfl
theorem ref_norm (l : List At) (h : l.length ≤ 8796093022000) : ref06_Norm K l = some (norm l) := fold_add l [] (by simpa using h)
theorem ref_may (l : List At) (h : l.length ≤ 8796093022000) : ref06_May K l = some (decide (l = norm l)) := by
  unfold ref06_May
  rw [ref_norm l h, bind_some, ref_same l _ (by omega), bind_some]
theorem norm_append (a b : List At) : norm (a ++ b) = b.foldl addA (norm a) := by unfold norm; rw [List.foldl_append]
theorem ref_union (a b : List At) (h : a.length + b.length ≤ 8796093022000) : ref06_Union K (a, b) = some (norm (a ++ b)) := by
  unfold ref06_Union
  dsimp only
  rw [ref_norm a (by omega), bind_some, norm_append]
  exact fold_add b (norm a) (by have := norm_length a; omega)
end Go.PL
end
section
open Go Go.PG Go.PL
set_option linter.unusedVariables false
namespace Go.PL
theorem wrap0 : P.wrap IntKind.i64 (P.sub ((0 : Int)) ((0 : Int))) = 0 := by rw [wrap_i64 (by decide) (by decide)]; rfl
theorem wrap_sub0 {n : Nat} (h : n < 9223372036854775808) : P.wrap IntKind.i64 (P.sub (n : Int) (0 : Int)) = (n : Int) := by
  rw [show P.sub (n : Int) (0 : Int) = n from by simp [P.sub], wrap_nat h]
theorem at_concat (a b : List At) (h : a.length + b.length ≤ 8796093022000) : slConcatAtom K [a, b] = some (a ++ b) := by
  have run1 : ∀ f : Int × Int → Option ((Int × Int) ⊕ (Int ⊕ List At)), f (0, 0) = some (.inl ((a.length : Int), 1)) → f ((a.length : Int), 1) = some (.inl (((a.length + b.length : Nat) : Int), 2)) →
      f (((a.length + b.length : Nat) : Int), 2) = some (.inr (.inl ((a.length + b.length : Nat) : Int))) → P.iter K f (0, 0) = some (.inl ((a.length + b.length : Nat) : Int)) := by
    intro f h1 h2 h3
    rw [iter_step (by unfold K; omega) h1, iter_step (by unfold K; omega) h2, iter_done (by unfold K; omega) h3]
  have run2 : ∀ f : List At × Int → Option ((List At × Int) ⊕ (List At ⊕ List At)), f ([], 0) = some (.inl (a, 1)) → f (a, 1) = some (.inl (a ++ b, 2)) →
      f (a ++ b, 2) = some (.inr (.inl (a ++ b))) → P.iter K f ([], 0) = some (.inl (a ++ b)) := by
    intro f h1 h2 h3
    rw [iter_step (by unfold K; omega) h1, iter_step (by unfold K; omega) h2, iter_done (by unfold K; omega) h3]
  have l0 : P.ilt (0 : Int) (P.len [a, b]) = true := rfl
  have l1 : P.ilt (1 : Int) (P.len [a, b]) = true := rfl
  have l2 : P.ilt (2 : Int) (P.len [a, b]) = false := rfl
  have i0 : P.inb (0 : Int) (P.len [a, b]) = true := rfl
  have i1 : P.inb (1 : Int) (P.len [a, b]) = true := rfl
  have g0 : P.get [a, b] (0 : Int) [] = a := rfl
  have g1 : P.get [a, b] (1 : Int) [] = b := rfl
  have w1 : P.wrap IntKind.i64 (P.add (0 : Int) (1 : Int)) = 1 := by rw [wrap_i64 (by decide) (by decide)]; rfl
  have w2 : P.wrap IntKind.i64 (P.add (1 : Int) (1 : Int)) = 2 := by rw [wrap_i64 (by decide) (by decide)]; rfl
  have s1 : P.wrap IntKind.i64 (P.add (0 : Int) (P.len a)) = (a.length : Int) := by rw [show P.add (0 : Int) (P.len a) = ((a.length : Nat) : Int) from by simp [P.add, P.len], wrap_nat (by omega)]
  have s2 : P.wrap IntKind.i64 (P.add (a.length : Int) (P.len b)) = ((a.length + b.length : Nat) : Int) := by rw [show P.add (a.length : Int) (P.len b) = ((a.length + b.length : Nat) : Int) from by simp [P.add, P.len], wrap_nat (by omega)]
  have loop : ∀ E : List At, E = [] → P.bind (P.iter K (fun (y : List (Int × Int) × Int) => P.cond (P.ilt y.snd (P.len [a, b])) (P.cond (P.inb y.snd (P.len [a, b])) (P.cond (P.room (P.add (P.len y.fst) (P.len (P.get [a, b] y.snd []))) 16) (some (Sum.inl (P.app y.fst (P.get [a, b] y.snd []), P.wrap IntKind.i64 (P.add y.snd ((1 : Int)))))) none) none) (some (Sum.inr (Sum.inl y.fst)))) (E, (0 : Int))) (P.either (fun (z : List (Int × Int)) => some z) fun (r : List (Int × Int)) => some r) = some (a ++ b) := by
    rintro E rfl
    rw [run2 _ ?_ ?_ ?_]
    · rfl
    · try dsimp only
      rw [l0, cond_true, i0, cond_true, g0, w1, show P.room (P.add (P.len ([] : List At)) (P.len a)) 16 = true from by rw [len_eq, len_eq, room_nat]; simp; omega]; rfl
    · try dsimp only
      rw [l1, cond_true, i1, cond_true, g1, w2, show P.room (P.add (P.len a) (P.len b)) 16 = true from by rw [len_eq, len_eq, room_nat]; omega]; rfl
    · try dsimp only
      rw [l2]; rfl
  unfold slConcatAtom
  rw [run1 _ ?_ ?_ ?_]
  · rw [bind_some, either_inl, show P.ilt (((a.length + b.length : Nat) : Int)) (0 : Int) = false from by rw [Bool.eq_false_iff, Ne, ilt_iff]; omega, cond_false, wrap0, wrap_sub0 (by omega)]
    by_cases h0 : P.ilt (0 : Int) (((a.length + b.length : Nat) : Int)) = true
    · rw [h0, cond_true, show P.cut (0 : Int) 0 0 = true from by decide, cond_true, cond_true, show P.room (((a.length + b.length : Nat) : Int)) 16 = true from by rw [room_iff]; omega, cond_true, show P.cut (0 : Int) 0 (P.len (P.rep (((a.length + b.length : Nat) : Int)) (((0 : Int), (0 : Int)) : At))) = true from by rw [cut_iff, len_eq]; omega, cond_true]
      exact loop _ (by simp [P.sub_])
    · rw [Bool.eq_false_iff.2 h0, cond_false]
      exact loop _ rfl
  · try dsimp only
    rw [l0, cond_true, i0, cond_true, g0, w1, s1, show P.ilt (a.length : Int) (0 : Int) = false from by rw [Bool.eq_false_iff, Ne, ilt_iff]; omega]; rfl
  · try dsimp only
    rw [l1, cond_true, i1, cond_true, g1, w2, s2, show P.ilt (((a.length + b.length : Nat) : Int)) (0 : Int) = false from by rw [Bool.eq_false_iff, Ne, ilt_iff]; omega]; rfl
  · try dsimp only
    rw [l2]; rfl
def renA (s : Int) (x : At) : At := if x = (4, s) then (5, s) else x
end Go.PL
end
section
open Go Go.PG Go.PL
set_option linter.unusedVariables false
namespace Go.PL
end Go.PL
end
section
open Go Go.PG Go.PL
set_option linter.unusedVariables false
namespace Go.PL
abbrev Fd := ByteArray × Bool × List At
abbrev Sp := List Fd × List At
abbrev dF : Fd := (⟨#[]⟩, false, [])
abbrev RisesF (l : List Fd) : Prop := l.Pairwise fun a b => ltS a.1 b.1
def get (l : List Fd) (n : ByteArray) : Option Fd := l.find? fun f => decide (f.1 = n)
theorem get_mem {l : List Fd} {n : ByteArray} {f : Fd} (h : get l n = some f) : f ∈ l := List.mem_of_find?_eq_some h
theorem get_none {l : List Fd} {n : ByteArray} : get l n = none ↔ ∀ f, f ∈ l → f.1 ≠ n := by
  unfold get
  rw [List.find?_eq_none]
  constructor
  · intro h f hf e
    exact h f hf (decide_eq_true e)
  · intro h f hf e
    exact h f hf (of_decide_eq_true e)
def put (l : List Fd) (f : Fd) : List Fd := match l with
  | [] => [f]
  | g :: r => if ltS f.1 g.1 then f :: g :: r else if f.1 = g.1 then f :: r else g :: put r f
end Go.PL
end
section
open Go Go.PG Go.PL
set_option linter.unusedVariables false
namespace Go.PL
def pos (l : List Fd) (n : ByteArray) : Nat := match l with
  | [] => 0
  | f :: r => if ltS f.1 n then pos r n + 1 else 0
theorem at_pos {n : ByteArray} : ∀ {l : List Fd}, RisesF l → (get l n).isSome = (decide (pos l n < l.length) && decide ((l.getD (pos l n) dF).1 = n)) := by
  intro l
  induction l with
  | nil => intro _; simp [get, pos]
  | cons f r ih =>
    intro h
    obtain ⟨h1, h2⟩ := List.pairwise_cons.1 h
    simp only [pos]
    split
    · rename_i q
      have hne : f.1 ≠ n := fun e => by rw [e] at q; exact ltS_irrefl _ q
      have := ih h2
      simp only [get, List.find?_cons, hne, decide_false, List.getD_cons_succ, List.length_cons] at this ⊢
      rw [this]
      simp
    · rename_i q
      simp only [List.getD_cons_zero, List.length_cons]
      by_cases e : f.1 = n
      · simp [get, e]
      · have : get (f :: r) n = none := get_none.2 fun g hg e' => by
          rcases List.mem_cons.1 hg with rfl | hg
          · exact e e'
          · exact q (by rw [← e']; exact h1 g hg)
        rw [this]
        simp [e]
end Go.PL
end
section
open Go Go.PG Go.PL
set_option linter.unusedVariables false
namespace Go.PL
def FewS (s : Sp) : Prop := s.1.length ≤ 100000 ∧ (∀ f, f ∈ s.1 → f.2.2.length ≤ 100000) ∧ s.2.length ≤ 100000
theorem range_map {α : Type} (l : List α) (d : α) : (List.range l.length).map (fun i => l.getD i d) = l := by
  apply List.ext_getElem
  · simp
  · intro i h1 h2
    simp at h1
    simp [List.getD_eq_getElem?_getD, h1]
theorem find_range {ρ : Type} (l : List Fd) (n : ByteArray) (g : Fd → ρ) : (List.range l.length).findSome? (fun i => if (l.getD i dF).1 = n then some (g (l.getD i dF)) else none) = (get l n).map g := by
  have h : ∀ m : List Fd, m.findSome? (fun f => if f.1 = n then some (g f) else none) = (get m n).map g := by
    intro m
    induction m with
    | nil => rfl
    | cons f m ih =>
      simp only [List.findSome?_cons, get, List.find?_cons]
      by_cases q : f.1 = n
      · simp [q]
      · simp only [q, if_false, decide_false]
        exact ih
  conv => rhs; rw [← h l, ← range_map l dF]
  rw [List.findSome?_map]
  rfl
theorem mem_getD {l : List Fd} {i : Nat} (h : i < l.length) : l.getD i dF ∈ l := by
  rw [List.getD_eq_getElem?_getD, List.getElem?_eq_getElem h]
  exact List.getElem_mem _
def getR (l : List Fd) (n : ByteArray) : Fd × Bool := match get l n with
  | some f => (f, true)
  | none => (dF, false)
theorem getR_eq (l : List Fd) (n : ByteArray) : ((get l n).map fun f => (Sum.inr (f, true) : Unit ⊕ (Fd × Bool))).getD (.inl ()) = match get l n with
    | some f => .inr (f, true)
    | none => .inl () := by cases get l n <;> rfl
theorem ob_get (s : Sp) (n : ByteArray) (h : FewS s) : object_Get K (s, n) = some (getR s.1 n) := by
  unfold object_Get
  try dsimp only
  obtain ⟨h1, h2, h3⟩ := h
  have run : ∀ f : Int → Option (Int ⊕ (Unit ⊕ (Fd × Bool))), (∀ i : Nat, i < s.1.length → f (i : Int) = some (if (s.1.getD i dF).1 = n then .inr (.inr (s.1.getD i dF, true)) else .inl ((i + 1 : Nat) : Int))) → f (s.1.length : Int) = some (.inr (.inl ())) → P.iter K f 0 = some (match get s.1 n with
      | some f => .inr (f, true)
      | none => .inl ()) := by
    intro f hs he
    rw [iter_find0 (n := s.1.length) (e := .inl ()) (fun i => (if (s.1.getD i dF).1 = n then some (Sum.inr (s.1.getD i dF, true)) else none : Option (Unit ⊕ (Fd × Bool)))) K (fun i hi => by rw [hs i hi]; by_cases q : (s.1.getD i dF).1 = n <;> simp only [q, if_true, if_false]) he (by unfold K; omega), find_range s.1 n (fun f => (Sum.inr (f, true) : Unit ⊕ (Fd × Bool))), getR_eq]
  rw [run _ ?_ ?_]
  · rw [bind_some]
    unfold getR
    cases get s.1 n with
    | some f => rfl
    | none => rfl
  · intro i hi
    try dsimp only
    rw [show P.ilt (i : Int) (P.len s.1) = true from ilt_iff.2 (by rw [len_eq]; omega), cond_true, show P.inb (i : Int) (P.len s.1) = true from inb_iff.2 (by rw [len_eq]; omega), cond_true, cond_true, get_nat, wrap_succ (by omega), show P.ilt (i : Int) ((0 : Int)) = false from by rw [Bool.eq_false_iff, Ne, ilt_iff]; omega, cond_false, at_clone K (s.1.getD i dF).2.2 (by have := h2 _ (mem_getD hi); omega), bind_some]
    by_cases q : (s.1.getD i dF).1 = n
    · rw [if_pos q, show P.seq (s.1.getD i dF).1 n = true from seq_iff.2 q]; rfl
    · rw [if_neg q, show P.seq (s.1.getD i dF).1 n = false from by rw [Bool.eq_false_iff]; exact fun z => q (seq_iff.1 z)]; rfl
  · try dsimp only
    rw [show P.ilt (s.1.length : Int) (P.len s.1) = false from by rw [Bool.eq_false_iff, Ne, ilt_iff, len_eq]; omega]; rfl
end Go.PL
end
section
open Go Go.PG Go.PL
set_option linter.unusedVariables false
namespace Go.PL
def MayO (s : Sp) : Prop := RisesF s.1 ∧ (∀ f, f ∈ s.1 → f.2.2 = norm f.2.2) ∧ s.2 = norm s.2
instance (s : Sp) : Decidable (MayO s) := by unfold MayO; exact inferInstance
def StepO (l : List Fd) (i : Nat) : Prop := (l.getD i dF).2.2 = norm (l.getD i dF).2.2 ∧ (0 < i → ltS (l.getD (i - 1) dF).1 (l.getD i dF).1)
instance (l : List Fd) (i : Nat) : Decidable (StepO l i) := by unfold StepO; exact inferInstance
theorem rises_of_steps {l : List Fd} (h : ∀ i, i < l.length → 0 < i → ltS (l.getD (i - 1) dF).1 (l.getD i dF).1) : RisesF l := by
  have key : ∀ d i, i + d + 1 < l.length → ltS (l.getD i dF).1 (l.getD (i + d + 1) dF).1 := by
    intro d
    induction d with
    | zero => intro i hi; have := h (i + 1) (by omega) (by omega); simpa using this
    | succ d ih =>
      intro i hi
      have h1 := ih i (by omega)
      have h2 := h (i + (d + 1) + 1) (by omega) (by omega)
      rw [show i + (d + 1) + 1 - 1 = i + d + 1 by omega] at h2
      exact ltS_trans h1 h2
  refine List.pairwise_iff_getElem.2 fun i j hi hj hij => ?_
  have := key (j - i - 1) i (by omega)
  rw [show i + (j - i - 1) + 1 = j by omega] at this
  simpa [List.getD_eq_getElem?_getD, hi, hj] using this
theorem steps_of_rises {l : List Fd} (h : RisesF l) (i : Nat) (hi : i < l.length) (h0 : 0 < i) : ltS (l.getD (i - 1) dF).1 (l.getD i dF).1 := by
  have := List.pairwise_iff_getElem.1 h (i - 1) i (by omega) hi (by omega)
  simpa [List.getD_eq_getElem?_getD, hi, show i - 1 < l.length by omega] using this
theorem steps_iff {l : List Fd} : (∀ i, i < l.length → StepO l i) ↔ RisesF l ∧ ∀ f, f ∈ l → f.2.2 = norm f.2.2 := by
  constructor
  · intro h
    refine ⟨rises_of_steps fun i hi h0 => (h i hi).2 h0, fun f hf => ?_⟩
    obtain ⟨i, hi, rfl⟩ := List.getElem_of_mem hf
    have := (h i hi).1
    simpa [List.getD_eq_getElem?_getD, hi] using this
  · intro h i hi
    exact ⟨h.2 _ (mem_getD hi), fun h0 => steps_of_rises h.1 i hi h0⟩
theorem ob_may (s : Sp) (h : FewS s) : object_May K s = some (decide (MayO s)) := by
  unfold object_May
  try dsimp only
  obtain ⟨h1, h2, h3⟩ := h
  rw [iter_all (n := s.1.length) (e := .inl ()) (r := .inr false) (fun i => StepO s.1 i) K ?_ ?_ (by unfold K; omega)]
  · rw [bind_some]
    by_cases q : ∀ i, i < s.1.length → StepO s.1 i
    · rw [if_pos q, either_inl, at_may _ (by omega), bind_some]
      congr 1
      rw [Bool.eq_iff_iff, decide_eq_true_eq, decide_eq_true_eq]
      have := steps_iff.1 q
      exact ⟨fun z => ⟨this.1, this.2, z⟩, fun z => z.2.2⟩
    · rw [if_neg q, either_inr, decide_eq_false fun z => q (steps_iff.2 ⟨z.1, z.2.1⟩)]
  · intro i hi
    try dsimp only
    rw [show P.ilt (i : Int) (P.len s.1) = true from ilt_iff.2 (by rw [len_eq]; omega), cond_true, show P.inb (i : Int) (P.len s.1) = true from inb_iff.2 (by rw [len_eq]; omega), cond_true, get_nat, at_may (s.1.getD i dF).2.2 (by have := h2 _ (mem_getD hi); omega), bind_some, wrap_succ (by omega)]
    by_cases q : (s.1.getD i dF).2.2 = norm (s.1.getD i dF).2.2
    · rw [decide_eq_true q, show P.not true = false from rfl, cond_false]
      by_cases h0 : 0 < i
      · rw [show P.ilt ((0 : Int)) (i : Int) = true from ilt_iff.2 (by omega), cond_true, wrap_pred h0 (by omega), show P.inb ((i - 1 : Nat) : Int) (P.len s.1) = true from inb_iff.2 (by rw [len_eq]; omega), cond_true, get_nat]
        by_cases z : ltS (s.1.getD (i - 1) dF).1 (s.1.getD i dF).1
        · rw [show P.slt (s.1.getD (i - 1) dF).1 (s.1.getD i dF).1 = true from slt_iff.2 z, if_pos (show StepO s.1 i from ⟨q, fun _ => z⟩)]; rfl
        · rw [show P.slt (s.1.getD (i - 1) dF).1 (s.1.getD i dF).1 = false from by rw [Bool.eq_false_iff]; exact fun y => z (slt_iff.1 y), if_neg (show ¬ StepO s.1 i from fun y => z (y.2 h0))]; rfl
      · rw [show P.ilt ((0 : Int)) (i : Int) = false from by rw [Bool.eq_false_iff, Ne, ilt_iff]; omega, cond_false, if_pos (show StepO s.1 i from ⟨q, fun z => absurd z h0⟩)]
    · rw [decide_eq_false q, show P.not false = true from rfl, cond_true, if_neg (show ¬ StepO s.1 i from fun z => q z.1)]
  · try dsimp only
    rw [show P.ilt (s.1.length : Int) (P.len s.1) = false from by rw [Bool.eq_false_iff, Ne, ilt_iff, len_eq]; omega]; rfl
theorem ref_may7 (s : Sp) (h : FewS s) : ref07_May K s = some (decide (MayO s)) := by
  unfold ref07_May
  try dsimp only
  obtain ⟨h1, h2, h3⟩ := h
  rw [iter_all (n := s.1.length) (e := .inl ()) (r := .inr false) (fun i => StepO s.1 i) K ?_ ?_ (by unfold K; omega)]
  · rw [bind_some]
    by_cases q : ∀ i, i < s.1.length → StepO s.1 i
    · rw [if_pos q, either_inl, ref_may _ (by omega), bind_some]
      congr 1
      rw [Bool.eq_iff_iff, decide_eq_true_eq, decide_eq_true_eq]
      have := steps_iff.1 q
      exact ⟨fun z => ⟨this.1, this.2, z⟩, fun z => z.2.2⟩
    · rw [if_neg q, either_inr, decide_eq_false fun z => q (steps_iff.2 ⟨z.1, z.2.1⟩)]
  · intro i hi
    try dsimp only
    rw [show P.ilt (i : Int) (P.len s.1) = true from ilt_iff.2 (by rw [len_eq]; omega), cond_true, show P.inb (i : Int) (P.len s.1) = true from inb_iff.2 (by rw [len_eq]; omega), cond_true, get_nat, ref_may (s.1.getD i dF).2.2 (by have := h2 _ (mem_getD hi); omega), bind_some, wrap_succ (by omega)]
    by_cases q : (s.1.getD i dF).2.2 = norm (s.1.getD i dF).2.2
    · rw [decide_eq_true q, show P.not true = false from rfl, cond_false]
      by_cases h0 : 0 < i
      · rw [show P.ilt ((0 : Int)) (i : Int) = true from ilt_iff.2 (by omega), cond_true, wrap_pred h0 (by omega), show P.inb ((i - 1 : Nat) : Int) (P.len s.1) = true from inb_iff.2 (by rw [len_eq]; omega), cond_true, cond_true, get_nat]
        by_cases z : ltS (s.1.getD (i - 1) dF).1 (s.1.getD i dF).1
        · rw [show P.slt (s.1.getD (i - 1) dF).1 (s.1.getD i dF).1 = true from slt_iff.2 z, if_pos (show StepO s.1 i from ⟨q, fun _ => z⟩)]; rfl
        · rw [show P.slt (s.1.getD (i - 1) dF).1 (s.1.getD i dF).1 = false from by rw [Bool.eq_false_iff]; exact fun y => z (slt_iff.1 y), if_neg (show ¬ StepO s.1 i from fun y => z (y.2 h0))]; rfl
      · rw [show P.ilt ((0 : Int)) (i : Int) = false from by rw [Bool.eq_false_iff, Ne, ilt_iff]; omega, cond_false, if_pos (show StepO s.1 i from ⟨q, fun z => absurd z h0⟩)]
    · rw [decide_eq_false q, show P.not false = true from rfl, cond_true, if_neg (show ¬ StepO s.1 i from fun z => q z.1)]
  · try dsimp only
    rw [show P.ilt (s.1.length : Int) (P.len s.1) = false from by rw [Bool.eq_false_iff, Ne, ilt_iff, len_eq]; omega]; rfl
end Go.PL
end
section
open Go Go.PG Go.PL
set_option linter.unusedVariables false
namespace Go.PL
theorem take_getF {l : List Fd} {j : Nat} (h : j < l.length) : l.take (j + 1) = l.take j ++ [l.getD j dF] := by
  rw [List.take_add_one, List.getElem?_eq_getElem h]
  simp [List.getD_eq_getElem?_getD, h]
theorem copy_run {ρ : Type} (l : List Fd) (p : List At) (hl : l.length ≤ 1000000) (f : Int × List Fd × List At → Option ((Int × List Fd × List At) ⊕ ((List Fd × List At) ⊕ ρ)))
    (hs : ∀ i : Nat, i < l.length → f ((i : Int), l.take i, p) = some (.inl (((i + 1 : Nat) : Int), l.take i ++ [l.getD i dF], p))) (he : f ((l.length : Int), l, p) = some (.inr (.inl (l, p)))) : P.iter K f (0, [], p) = some (.inl (l, p)) := by
  refine iter_run (fun i => ((i : Int), l.take i, p)) _ l.length 0 K (by unfold K; omega) (fun j hj => ?_) (by simpa using he)
  have := hs j hj
  simp only [Nat.zero_add]
  rw [this, take_getF hj]
theorem room48 (l : List Fd) (x : Fd) (h : l.length ≤ 4000000) : P.room (P.add (P.len l) (P.len [x])) 48 = true := by
  rw [len_eq, len_eq, room_nat]; simp; omega
end Go.PL
namespace Go.PL
theorem copy_step (l : List Fd) (hl : l.length ≤ 1000000) (hv : ∀ f, f ∈ l → f.2.2.length ≤ 100000) (p : List At) {ρ : Type} (i : Nat) (hi : i < l.length) :
    (P.cond (P.ilt (i : Int) (P.len l)) (P.cond (P.inb (i : Int) (P.len l)) (P.bind (slCloneAtom K (P.get l (i : Int) ((ByteArray.mk #[]), false, [])).snd.snd) fun (r : List (Int × Int)) => P.cond (P.room (P.add (P.len (l.take i)) (P.len [((P.get l (i : Int) ((ByteArray.mk #[]), false, [])).fst, (P.get l (i : Int) ((ByteArray.mk #[]), false, [])).snd.fst, r)])) 48) (some (Sum.inl (P.wrap IntKind.i64 (P.add (i : Int) ((1 : Int))), P.app (l.take i) [((P.get l (i : Int) ((ByteArray.mk #[]), false, [])).fst, (P.get l (i : Int) ((ByteArray.mk #[]), false, [])).snd.fst, r)], p))) none) none) (some (Sum.inr (Sum.inl (l.take i, p)))) : Option ((Int × List Fd × List At) ⊕ ((List Fd × List At) ⊕ ρ))) = some (.inl (((i + 1 : Nat) : Int), l.take i ++ [l.getD i dF], p)) := by
  rw [show P.ilt (i : Int) (P.len l) = true from ilt_iff.2 (by rw [len_eq]; omega), cond_true, show P.inb (i : Int) (P.len l) = true from inb_iff.2 (by rw [len_eq]; omega), cond_true, get_nat, at_clone K (l.getD i dF).2.2 (by have := hv _ (mem_getD hi); omega), bind_some, room48 _ _ (by rw [List.length_take]; omega), cond_true, wrap_succ (by omega)]
  rfl
theorem copy_end {α : Type} (l : List Fd) (A : Option α) (B : Option α) : P.cond (P.ilt (l.length : Int) (P.len l)) A B = B := by
  rw [show P.ilt (l.length : Int) (P.len l) = false from by rw [Bool.eq_false_iff, Ne, ilt_iff, len_eq]; omega]; rfl
end Go.PL
end
section
open Go Go.PG Go.PL
set_option linter.unusedVariables false
namespace Go.PL
def stepF (F : Fd) (s : Bool × List Fd) (y : Fd) : Bool × List Fd :=
  if s.1 = false ∧ (ltS F.1 y.1 ∨ F.1 = y.1) then (true, if y.1 = F.1 then s.2 ++ [F] else s.2 ++ [F] ++ [y]) else (s.1, if y.1 = F.1 then s.2 else s.2 ++ [y])
end Go.PL
end
section
open Go Go.PG Go.PL
set_option linter.unusedVariables false
namespace Go.PL
def renF (s : Int) (f : Fd) : Fd := (f.1, f.2.1, norm (f.2.2.map (renA s)))
def rename (o : Sp) (s : Int) : Sp := if MayO o then (o.1.map (renF s), norm (o.2.map (renA s))) else ([], [])
end Go.PL
end
section
open Go Go.PG Go.PL
set_option linter.unusedVariables false
namespace Go.PL
def FldIn (b : List Fd) (f : Fd) : Prop := (getR b f.1).2 = true ∧ Within f.2.2 (getR b f.1).1.2.2 ∧ ((getR b f.1).1.2.1 = true → f.2.1 = true)
instance (b : List Fd) (f : Fd) : Decidable (FldIn b f) := by unfold FldIn; exact inferInstance
def SureIn (a : List Fd) (g : Fd) : Prop := g.2.1 = true → (getR a g.1).2 = true
instance (a : List Fd) (g : Fd) : Decidable (SureIn a g) := by unfold SureIn; exact inferInstance
def WithinO (a b : Sp) : Prop := MayO a ∧ MayO b ∧ Within a.2 b.2 ∧ (∀ f, f ∈ a.1 → FldIn b.1 f) ∧ ∀ g, g ∈ b.1 → SureIn a.1 g
instance (a b : Sp) : Decidable (WithinO a b) := by unfold WithinO; exact inferInstance
end Go.PL
end
section
open Go Go.PG Go.PL
set_option linter.unusedVariables false
namespace Go.PL
end Go.PL
end
section
open Go Go.PG Go.PL
set_option linter.unusedVariables false
namespace Go.PL
def SmallS (s : Sp) : Prop := (∀ f, f ∈ s.1 → f.2.2.length ≤ 60) ∧ s.1.length ≤ 60 ∧ s.2.length ≤ 60
instance (s : Sp) : Decidable (SmallS s) := by unfold SmallS; exact inferInstance
theorem small_few {s : Sp} (h : SmallS s) : FewS s := ⟨by have := h.2.1; omega, fun f hf => by have := h.1 f hf; omega, by have := h.2.2; omega⟩
end Go.PL
end
section
open Go Go.PG Go.PL
set_option linter.unusedVariables false
namespace Go.PL
def joinF (a b : List Fd) (n : ByteArray) : Fd := (n, (getR a n).2 && (getR b n).2 && (getR a n).1.2.1 && (getR b n).1.2.1, norm ((getR a n).1.2.2 ++ (getR b n).1.2.2))
def foldJ (a b l acc : List Fd) : List Fd := l.foldl (fun out f => put out (joinF a b f.1)) acc
def has (l : List Fd) (n : ByteArray) : Bool := (get l n).isSome
def joinL (a b : List Fd) : List Fd := foldJ a b (a ++ b) []
def join (a b : Sp) : Sp := if MayO a ∧ MayO b then (joinL a.1 b.1, norm (a.2 ++ b.2)) else ([], [])
end Go.PL
end
section
open Go Go.PG Go.PL
set_option linter.unusedVariables false
namespace Go.PL
end Go.PL
end
section
open Go Go.PG Go.PL
set_option linter.unusedVariables false
namespace Go.PL
end Go.PL
end
section
open Go Go.PG Go.PL
set_option linter.unusedVariables false
namespace Go.PL
end Go.PL
end
section
open Go Go.PG Go.PL
set_option linter.unusedVariables false
namespace Go.PL
end Go.PL
end
section
open Go Go.PG Go.PL
set_option linter.unusedVariables false
namespace Go.PL
end Go.PL
end
section
open Go Go.PG Go.PL
set_option linter.unusedVariables false
namespace Go.PL
end Go.PL
end
section
open Go Go.PG Go.PL
set_option linter.unusedVariables false
namespace Go.PL
end Go.PL
end
section
open Go Go.PG Go.PL
set_option linter.unusedVariables false
namespace Go.PL
instance (s : Sp) : Decidable (FewS s) := by unfold FewS; exact inferInstance
end Go.PL
end
section
open Go Go.PG Go.PL
set_option linter.unusedVariables false
namespace Go.PL
def pr (l : List Fd) (n : ByteArray) : Bool := (getR l n).2
def su (l : List Fd) (n : ByteArray) : Bool := (getR l n).1.2.1
def va (l : List Fd) (n : ByteArray) : List At := (getR l n).1.2.2
theorem canon_ext {l m : List At} (hl : Canon l) (hm : Canon m) (h : ∀ z, z ∈ l ↔ z ∈ m) : l = m := rises_ext hl.1 hm.1 h
theorem mem_normA {l m : List At} (hl : Canon l) (hm : Canon m) {z : At} : z ∈ norm (l ++ m) ↔ z ∈ l ∨ z ∈ m := by
  rw [mem_norm, List.mem_append]
  exact ⟨fun h => h.1, fun h => ⟨h, h.elim (hl.2 z) (hm.2 z)⟩⟩
end Go.PL
end
section
open Go Go.PG Go.PL
set_option linter.unusedVariables false
namespace Go.PL
def Bd (k : Nat) (s : Sp) : Prop := s.1.length ≤ k ∧ (∀ f, f ∈ s.1 → f.2.2.length ≤ k) ∧ s.2.length ≤ k
theorem bd_few {s : Sp} {k : Nat} (h : Bd k s) (hk : k ≤ 100000) : FewS s := ⟨Nat.le_trans h.1 hk, fun f hf => Nat.le_trans (h.2.1 f hf) hk, Nat.le_trans h.2.2 hk⟩
theorem bd_va {s : Sp} {k : Nat} (h : Bd k s) (n : ByteArray) : (va s.1 n).length ≤ k := by
  unfold va getR
  cases q : get s.1 n with
  | none => simp
  | some f => exact h.2.1 f (get_mem q)
theorem bd_empty (k : Nat) : Bd k (([], []) : Sp) := ⟨by simp, by simp, by simp⟩
end Go.PL
end
section
open Go Go.PG Go.PL
set_option linter.unusedVariables false
namespace Go.PL
theorem beq_refl (b : Bool) : P.beq b b = true := beq_iff.2 rfl
end Go.PL
end
section
open Go Go.PG Go.PL
set_option linter.unusedVariables false
namespace Go.PL
end Go.PL
end
section
open Go Go.PG Go.PL
set_option linter.all false
namespace Go.PL
abbrev Bv := ByteArray × List At
abbrev Lc := At × Sp
abbrev Sta := Bool × List Bv × List Lc
abbrev dB : Bv := (⟨#[]⟩, [])
abbrev dL : Lc := ((0, 0), [], [])
theorem getD_mem {α : Type} {l : List α} {i : Nat} (h : i < l.length) (d : α) : l.getD i d ∈ l := by
  simp [List.getD_eq_getElem?_getD, h]
theorem forall_getD {α : Type} {l : List α} (d : α) {p : α → Prop} : (∀ i, i < l.length → p (l.getD i d)) ↔ ∀ f, f ∈ l → p f := by
  constructor
  · intro h f hf
    obtain ⟨i, hi, rfl⟩ := List.getElem_of_mem hf
    have := h i hi
    simpa [List.getD_eq_getElem?_getD, hi] using this
  · intro h i hi; exact h _ (getD_mem hi d)
theorem pair_steps {α : Type} {R : α → α → Prop} (tr : ∀ {a b c}, R a b → R b c → R a c) (l : List α) (d : α) : (∀ i, i < l.length → 0 < i → R (l.getD (i - 1) d) (l.getD i d)) ↔ l.Pairwise R := by
  constructor
  · intro h
    have key : ∀ k i, i + k + 1 < l.length → R (l.getD i d) (l.getD (i + k + 1) d) := by
      intro k
      induction k with
      | zero => intro i hi; have := h (i + 1) hi (by omega); simpa using this
      | succ k ih =>
        intro i hi
        have h1 := ih i (by omega)
        have h2 := h (i + (k + 1) + 1) hi (by omega)
        rw [show i + (k + 1) + 1 - 1 = i + k + 1 by omega] at h2
        exact tr h1 h2
    refine List.pairwise_iff_getElem.2 fun i j hi hj hij => ?_
    have := key (j - i - 1) i (by omega)
    rw [show i + (j - i - 1) + 1 = j by omega] at this
    simpa [List.getD_eq_getElem?_getD, hi, hj] using this
  · intro h i hi h0
    have := List.pairwise_iff_getElem.1 h (i - 1) i (by omega) hi (by omega)
    simpa [List.getD_eq_getElem?_getD, hi, show i - 1 < l.length by omega] using this
theorem ilt_len {α : Type} {l : List α} {i : Nat} (h : i < l.length) : P.ilt (i : Int) (P.len l) = true := ilt_iff.2 (by rw [len_eq]; omega)
theorem ilt_end {α : Type} (l : List α) : P.ilt (l.length : Int) (P.len l) = false := by rw [Bool.eq_false_iff, Ne, ilt_iff, len_eq]; omega
theorem inb_len {α : Type} {l : List α} {i : Nat} (h : i < l.length) : P.inb (i : Int) (P.len l) = true := inb_iff.2 (by rw [len_eq]; omega)
theorem not_true : P.not true = false := rfl
theorem not_false' : P.not false = true := rfl
theorem cond_dec {α : Type} (p : Prop) [Decidable p] (x y : α) : P.cond (decide p) x y = if p then x else y := by
  by_cases h : p
  · rw [decide_eq_true h, if_pos h]; rfl
  · rw [decide_eq_false h, if_neg h]; rfl
theorem cond_ndec {α : Type} (p : Prop) [Decidable p] (x y : α) : P.cond (P.not (decide p)) x y = if p then y else x := by
  by_cases h : p
  · rw [decide_eq_true h, if_pos h]; rfl
  · rw [decide_eq_false h, if_neg h]; rfl
theorem slt_dec (a b : ByteArray) : P.slt a b = decide (ltS a b) := by rw [Bool.eq_iff_iff, slt_iff, decide_eq_true_eq]
theorem seq_dec (a b : ByteArray) : P.seq a b = decide (a = b) := by rw [Bool.eq_iff_iff, seq_iff, decide_eq_true_eq]
theorem ilt_dec (a b : Int) : P.ilt a b = decide (a < b) := rfl
theorem ile_dec (a b : Int) : P.ile a b = decide (a ≤ b) := rfl
theorem eqA_dec (a b : At) : P.and (P.ieq a.1 b.1) (P.ieq a.2 b.2) = decide (a = b) := by rw [Bool.eq_iff_iff, eqA_iff, decide_eq_true_eq]
theorem loop_all {ρ σ : Type} (n : Nat) (p : Nat → Prop) [DecidablePred p] {f : Int → Option (Int ⊕ (Unit ⊕ ρ))} {A : Option σ} {B : ρ → Option σ} {r : ρ} (hn : n ≤ 1000000000)
    (hs : ∀ i : Nat, i < n → f (i : Int) = some (if p i then .inl ((i + 1 : Nat) : Int) else .inr (.inr r))) (he : f (n : Int) = some (.inr (.inl ()))) :
    P.bind (P.iter K f 0) (P.either (fun (_ : Unit) => A) B) = if ∀ i, i < n → p i then A else B r := by
  rw [iter_all (n := n) (e := .inl ()) (r := .inr r) p K hs he (by unfold K; omega), bind_some]
  by_cases q : ∀ i, i < n → p i
  · rw [if_pos q, if_pos q]; rfl
  · rw [if_neg q, if_neg q]; rfl
def PlaceA (a : At) : Prop := (a.1 = 4 ∨ a.1 = 5) ∧ 0 ≤ a.2
instance (a : At) : Decidable (PlaceA a) := by unfold PlaceA; exact inferInstance
abbrev RisesB (l : List Bv) : Prop := l.Pairwise fun a b => ltS a.1 b.1
abbrev RisesL (l : List Lc) : Prop := l.Pairwise fun a b => ltA a.1 b.1
def MayS (s : Sta) : Prop := (RisesB s.2.1 ∧ ∀ b, b ∈ s.2.1 → b.2 = norm b.2) ∧ (RisesL s.2.2 ∧ ∀ l, l ∈ s.2.2 → PlaceA l.1 ∧ MayO l.2) ∧ (s.1 = true → s.2.1 = [] ∧ s.2.2 = [])
instance (s : Sta) : Decidable (MayS s) := by unfold MayS; exact inferInstance
def FewT (s : Sta) : Prop := s.2.1.length ≤ 100000 ∧ (∀ b, b ∈ s.2.1 → b.2.length ≤ 100000) ∧ s.2.2.length ≤ 100000 ∧ ∀ l, l ∈ s.2.2 → FewS l.2
instance (s : Sta) : Decidable (FewT s) := by unfold FewT; exact inferInstance
theorem ref_place (k : Nat) (a : At) : ref08_Place k a = some (decide (PlaceA a)) := by
  unfold ref08_Place
  obtain ⟨x, y⟩ := a
  try dsimp only
  simp only [PlaceA, ieq_eq, ile_dec, cond_dec]
  by_cases h4 : x = 4
  · rw [if_pos h4]; simp [h4]
  · by_cases h5 : x = 5
    · rw [if_neg h4, if_pos h5]; simp [h5]
    · rw [if_neg h4, if_neg h5]; simp [h4, h5]
theorem norm_one {a : At} : [a] = norm [a] ↔ RightA a := by
  rw [canon_iff]
  exact ⟨fun h => h.2 a (by simp), fun h => ⟨List.pairwise_singleton _ _, fun z hz => by rw [List.mem_singleton] at hz; rw [hz]; exact h⟩⟩
theorem st_place (a : At) : state_place K a = some (decide (PlaceA a)) := by
  unfold state_place
  try dsimp only
  rw [at_may [a] (by simp), bind_some]
  have e : decide ([a] = norm [a]) = decide (RightA a) := by rw [decide_eq_decide]; exact norm_one
  rw [e]
  obtain ⟨x, y⟩ := a
  simp only [PlaceA, RightA, ieq_eq, cond_dec]
  by_cases h4 : x = 4
  · rw [if_pos h4]; simp [h4]
  · by_cases h5 : x = 5
    · rw [if_neg h4, if_pos h5]; simp [h5]
    · rw [if_neg h4, if_neg h5]; simp [h4, h5]
theorem cmp_int (k : Nat) (x y : Int) : cmp_Compare_int k (x, y) = some (if x < y then -1 else if y < x then 1 else 0) := by
  unfold cmp_Compare_int
  try dsimp only
  have h : ∀ z : Int, cmp_isNaN_int k z = some false := by
    intro z
    unfold cmp_isNaN_int
    simp [P.not, P.ieq]
  rw [h, bind_some, h, bind_some, cond_false, cond_false, ilt_dec, ilt_dec, cond_dec, cond_dec]
  repeat' split
  all_goals first | rfl | omega
theorem at_compare (a b : At) : ∃ r : Int, atoms_Compare K (a, b) = some r ∧ (0 ≤ r ↔ ¬ ltA a b) := by
  unfold atoms_Compare
  try dsimp only
  rw [cmp_int, bind_some, cmp_int, bind_some]
  have hor : ∀ x y : Int, cmp_Or_int K [x, y] = some (if x = 0 then y else x) := by
    intro x y
    unfold cmp_Or_int
    try dsimp only
    have hK : ∃ m, K = m + 3 := ⟨18446744073709551613, rfl⟩
    obtain ⟨m, hm⟩ := hK
    rw [hm]
    by_cases hx : x = 0
    · subst hx
      by_cases hy : y = 0
      · subst hy; rfl
      · rw [iter_succ]
        simp [P.ilt, P.inb, P.len, P.cond, P.get, P.ieq, P.not, P.wrap, P.add, IntKind.wrap, IntKind.bits, IntKind.signed]
        rw [iter_succ]
        have hy' : (y == 0) = false := by simp [hy]
        simp [P.ilt, P.inb, P.len, P.cond, P.get, P.ieq, P.not, P.bind, P.either, hy']
    · rw [iter_succ]
      have hx' : (x == 0) = false := by simp [hx]
      simp [P.ilt, P.inb, P.len, P.cond, P.get, P.ieq, P.not, P.bind, P.either, hx, hx']
  rw [hor, bind_some]
  refine ⟨_, rfl, ?_⟩
  unfold ltA
  repeat' split
  all_goals omega
end Go.PL
end
section
open Go Go.PG Go.PL
set_option linter.all false
namespace Go.PL
def StepB (l : List Bv) (i : Nat) : Prop := (l.getD i dB).2 = norm (l.getD i dB).2 ∧ (0 < i → ltS (l.getD (i - 1) dB).1 (l.getD i dB).1)
instance (l : List Bv) (i : Nat) : Decidable (StepB l i) := by unfold StepB; exact inferInstance
def StepL (l : List Lc) (i : Nat) : Prop := (PlaceA (l.getD i dL).1 ∧ MayO (l.getD i dL).2) ∧ (0 < i → ltA (l.getD (i - 1) dL).1 (l.getD i dL).1)
instance (l : List Lc) (i : Nat) : Decidable (StepL l i) := by unfold StepL; exact inferInstance
theorem stepsB_iff {l : List Bv} : (∀ i, i < l.length → StepB l i) ↔ RisesB l ∧ ∀ f, f ∈ l → f.2 = norm f.2 := by
  have e1 := pair_steps (R := fun a b : Bv => ltS a.1 b.1) (fun h1 h2 => ltS_trans h1 h2) l dB
  have e2 := forall_getD (l := l) dB (p := fun f : Bv => f.2 = norm f.2)
  exact ⟨fun h => ⟨e1.1 fun i hi => (h i hi).2, e2.1 fun i hi => (h i hi).1⟩, fun h i hi => ⟨e2.2 h.2 i hi, e1.2 h.1 i hi⟩⟩
theorem stepsL_iff {l : List Lc} : (∀ i, i < l.length → StepL l i) ↔ RisesL l ∧ ∀ f, f ∈ l → PlaceA f.1 ∧ MayO f.2 := by
  have e1 := pair_steps (R := fun a b : Lc => ltA a.1 b.1) (fun h1 h2 => ltA_trans h1 h2) l dL
  have e2 := forall_getD (l := l) dL (p := fun f : Lc => PlaceA f.1 ∧ MayO f.2)
  exact ⟨fun h => ⟨e1.1 fun i hi => (h i hi).2, e2.1 fun i hi => (h i hi).1⟩, fun h i hi => ⟨e2.2 h.2 i hi, e1.2 h.1 i hi⟩⟩
theorem may_tail (s : Sta) (A : Option Bool) (hA : A = some (decide (s.1 = true → s.2.1 = [] ∧ s.2.2 = []))) :
    (if ∀ i, i < s.2.1.length → StepB s.2.1 i then (if ∀ i, i < s.2.2.length → StepL s.2.2 i then A else some false) else some false) = some (decide (MayS s)) := by
  subst hA
  by_cases q1 : ∀ i, i < s.2.1.length → StepB s.2.1 i
  · by_cases q2 : ∀ i, i < s.2.2.length → StepL s.2.2 i
    · rw [if_pos q1, if_pos q2]
      congr 1
      rw [decide_eq_decide]
      exact ⟨fun h => ⟨stepsB_iff.1 q1, stepsL_iff.1 q2, h⟩, fun h => h.2.2⟩
    · rw [if_pos q1, if_neg q2, decide_eq_false fun h : MayS s => q2 (stepsL_iff.2 h.2.1)]
  · rw [if_neg q1, decide_eq_false fun h : MayS s => q1 (stepsB_iff.2 h.1)]
theorem ref_may8 (s : Sta) (h : FewT s) : ref08_May K s = some (decide (MayS s)) := by
  unfold ref08_May
  try dsimp only
  obtain ⟨h1, h2, h3, h4⟩ := h
  rw [loop_all s.2.1.length (StepB s.2.1) (r := false) (by omega) ?_ ?_]
  · rw [loop_all s.2.2.length (StepL s.2.2) (r := false) (by omega) ?_ ?_]
    · refine may_tail s _ ?_
      cases s.1
      · simp [P.not, P.cond]
      · rw [not_true, cond_false, ieq_eq, cond_dec, ieq_eq, len_eq, len_eq]
        by_cases q : s.2.1 = []
        · rw [if_pos (by simp [q])]; simp [q]
        · rw [if_neg (by simp [q])]; simp [q]
    · intro i hi
      try dsimp only
      have hm := getD_mem hi dL
      rw [ilt_len hi, cond_true, inb_len hi, cond_true, get_nat, ref_place, bind_some, cond_ndec, cond_true, ref_may7 _ (h4 _ hm), bind_some, cond_ndec, wrap_succ (by omega)]
      by_cases q1 : PlaceA (s.2.2.getD i dL).1
      · by_cases q2 : MayO (s.2.2.getD i dL).2
        · rw [if_pos q1, if_pos q2]
          by_cases h0 : 0 < i
          · rw [show P.ilt ((0 : Int)) (i : Int) = true from ilt_iff.2 (by omega), cond_true, wrap_pred h0 (by omega), inb_len (show i - 1 < s.2.2.length by omega), cond_true, get_nat, ref_less, bind_some, cond_true, cond_ndec]
            by_cases z : ltA (s.2.2.getD (i - 1) dL).1 (s.2.2.getD i dL).1
            · rw [if_pos z, if_pos (show StepL s.2.2 i from ⟨⟨q1, q2⟩, fun _ => z⟩)]
            · rw [if_neg z, if_neg (show ¬ StepL s.2.2 i from fun y => z (y.2 h0))]
          · rw [show P.ilt ((0 : Int)) (i : Int) = false from by rw [Bool.eq_false_iff, Ne, ilt_iff]; omega, cond_false, if_pos (show StepL s.2.2 i from ⟨⟨q1, q2⟩, fun z => absurd z h0⟩)]
        · rw [if_pos q1, if_neg q2, if_neg (show ¬ StepL s.2.2 i from fun z => q2 z.1.2)]
      · rw [if_neg q1, if_neg (show ¬ StepL s.2.2 i from fun z => q1 z.1.1)]
    · try dsimp only
      rw [ilt_end]; rfl
  · intro i hi
    try dsimp only
    have hm := getD_mem hi dB
    rw [ilt_len hi, cond_true, inb_len hi, cond_true, get_nat, ref_may (s.2.1.getD i dB).2 (by have := h2 _ hm; omega), bind_some, cond_ndec, wrap_succ (by omega)]
    by_cases q : (s.2.1.getD i dB).2 = norm (s.2.1.getD i dB).2
    · rw [if_pos q]
      by_cases h0 : 0 < i
      · rw [show P.ilt ((0 : Int)) (i : Int) = true from ilt_iff.2 (by omega), cond_true, wrap_pred h0 (by omega), inb_len (show i - 1 < s.2.1.length by omega), cond_true, cond_true, get_nat, slt_dec, cond_ndec]
        by_cases z : ltS (s.2.1.getD (i - 1) dB).1 (s.2.1.getD i dB).1
        · rw [if_pos z, if_pos (show StepB s.2.1 i from ⟨q, fun _ => z⟩)]
        · rw [if_neg z, if_neg (show ¬ StepB s.2.1 i from fun y => z (y.2 h0))]
      · rw [show P.ilt ((0 : Int)) (i : Int) = false from by rw [Bool.eq_false_iff, Ne, ilt_iff]; omega, cond_false, if_pos (show StepB s.2.1 i from ⟨q, fun z => absurd z h0⟩)]
    · rw [if_neg q, if_neg (show ¬ StepB s.2.1 i from fun z => q z.1)]
  · try dsimp only
    rw [ilt_end]; rfl
theorem st_may (s : Sta) (h : FewT s) : state_May K s = some (decide (MayS s)) := by
  unfold state_May
  try dsimp only
  obtain ⟨h1, h2, h3, h4⟩ := h
  rw [loop_all s.2.1.length (StepB s.2.1) (r := false) (by omega) ?_ ?_]
  · rw [loop_all s.2.2.length (StepL s.2.2) (r := false) (by omega) ?_ ?_]
    · refine may_tail s _ ?_
      cases s.1
      · simp [P.not, P.cond]
      · rw [not_true, cond_false, ieq_eq, len_eq, len_eq, show P.add (s.2.1.length : Int) (s.2.2.length : Int) = ((s.2.1.length + s.2.2.length : Nat) : Int) from by simp [P.add], wrap_nat (by omega)]
        congr 1
        rw [decide_eq_decide, ← List.length_eq_zero_iff, ← List.length_eq_zero_iff]
        exact ⟨fun h _ => by omega, fun h => by have := h rfl; omega⟩
    · intro i hi
      try dsimp only
      have hm := getD_mem hi dL
      rw [ilt_len hi, cond_true, inb_len hi, cond_true, get_nat, st_place, bind_some, cond_ndec, ob_may _ (h4 _ hm), bind_some, cond_ndec, wrap_succ (by omega)]
      by_cases q1 : PlaceA (s.2.2.getD i dL).1
      · by_cases q2 : MayO (s.2.2.getD i dL).2
        · rw [if_pos q1, if_pos q2]
          by_cases h0 : 0 < i
          · obtain ⟨r, hr, hlt⟩ := at_compare (s.2.2.getD (i - 1) dL).1 (s.2.2.getD i dL).1
            rw [show P.ilt ((0 : Int)) (i : Int) = true from ilt_iff.2 (by omega), cond_true, wrap_pred h0 (by omega), inb_len (show i - 1 < s.2.2.length by omega), cond_true, get_nat, hr, bind_some, ile_dec, cond_dec]
            by_cases z : ltA (s.2.2.getD (i - 1) dL).1 (s.2.2.getD i dL).1
            · rw [if_neg (fun y => hlt.1 y z), if_pos (show StepL s.2.2 i from ⟨⟨q1, q2⟩, fun _ => z⟩)]
            · rw [if_pos (hlt.2 z), if_neg (show ¬ StepL s.2.2 i from fun y => z (y.2 h0))]
          · rw [show P.ilt ((0 : Int)) (i : Int) = false from by rw [Bool.eq_false_iff, Ne, ilt_iff]; omega, cond_false, if_pos (show StepL s.2.2 i from ⟨⟨q1, q2⟩, fun z => absurd z h0⟩)]
        · rw [if_pos q1, if_neg q2, if_neg (show ¬ StepL s.2.2 i from fun z => q2 z.1.2)]
      · rw [if_neg q1, if_neg (show ¬ StepL s.2.2 i from fun z => q1 z.1.1)]
    · try dsimp only
      rw [ilt_end]; rfl
  · intro i hi
    try dsimp only
    have hm := getD_mem hi dB
    rw [ilt_len hi, cond_true, inb_len hi, cond_true, get_nat, at_may (s.2.1.getD i dB).2 (by have := h2 _ hm; omega), bind_some, cond_ndec, wrap_succ (by omega)]
    by_cases q : (s.2.1.getD i dB).2 = norm (s.2.1.getD i dB).2
    · rw [if_pos q]
      by_cases h0 : 0 < i
      · rw [show P.ilt ((0 : Int)) (i : Int) = true from ilt_iff.2 (by omega), cond_true, wrap_pred h0 (by omega), inb_len (show i - 1 < s.2.1.length by omega), cond_true, get_nat, slt_dec, cond_ndec]
        by_cases z : ltS (s.2.1.getD (i - 1) dB).1 (s.2.1.getD i dB).1
        · rw [if_pos z, if_pos (show StepB s.2.1 i from ⟨q, fun _ => z⟩)]
        · rw [if_neg z, if_neg (show ¬ StepB s.2.1 i from fun y => z (y.2 h0))]
      · rw [show P.ilt ((0 : Int)) (i : Int) = false from by rw [Bool.eq_false_iff, Ne, ilt_iff]; omega, cond_false, if_pos (show StepB s.2.1 i from ⟨q, fun z => absurd z h0⟩)]
    · rw [if_neg q, if_neg (show ¬ StepB s.2.1 i from fun z => q z.1)]
  · try dsimp only
    rw [ilt_end]; rfl
instance decSp : DecidableEq Sp := fun a b => inferInstance
instance decLc : DecidableEq Lc := fun a b => decidable_of_iff (a.1 = b.1 ∧ a.2 = b.2) ⟨fun h => Prod.ext h.1 h.2, fun h => by rw [h]; exact ⟨rfl, rfl⟩⟩
instance decSta : DecidableEq Sta := fun a b => decidable_of_iff (a.1 = b.1 ∧ a.2.1 = b.2.1 ∧ a.2.2 = b.2.2) ⟨fun h => Prod.ext h.1 (Prod.ext h.2.1 h.2.2), fun h => by rw [h]; exact ⟨rfl, rfl, rfl⟩⟩
end Go.PL
end
section
open Go Go.PG Go.PL
set_option linter.all false
namespace Go.PL
theorem range_findSome {α ρ : Type} (l : List α) (d : α) (h : α → Option ρ) : (List.range l.length).findSome? (fun i => h (l.getD i d)) = l.findSome? h := by
  conv => rhs; rw [← range_map l d]
  rw [List.findSome?_map]; rfl
theorem findSome_if {α ρ : Type} (q : α → Prop) [DecidablePred q] (g : α → ρ) : ∀ l : List α, l.findSome? (fun x => if q x then some (g x) else none) = (l.find? fun x => decide (q x)).map g := by
  intro l
  induction l with
  | nil => rfl
  | cons a l ih =>
    rw [List.findSome?_cons, List.find?_cons]
    by_cases h : q a
    · rw [if_pos h, decide_eq_true h]; rfl
    · rw [if_neg h, decide_eq_false h]; exact ih
theorem loop_find {α ρ σ : Type} (l : List α) (d : α) (q : α → Prop) [DecidablePred q] (g : α → ρ) {f : Int → Option (Int ⊕ (Unit ⊕ ρ))} {A : Option σ} {B : ρ → Option σ} (hn : l.length ≤ 1000000000)
    (hs : ∀ i : Nat, i < l.length → f (i : Int) = some (if q (l.getD i d) then .inr (.inr (g (l.getD i d))) else .inl ((i + 1 : Nat) : Int))) (he : f (l.length : Int) = some (.inr (.inl ()))) :
    P.bind (P.iter K f 0) (P.either (fun (_ : Unit) => A) B) = match l.find? fun x => decide (q x) with
      | some x => B (g x)
      | none => A := by
  rw [iter_find0 (n := l.length) (e := .inl ()) (fun i => if q (l.getD i d) then some (.inr (g (l.getD i d))) else none) K (fun i hi => by
    rw [hs i hi]
    by_cases h : q (l.getD i d)
    · rw [if_pos h, if_pos h]
    · rw [if_neg h, if_neg h]) he (by unfold K; omega)]
  rw [range_findSome l d (fun x => if q x then some (Sum.inr (g x) : Unit ⊕ ρ) else none), findSome_if q (fun x => (Sum.inr (g x) : Unit ⊕ ρ)) l, bind_some]
  cases l.find? fun x => decide (q x) with
  | none => rfl
  | some x => rfl
def getV (l : List Bv) (n : ByteArray) : Option Bv := l.find? fun b => decide (b.1 = n)
def var (l : List Bv) (n : ByteArray) : List At := match getV l n with
  | some b => b.2
  | none => [(0, 0)]
def getL (l : List Lc) (x : At) : Option Lc := l.find? fun b => decide (b.1 = x)
def locR (l : List Lc) (x : At) : Sp × Bool := match getL l x with
  | some b => (b.2, true)
  | none => (([], []), false)
def SmallL (l : Lc) : Prop := l.2.1.length ≤ 40 ∧ l.2.2.length ≤ 40 ∧ ∀ f, f ∈ l.2.1 → f.2.2.length ≤ 40
instance (l : Lc) : Decidable (SmallL l) := by unfold SmallL; exact inferInstance
def SmallT (s : Sta) : Prop := s.2.1.length ≤ 40 ∧ s.2.2.length ≤ 40 ∧ (∀ b, b ∈ s.2.1 → b.2.length ≤ 40) ∧ ∀ l, l ∈ s.2.2 → SmallL l
instance (s : Sta) : Decidable (SmallT s) := by unfold SmallT; exact inferInstance
theorem small_fewL {l : Lc} (h : SmallL l) : FewS l.2 := ⟨by have := h.1; omega, fun f hf => by have := h.2.2 f hf; omega, by have := h.2.1; omega⟩
theorem small_fewT {s : Sta} (h : SmallT s) : FewT s := ⟨by have := h.1; omega, fun b hb => by have := h.2.2.1 b hb; omega, by have := h.2.1; omega, fun l hl => small_fewL (h.2.2.2 l hl)⟩
theorem ilt_dec40 {α : Type} (l : List α) : P.ilt (40 : Int) (P.len l) = decide (¬ l.length ≤ 40) := by rw [ilt_dec, len_eq, decide_eq_decide]; omega
theorem ref_small8 (s : Sta) : ref08_Small K s = some (decide (SmallT s)) := by
  unfold ref08_Small
  try dsimp only
  rw [ilt_dec40, cond_dec, ilt_dec40, cond_dec]
  by_cases q1 : s.2.1.length ≤ 40
  · by_cases q2 : s.2.2.length ≤ 40
    · rw [if_neg (fun z => z q1), if_neg (fun z => z q2), loop_all s.2.1.length (fun i => (s.2.1.getD i dB).2.length ≤ 40) (r := false) (by omega) ?_ ?_]
      · rw [loop_all s.2.2.length (fun i => SmallL (s.2.2.getD i dL)) (r := false) (by omega) ?_ ?_]
        · have e1 := forall_getD (l := s.2.1) dB (p := fun b => b.2.length ≤ 40)
          have e2 := forall_getD (l := s.2.2) dL (p := SmallL)
          by_cases z1 : ∀ i, i < s.2.1.length → (s.2.1.getD i dB).2.length ≤ 40
          · by_cases z2 : ∀ i, i < s.2.2.length → SmallL (s.2.2.getD i dL)
            · rw [if_pos z1, if_pos z2, decide_eq_true (show SmallT s from ⟨q1, q2, e1.1 z1, e2.1 z2⟩)]
            · rw [if_pos z1, if_neg z2, decide_eq_false (fun z : SmallT s => z2 (e2.2 z.2.2.2))]
          · rw [if_neg z1, decide_eq_false (fun z : SmallT s => z1 (e1.2 z.2.2.1))]
        · intro i hi
          try dsimp only
          rw [ilt_len hi, cond_true, inb_len hi, cond_true, cond_true, get_nat, ilt_dec40, cond_dec, ilt_dec40, cond_dec, wrap_succ (by omega)]
          generalize s.2.2.getD i dL = l
          by_cases y1 : l.2.1.length ≤ 40
          · by_cases y2 : l.2.2.length ≤ 40
            · rw [if_neg (fun z => z y1), if_neg (fun z => z y2), loop_all l.2.1.length (fun j => (l.2.1.getD j dF).2.2.length ≤ 40) (r := .inr (.inr false)) (by omega) ?_ ?_]
              · have e3 := forall_getD (l := l.2.1) dF (p := fun f => f.2.2.length ≤ 40)
                by_cases y3 : ∀ j, j < l.2.1.length → (l.2.1.getD j dF).2.2.length ≤ 40
                · rw [if_pos y3, if_pos (show SmallL l from ⟨y1, y2, e3.1 y3⟩)]
                · rw [if_neg y3, if_neg (fun z : SmallL l => y3 (e3.2 z.2.2))]
              · intro j hj
                try dsimp only
                rw [cond_true, ilt_len hj, cond_true, cond_true, inb_len hj, cond_true, get_nat, ilt_dec40, cond_dec, wrap_succ (by omega)]
                by_cases y3 : (l.2.1.getD j dF).2.2.length ≤ 40
                · rw [if_neg (fun z => z y3), if_pos y3]
                · rw [if_pos y3, if_neg y3]
              · try dsimp only
                rw [cond_true, ilt_end]; rfl
            · rw [if_neg (fun z => z y1), if_pos y2, if_neg (fun z : SmallL l => y2 z.2.1)]
          · rw [if_pos y1, if_neg (fun z : SmallL l => y1 z.1)]
        · try dsimp only
          rw [ilt_end]; rfl
      · intro i hi
        try dsimp only
        rw [ilt_len hi, cond_true, inb_len hi, cond_true, get_nat, ilt_dec40, cond_dec, wrap_succ (by omega)]
        by_cases y3 : (s.2.1.getD i dB).2.length ≤ 40
        · rw [if_neg (fun z => z y3), if_pos y3]
        · rw [if_pos y3, if_neg y3]
      · try dsimp only
        rw [ilt_end]; rfl
    · rw [if_neg (fun z => z q1), if_pos q2, decide_eq_false (fun z : SmallT s => q2 z.2.1)]
  · rw [if_pos q1, decide_eq_false (fun z : SmallT s => q1 z.1)]
def WithinT (a b : Sta) : Prop := MayS a ∧ MayS b ∧ (a.1 = true ∨ (b.1 = false ∧ (∀ v, v ∈ a.2.1 → Within v.2 (var b.2.1 v.1)) ∧ (∀ v, v ∈ b.2.1 → Within (var a.2.1 v.1) v.2) ∧ ∀ l, l ∈ a.2.2 → (locR b.2.2 l.1).2 = true ∧ WithinO l.2 (locR b.2.2 l.1).1))
instance (a b : Sta) : Decidable (WithinT a b) := by unfold WithinT; exact inferInstance
end Go.PL
end
section
open Go Go.PG Go.PL
set_option linter.all false
namespace Go.PL
theorem room_one {α : Type} (l : List α) (x : α) (b : Nat) (h : l.length ≤ 1000000) (hb : b ≤ 64) : P.room (P.add (P.len l) (P.len [x])) b = true := by
  rw [len_eq, len_eq, room_nat]
  have : (l.length + [x].length) * b ≤ 1000001 * 64 := Nat.mul_le_mul (by simp; omega) hb
  omega
theorem ob_copy (o : Sp) (h : FewS o) : object_Copy K o = some o := by
  unfold object_Copy
  try dsimp only
  rw [at_clone K o.2 (by have := h.2.2; omega), bind_some, copy_run o.1 o.2 (by have := h.1; omega) _ (fun i hi => copy_step o.1 (by have := h.1; omega) h.2.1 o.2 i hi) (copy_end _ _ _), bind_some, either_inl]
def stg (v : List At) : Prop := (norm v).length = 1 ∧ ((norm v).getD 0 dA).1 = 4
instance (v : List At) : Decidable (stg v) := by unfold stg; exact inferInstance
def hits (v : List At) (x : At) : Prop := (6, 0) ∈ norm v ∨ x ∈ norm v
instance (v : List At) (x : At) : Decidable (hits v x) := by unfold hits; exact inferInstance
theorem get_dL (l : List Lc) (i : Nat) : P.get l (i : Int) (((0 : Int), (0 : Int)), [], []) = l.getD i dL := get_nat _ _ _
end Go.PL
end
section
open Go Go.PG Go.PL
set_option linter.all false
namespace Go.PL
end Go.PL
end
section
open Go Go.PG Go.PL
set_option linter.all false
namespace Go.PL
theorem getL_mem {l : List Lc} {x : At} {b : Lc} (h : getL l x = some b) : b ∈ l ∧ b.1 = x := ⟨List.mem_of_find?_eq_some h, of_decide_eq_true (by have := List.find?_some h; exact this)⟩
end Go.PL
end
section
open Go Go.PG Go.PL
set_option linter.all false
namespace Go.PL
end Go.PL
end
section
open Go Go.PG Go.PL
set_option linter.all false
namespace Go.PL
structure Ord {κ : Type} (lt : κ → κ → Prop) : Prop where
  irr : ∀ a, ¬ lt a a
  tr : ∀ {a b c}, lt a b → lt b c → lt a c
  tri : ∀ a b, lt a b ∨ a = b ∨ lt b a
section
variable {α κ : Type} {lt : κ → κ → Prop} [DecidableRel lt] {key : α → κ}
end
instance : DecidableRel ltA := fun a b => by unfold ltA; exact inferInstance
end Go.PL
end
section
open Go Go.PG Go.PL
set_option linter.all false
namespace Go.PL
theorem map_some' {α β : Type} (f : α → β) (x : α) : P.map f (some x) = some (f x) := rfl
end Go.PL
end
section
open Go Go.PG Go.PL
set_option linter.all false
namespace Go.PL
theorem st_loc (s : Sta) (x : At) (h : FewT s) : state_Loc K (s, x) = some (locR s.2.2 x) := by
  unfold state_Loc
  try dsimp only
  have h3 := h.2.2.1
  rw [loop_find s.2.2 dL (fun b => b.1 = x) (fun b => (b.2, true)) (by omega) ?_ ?_]
  · unfold locR getL
    cases s.2.2.find? fun b => decide (b.1 = x) with
    | none => rfl
    | some b => rfl
  · intro i hi
    have hm := getD_mem hi dL
    try dsimp only
    rw [ilt_len hi, cond_true, inb_len hi, cond_true, get_dL, eqA_dec, cond_dec, wrap_succ (by omega)]
    by_cases q : (s.2.2.getD i dL).1 = x
    · rw [if_pos q, if_pos q, show P.ile (0 : Int) (i : Int) = true from ile_iff.2 (by omega), cond_true, cond_true, ob_copy _ (h.2.2.2 _ hm), bind_some, map_some']
    · rw [if_neg q, if_neg q]
  · try dsimp only
    rw [ilt_end]; rfl
end Go.PL
end
section
open Go Go.PG Go.PL
set_option linter.all false
namespace Go.PL
def renL (i : Int) (b : Lc) : Lc := (b.1, rename b.2 i)
def base (i : Int) (l : List Lc) : List Lc := (l.filter fun b => decide (b.1 ≠ (4, i))).map (renL i)
end Go.PL
end
section
open Go Go.PG Go.PL
set_option linter.all false
namespace Go.PL
end Go.PL
end
section
open Go Go.PG Go.PL
set_option linter.all false
namespace Go.PL
end Go.PL
end
section
open Go Go.PG Go.PL
set_option linter.all false
namespace Go.PL
def t9 : Sta := (false, [(⟨#[120]⟩, [(5, 0)]), (⟨#[121]⟩, [(4, 0)])], [((4, 0), ([], [(5, 0)])), ((5, 0), ([(⟨#[112]⟩, true, [(2, 0)])], [(0, 0)]))])
def u9 : Sta := (false, [(⟨#[120]⟩, [(5, 0)])], [((5, 0), ([(⟨#[112]⟩, true, [(2, 0)])], [(0, 0)]))])
end Go.PL
end
section
open Go Go.PG Go.PL
set_option linter.all false
namespace Go.PL
end Go.PL
end
section
open Go Go.PG Go.PL
set_option linter.all false
namespace Go.PL
end Go.PL
end
section
open Go Go.PG Go.PL
set_option linter.all false
namespace Go.PL
def SpeakL (x : At) (l : Lc) : Prop := l.1 = x ∨ x ∈ l.2.2 ∨ ∃ f, f ∈ l.2.1 ∧ x ∈ f.2.2
instance (x : At) (l : Lc) : Decidable (SpeakL x l) := by unfold SpeakL; exact inferInstance
def Speaks (s : Sta) (x : At) : Prop := (∃ b, b ∈ s.2.1 ∧ x ∈ b.2) ∨ ∃ l, l ∈ s.2.2 ∧ SpeakL x l
instance (s : Sta) (x : At) : Decidable (Speaks s x) := by unfold Speaks; exact inferInstance
end Go.PL
end
section
open Go Go.PG Go.PL
set_option linter.all false
namespace Go.PL
end Go.PL
end
section
open Go Go.PG Go.PL
set_option linter.all false
namespace Go.PL
def both (a b : List Bv) (n : ByteArray) : List At := norm (var a n ++ var b n)
end Go.PL
end
section
open Go Go.PG Go.PL
set_option linter.all false
namespace Go.PL
end Go.PL
end
section
open Go Go.PG Go.PL
set_option linter.all false
namespace Go.PL
end Go.PL
end
section
open Go Go.PG Go.PL
set_option linter.all false
namespace Go.PL
end Go.PL
end
section
open Go Go.PG Go.PL
set_option linter.all false
namespace Go.PL
end Go.PL
end
section
open Go Go.PG Go.PL
set_option linter.all false
namespace Go.PL
def nx (T : List Lc) (n : ByteArray) (x : At) : List At := if PlaceA x ∧ (locR T x).2 = true ∧ su (locR T x).1.1 n = false then (locR T x).1.2 else []
inductive Rch (T : List Lc) (n : ByteArray) (v : List At) : At → Prop
  | base {y : At} : y ∈ v → RightA y → Rch T n v y
  | step {x y : At} : Rch T n v x → y ∈ nx T n x → RightA y → Rch T n v y
theorem Rch.right {T : List Lc} {n : ByteArray} {v : List At} {y : At} (h : Rch T n v y) : RightA y := by cases h <;> assumption
def allA (T : List Lc) (v : List At) : List At := v ++ T.flatMap fun l => l.2.2
theorem nx_mem {T : List Lc} {n : ByteArray} {x y : At} (h : y ∈ nx T n x) : ∃ l, l ∈ T ∧ l.1 = x ∧ y ∈ l.2.2 ∧ locR T x = (l.2, true) := by
  unfold nx at h
  split at h
  · rename_i q
    unfold locR at q h ⊢
    cases g : getL T x with
    | none => rw [g] at h; simp at h
    | some b =>
      rw [g] at h
      obtain ⟨h1, h2⟩ := getL_mem g
      exact ⟨b, h1, h2, h, rfl⟩
  · cases h
theorem Rch.all {T : List Lc} {n : ByteArray} {v : List At} {y : At} (h : Rch T n v y) : y ∈ allA T v := by
  unfold allA
  cases h with
  | base h1 _ => exact List.mem_append_left _ h1
  | step _ h2 _ =>
    obtain ⟨l, h1, _, h3, _⟩ := nx_mem h2
    exact List.mem_append_right _ (List.mem_flatMap.2 ⟨l, h1, h3⟩)
noncomputable def reachL (T : List Lc) (n : ByteArray) (v : List At) : List At := norm ((allA T v).filter fun y => @decide (Rch T n v y) (Classical.propDecidable _))
theorem mem_reachL {T : List Lc} {n : ByteArray} {v : List At} {y : At} : y ∈ reachL T n v ↔ Rch T n v y := by
  unfold reachL
  rw [mem_norm, List.mem_filter, @decide_eq_true_eq _ (Classical.propDecidable _)]
  exact ⟨fun h => h.1.2, fun h => ⟨⟨h.all, h⟩, h.right⟩⟩
theorem nodup_le : ∀ {l m : List At}, l.Nodup → (∀ z, z ∈ l → z ∈ m) → l.length ≤ m.length := by
  intro l
  induction l with
  | nil => intro m _ _; exact Nat.zero_le _
  | cons a l ih =>
    intro m hd hs
    obtain ⟨h1, h2⟩ := List.nodup_cons.1 hd
    have ha := hs a (by simp)
    have := ih (m := m.erase a) h2 fun z hz => (List.mem_erase_of_ne (fun e => h1 (by rw [← e]; exact hz))).2 (hs z (List.mem_cons_of_mem _ hz))
    rw [List.length_erase_of_mem ha] at this
    have hp : 0 < m.length := List.length_pos_of_mem ha
    simp only [List.length_cons]
    omega
theorem flat_len {α β : Type} (f : α → List β) (k : Nat) : ∀ l : List α, (∀ a, a ∈ l → (f a).length ≤ k) → (l.flatMap f).length ≤ l.length * k := by
  intro l
  induction l with
  | nil => intro _; simp
  | cons a l ih =>
    intro h
    have h1 := h a (by simp)
    have h2 := ih fun b hb => h b (List.mem_cons_of_mem _ hb)
    rw [List.flatMap_cons, List.length_append, List.length_cons, Nat.add_mul]
    omega
theorem allA_len {T : List Lc} {v : List At} {k : Nat} (h : ∀ l, l ∈ T → l.2.2.length ≤ k) : (allA T v).length ≤ v.length + T.length * k := by
  unfold allA
  rw [List.length_append]
  have := flat_len (fun l : Lc => l.2.2) k T h
  omega
def restT : List Lc → List At → Nat
  | [], _ => 0
  | l :: T, out => (if l.1 ∈ out then 0 else l.2.2.length) + restT T out
theorem restT_le (out : List At) (x : At) : ∀ T, restT T (out ++ [x]) ≤ restT T out := by
  intro T
  induction T with
  | nil => exact Nat.le_refl _
  | cons l T ih =>
    simp only [restT]
    by_cases h : l.1 ∈ out
    · rw [if_pos h, if_pos (List.mem_append_left _ h)]; omega
    · rw [if_neg h]; split <;> omega
theorem restT_lt {out : List At} {x : At} (hx : x ∉ out) : ∀ {T : List Lc} {l : Lc}, l ∈ T → l.1 = x → restT T (out ++ [x]) + l.2.2.length ≤ restT T out := by
  intro T
  induction T with
  | nil => intro l h; cases h
  | cons m T ih =>
    intro l h e
    simp only [restT]
    rcases List.mem_cons.1 h with rfl | h
    · rw [if_pos (show l.1 ∈ out ++ [x] by rw [e]; simp), if_neg (show ¬ l.1 ∈ out by rw [e]; exact hx)]
      have := restT_le out x T
      omega
    · have := ih h e
      by_cases q : m.1 ∈ out
      · rw [if_pos q, if_pos (List.mem_append_left _ q)]; omega
      · rw [if_neg q]; split <;> omega
theorem restT_nx {T : List Lc} {n : ByteArray} {out : List At} {x : At} (hx : x ∉ out) : restT T (out ++ [x]) + (norm (nx T n x)).length ≤ restT T out := by
  have hn := norm_length (nx T n x)
  by_cases q : PlaceA x ∧ (locR T x).2 = true ∧ su (locR T x).1.1 n = false
  · have e : nx T n x = (locR T x).1.2 := by unfold nx; rw [if_pos q]
    rw [e] at hn ⊢
    have q2 := q.2.1
    unfold locR at q2 hn ⊢
    cases g : getL T x with
    | none => rw [g] at q2; cases q2
    | some b =>
      rw [g] at hn
      obtain ⟨h1, h2⟩ := getL_mem g
      have := restT_lt hx h1 h2
      simp only at hn ⊢
      omega
  · have e : nx T n x = [] := by unfold nx; rw [if_neg q]
    rw [e]
    have := restT_le out x T
    simpa [norm_nil] using this
theorem restT_zero (k : Nat) (out : List At) : ∀ T : List Lc, (∀ l, l ∈ T → l.2.2.length ≤ k) → restT T out ≤ T.length * k := by
  intro T
  induction T with
  | nil => intro _; exact Nat.zero_le _
  | cons l T ih =>
    intro h
    have h1 := h l (by simp)
    have h2 := ih fun b hb => h b (List.mem_cons_of_mem _ hb)
    simp only [restT, List.length_cons, Nat.add_mul]
    split <;> omega
abbrev eqK : At → At → Bool := fun x y => P.and (P.ieq x.1 y.1) (P.ieq x.2 y.2)
def marks (out : List At) : List (At × Bool) := out.map fun x => (x, true)
theorem mval_marks (x : At) : ∀ out : List At, P.mval eqK (marks out) x false = decide (x ∈ out) := by
  intro out
  induction out with
  | nil => rfl
  | cons a l ih =>
    have e : P.mval eqK (marks (a :: l)) x false = match eqK x a with
      | true => true
      | false => P.mval eqK (marks l) x false := rfl
    rw [e, ih]
    have h : eqK x a = decide (x = a) := eqA_dec x a
    rw [h]
    by_cases q : x = a
    · subst q; simp
    · rw [decide_eq_false q]; simp [q]
theorem mput_marks (x : At) : ∀ out : List At, x ∉ out → P.mput eqK (marks out) x true = marks (out ++ [x]) := by
  intro out
  induction out with
  | nil => intro _; rfl
  | cons a l ih =>
    intro h
    have e : P.mput eqK (marks (a :: l)) x true = match eqK x a with
      | true => (x, true) :: marks l
      | false => (a, true) :: P.mput eqK (marks l) x true := rfl
    rw [e, ih (fun z => h (List.mem_cons_of_mem _ z))]
    have h2 : eqK x a = decide (x = a) := eqA_dec x a
    rw [h2, decide_eq_false (fun z => h (by rw [z]; simp))]
    rfl
theorem walk_run {τ ρ : Type} (T : List Lc) (n : ByteArray) (v : List At) (g : τ → At → τ) (a0 : τ) (ok : τ → Nat → Prop) (E : τ → List (At × Bool) → ρ) {f : List At × τ × List (At × Bool) → Option ((List At × τ × List (At × Bool)) ⊕ ρ)} (hN : v.length + restT T [] ≤ 100000)
    (he : ∀ (out : List At), f ([], out.foldl g a0, marks out) = some (.inr (E (out.foldl g a0) (marks out))))
    (h1 : ∀ (out r : List At) (x : At), x ∈ out → r.length ≤ 100000 → f (x :: r, out.foldl g a0, marks out) = some (.inl (r, out.foldl g a0, marks out)))
    (h2 : ∀ (out r : List At) (x : At), x ∉ out → RightA x → (∀ z, z ∈ out → Rch T n v z) → out.Nodup → r.length + out.length + (norm (nx T n x)).length ≤ 100000 → f (x :: r, out.foldl g a0, marks out) = some (.inl (r ++ norm (nx T n x), (out ++ [x]).foldl g a0, marks (out ++ [x])))) :
    ∃ out, P.iter K f (norm v, a0, []) = some (E (out.foldl g a0) (marks out)) ∧ out.Nodup ∧ (∀ y, y ∈ out ↔ Rch T n v y) := by
  have key : ∀ (m : Nat) (q out : List At) (k : Nat), q.length + restT T out ≤ m → m < k → out.length + (q.length + restT T out) ≤ 100000 → (∀ z, z ∈ q ∨ z ∈ out → Rch T n v z) → out.Nodup → (∀ z, z ∈ v → RightA z → z ∈ q ∨ z ∈ out) →
      (∀ x, x ∈ out → ∀ z, z ∈ nx T n x → RightA z → z ∈ q ∨ z ∈ out) → ∃ out', P.iter k f (q, out.foldl g a0, marks out) = some (E (out'.foldl g a0) (marks out')) ∧ out'.Nodup ∧ (∀ y, y ∈ out' ↔ Rch T n v y) := by
    intro m
    induction m with
    | zero =>
      intro q out k hm hk hlen hr hd hv hc
      have : q = [] := List.eq_nil_of_length_eq_zero (by omega)
      subst this
      refine ⟨out, iter_done (by omega) (he out), hd, fun y => ⟨fun h => hr y (.inr h), fun h => ?_⟩⟩
      induction h with
      | base h1 h2 => exact (hv _ h1 h2).resolve_left (by simp)
      | step _ h2 h3 ih => exact (hc _ ih _ h2 h3).resolve_left (by simp)
    | succ m ih =>
      intro q out k hm hk hlen hr hd hv hc
      cases q with
      | nil =>
        refine ⟨out, iter_done (by omega) (he out), hd, fun y => ⟨fun h => hr y (.inr h), fun h => ?_⟩⟩
        induction h with
        | base h1 h2 => exact (hv _ h1 h2).resolve_left (by simp)
        | step _ h2 h3 ih => exact (hc _ ih _ h2 h3).resolve_left (by simp)
      | cons x r =>
        simp only [List.length_cons] at hm hlen
        have hx := hr x (.inl (by simp))
        by_cases hin : x ∈ out
        · rw [iter_step (by omega) (h1 out r x hin (by omega))]
          refine ih r out (k - 1) (by omega) (by omega) (by omega) (fun z hz => hr z (hz.imp (List.mem_cons_of_mem _) id)) hd (fun z h1 h2 => ?_) (fun y hy z h1 h2 => ?_)
          · rcases hv z h1 h2 with q | q
            · rcases List.mem_cons.1 q with rfl | q
              · exact .inr hin
              · exact .inl q
            · exact .inr q
          · rcases hc y hy z h1 h2 with q | q
            · rcases List.mem_cons.1 q with rfl | q
              · exact .inr hin
              · exact .inl q
            · exact .inr q
        · have hrest := restT_nx (T := T) (n := n) hin
          rw [iter_step (by omega) (h2 out r x hin hx.right (fun z hz => hr z (.inr hz)) hd (by omega))]
          refine ih _ _ (k - 1) (by rw [List.length_append]; omega) (by omega) (by rw [List.length_append, List.length_append, List.length_cons, List.length_nil]; omega) (fun z hz => ?_) ?_ (fun z h1 h2 => ?_) (fun y hy z h1 h2 => ?_)
          · rcases hz with hz | hz
            · rcases List.mem_append.1 hz with hz | hz
              · exact hr z (.inl (List.mem_cons_of_mem _ hz))
              · obtain ⟨a, b⟩ := mem_norm.1 hz
                exact .step hx a b
            · rcases List.mem_append.1 hz with hz | hz
              · exact hr z (.inr hz)
              · rw [List.mem_singleton.1 hz]; exact hx
          · rw [List.nodup_append]
            exact ⟨hd, by simp, fun a ha b hb e => by rw [List.mem_singleton.1 hb] at e; exact hin (e ▸ ha)⟩
          · rcases hv z h1 h2 with q | q
            · rcases List.mem_cons.1 q with rfl | q
              · exact .inr (by simp)
              · exact .inl (List.mem_append_left _ q)
            · exact .inr (List.mem_append_left _ q)
          · rcases List.mem_append.1 hy with hy | hy
            · rcases hc y hy z h1 h2 with q | q
              · rcases List.mem_cons.1 q with rfl | q
                · exact .inr (by simp)
                · exact .inl (List.mem_append_left _ q)
              · exact .inr (List.mem_append_left _ q)
            · rw [List.mem_singleton.1 hy] at h1
              exact .inl (List.mem_append_right _ (mem_norm.2 ⟨h1, h2⟩))
  have hn := norm_length v
  exact key ((norm v).length + restT T []) (norm v) [] K (Nat.le_refl _) (by unfold K; omega) (by simp only [List.length_nil]; omega) (fun z hz => by
    rcases hz with hz | hz
    · obtain ⟨a, b⟩ := mem_norm.1 hz; exact .base a b
    · cases hz) List.nodup_nil (fun z h1 h2 => .inl (mem_norm.2 ⟨h1, h2⟩)) (fun x hx => by cases hx)
end Go.PL
end
section
open Go Go.PG Go.PL
set_option linter.all false
namespace Go.PL
theorem at_place (k : Nat) (x : At) (h : RightA x) : lookup_place k x = some (decide (PlaceA x)) := by
  obtain ⟨a, b⟩ := x
  unfold lookup_place
  try dsimp only
  simp only [cond_eq, ieq_iff]
  unfold RightA at h
  simp only at h
  by_cases q : a = 4
  · rw [if_pos q, decide_eq_true (show PlaceA (a, b) from ⟨.inl q, by show 0 ≤ b; omega⟩)]
  · rw [if_neg q, ieq_eq]
    congr 1
    rw [decide_eq_decide]
    unfold PlaceA
    simp only
    omega
theorem sub_tail (x : At) (r : List At) : P.sub_ (x :: r) 1 (P.add 1 (P.sub (P.len (x :: r)) 1)) = r := by
  unfold P.sub_ P.add P.sub P.len
  rw [show (1 + (((x :: r).length : Int) - 1)).toNat = (x :: r).length by simp only [List.length_cons]; omega, List.take_length]
  rfl
theorem pos_len (x : At) (r : List At) : P.ilt 0 (P.len (x :: r)) = true := ilt_iff.2 (by rw [len_eq]; simp only [List.length_cons]; omega)
theorem inb_0 (x : At) (r : List At) : P.inb 0 (P.len (x :: r)) = true := inb_iff.2 (by rw [len_eq]; simp only [List.length_cons]; omega)
theorem cut_1 (x : At) (r : List At) : P.cut 1 (P.len (x :: r)) (P.len (x :: r)) = true := cut_iff.2 (by rw [len_eq]; simp only [List.length_cons]; omega)
theorem get_0 (x : At) (r : List At) : P.get (x :: r) 0 ((0 : Int), (0 : Int)) = x := rfl
theorem room16 {l m : List At} (h : l.length + m.length ≤ 8796093022000) : P.room (P.add (P.len l) (P.len m)) 16 = true := by
  rw [len_eq, len_eq, room_nat]; omega
def BdL (k : Nat) (T : List Lc) : Prop := T.length ≤ k ∧ ∀ l, l ∈ T → Bd k l.2
theorem bdL_rest {k : Nat} {T : List Lc} (h : BdL k T) (out : List At) : restT T out ≤ k * k := by
  have h1 := restT_zero k out T fun l hl => (h.2 l hl).2.2
  have h2 := Nat.mul_le_mul_right k h.1
  omega
theorem small_bdL {s : Sta} (h : SmallT s) : BdL 40 s.2.2 := ⟨h.2.1, fun l hl => ⟨(h.2.2.2 l hl).1, fun f hf => (h.2.2.2 l hl).2.2 f hf, (h.2.2.2 l hl).2.1⟩⟩
theorem nx_norm {T : List Lc} {n : ByteArray} {x : At} : nx T n x = if PlaceA x then (if (locR T x).2 = true then (if su (locR T x).1.1 n = true then [] else (locR T x).1.2) else []) else [] := by
  unfold nx
  by_cases a : PlaceA x
  · rw [if_pos a]
    by_cases b : (locR T x).2 = true
    · rw [if_pos b]
      by_cases c : su (locR T x).1.1 n = true
      · rw [if_pos c, if_neg (fun z => by rw [c] at z; exact absurd z.2.2 (by decide))]
      · rw [if_neg c, if_pos ⟨a, b, by simpa using c⟩]
    · rw [if_neg b, if_neg (fun z => b z.2.1)]
  · rw [if_neg a, if_neg (fun z => a z.1)]
theorem loc_len {T : List Lc} {k : Nat} (h : BdL k T) (x : At) : Bd k (locR T x).1 := by
  unfold locR
  cases g : getL T x with
  | none => exact bd_empty k
  | some b => exact h.2 b (getL_mem g).1
end Go.PL
end
section
open Go Go.PG Go.PL
set_option linter.all false
namespace Go.PL
abbrev Fnd := List At × Bool × Bool × Bool
def hp (T : List Lc) (n : ByteArray) (x : At) : Bool := decide (PlaceA x) && pr (locR T x).1.1 n
def vv (T : List Lc) (n : ByteArray) (x : At) : List At := if hp T n x = true then va (locR T x).1.1 n else []
def six (x : At) : Bool := P.ieq x.1 6
def plB (x : At) : Bool := decide (PlaceA x)
def found (T : List Lc) (n : ByteArray) (l : List At) : Fnd := (l.flatMap (vv T n), l.any six, l.all plB, l.any (hp T n))
def gF (T : List Lc) (n : ByteArray) (a : Fnd) (x : At) : Fnd := (a.1 ++ vv T n x, a.2.1 || six x, a.2.2.1 && plB x, a.2.2.2 || hp T n x)
theorem fold_gF (T : List Lc) (n : ByteArray) : ∀ (l : List At) (a : Fnd), l.foldl (gF T n) a = (a.1 ++ l.flatMap (vv T n), a.2.1 || l.any six, a.2.2.1 && l.all plB, a.2.2.2 || l.any (hp T n)) := by
  intro l
  induction l with
  | nil => intro a; simp
  | cons x l ih => intro a; rw [List.foldl_cons, ih]; simp [gF, Bool.or_assoc, Bool.and_assoc]
theorem found_fold (T : List Lc) (n : ByteArray) (l : List At) : l.foldl (gF T n) ([], false, true, false) = found T n l := by rw [fold_gF]; simp [found]
theorem found_snoc (T : List Lc) (n : ByteArray) (l : List At) (x : At) : found T n (l ++ [x]) = gF T n (found T n l) x := by simp [found, gF]
theorem vv_len {T : List Lc} {n : ByteArray} {k : Nat} (h : BdL k T) (x : At) : (vv T n x).length ≤ k := by
  unfold vv
  split
  · exact bd_va (loc_len h x) n
  · simp
noncomputable def findL (T : List Lc) (n : ByteArray) (v : List At) : Fnd := (norm ((reachL T n v).flatMap (vv T n)), (reachL T n v).any six, (reachL T n v).all plB, (reachL T n v).any (hp T n))
theorem found_ext {T : List Lc} {n : ByteArray} {l m : List At} (h : ∀ z, z ∈ l ↔ z ∈ m) : (norm (found T n l).1, (found T n l).2) = (norm (found T n m).1, (found T n m).2) := by
  have e1 : norm (l.flatMap (vv T n)) = norm (m.flatMap (vv T n)) := canon_ext (norm_canon _) (norm_canon _) fun z => by
    rw [mem_norm, mem_norm, List.mem_flatMap, List.mem_flatMap]
    exact ⟨fun ⟨⟨x, a, b⟩, c⟩ => ⟨⟨x, (h x).1 a, b⟩, c⟩, fun ⟨⟨x, a, b⟩, c⟩ => ⟨⟨x, (h x).2 a, b⟩, c⟩⟩
  have e2 : ∀ p : At → Bool, l.any p = m.any p := fun p => by
    rw [Bool.eq_iff_iff, List.any_eq_true, List.any_eq_true]
    exact ⟨fun ⟨x, a, b⟩ => ⟨x, (h x).1 a, b⟩, fun ⟨x, a, b⟩ => ⟨x, (h x).2 a, b⟩⟩
  have e3 : l.all plB = m.all plB := by
    rw [Bool.eq_iff_iff, List.all_eq_true, List.all_eq_true]
    exact ⟨fun q x hx => q x ((h x).2 hx), fun q x hx => q x ((h x).1 hx)⟩
  unfold found
  rw [e1, e2 six, e2 (hp T n), e3]
theorem at_find (s : Sta) (v : List At) (n : ByteArray) (hs : SmallT s) (hv : v.length ≤ 1000) : lookup_Find K (s, v, n) = some (findL s.2.2 n v) := by
  have hb := small_bdL hs
  have hF := small_fewT hs
  unfold lookup_Find
  try dsimp only
  rw [at_norm' v (by omega), bind_some]
  have hr := bdL_rest hb []
  generalize hf : (fun (y : List (Int × Int) × (List (Int × Int) × Bool × Bool × Bool) × List ((Int × Int) × Bool)) => _ : List (Int × Int) × (List (Int × Int) × Bool × Bool × Bool) × List ((Int × Int) × Bool) → Option ((List (Int × Int) × (List (Int × Int) × Bool × Bool × Bool) × List ((Int × Int) × Bool)) ⊕ (((List (Int × Int) × Bool × Bool × Bool) × List ((Int × Int) × Bool)) ⊕ (List (Int × Int) × Bool × Bool × Bool)))) = f
  obtain ⟨out, h1, h2, h3⟩ := walk_run s.2.2 n v (gF s.2.2 n) ([], false, true, false) (fun _ _ => True) (fun a sn => (Sum.inl (a, sn) : (Fnd × List (At × Bool)) ⊕ Fnd)) (f := f) (by omega)
    (fun out => by
      rw [← hf]
      rfl)
    (fun out r x hx hl => by
      rw [← hf]
      try dsimp only
      rw [pos_len, cond_true, inb_0, cond_true, cut_1, cond_true, get_0, mval_marks, decide_eq_true hx, cond_true, sub_tail])
    (fun out r x hx hR hall hd hl => by
      rw [found_fold, found_fold, found_snoc]
      have hV : (found s.2.2 n out).1.length ≤ 4000000 := by
        have := flat_len (vv s.2.2 n) 40 out (fun x _ => vv_len hb x)
        have e : (found s.2.2 n out).1 = out.flatMap (vv s.2.2 n) := rfl
        rw [e]; omega
      generalize found s.2.2 n out = fd at hV ⊢
      obtain ⟨V, D, S, M⟩ := fd
      have hV : V.length ≤ 4000000 := hV
      rw [← hf]
      try dsimp only
      rw [pos_len, cond_true, inb_0, cond_true, cut_1, cond_true, get_0, mval_marks, decide_eq_false hx, cond_false, sub_tail, mput_marks x out hx]
      have hB := loc_len hb x
      rw [st_loc s x hF, bind_some, ob_get _ _ (bd_few hB (by decide)), bind_some]
      simp only [at_place K x hR, bind_some]
      have hva := bd_va hB n
      have hcat := at_concat V (va (locR s.2.2 x).1.1 n) (by omega)
      have hnrm := at_norm' (locR s.2.2 x).1.2 (by have := hB.2.2; omega)
      have hnl := norm_length (locR s.2.2 x).1.2
      have hroom := room16 (l := r) (m := norm (locR s.2.2 x).1.2) (by have := hB.2.2; omega)
      have e2 : (getR (locR s.2.2 x).1.1 n).2 = pr (locR s.2.2 x).1.1 n := rfl
      have e3 : (getR (locR s.2.2 x).1.1 n).1.2.1 = su (locR s.2.2 x).1.1 n := rfl
      have e4 : (getR (locR s.2.2 x).1.1 n).1.2.2 = va (locR s.2.2 x).1.1 n := rfl
      simp only [e2, e3, e4, hcat, hnrm, hroom, bind_some]
      have g1 : gF s.2.2 n (V, D, S, M) x = (V ++ vv s.2.2 n x, D || six x, S && plB x, M || hp s.2.2 n x) := rfl
      rw [g1, nx_norm]
      unfold vv hp plB six
      generalize pr (locR s.2.2 x).1.1 n = p
      generalize su (locR s.2.2 x).1.1 n = q
      generalize (locR s.2.2 x).2 = b
      by_cases a : PlaceA x
      · rw [decide_eq_true a, if_pos a]
        cases D <;> cases S <;> cases M <;> cases p <;> cases q <;> cases b <;> simp [P.not, P.cond, P.app, norm_nil]
      · rw [decide_eq_false a, if_neg a]
        cases D <;> cases S <;> cases M <;> cases p <;> cases q <;> cases b <;> simp [P.not, P.cond, P.app, norm_nil])
  rw [h1, bind_some, either_inl]
  rw [found_fold]
  have hlen : out.length ≤ 10000 := by
    have := nodup_le h2 (m := allA s.2.2 v) fun z hz => ((h3 z).1 hz).all
    have := allA_len (T := s.2.2) (v := v) (k := 40) fun l hl => (hb.2 l hl).2.2
    have := Nat.mul_le_mul_right 40 hb.1
    omega
  have hV : (found s.2.2 n out).1.length ≤ 4000000 := by
    have := flat_len (vv s.2.2 n) 40 out (fun x _ => vv_len hb x)
    have e : (found s.2.2 n out).1 = out.flatMap (vv s.2.2 n) := rfl
    rw [e]; omega
  try dsimp only
  rw [at_norm' _ (by omega), bind_some]
  congr 1
  have := found_ext (T := s.2.2) (n := n) (l := out) (m := reachL s.2.2 n v) fun z => by rw [h3, mem_reachL]
  exact this
end Go.PL
end
section
namespace Go.PL.Sv
variable {K : Type} [DecidableEq K]
structure St (K : Type) where
  out : K → Option Bool
  on : K → List K
  work : List K
def up {α : Type} (f : K → α) (k : K) (v : α) : K → α := fun x => if x = k then v else f x
theorem up_self {α : Type} (f : K → α) (k : K) (v : α) : up f k v k = v := by simp [up]
theorem up_ne {α : Type} (f : K → α) {k x : K} (v : α) (h : x ≠ k) : up f k v x = f x := by simp [up, h]
def ask1 (k : K) (s : St K) (o : K) : St K :=
  { out := if s.out o = none then up s.out o (some true) else s.out
    on := up s.on o (s.on o ++ [k])
    work := if s.out o = none then s.work ++ [o] else s.work }
def ans (s : St K) (o : K) : Bool := (s.out o).getD true
theorem ask1_ans (k : K) (s : St K) (o : K) : ans (ask1 k s o) = ans s := by
  funext x
  simp only [ans, ask1]
  split
  · rename_i h
    by_cases e : x = o
    · subst e; rw [up_self, h]; rfl
    · rw [up_ne _ _ e]
  · rfl
def asks (k : K) (os : List K) (s : St K) : St K := os.foldl (ask1 k) s
theorem asks_ans (k : K) : ∀ (os : List K) (s : St K), ans (asks k os s) = ans s
  | [], _ => rfl
  | o :: os, s => by
    show ans (asks k os (ask1 k s o)) = ans s
    rw [asks_ans k os, ask1_ans]
variable (asked : K → List K) (rule : K → (K → Bool) → Bool)
def step (s : St K) (k : K) (w : List K) : St K :=
  if s.out k = some true then
    let s1 := asks k (asked k) { s with work := w }
    if rule k (ans s) = true then s1 else { out := up s1.out k (some false), on := up s1.on k [], work := s1.work ++ s1.on k }
  else { s with work := w }
def Holds (T : K → Prop) : Prop := ∀ k, T k → ∀ f : K → Bool, (∀ o, T o → f o = true) → rule k f = true
def Gfp (k : K) : Prop := ∃ T : K → Prop, T k ∧ Holds rule T
theorem gfp_holds (mono : ∀ k (f g : K → Bool), (∀ o ∈ asked k, f o = true → g o = true) → rule k f = true → rule k g = true) : Holds rule (Gfp rule) := by
  rintro k ⟨T, hk, hT⟩ f hf
  exact hT k hk f fun o ho => hf o ⟨T, ho, hT⟩
structure Inv (U : List K) (start : K) (ps : List K) (s : St K) : Prop where
  dom : ∀ k, s.out k ≠ none → k ∈ U
  good : ∀ k, s.out k = some true → k ∈ s.work ∨ ((∀ o ∈ asked k, s.out o ≠ none ∧ (s.out o = some true → k ∈ s.on o)) ∧ rule k (ans s) = true)
  bad : ∀ k, s.out k = some false → ¬ Gfp rule k
  st : s.out start ≠ none
  cw : ∀ k, s.work.count k + ps.count k ≤ 2 ^ ((asked k).countP fun o => s.out o = some false)
  co : ∀ k o, (s.on o).count k ≤ ps.count k * (asked k).count o
  new : ∀ k, s.out k = none → k ∉ s.work ∧ k ∉ ps
  psU : ∀ k ∈ ps, k ∈ U
theorem start_inv {U : List K} {start : K} (hs : start ∈ U) : Inv asked rule U start [] ⟨up (fun _ => none) start (some true), fun _ => [], [start]⟩ := by
  refine ⟨fun k hk => ?_, fun k hk => ?_, fun k hk => ?_, by simp [up_self], fun k => ?_, fun k o => by simp, fun k hk => ?_, by simp⟩
  · by_cases e : k = start
    · subst e; exact hs
    · simp [up_ne _ _ e] at hk
  · by_cases e : k = start
    · subst e; exact .inl (by simp)
    · simp [up_ne _ _ e] at hk
  · by_cases e : k = start
    · subst e; simp [up_self] at hk
    · simp [up_ne _ _ e] at hk
  · have : 1 ≤ 2 ^ ((asked k).countP fun o => up (fun _ => none) start (some true) o = some false) := Nat.one_le_two_pow
    have h2 : [start].count k ≤ 1 := by
      rw [List.count_singleton]; split <;> omega
    simp only [List.count_nil, Nat.add_zero]
    omega
  · by_cases e : k = start
    · subst e; simp [up_self] at hk
    · exact ⟨by simp [e], by simp⟩
theorem ask1_out {k : K} {s : St K} {o x : K} : (ask1 k s o).out x = if x = o then some ((s.out o).getD true) else s.out x := by
  simp only [ask1]
  by_cases e : x = o
  · subst e
    rw [if_pos rfl]
    split
    · rename_i h; rw [up_self, h]; rfl
    · rename_i h
      cases q : s.out x with
      | none => exact absurd q h
      | some b => rfl
  · rw [if_neg e]
    split
    · rw [up_ne _ _ e]
    · rfl
structure Mid (U : List K) (start : K) (ps : List K) (k : K) (s0 : St K) (done : List K) (s : St K) : Prop where
  dom : ∀ x, s.out x ≠ none → x ∈ U
  old : ∀ x, s0.out x ≠ none → s.out x = s0.out x
  nw : ∀ x, s0.out x = none → s.out x = none ∨ (s.out x = some true ∧ x ∈ s.work)
  sub : ∀ x, x ∈ s0.work → x ∈ s.work
  onsub : ∀ x o, x ∈ s0.on o → x ∈ s.on o
  dn : ∀ o ∈ done, s.out o ≠ none ∧ k ∈ s.on o
  cw : ∀ x, s.work.count x = s0.work.count x + (if s0.out x = none ∧ s.out x ≠ none then 1 else 0)
  co : ∀ x o, (s.on o).count x = (s0.on o).count x + (if x = k then done.count o else 0)
  none : ∀ x, s.out x = none → x ∉ s.work
theorem mid_start {U : List K} {start : K} {ps : List K} {k : K} {s0 : St K} (hd : ∀ x, s0.out x ≠ none → x ∈ U) (hn : ∀ x, s0.out x = none → x ∉ s0.work) : Mid U start ps k s0 [] s0 :=
  ⟨hd, fun _ _ => rfl, fun x h => .inl h, fun _ h => h, fun _ _ h => h, by simp, fun x => by
    have : ¬ (s0.out x = none ∧ s0.out x ≠ none) := fun h => h.2 h.1
    simp [this], fun x o => by simp, hn⟩
theorem mid_step {U : List K} {start : K} {ps : List K} {k : K} {s0 s : St K} {done : List K} (m : Mid U start ps k s0 done s) {o : K} (ho : o ∈ U) : Mid U start ps k s0 (done ++ [o]) (ask1 k s o) := by
  have out : ∀ x, (ask1 k s o).out x = if x = o then some ((s.out o).getD true) else s.out x := fun x => ask1_out
  have work : (ask1 k s o).work = if s.out o = none then s.work ++ [o] else s.work := rfl
  have on : ∀ y, (ask1 k s o).on y = if y = o then s.on o ++ [k] else s.on y := fun y => by
    show up s.on o (s.on o ++ [k]) y = _
    by_cases e : y = o
    · subst e; rw [up_self, if_pos rfl]
    · rw [up_ne _ _ e, if_neg e]
  refine ⟨fun x hx => ?_, fun x hx => ?_, fun x hx => ?_, fun x hx => ?_, fun x y hx => ?_, fun x hx => ?_, fun x => ?_, fun x y => ?_, fun x hx => ?_⟩
  · rw [out] at hx
    by_cases e : x = o
    · subst e; exact ho
    · rw [if_neg e] at hx; exact m.dom x hx
  · rw [out]
    by_cases e : x = o
    · subst e
      rw [if_pos rfl]
      have := m.old x hx
      rw [this]
      cases q : s0.out x with
      | none => exact absurd q hx
      | some b => rfl
    · rw [if_neg e]; exact m.old x hx
  · rw [out, work]
    by_cases e : x = o
    · subst e
      rw [if_pos rfl]
      rcases m.nw x hx with h | ⟨h1, h2⟩
      · rw [h]; exact .inr ⟨rfl, by simp⟩
      · rw [h1]; exact .inr ⟨rfl, by simpa using h2⟩
    · rw [if_neg e]
      rcases m.nw x hx with h | ⟨h1, h2⟩
      · exact .inl h
      · refine .inr ⟨h1, ?_⟩
        split
        · exact List.mem_append_left _ h2
        · exact h2
  · rw [work]
    have := m.sub x hx
    split
    · exact List.mem_append_left _ this
    · exact this
  · rw [on]
    have := m.onsub x y hx
    split
    · rename_i e; subst e; exact List.mem_append_left _ this
    · exact this
  · rw [out, on]
    by_cases e : x = o
    · subst e; simp
    · rw [if_neg e, if_neg e]
      rcases List.mem_append.1 hx with h | h
      · exact m.dn x h
      · exact absurd (by simpa using h) e
  · rw [work, out]
    have h := m.cw x
    by_cases q : s.out o = none
    · rw [if_pos q, List.count_append, h]
      by_cases e : x = o
      · subst e
        have hq : s0.out x = none := by
          cases z : s0.out x with
          | none => rfl
          | some b => have := m.old x (by rw [z]; simp); rw [q, z] at this; cases this
        simp [hq, q]
      · have : [o].count x = 0 := by rw [List.count_singleton, if_neg (by simpa using fun z => e z.symm)]
        rw [this, if_neg e, Nat.add_zero]
    · rw [if_neg q, h]
      by_cases e : x = o
      · subst e
        rw [if_pos rfl]
        simp [q]
      · rw [if_neg e]
  · rw [on]
    have h := m.co x y
    by_cases e : y = o
    · subst e
      rw [if_pos rfl, List.count_append, h, List.count_append]
      by_cases e2 : x = k
      · subst e2; simp [Nat.add_assoc]
      · have : [k].count x = 0 := by rw [List.count_singleton, if_neg (by simpa using fun z => e2 z.symm)]
        simp [e2, this]
    · rw [if_neg e, h, List.count_append]
      have : [o].count y = 0 := by rw [List.count_singleton, if_neg (by simpa using fun z => e z.symm)]
      rw [this, Nat.add_zero]
  · rw [out] at hx
    rw [work]
    by_cases e : x = o
    · rw [if_pos e] at hx; cases hx
    · rw [if_neg e] at hx
      have := m.none x hx
      split
      · intro h
        rcases List.mem_append.1 h with h | h
        · exact this h
        · exact e (by simpa using h)
      · exact this
theorem mid_all {U : List K} {start : K} {ps : List K} {k : K} {s0 : St K} : ∀ (os done : List K) (s : St K), (∀ o ∈ os, o ∈ U) → Mid U start ps k s0 done s → Mid U start ps k s0 (done ++ os) (asks k os s)
  | [], done, s, _, m => by rw [List.append_nil]; exact m
  | o :: os, done, s, h, m => by
    have := mid_all os (done ++ [o]) (ask1 k s o) (fun x hx => h x (List.mem_cons_of_mem _ hx)) (mid_step m (h o (List.mem_cons_self ..)))
    rw [List.append_assoc] at this
    exact this
theorem two_pow_add (x c : Nat) : 2 ^ x + 2 ^ x * c ≤ 2 ^ (x + c) := by
  induction c with
  | zero => simp
  | succ c ih =>
    rw [← Nat.add_assoc, Nat.pow_succ, Nat.mul_succ]
    have : 2 ^ x ≤ 2 ^ (x + c) := Nat.pow_le_pow_right (by omega) (by omega)
    omega
variable {asked rule}
theorem length_le {U : List K} {c : Nat} : ∀ {l : List K}, (∀ x ∈ l, x ∈ U) → (∀ x, l.count x ≤ c) → l.length ≤ U.length * c := by
  induction U with
  | nil => intro l h _; cases l with
    | nil => simp
    | cons x l => exact absurd (h x (by simp)) (by simp)
  | cons u U ih =>
    intro l h hc
    have h1 : l.length = l.count u + (l.filter fun x => x ≠ u).length := by
      clear h hc
      induction l with
      | nil => rfl
      | cons x l ih =>
        rw [List.length_cons, List.count_cons, ih]
        by_cases e : x = u
        · subst e
          rw [List.filter_cons_of_neg (by simp)]
          simp; omega
        · have q : (x == u) = false := by simpa using e
          rw [List.filter_cons_of_pos (by simpa using e), q, List.length_cons]
          simp; omega
    have h2 : (l.filter fun x => x ≠ u).length ≤ U.length * c := by
      apply ih
      · intro x hx
        obtain ⟨g1, g2⟩ := List.mem_filter.1 hx
        have g2 : x ≠ u := by simpa using g2
        rcases List.mem_cons.1 (h x g1) with e | e
        · exact absurd e g2
        · exact e
      · intro x
        exact Nat.le_trans (List.Sublist.count_le x List.filter_sublist) (hc x)
    have := hc u
    rw [List.length_cons, Nat.add_mul, Nat.one_mul]
    omega
theorem Inv.ps_len {U : List K} {start : K} {ps : List K} {s : St K} (I : Inv asked rule U start ps s) {m : Nat} (hm : ∀ k, (asked k).length ≤ m) : ps.length ≤ U.length * 2 ^ m :=
  length_le I.psU fun x => Nat.le_trans (Nat.le_trans (Nat.le_add_left _ _) (I.cw x)) (Nat.pow_le_pow_right (by omega) (Nat.le_trans List.countP_le_length (hm x)))
theorem Inv.work_len {U : List K} {start : K} {ps : List K} {s : St K} (I : Inv asked rule U start ps s) {m : Nat} (hm : ∀ k, (asked k).length ≤ m) : s.work.length ≤ U.length * 2 ^ m :=
  length_le (fun x hx => I.dom x fun h => (I.new x h).1 hx) fun x => Nat.le_trans (Nat.le_trans (Nat.le_add_right _ _) (I.cw x)) (Nat.pow_le_pow_right (by omega) (Nat.le_trans List.countP_le_length (hm x)))
theorem Inv.on_len {U : List K} {start : K} {ps : List K} {s : St K} (I : Inv asked rule U start ps s) {m : Nat} (hm : ∀ k, (asked k).length ≤ m) (o : K) : (s.on o).length ≤ U.length * (2 ^ m * m) := by
  refine length_le (fun x hx => I.psU x ?_) fun x => Nat.le_trans (I.co x o) (Nat.mul_le_mul (Nat.le_trans (Nat.le_trans (Nat.le_add_left _ _) (I.cw x)) (Nat.pow_le_pow_right (by omega) (Nat.le_trans List.countP_le_length (hm x)))) (Nat.le_trans List.count_le_length (hm x)))
  have h1 : 0 < (s.on o).count x := List.count_pos_iff.2 hx
  have h2 := I.co x o
  apply List.count_pos_iff.1
  rcases Nat.eq_zero_or_pos (ps.count x) with z | z
  · rw [z, Nat.zero_mul] at h2; omega
  · exact z
theorem Inv.done (mono : ∀ k (f g : K → Bool), (∀ o ∈ asked k, f o = true → g o = true) → rule k f = true → rule k g = true) {U : List K} {start : K} {ps : List K} {s : St K} (I : Inv asked rule U start ps s) (hw : s.work = []) : s.out start = some true ↔ Gfp rule start := by
  constructor
  · intro h
    refine ⟨fun k => s.out k = some true, h, fun k hk f hf => ?_⟩
    rcases I.good k hk with z | ⟨h1, h2⟩
    · rw [hw] at z; cases z
    · refine mono k (ans s) f (fun o ho z => hf o ?_) h2
      obtain ⟨g1, _⟩ := h1 o ho
      cases q : s.out o with
      | none => exact absurd q g1
      | some b => rw [ans, q] at z; simpa using z
  · intro h
    cases q : s.out start with
    | none => exact absurd q I.st
    | some b => cases b with
      | true => rfl
      | false => exact absurd h (I.bad start q)
end Go.PL.Sv
end
section
namespace Go.PL.Sv
open Go.PG
variable {K : Type} [DecidableEq K] {f : K → K → Bool}
def outOf (f : K → K → Bool) (xs : List (K × Bool)) (k : K) : Option Bool := if P.mhas f xs k = true then some (P.mval f xs k false) else none
def onOf (f : K → K → Bool) (xs : List (K × Option (List K))) (k : K) : List K := (P.dget f xs k).getD []
def Tidy (xs : List (K × Option (List K))) : Prop := (xs.map Prod.fst).Nodup ∧ ∀ p ∈ xs, p.2 ≠ none
theorem out_nil : outOf f [] = fun _ => none := by funext k; simp [outOf, P.mhas]
theorem on_nil : onOf f [] = fun _ => [] := by funext k; simp [onOf, P.dget]
theorem tidy_nil : Tidy ([] : List (K × Option (List K))) := ⟨by simp, by simp⟩
theorem out_put (hf : ∀ x y, f x y = true ↔ x = y) (k : K) (v : Bool) : ∀ (xs : List (K × Bool)), outOf f (P.mput f xs k v) = up (outOf f xs) k (some v) := by
  have ff : ∀ {x y}, x ≠ y → f x y = false := fun {x y} h => by
    cases q : f x y with
    | false => rfl
    | true => exact absurd ((hf x y).1 q) h
  intro xs
  funext x
  induction xs with
  | nil =>
    by_cases e : x = k
    · subst e; simp [outOf, P.mput, P.mhas, P.mval, (hf x x).2 rfl, up]
    · simp [outOf, P.mput, P.mhas, ff e, up, e]
  | cons p xs ih =>
    simp only [P.mput]
    cases q : f k p.1 with
    | true =>
      have hp := (hf k p.1).1 q
      by_cases e : x = k
      · subst e; simp [outOf, P.mhas, P.mval, (hf x x).2 rfl, up]
      · have e2 : f x p.1 = false := ff (by rw [← hp]; exact e)
        simp [outOf, P.mhas, P.mval, ff e, e2, up, e]
    | false =>
      cases q2 : f x p.1 with
      | true =>
        have hx := (hf x p.1).1 q2
        have e : x ≠ k := fun e => by rw [e] at q2; rw [q2] at q; cases q
        simp [outOf, P.mhas, P.mval, q2, up, e]
      | false =>
        have : outOf f (p :: P.mput f xs k v) x = outOf f (P.mput f xs k v) x := by simp [outOf, P.mhas, P.mval, q2]
        rw [this, ih]
        by_cases e : x = k
        · simp [up, e]
        · simp [up, e, outOf, P.mhas, P.mval, q2]
theorem val_of {xs : List (K × Bool)} : ∀ {k : K}, P.mval f xs k false = (outOf f xs k).getD false := by
  intro k
  unfold outOf
  induction xs with
  | nil => rfl
  | cons p xs ih =>
    cases q : f k p.1 with
    | true => simp [P.mval, P.mhas, q]
    | false => simpa [P.mval, P.mhas, q] using ih
theorem dget_some {xs : List (K × Option (List K))} (h : ∀ p ∈ xs, p.2 ≠ none) (k : K) : P.dget f xs k = some (onOf f xs k) := by
  unfold onOf
  induction xs with
  | nil => rfl
  | cons p xs ih =>
    simp only [P.dget]
    cases f k p.1 with
    | true =>
      cases q : p.2 with
      | none => exact absurd q (h p (List.mem_cons_self ..))
      | some l => rfl
    | false => exact ih fun q hq => h q (List.mem_cons_of_mem _ hq)
theorem put_keys (hf : ∀ x y, f x y = true ↔ x = y) {β : Type} (k : K) (v : β) : ∀ (xs : List (K × β)), (P.mput f xs k v).map Prod.fst = if k ∈ xs.map Prod.fst then xs.map Prod.fst else xs.map Prod.fst ++ [k] := by
  intro xs
  induction xs with
  | nil => rfl
  | cons p xs ih =>
    simp only [P.mput]
    cases q : f k p.1 with
    | true =>
      have hp := (hf k p.1).1 q
      simp [hp]
    | false =>
      have hp : k ≠ p.1 := fun e => by rw [(hf k p.1).2 e] at q; cases q
      simp only [List.map_cons, ih, List.mem_cons, hp, false_or]
      split <;> simp
theorem take_keys (k : K) : ∀ (xs : List (K × Option (List K))), (P.dtake f xs k).map Prod.fst = xs.map Prod.fst := by
  intro xs
  induction xs with
  | nil => rfl
  | cons p xs ih =>
    simp only [P.dtake]
    cases f k p.1 with
    | true => rfl
    | false => simp [ih]
theorem put_take (hf : ∀ x y, f x y = true ↔ x = y) (k : K) (l : List K) : ∀ {xs : List (K × Option (List K))}, Tidy xs → Tidy (P.mput f (P.dtake f xs k) k (some l)) ∧ onOf f (P.mput f (P.dtake f xs k) k (some l)) = up (onOf f xs) k l := by
  have ff : ∀ {x y}, x ≠ y → f x y = false := fun {x y} h => by
    cases q : f x y with
    | false => rfl
    | true => exact absurd ((hf x y).1 q) h
  intro xs h
  refine ⟨⟨?_, ?_⟩, ?_⟩
  · rw [put_keys hf, take_keys]
    split
    · exact h.1
    · rename_i q
      exact List.nodup_append.2 ⟨h.1, by simp, fun a ha b hb => by
        have : b = k := by simpa using hb
        subst this; exact fun e => q (e ▸ ha)⟩
  · have := h.2
    clear h
    induction xs with
    | nil => intro p hp; simp [P.dtake, P.mput] at hp; subst hp; simp
    | cons p xs ih =>
      simp only [P.dtake]
      cases q : f k p.1 with
      | true =>
        simp only [P.mput, q]
        intro r hr
        rcases List.mem_cons.1 hr with rfl | hr
        · simp
        · exact this r (List.mem_cons_of_mem _ hr)
      | false =>
        simp only [P.mput, q]
        intro r hr
        rcases List.mem_cons.1 hr with rfl | hr
        · exact this r (List.mem_cons_self ..)
        · exact ih (fun s hs => this s (List.mem_cons_of_mem _ hs)) r hr
  · funext x
    have := h.2
    clear h
    induction xs with
    | nil =>
      by_cases e : x = k
      · subst e; simp [onOf, P.dtake, P.mput, P.dget, (hf x x).2 rfl, up]
      · simp [onOf, P.dtake, P.mput, P.dget, ff e, up, e]
    | cons p xs ih =>
      simp only [P.dtake]
      cases q : f k p.1 with
      | true =>
        have hp := (hf k p.1).1 q
        simp only [P.mput, q]
        by_cases e : x = k
        · subst e; simp [onOf, P.dget, (hf x x).2 rfl, up]
        · have e2 : f x p.1 = false := ff (by rw [← hp]; exact e)
          simp [onOf, P.dget, ff e, e2, up, e]
      | false =>
        simp only [P.mput, q]
        cases q2 : f x p.1 with
        | true =>
          have hx := (hf x p.1).1 q2
          have e : x ≠ k := fun e => by rw [e] at q2; rw [q2] at q; cases q
          simp [onOf, P.dget, q2, up, e]
        | false =>
          have t : ∀ ys : List (K × Option (List K)), onOf f (p :: ys) x = onOf f ys x := fun ys => by simp [onOf, P.dget, q2]
          rw [t, ih fun r hr => this r (List.mem_cons_of_mem _ hr)]
          by_cases e : x = k
          · simp [up, e]
          · simp only [up, if_neg e]; rw [t]
theorem del_take (hf : ∀ x y, f x y = true ↔ x = y) (k : K) : ∀ {xs : List (K × Option (List K))}, Tidy xs → Tidy (P.mdel f (P.dtake f xs k) k) ∧ onOf f (P.mdel f (P.dtake f xs k) k) = up (onOf f xs) k [] := by
  have ff : ∀ {x y}, x ≠ y → f x y = false := fun {x y} h => by
    cases q : f x y with
    | false => rfl
    | true => exact absurd ((hf x y).1 q) h
  intro xs h
  induction xs with
  | nil => exact ⟨tidy_nil, by funext x; simp [onOf, P.dtake, P.mdel, P.dget, up]⟩
  | cons p xs ih =>
    obtain ⟨h1, h2⟩ := h
    rw [List.map_cons, List.nodup_cons] at h1
    have ht : Tidy xs := ⟨h1.2, fun q hq => h2 q (List.mem_cons_of_mem _ hq)⟩
    simp only [P.dtake]
    cases q : f k p.1 with
    | true =>
      have hp := (hf k p.1).1 q
      simp only [P.mdel, q]
      refine ⟨ht, ?_⟩
      funext x
      by_cases e : x = k
      · subst e
        simp only [up, if_true]
        have : ∀ ys : List (K × Option (List K)), x ∉ ys.map Prod.fst → onOf f ys x = [] := by
          intro ys
          induction ys with
          | nil => intro _; rfl
          | cons r ys ih2 =>
            intro hn
            simp only [List.map_cons, List.mem_cons, not_or] at hn
            have := ih2 hn.2
            simp only [onOf, P.dget, ff hn.1] at this ⊢
            exact this
        exact this xs (by rw [hp]; exact h1.1)
      · have e2 : f x p.1 = false := ff (by rw [← hp]; exact e)
        simp [up, e, onOf, P.dget, e2]
    | false =>
      simp only [P.mdel, q]
      obtain ⟨g1, g2⟩ := ih ht
      refine ⟨⟨?_, fun r hr => ?_⟩, ?_⟩
      · rw [List.map_cons, List.nodup_cons]
        refine ⟨fun z => h1.1 ?_, g1.1⟩
        obtain ⟨r, hr, hr2⟩ := List.mem_map.1 z
        have : ∀ (ys : List (K × Option (List K))) (r : K × Option (List K)), r ∈ P.mdel f ys k → r.1 ∈ ys.map Prod.fst := by
          intro ys
          induction ys with
          | nil => intro r hr; simp [P.mdel] at hr
          | cons s ys ih2 =>
            intro r hr
            simp only [P.mdel] at hr
            split at hr
            · exact List.mem_map.2 ⟨r, List.mem_cons_of_mem _ hr, rfl⟩
            · rcases List.mem_cons.1 hr with rfl | hr
              · simp
              · simp only [List.map_cons, List.mem_cons]; exact .inr (ih2 r hr)
        have := this _ r hr
        rw [take_keys] at this
        rw [← hr2]
        exact this
      · rcases List.mem_cons.1 hr with rfl | hr
        · exact h2 r (List.mem_cons_self ..)
        · exact g1.2 r hr
      · funext x
        cases q2 : f x p.1 with
        | true =>
          have hx := (hf x p.1).1 q2
          have e : x ≠ k := fun e => by rw [e] at q2; rw [q2] at q; cases q
          simp [onOf, P.dget, q2, up, e]
        | false =>
          have t : ∀ ys : List (K × Option (List K)), onOf f (p :: ys) x = onOf f ys x := fun ys => by simp [onOf, P.dget, q2]
          rw [t, g2]
          by_cases e : x = k
          · simp [up, e]
          · simp only [up, if_neg e]; rw [t]
end Go.PL.Sv
end
section
namespace Go.PL.Ty
open Go.PG Go.PL.Sv
abbrev Tf := ByteArray × Int
abbrev Tt := Int × List Tf × List Int
def at_ (t : List Tt) (x : Int) : Tt := P.get t x (0, [], [])
def fieldT : List Tf → ByteArray → Option Int
  | [], _ => none
  | f :: r, s => if f.1 = s then some f.2 else fieldT r s
def RuleP (t : List Tt) (R : Int × Int → Prop) (p : Int × Int) : Prop :=
  if (at_ t p.1).1 = 5 then ∀ e ∈ (at_ t p.1).2.2, R (e, p.2)
  else if (at_ t p.2).1 = 5 then ∃ e ∈ (at_ t p.2).2.2, R (p.1, e)
  else if (at_ t p.2).1 = 0 then True
  else if (at_ t p.1).1 ≠ (at_ t p.2).1 then False
  else ∀ f ∈ (at_ t p.2).2.1, ∃ k, fieldT (at_ t p.1).2.1 f.1 = some k ∧ R (k, f.2)
def fieldB (l : List Tf) (g : Int × Int → Bool) (f : Tf) : Bool := match fieldT l f.1 with
  | some k => g (k, f.2)
  | none => false
def ruleB (t : List Tt) (p : Int × Int) (g : Int × Int → Bool) : Bool :=
  if (at_ t p.1).1 = 5 then (at_ t p.1).2.2.all fun e => g (e, p.2)
  else if (at_ t p.2).1 = 5 then (at_ t p.2).2.2.any fun e => g (p.1, e)
  else if (at_ t p.2).1 = 0 then true
  else if (at_ t p.1).1 ≠ (at_ t p.2).1 then false
  else (at_ t p.2).2.1.all (fieldB (at_ t p.1).2.1 g)
def asked (t : List Tt) (p : Int × Int) : List (Int × Int) :=
  if (at_ t p.1).1 = 5 then (at_ t p.1).2.2.map fun e => (e, p.2)
  else if (at_ t p.2).1 = 5 then (at_ t p.2).2.2.map fun e => (p.1, e)
  else if (at_ t p.2).1 = 0 then []
  else if (at_ t p.1).1 ≠ (at_ t p.2).1 then []
  else (at_ t p.2).2.1.filterMap fun f => (fieldT (at_ t p.1).2.1 f.1).map fun k => (k, f.2)
theorem ruleB_iff {t : List Tt} {p : Int × Int} {g : Int × Int → Bool} : ruleB t p g = true ↔ RuleP t (fun q => g q = true) p := by
  unfold ruleB RuleP
  split
  · simp
  · split
    · simp
    · split
      · simp
      · split
        · simp
        · rw [List.all_eq_true]
          refine forall_congr' fun f => forall_congr' fun _ => ?_
          unfold fieldB
          cases fieldT (at_ t p.1).2.1 f.1 <;> simp
theorem RuleP.mono {t : List Tt} {R R' : Int × Int → Prop} {p : Int × Int} (h : ∀ o ∈ asked t p, R o → R' o) (hp : RuleP t R p) : RuleP t R' p := by
  unfold RuleP at hp ⊢
  unfold asked at h
  split at hp
  · rename_i c; rw [if_pos c] at h ⊢
    exact fun e he => h _ (List.mem_map.2 ⟨e, he, rfl⟩) (hp e he)
  · rename_i c; rw [if_neg c] at h ⊢
    split at hp
    · rename_i c; rw [if_pos c] at h ⊢
      obtain ⟨e, he, hp⟩ := hp
      exact ⟨e, he, h _ (List.mem_map.2 ⟨e, he, rfl⟩) hp⟩
    · rename_i c; rw [if_neg c] at h ⊢
      split at hp
      · rename_i c; rw [if_pos c]; trivial
      · rename_i c; rw [if_neg c] at h ⊢
        split at hp
        · exact hp.elim
        · rename_i c; rw [if_neg c] at h ⊢
          intro f hf
          obtain ⟨k, hk, hR⟩ := hp f hf
          exact ⟨k, hk, h _ (List.mem_filterMap.2 ⟨f, hf, by rw [hk]; rfl⟩) hR⟩
theorem rule_mono (t : List Tt) : ∀ k (f g : Int × Int → Bool), (∀ o ∈ asked t k, f o = true → g o = true) → ruleB t k f = true → ruleB t k g = true :=
  fun _ _ _ h hr => ruleB_iff.2 (RuleP.mono h (ruleB_iff.1 hr))
def Sub (t : List Tt) (a b : Int) : Prop := Gfp (ruleB t) (a, b)
open Classical in
theorem holds_iff {t : List Tt} {T : Int × Int → Prop} : Holds (ruleB t) T ↔ ∀ p, T p → RuleP t T p := by
  constructor
  · intro h p hp
    have := ruleB_iff.1 (h p hp (fun q => decide (T q)) fun o ho => by simpa using ho)
    exact this.mono fun o _ q => by simpa using q
  · intro h p hp f hf
    exact ruleB_iff.2 ((h p hp).mono fun o _ q => hf o q)
theorem sub_rule {t : List Tt} {a b : Int} (h : Sub t a b) : RuleP t (fun q => Sub t q.1 q.2) (a, b) :=
  holds_iff.1 (gfp_holds (asked t) (ruleB t) (rule_mono t)) (a, b) h
structure MayT (t : List Tt) : Prop where
  elem : ∀ (i : Nat) (x : Tt), t[i]? = some x → ∀ e ∈ x.2.2, 0 ≤ e ∧ e < (i : Int)
  fld : ∀ (i : Nat) (x : Tt), t[i]? = some x → ∀ f ∈ x.2.1, 0 ≤ f.2 ∧ f.2 < (t.length : Int)
  names : ∀ (i : Nat) (x : Tt), t[i]? = some x → (x.2.1.map Prod.fst).Nodup
  kind : ∀ (i : Nat) (x : Tt), t[i]? = some x → 0 ≤ x.1 ∧ x.1 ≤ 5 ∧ (x.1 ≠ 4 → x.2.1 = []) ∧ (x.1 ≠ 5 → x.2.2 = [])
theorem at_cases (t : List Tt) (x : Int) : (∃ i : Nat, (i : Int) = x ∧ t[i]? = some (at_ t x)) ∨ (∃ i : Nat, x.toNat = i ∧ t[i]? = some (at_ t x)) ∨ at_ t x = (0, [], []) := by
  unfold at_ P.get
  cases h : t[x.toNat]? with
  | none => exact .inr (.inr (by rw [List.getD_eq_getElem?_getD, h]; rfl))
  | some y => exact .inr (.inl ⟨x.toNat, rfl, by rw [List.getD_eq_getElem?_getD, h]; rfl⟩)
theorem at_pos {t : List Tt} {x : Int} (h : (at_ t x).1 ≠ 0) : t[x.toNat]? = some (at_ t x) := by
  rcases at_cases t x with ⟨i, e, q⟩ | ⟨i, e, q⟩ | q
  · rw [show x.toNat = i by omega]; exact q
  · rw [e]; exact q
  · rw [q] at h; exact absurd rfl h
theorem MayT.elem_lt {t : List Tt} (h : MayT t) {x e : Int} (k : (at_ t x).1 = 5) (he : e ∈ (at_ t x).2.2) : 0 ≤ e ∧ e.toNat < x.toNat := by
  have := h.elem _ _ (at_pos (by rw [k]; decide)) e he
  omega
theorem fieldT_mem {l : List Tf} {s : ByteArray} {k : Int} (h : fieldT l s = some k) : (s, k) ∈ l := by
  induction l with
  | nil => cases h
  | cons f l ih =>
    simp only [fieldT] at h
    split at h
    · rename_i e; injection h with h; subst h; subst e; simp
    · exact List.mem_cons_of_mem _ (ih h)
inductive Under (t : List Tt) : Int → Int → Prop where
  | refl (x : Int) : Under t x x
  | step {x y e : Int} (k : (at_ t y).1 = 5) (he : e ∈ (at_ t y).2.2) (h : Under t x e) : Under t x y
theorem Under.trans {t : List Tt} {x y z : Int} (h : Under t x y) (g : Under t y z) : Under t x z := by
  induction g with
  | refl => exact h
  | step k he _ ih => exact .step k he ih
abbrev Vl := Int × Int
def kindOf (k : Int) : Int := if k = 1 then 0 else if k = 2 then 1 else if k = 3 then 2 else if k = 4 then 4 else 0
def RuleI (t : List Tt) (look : Vl → ByteArray → Option Vl) (R : Vl × Int → Prop) (p : Vl × Int) : Prop :=
  if (at_ t p.2).1 = 0 then True
  else if (at_ t p.2).1 = 5 then ∃ e ∈ (at_ t p.2).2.2, R (p.1, e)
  else if kindOf (at_ t p.2).1 ≠ p.1.1 then False
  else ∀ f ∈ (at_ t p.2).2.1, ∃ w, look p.1 f.1 = some w ∧ R (w, f.2)
def askedI (t : List Tt) (look : Vl → ByteArray → Option Vl) (p : Vl × Int) : List (Vl × Int) :=
  if (at_ t p.2).1 = 0 then []
  else if (at_ t p.2).1 = 5 then (at_ t p.2).2.2.map fun e => (p.1, e)
  else if kindOf (at_ t p.2).1 ≠ p.1.1 then []
  else (at_ t p.2).2.1.filterMap fun f => (look p.1 f.1).map fun k => (k, f.2)
theorem RuleI.mono {t : List Tt} {look : Vl → ByteArray → Option Vl} {R R' : Vl × Int → Prop} {p : Vl × Int} (h : ∀ o ∈ askedI t look p, R o → R' o) (hp : RuleI t look R p) : RuleI t look R' p := by
  unfold RuleI at hp ⊢
  unfold askedI at h
  split at hp
  · rename_i c; rw [if_pos c]; trivial
  · rename_i c; rw [if_neg c] at h ⊢
    split at hp
    · rename_i c; rw [if_pos c] at h ⊢
      obtain ⟨e, he, hp⟩ := hp
      exact ⟨e, he, h _ (List.mem_map.2 ⟨e, he, rfl⟩) hp⟩
    · rename_i c; rw [if_neg c] at h ⊢
      split at hp
      · exact hp.elim
      · rename_i c; rw [if_neg c] at h ⊢
        intro f hf
        obtain ⟨k, hk, hR⟩ := hp f hf
        exact ⟨k, hk, h _ (List.mem_filterMap.2 ⟨f, hf, by rw [hk]; rfl⟩) hR⟩
def Inn (t : List Tt) (x : Int) : Prop := x.toNat < t.length
theorem asked_inn {t : List Tt} (h : MayT t) {p : Int × Int} (h1 : Inn t p.1) (h2 : Inn t p.2) : ∀ o ∈ asked t p, (Inn t o.1 ∧ Inn t o.2) ∧ ((0 ≤ p.1 → 0 ≤ o.1) ∧ (0 ≤ p.2 → 0 ≤ o.2)) := by
  intro o ho
  unfold Inn at *
  unfold asked at ho
  split at ho
  · rename_i k
    obtain ⟨e, he, rfl⟩ := List.mem_map.1 ho
    have := h.elem_lt k he
    exact ⟨⟨by show e.toNat < _; omega, h2⟩, fun _ => this.1, fun z => z⟩
  · split at ho
    · rename_i k
      obtain ⟨e, he, rfl⟩ := List.mem_map.1 ho
      have := h.elem_lt k he
      exact ⟨⟨h1, by show e.toNat < _; omega⟩, fun z => z, fun _ => this.1⟩
    · split at ho
      · cases ho
      · split at ho
        · cases ho
        · rename_i k0 k
          obtain ⟨f, hf, ho⟩ := List.mem_filterMap.1 ho
          cases q : fieldT (at_ t p.1).2.1 f.1 with
          | none => rw [q] at ho; cases ho
          | some j =>
            rw [q] at ho
            injection ho with ho
            subst ho
            have k0' : (at_ t p.1).1 ≠ 0 := by
              have : (at_ t p.1).1 = (at_ t p.2).1 := by simpa using k
              rw [this]; exact k0
            have a1 := h.fld _ _ (at_pos k0') _ (fieldT_mem q)
            have a2 := h.fld _ _ (at_pos k0) f hf
            simp only at a1
            exact ⟨⟨by show j.toNat < _; omega, by show f.2.toNat < _; omega⟩, fun _ => a1.1, fun _ => a2.1⟩
end Go.PL.Ty
end
section
open Go Go.PG Go.PL
set_option linter.all false
namespace Go.PL.Ty
def K : Nat := 18446744073709551616
theorem getD_mem {α : Type} {l : List α} {i : Nat} (h : i < l.length) (d : α) : l.getD i d ∈ l := by
  simp [List.getD_eq_getElem?_getD, h]
theorem forall_getD {α : Type} {l : List α} (d : α) {p : α → Prop} : (∀ i, i < l.length → p (l.getD i d)) ↔ ∀ f, f ∈ l → p f := by
  constructor
  · intro h f hf
    obtain ⟨i, hi, rfl⟩ := List.getElem_of_mem hf
    have := h i hi
    simpa [List.getD_eq_getElem?_getD, hi] using this
  · intro h i hi; exact h _ (getD_mem hi d)
theorem pair_steps {α : Type} {R : α → α → Prop} (tr : ∀ {a b c}, R a b → R b c → R a c) (l : List α) (d : α) : (∀ i, i < l.length → 0 < i → R (l.getD (i - 1) d) (l.getD i d)) ↔ l.Pairwise R := by
  constructor
  · intro h
    have key : ∀ k i, i + k + 1 < l.length → R (l.getD i d) (l.getD (i + k + 1) d) := by
      intro k
      induction k with
      | zero => intro i hi; have := h (i + 1) hi (by omega); simpa using this
      | succ k ih =>
        intro i hi
        have h1 := ih i (by omega)
        have h2 := h (i + (k + 1) + 1) hi (by omega)
        rw [show i + (k + 1) + 1 - 1 = i + k + 1 by omega] at h2
        exact tr h1 h2
    refine List.pairwise_iff_getElem.2 fun i j hi hj hij => ?_
    have := key (j - i - 1) i (by omega)
    rw [show i + (j - i - 1) + 1 = j by omega] at this
    simpa [List.getD_eq_getElem?_getD, hi, hj] using this
  · intro h i hi h0
    have := List.pairwise_iff_getElem.1 h (i - 1) i (by omega) hi (by omega)
    simpa [List.getD_eq_getElem?_getD, hi, show i - 1 < l.length by omega] using this
theorem ilt_len {α : Type} {l : List α} {i : Nat} (h : i < l.length) : P.ilt (i : Int) (P.len l) = true := ilt_iff.2 (by rw [len_eq]; omega)
theorem ilt_end {α : Type} (l : List α) : P.ilt (l.length : Int) (P.len l) = false := by rw [Bool.eq_false_iff, Ne, ilt_iff, len_eq]; omega
theorem inb_len {α : Type} {l : List α} {i : Nat} (h : i < l.length) : P.inb (i : Int) (P.len l) = true := inb_iff.2 (by rw [len_eq]; omega)
theorem not_true : P.not true = false := rfl
theorem not_false' : P.not false = true := rfl
theorem cond_dec {α : Type} (p : Prop) [Decidable p] (x y : α) : P.cond (decide p) x y = if p then x else y := by
  by_cases h : p
  · rw [decide_eq_true h, if_pos h]; rfl
  · rw [decide_eq_false h, if_neg h]; rfl
theorem cond_ndec {α : Type} (p : Prop) [Decidable p] (x y : α) : P.cond (P.not (decide p)) x y = if p then y else x := by
  by_cases h : p
  · rw [decide_eq_true h, if_pos h]; rfl
  · rw [decide_eq_false h, if_neg h]; rfl
theorem slt_dec (a b : ByteArray) : P.slt a b = decide (ltS a b) := by rw [Bool.eq_iff_iff, slt_iff, decide_eq_true_eq]
theorem seq_dec (a b : ByteArray) : P.seq a b = decide (a = b) := by rw [Bool.eq_iff_iff, seq_iff, decide_eq_true_eq]
theorem ilt_dec (a b : Int) : P.ilt a b = decide (a < b) := rfl
theorem ile_dec (a b : Int) : P.ile a b = decide (a ≤ b) := rfl
theorem loop_all {ρ σ : Type} (n : Nat) (p : Nat → Prop) [DecidablePred p] {f : Int → Option (Int ⊕ (Unit ⊕ ρ))} {A : Option σ} {B : ρ → Option σ} {r : ρ} (hn : n ≤ 9223372036854775807)
    (hs : ∀ i : Nat, i < n → f (i : Int) = some (if p i then .inl ((i + 1 : Nat) : Int) else .inr (.inr r))) (he : f (n : Int) = some (.inr (.inl ()))) :
    P.bind (P.iter K f 0) (P.either (fun (_ : Unit) => A) B) = if ∀ i, i < n → p i then A else B r := by
  rw [iter_all (n := n) (e := .inl ()) (r := .inr r) p K hs he (by unfold K; omega), bind_some]
  by_cases q : ∀ i, i < n → p i
  · rw [if_pos q, if_pos q]; rfl
  · rw [if_neg q, if_neg q]; rfl
theorem range_map {α : Type} (l : List α) (d : α) : (List.range l.length).map (fun i => l.getD i d) = l := by
  apply List.ext_getElem
  · simp
  · intro i h1 h2
    simp at h1
    simp [List.getD_eq_getElem?_getD, h1]
theorem range_findSome {α ρ : Type} (l : List α) (d : α) (h : α → Option ρ) : (List.range l.length).findSome? (fun i => h (l.getD i d)) = l.findSome? h := by
  conv => rhs; rw [← range_map l d]
  rw [List.findSome?_map]; rfl
theorem findSome_if {α ρ : Type} (q : α → Prop) [DecidablePred q] (g : α → ρ) : ∀ l : List α, l.findSome? (fun x => if q x then some (g x) else none) = (l.find? fun x => decide (q x)).map g := by
  intro l
  induction l with
  | nil => rfl
  | cons a l ih =>
    rw [List.findSome?_cons, List.find?_cons]
    by_cases h : q a
    · rw [if_pos h, decide_eq_true h]; rfl
    · rw [if_neg h, decide_eq_false h]; exact ih
theorem loop_find {α ρ σ : Type} (l : List α) (d : α) (q : α → Prop) [DecidablePred q] (g : α → ρ) {f : Int → Option (Int ⊕ (Unit ⊕ ρ))} {A : Option σ} {B : ρ → Option σ} (hn : l.length ≤ 1000000000)
    (hs : ∀ i : Nat, i < l.length → f (i : Int) = some (if q (l.getD i d) then .inr (.inr (g (l.getD i d))) else .inl ((i + 1 : Nat) : Int))) (he : f (l.length : Int) = some (.inr (.inl ()))) :
    P.bind (P.iter K f 0) (P.either (fun (_ : Unit) => A) B) = match l.find? fun x => decide (q x) with
      | some x => B (g x)
      | none => A := by
  rw [iter_find0 (n := l.length) (e := .inl ()) (fun i => if q (l.getD i d) then some (.inr (g (l.getD i d))) else none) K (fun i hi => by
    rw [hs i hi]
    by_cases h : q (l.getD i d)
    · rw [if_pos h, if_pos h]
    · rw [if_neg h, if_neg h]) he (by unfold K; omega)]
  rw [range_findSome l d (fun x => if q x then some (Sum.inr (g x) : Unit ⊕ ρ) else none), findSome_if q (fun x => (Sum.inr (g x) : Unit ⊕ ρ)) l, bind_some]
  cases l.find? fun x => decide (q x) with
  | none => rfl
  | some x => rfl
end Go.PL.Ty
end
section
open Go Go.PG Go.PL
set_option linter.all false
namespace Go.PL.Ty
abbrev dT : Tt := (0, [], [])
abbrev dF : Tf := (⟨#[]⟩, 0)
theorem get_T (t : List Tt) (i : Nat) : P.get t (i : Int) (0, [], []) = t.getD i dT := get_nat t i _
theorem get_F (t : List Tf) (i : Nat) : P.get t (i : Int) (⟨#[]⟩, 0) = t.getD i dF := get_nat t i _
theorem get_I (t : List Int) (i : Nat) : P.get t (i : Int) 0 = t.getD i 0 := get_nat t i _
theorem get_dT (t : List Tt) (x : Int) : P.get t x (0, [], []) = at_ t x := rfl
abbrev RisesT (l : List Tf) : Prop := l.Pairwise fun a b => ltS a.1 b.1
theorem rises_nodup {l : List Tf} (h : RisesT l) : (l.map Prod.fst).Nodup := by
  rw [List.nodup_iff_pairwise_ne, List.pairwise_map]
  exact h.imp fun {a b} (q : ltS a.1 b.1) (e : a.1 = b.1) => ltS_irrefl b.1 (by rw [e] at q; exact q)
theorem fieldT_find (l : List Tf) (s : ByteArray) : fieldT l s = (l.find? fun a => decide (a.1 = s)).map Prod.snd := by
  induction l with
  | nil => rfl
  | cons f l ih =>
    simp only [fieldT, List.find?_cons]
    by_cases e : f.1 = s
    · simp [e]
    · simp [e, ih]
def fieldR (l : List Tf) (s : ByteArray) : Int × Bool := match fieldT l s with
  | some k => (k, true)
  | none => (0, false)
theorem ref_field (x : Tt) (n : ByteArray) (hl : x.2.1.length ≤ 1000000) : ref24_Field K (x, n) = some (fieldR x.2.1 n) := by
  unfold ref24_Field
  try dsimp only
  rw [loop_find x.2.1 dF (fun b => b.1 = n) (fun b => (b.2, true)) (by omega) ?_ ?_]
  · unfold fieldR
    rw [fieldT_find]
    cases x.2.1.find? fun b => decide (b.1 = n) with
    | none => rfl
    | some b => rfl
  · intro i hi
    try dsimp only
    rw [ilt_len hi, cond_true, inb_len hi, cond_true, get_F, seq_dec, cond_dec, cond_true, wrap_succ (by omega)]
    split <;> rfl
  · try dsimp only
    rw [ilt_end, cond_false]
def Inb (n : Nat) (a : Int) : Prop := 0 ≤ a ∧ a < n
instance (n : Nat) (a : Int) : Decidable (Inb n a) := by unfold Inb; exact inferInstance
def SmallT (t : List Tt) : Prop := (∀ x ∈ t, x.2.1.length ≤ 10 ∧ x.2.2.length ≤ 10) ∧ t.length ≤ 16
instance (t : List Tt) : Decidable (SmallT t) := by unfold SmallT; exact inferInstance
theorem ref_small (t : List Tt) (h : t.length ≤ 9223372036854775807) : ref24_Small K t = some (decide (SmallT t)) := by
  unfold ref24_Small
  try dsimp only
  rw [loop_all t.length (fun i => (t.getD i dT).2.1.length ≤ 10 ∧ (t.getD i dT).2.2.length ≤ 10) h (r := false) ?_ ?_]
  · by_cases q : ∀ f, f ∈ t → f.2.1.length ≤ 10 ∧ f.2.2.length ≤ 10
    · rw [if_pos (fun i hi => q _ (getD_mem hi dT)), ile_dec]
      refine congrArg some (decide_eq_decide.2 ?_)
      rw [len_eq]
      exact ⟨fun z => ⟨q, by omega⟩, fun z => by have := z.2; omega⟩
    · rw [if_neg (fun z => q ((forall_getD dT).1 z))]
      congr 1
      exact (decide_eq_false fun z => q z.1).symm
  · intro i hi
    try dsimp only
    rw [ilt_len hi, cond_true, inb_len hi, cond_true, get_T, cond_true, ilt_dec, ilt_dec, cond_dec, cond_dec, wrap_succ (by omega)]
    by_cases q : (t.getD i dT).2.1.length ≤ 10
    · rw [if_neg (by rw [len_eq]; omega)]
      by_cases q2 : (t.getD i dT).2.2.length ≤ 10
      · rw [if_neg (by rw [len_eq]; omega), if_pos ⟨q, q2⟩]
      · rw [if_pos (by rw [len_eq]; omega), if_neg (fun z => q2 z.2)]
    · rw [if_pos (by rw [len_eq]; omega), if_neg (fun z => q z.1)]
  · try dsimp only
    rw [ilt_end, cond_false]
end Go.PL.Ty
end
section
open Go Go.PG Go.PL
set_option linter.all false
namespace Go.PL.Ty
noncomputable def mayF (k : Nat) (x : List Tt) (y : Int) : Option (Int ⊕ (Unit ⊕ Bool)) := (P.bind (P.iter k (fun (y_1 : Int) => P.cond (P.ilt y_1 (P.len (P.get x y ((0 : Int), [], [])).snd.fst)) (P.cond (P.inb y_1 (P.len (P.get x y ((0 : Int), [], [])).snd.fst)) (P.cond (P.ilt (P.get (P.get x y ((0 : Int), [], [])).snd.fst y_1 ((ByteArray.mk #[]), (0 : Int))).snd ((0 : Int))) (some (Sum.inr (Sum.inr (Sum.inr (Sum.inr false))))) (P.cond (P.ile (P.len x) (P.get (P.get x y ((0 : Int), [], [])).snd.fst y_1 ((ByteArray.mk #[]), (0 : Int))).snd) (some (Sum.inr (Sum.inr (Sum.inr (Sum.inr false))))) (P.cond (P.ilt ((0 : Int)) y_1) (P.cond (P.inb (P.wrap IntKind.i64 (P.sub y_1 ((1 : Int)))) (P.len (P.get x y ((0 : Int), [], [])).snd.fst)) (P.cond (P.not (P.slt (P.get (P.get x y ((0 : Int), [], [])).snd.fst (P.wrap IntKind.i64 (P.sub y_1 ((1 : Int)))) ((ByteArray.mk #[]), (0 : Int))).fst (P.get (P.get x y ((0 : Int), [], [])).snd.fst y_1 ((ByteArray.mk #[]), (0 : Int))).fst)) (some (Sum.inr (Sum.inr (Sum.inr (Sum.inr false))))) (some (Sum.inl (P.wrap IntKind.i64 (P.add y_1 ((1 : Int))))))) none) (some (Sum.inl (P.wrap IntKind.i64 (P.add y_1 ((1 : Int))))))))) none) (some (Sum.inr (Sum.inl PUnit.unit)))) ((0 : Int))) (P.either (fun (z : PUnit) => P.bind (P.iter k (fun (y_1 : Int) => P.cond (P.ilt y_1 (P.len (P.get x y ((0 : Int), [], [])).snd.snd)) (P.cond (P.inb y_1 (P.len (P.get x y ((0 : Int), [], [])).snd.snd)) (P.cond (P.ilt (P.get (P.get x y ((0 : Int), [], [])).snd.snd y_1 ((0 : Int))) ((0 : Int))) (P.map (fun (r : Int ⊕ PUnit ⊕ Bool) => Sum.inr (Sum.inr r)) (P.cond (P.ile ((0 : Int)) y_1) (some (Sum.inr (Sum.inr false))) (some (Sum.inl (P.wrap IntKind.i64 (P.add y ((1 : Int)))))))) (P.cond (P.ile y (P.get (P.get x y ((0 : Int), [], [])).snd.snd y_1 ((0 : Int)))) (P.map (fun (r : Int ⊕ PUnit ⊕ Bool) => Sum.inr (Sum.inr r)) (P.cond (P.ile ((0 : Int)) y_1) (some (Sum.inr (Sum.inr false))) (some (Sum.inl (P.wrap IntKind.i64 (P.add y ((1 : Int)))))))) (some (Sum.inl (P.wrap IntKind.i64 (P.add y_1 ((1 : Int)))))))) none) (some (Sum.inr (Sum.inl PUnit.unit)))) ((0 : Int))) (P.either (fun (z : PUnit) => P.cond (P.ile ((0 : Int)) ((-1 : Int))) (some (Sum.inr (Sum.inr false))) (some (Sum.inl (P.wrap IntKind.i64 (P.add y ((1 : Int))))))) fun (r : Int ⊕ PUnit ⊕ Bool) => some r)) fun (r : Int ⊕ PUnit ⊕ Bool) => some r))
theorem mayF_form (k : Nat) (x : List Tt) : types_May k x = (fun (k : Nat) (x : T_api_Type.slice.D) => P.bind (P.iter k (fun (y : Int) => P.cond (P.ilt y (P.len x)) (P.cond (P.inb y (P.len x)) (P.cond (P.ilt (P.get x y ((0 : Int), [], [])).fst ((0 : Int))) (some (Sum.inr (Sum.inr false))) (P.cond (P.ile ((6 : Int)) (P.get x y ((0 : Int), [], [])).fst) (some (Sum.inr (Sum.inr false))) (P.cond (P.not (P.ieq (P.get x y ((0 : Int), [], [])).fst ((4 : Int)))) (P.cond (P.ilt ((0 : Int)) (P.len (P.get x y ((0 : Int), [], [])).snd.fst)) (some (Sum.inr (Sum.inr false))) (P.cond (P.not (P.ieq (P.get x y ((0 : Int), [], [])).fst ((5 : Int)))) (P.cond (P.ilt ((0 : Int)) (P.len (P.get x y ((0 : Int), [], [])).snd.snd)) (some (Sum.inr (Sum.inr false))) (mayF k x y)) (mayF k x y))) (P.cond (P.not (P.ieq (P.get x y ((0 : Int), [], [])).fst ((5 : Int)))) (P.cond (P.ilt ((0 : Int)) (P.len (P.get x y ((0 : Int), [], [])).snd.snd)) (some (Sum.inr (Sum.inr false))) (mayF k x y)) (mayF k x y))))) none) (some (Sum.inr (Sum.inl PUnit.unit)))) ((0 : Int))) (P.either (fun (z : PUnit) => some (P.ile (P.len x) ((200 : Int)))) fun (r : Bool) => some r)) k x := rfl
noncomputable def mayG (k : Nat) (x : List Tt) (y : Int) : Option (Int ⊕ (Unit ⊕ Bool)) := (P.bind (P.iter k (fun (y_1 : Int) => P.cond (P.ilt y_1 (P.len (P.get x y ((0 : Int), [], [])).snd.fst)) (P.cond (P.inb y_1 (P.len (P.get x y ((0 : Int), [], [])).snd.fst)) (P.cond (P.ilt (P.get (P.get x y ((0 : Int), [], [])).snd.fst y_1 ((ByteArray.mk #[]), (0 : Int))).snd ((0 : Int))) (some (Sum.inr (Sum.inr (Sum.inr (Sum.inr false))))) (P.cond (P.inb y_1 (P.len (P.get x y ((0 : Int), [], [])).snd.fst)) (P.cond (P.ile (P.len x) (P.get (P.get x y ((0 : Int), [], [])).snd.fst y_1 ((ByteArray.mk #[]), (0 : Int))).snd) (some (Sum.inr (Sum.inr (Sum.inr (Sum.inr false))))) (P.cond (P.ilt ((0 : Int)) y_1) (P.cond (P.inb (P.wrap IntKind.i64 (P.sub y_1 ((1 : Int)))) (P.len (P.get x y ((0 : Int), [], [])).snd.fst)) (P.cond (P.inb y_1 (P.len (P.get x y ((0 : Int), [], [])).snd.fst)) (P.cond (P.not (P.slt (P.get (P.get x y ((0 : Int), [], [])).snd.fst (P.wrap IntKind.i64 (P.sub y_1 ((1 : Int)))) ((ByteArray.mk #[]), (0 : Int))).fst (P.get (P.get x y ((0 : Int), [], [])).snd.fst y_1 ((ByteArray.mk #[]), (0 : Int))).fst)) (some (Sum.inr (Sum.inr (Sum.inr (Sum.inr false))))) (some (Sum.inl (P.wrap IntKind.i64 (P.add y_1 ((1 : Int))))))) none) none) (some (Sum.inl (P.wrap IntKind.i64 (P.add y_1 ((1 : Int)))))))) none)) none) (some (Sum.inr (Sum.inl PUnit.unit)))) ((0 : Int))) (P.either (fun (z : PUnit) => P.bind (P.iter k (fun (y_1 : Int) => P.cond (P.ilt y_1 (P.len (P.get x y ((0 : Int), [], [])).snd.snd)) (P.cond (P.inb y_1 (P.len (P.get x y ((0 : Int), [], [])).snd.snd)) (P.cond (P.ilt (P.get (P.get x y ((0 : Int), [], [])).snd.snd y_1 ((0 : Int))) ((0 : Int))) (some (Sum.inr (Sum.inr (Sum.inr (Sum.inr false))))) (P.cond (P.inb y_1 (P.len (P.get x y ((0 : Int), [], [])).snd.snd)) (P.cond (P.ile y (P.get (P.get x y ((0 : Int), [], [])).snd.snd y_1 ((0 : Int)))) (some (Sum.inr (Sum.inr (Sum.inr (Sum.inr false))))) (some (Sum.inl (P.wrap IntKind.i64 (P.add y_1 ((1 : Int))))))) none)) none) (some (Sum.inr (Sum.inl PUnit.unit)))) ((0 : Int))) (P.either (fun (z : PUnit) => some (Sum.inl (P.wrap IntKind.i64 (P.add y ((1 : Int)))))) fun (r : Int ⊕ PUnit ⊕ Bool) => some r)) fun (r : Int ⊕ PUnit ⊕ Bool) => some r))
theorem mayG_form (k : Nat) (x : List Tt) : ref24_May k x = (fun (k : Nat) (x : T_api_Type.slice.D) => P.bind (P.iter k (fun (y : Int) => P.cond (P.ilt y (P.len x)) (P.cond (P.inb y (P.len x)) (P.cond (P.ilt (P.get x y ((0 : Int), [], [])).fst ((0 : Int))) (some (Sum.inr (Sum.inr false))) (P.cond (P.ilt ((5 : Int)) (P.get x y ((0 : Int), [], [])).fst) (some (Sum.inr (Sum.inr false))) (P.cond (P.not (P.ieq (P.get x y ((0 : Int), [], [])).fst ((4 : Int)))) (P.cond (P.ilt ((0 : Int)) (P.len (P.get x y ((0 : Int), [], [])).snd.fst)) (some (Sum.inr (Sum.inr false))) (P.cond (P.not (P.ieq (P.get x y ((0 : Int), [], [])).fst ((5 : Int)))) (P.cond (P.ilt ((0 : Int)) (P.len (P.get x y ((0 : Int), [], [])).snd.snd)) (some (Sum.inr (Sum.inr false))) (mayG k x y)) (mayG k x y))) (P.cond (P.not (P.ieq (P.get x y ((0 : Int), [], [])).fst ((5 : Int)))) (P.cond (P.ilt ((0 : Int)) (P.len (P.get x y ((0 : Int), [], [])).snd.snd)) (some (Sum.inr (Sum.inr false))) (mayG k x y)) (mayG k x y))))) none) (some (Sum.inr (Sum.inl PUnit.unit)))) ((0 : Int))) (P.either (fun (z : PUnit) => some (P.ile (P.len x) ((200 : Int)))) fun (r : Bool) => some r)) k x := rfl
def FOk (t : List Tt) (l : List Tf) (k : Nat) : Prop := 0 ≤ (l.getD k dF).2 ∧ (l.getD k dF).2 < (t.length : Int) ∧ (0 < k → ltS (l.getD (k - 1) dF).1 (l.getD k dF).1)
open Classical in
noncomputable instance (t : List Tt) (l : List Tf) (k : Nat) : Decidable (FOk t l k) := propDecidable _
def EOk (i : Nat) (l : List Int) (k : Nat) : Prop := 0 ≤ l.getD k 0 ∧ l.getD k 0 < (i : Int)
instance (i : Nat) (l : List Int) (k : Nat) : Decidable (EOk i l k) := by unfold EOk; exact inferInstance
def InnerOk (t : List Tt) (i : Nat) : Prop := (∀ k, k < (t.getD i dT).2.1.length → FOk t (t.getD i dT).2.1 k) ∧ ∀ k, k < (t.getD i dT).2.2.length → EOk i (t.getD i dT).2.2 k
def RowOk (t : List Tt) (i : Nat) : Prop := 0 ≤ (t.getD i dT).1 ∧ (t.getD i dT).1 < 6 ∧ ((t.getD i dT).1 = 4 ∨ (t.getD i dT).2.1 = []) ∧ ((t.getD i dT).1 = 5 ∨ (t.getD i dT).2.2 = []) ∧ InnerOk t i
open Classical in
noncomputable instance (t : List Tt) (i : Nat) : Decidable (InnerOk t i) := propDecidable _
open Classical in
noncomputable instance (t : List Tt) (i : Nat) : Decidable (RowOk t i) := propDecidable _
def MayD (t : List Tt) : Prop := (∀ i, i < t.length → RowOk t i) ∧ t.length ≤ 200
open Classical in
noncomputable instance (t : List Tt) : Decidable (MayD t) := propDecidable _
theorem wrap_pred' {n : Nat} (h0 : 0 < n) (h : n < 9223372036854775808) : P.wrap IntKind.i64 (P.sub (n : Int) ((1 : Int))) = ((n - 1 : Nat) : Int) := wrap_pred h0 h
theorem fields_step (t : List Tt) (l : List Tf) (j : Nat) (hj : j < l.length) (hl : l.length ≤ 1000000) {α : Type} {X Y : α} :
    (P.cond (P.ilt (l.getD j dF).2 ((0 : Int))) X (P.cond (P.ile (P.len t) (l.getD j dF).2) X (P.cond (P.ilt ((0 : Int)) (j : Int)) (P.cond (P.not (P.slt (l.getD (j - 1) dF).1 (l.getD j dF).1)) X Y) Y))) = if FOk t l j then Y else X := by
  rw [ilt_dec, cond_dec, ile_dec, cond_dec, ilt_dec, cond_dec, slt_dec, cond_ndec, len_eq]
  by_cases a : (l.getD j dF).2 < 0
  · rw [if_pos a, if_neg (fun z => by have := z.1; omega)]
  · by_cases b : (t.length : Int) ≤ (l.getD j dF).2
    · rw [if_neg a, if_pos b, if_neg (fun z => by have := z.2.1; omega)]
    · rw [if_neg a, if_neg b]
      by_cases c : j = 0
      · rw [if_neg (by omega), if_pos ⟨by omega, by omega, fun z => by omega⟩]
      · rw [if_pos (by omega)]
        by_cases e : ltS (l.getD (j - 1) dF).1 (l.getD j dF).1
        · rw [if_pos e, if_pos ⟨by omega, by omega, fun _ => e⟩]
        · rw [if_neg e, if_neg (fun z => e (z.2.2 (by omega)))]
theorem mayF_eq (t : List Tt) (i : Nat) (hi : i < 1000000) (h1 : (t.getD i dT).2.1.length ≤ 1000000) (h2 : (t.getD i dT).2.2.length ≤ 1000000) : mayF K t (i : Int) = some (if InnerOk t i then .inl ((i + 1 : Nat) : Int) else .inr (.inr false)) := by
  unfold mayF
  rw [get_T]
  generalize hx : t.getD i dT = x at *
  rw [loop_all x.2.1.length (fun j => FOk t x.2.1 j) (by omega) (r := .inr (.inr false)) ?_ ?_]
  · rw [loop_all x.2.2.length (fun j => EOk i x.2.2 j) (by omega) (r := .inr (.inr false)) ?_ ?_]
    · rw [show P.ile ((0 : Int)) ((-1 : Int)) = false from by decide, cond_false, wrap_succ (by omega)]
      have hI : InnerOk t i ↔ (∀ k, k < x.2.1.length → FOk t x.2.1 k) ∧ ∀ k, k < x.2.2.length → EOk i x.2.2 k := by unfold InnerOk; rw [hx]
      by_cases a : ∀ k, k < x.2.1.length → FOk t x.2.1 k
      · rw [if_pos a]
        by_cases b : ∀ k, k < x.2.2.length → EOk i x.2.2 k
        · rw [if_pos b, if_pos (hI.2 ⟨a, b⟩)]
        · rw [if_neg b, if_neg (fun z => b (hI.1 z).2)]
      · rw [if_neg a, if_neg (fun z => a (hI.1 z).1)]
    · intro j hj
      try dsimp only
      rw [ilt_len hj, cond_true, inb_len hj, cond_true, get_I, wrap_succ (by omega), show P.ile ((0 : Int)) (j : Int) = true from ile_iff.2 (by omega), cond_true, ilt_dec, cond_dec, ile_dec, cond_dec]
      by_cases a : x.2.2.getD j 0 < 0
      · rw [if_pos a, if_neg (fun z => by have := z.1; omega)]; rfl
      · by_cases b : (i : Int) ≤ x.2.2.getD j 0
        · rw [if_neg a, if_pos b, if_neg (fun z => by have := z.2; omega)]; rfl
        · rw [if_neg a, if_neg b, if_pos ⟨by omega, by omega⟩, wrap_succ (by omega)]
    · try dsimp only
      rw [ilt_end, cond_false]
  · intro j hj
    try dsimp only
    rw [ilt_len hj, cond_true, inb_len hj, cond_true, get_F, wrap_succ (by omega)]
    by_cases c : j = 0
    · subst c
      have := fields_step t x.2.1 0 hj h1 (X := (some (.inr (.inr (.inr (.inr false)))) : Option (Int ⊕ (Unit ⊕ (Int ⊕ (Unit ⊕ Bool)))))) (Y := some (.inl ((0 + 1 : Nat) : Int)))
      rw [show P.ilt ((0 : Int)) ((0 : Nat) : Int) = false from by decide, cond_false] at this ⊢
      rw [this]
      split <;> rfl
    · rw [wrap_pred' (by omega) (by omega), inb_len (show j - 1 < x.2.1.length by omega), cond_true, get_F, fields_step t x.2.1 j hj h1]
      split <;> rfl
  · try dsimp only
    rw [ilt_end, cond_false]
theorem mayG_eq (t : List Tt) (i : Nat) (hi : i < 1000000) (h1 : (t.getD i dT).2.1.length ≤ 1000000) (h2 : (t.getD i dT).2.2.length ≤ 1000000) : mayG K t (i : Int) = some (if InnerOk t i then .inl ((i + 1 : Nat) : Int) else .inr (.inr false)) := by
  unfold mayG
  rw [get_T]
  generalize hx : t.getD i dT = x at *
  rw [loop_all x.2.1.length (fun j => FOk t x.2.1 j) (by omega) (r := .inr (.inr false)) ?_ ?_]
  · rw [loop_all x.2.2.length (fun j => EOk i x.2.2 j) (by omega) (r := .inr (.inr false)) ?_ ?_]
    · rw [wrap_succ (by omega)]
      have hI : InnerOk t i ↔ (∀ k, k < x.2.1.length → FOk t x.2.1 k) ∧ ∀ k, k < x.2.2.length → EOk i x.2.2 k := by unfold InnerOk; rw [hx]
      by_cases a : ∀ k, k < x.2.1.length → FOk t x.2.1 k
      · rw [if_pos a]
        by_cases b : ∀ k, k < x.2.2.length → EOk i x.2.2 k
        · rw [if_pos b, if_pos (hI.2 ⟨a, b⟩)]
        · rw [if_neg b, if_neg (fun z => b (hI.1 z).2)]
      · rw [if_neg a, if_neg (fun z => a (hI.1 z).1)]
    · intro j hj
      try dsimp only
      rw [ilt_len hj, cond_true, inb_len hj, cond_true, get_I, wrap_succ (by omega), cond_true, ilt_dec, cond_dec, ile_dec, cond_dec]
      by_cases a : x.2.2.getD j 0 < 0
      · rw [if_pos a, if_neg (fun z => by have := z.1; omega)]
      · by_cases b : (i : Int) ≤ x.2.2.getD j 0
        · rw [if_neg a, if_pos b, if_neg (fun z => by have := z.2; omega)]
        · rw [if_neg a, if_neg b, if_pos ⟨by omega, by omega⟩]
    · try dsimp only
      rw [ilt_end, cond_false]
  · intro j hj
    try dsimp only
    rw [ilt_len hj, cond_true, inb_len hj, cond_true, get_F, cond_true, wrap_succ (by omega)]
    by_cases c : j = 0
    · subst c
      have := fields_step t x.2.1 0 hj h1 (X := (some (.inr (.inr (.inr (.inr false)))) : Option (Int ⊕ (Unit ⊕ (Int ⊕ (Unit ⊕ Bool)))))) (Y := some (.inl ((0 + 1 : Nat) : Int)))
      rw [show P.ilt ((0 : Int)) ((0 : Nat) : Int) = false from by decide, cond_false] at this ⊢
      rw [this]
      split <;> rfl
    · rw [wrap_pred' (by omega) (by omega), inb_len (show j - 1 < x.2.1.length by omega), cond_true, get_F, cond_true, fields_step t x.2.1 j hj h1]
      split <;> rfl
  · try dsimp only
    rw [ilt_end, cond_false]
def FewTab (t : List Tt) : Prop := t.length ≤ 100000 ∧ ∀ x ∈ t, x.2.1.length ≤ 1000000 ∧ x.2.2.length ≤ 1000000
theorem few_at {t : List Tt} (h : FewTab t) {i : Nat} (hi : i < t.length) : (t.getD i dT).2.1.length ≤ 1000000 ∧ (t.getD i dT).2.2.length ≤ 1000000 := h.2 _ (getD_mem hi dT)
theorem row_step (t : List Tt) (i : Nat) {α : Type} {X Y : α} (a : Int) (hb : ∀ z : Int, (P.cond (P.ilt z 0) X (P.cond (P.ile 6 z) X Y)) = (P.cond (P.ilt z 0) X (P.cond (P.ile 6 z) X Y))) :
    (P.cond (P.ilt (t.getD i dT).1 ((0 : Int))) X (P.cond (P.ile ((6 : Int)) (t.getD i dT).1) X (P.cond (P.not (P.ieq (t.getD i dT).1 ((4 : Int)))) (P.cond (P.ilt ((0 : Int)) (P.len (t.getD i dT).2.1)) X (P.cond (P.not (P.ieq (t.getD i dT).1 ((5 : Int)))) (P.cond (P.ilt ((0 : Int)) (P.len (t.getD i dT).2.2)) X (if InnerOk t i then Y else X)) (if InnerOk t i then Y else X))) (P.cond (P.not (P.ieq (t.getD i dT).1 ((5 : Int)))) (P.cond (P.ilt ((0 : Int)) (P.len (t.getD i dT).2.2)) X (if InnerOk t i then Y else X)) (if InnerOk t i then Y else X))))) = if RowOk t i then Y else X := by
  simp only [ilt_dec, ile_dec, ieq_eq, cond_dec, cond_ndec, len_eq]
  have z1 : (0 : Int) < ((t.getD i dT).2.1.length : Int) ↔ ¬ (t.getD i dT).2.1 = [] := by rw [← Ne, ← List.length_pos_iff]; omega
  have z2 : (0 : Int) < ((t.getD i dT).2.2.length : Int) ↔ ¬ (t.getD i dT).2.2 = [] := by rw [← Ne, ← List.length_pos_iff]; omega
  by_cases a1 : (t.getD i dT).1 < 0
  · rw [if_pos a1, if_neg (fun z => by have := z.1; omega)]
  · by_cases a2 : 6 ≤ (t.getD i dT).1
    · rw [if_neg a1, if_pos a2, if_neg (fun z => by have := z.2.1; omega)]
    · rw [if_neg a1, if_neg a2]
      by_cases a3 : (t.getD i dT).1 = 4
      · rw [if_pos a3, if_neg (by omega)]
        by_cases a5 : (t.getD i dT).2.2 = []
        · rw [if_neg (fun z => z2.1 z a5)]
          by_cases a6 : InnerOk t i
          · rw [if_pos a6, if_pos ⟨by omega, by omega, .inl a3, .inr a5, a6⟩]
          · rw [if_neg a6, if_neg (fun z => a6 z.2.2.2.2)]
        · rw [if_pos (z2.2 a5), if_neg (fun z => by rcases z.2.2.2.1 with y | y; omega; exact a5 y)]
      · rw [if_neg a3]
        by_cases a4 : (t.getD i dT).2.1 = []
        · rw [if_neg (fun z => z1.1 z a4)]
          by_cases a7 : (t.getD i dT).1 = 5
          · rw [if_pos a7]
            by_cases a6 : InnerOk t i
            · rw [if_pos a6, if_pos ⟨by omega, by omega, .inr a4, .inl a7, a6⟩]
            · rw [if_neg a6, if_neg (fun z => a6 z.2.2.2.2)]
          · rw [if_neg a7]
            by_cases a5 : (t.getD i dT).2.2 = []
            · rw [if_neg (fun z => z2.1 z a5)]
              by_cases a6 : InnerOk t i
              · rw [if_pos a6, if_pos ⟨by omega, by omega, .inr a4, .inr a5, a6⟩]
              · rw [if_neg a6, if_neg (fun z => a6 z.2.2.2.2)]
            · rw [if_pos (z2.2 a5), if_neg (fun z => by rcases z.2.2.2.1 with y | y; exact a7 y; exact a5 y)]
        · rw [if_pos (z1.2 a4), if_neg (fun z => by rcases z.2.2.1 with y | y; exact a3 y; exact a4 y)]
theorem may_end (t : List Tt) : (if ∀ i, i < t.length → RowOk t i then some (P.ile (P.len t) ((200 : Int))) else some false) = some (decide (MayD t)) := by
  by_cases q : ∀ i, i < t.length → RowOk t i
  · rw [if_pos q, ile_dec]
    refine congrArg some (decide_eq_decide.2 ?_)
    rw [len_eq]
    exact ⟨fun z => ⟨q, by omega⟩, fun z => by have := z.2; omega⟩
  · rw [if_neg q]
    exact congrArg some (decide_eq_false fun z => q z.1).symm
theorem at_may (t : List Tt) (h : FewTab t) : types_May K t = some (decide (MayD t)) := by
  rw [mayF_form]
  try dsimp only
  rw [loop_all t.length (fun i => RowOk t i) (by have := h.1; omega) (r := false) ?_ ?_]
  · exact may_end t
  · intro i hi
    obtain ⟨h1, h2⟩ := few_at h hi
    try dsimp only
    rw [ilt_len hi, cond_true, inb_len hi, cond_true, get_T, mayF_eq t i (by have := h.1; omega) h1 h2]
    have := row_step t i (X := (some (.inr (.inr false)) : Option (Int ⊕ (Unit ⊕ Bool)))) (Y := some (.inl ((i + 1 : Nat) : Int))) 0 (fun _ => rfl)
    rw [← apply_ite some] at this
    rw [show (some (if InnerOk t i then (.inl ((i + 1 : Nat) : Int)) else .inr (.inr false)) : Option (Int ⊕ (Unit ⊕ Bool))) = if InnerOk t i then some (.inl ((i + 1 : Nat) : Int)) else some (.inr (.inr false)) from apply_ite some _ _ _]
    rw [← apply_ite some]
    exact this.trans (apply_ite some _ _ _).symm
  · try dsimp only
    rw [ilt_end, cond_false]
theorem ref_may (t : List Tt) (h : FewTab t) : ref24_May K t = some (decide (MayD t)) := by
  rw [mayG_form]
  try dsimp only
  rw [loop_all t.length (fun i => RowOk t i) (by have := h.1; omega) (r := false) ?_ ?_]
  · exact may_end t
  · intro i hi
    obtain ⟨h1, h2⟩ := few_at h hi
    try dsimp only
    rw [ilt_len hi, cond_true, inb_len hi, cond_true, get_T, mayG_eq t i (by have := h.1; omega) h1 h2]
    have e : ∀ z : Int, P.ilt ((5 : Int)) z = P.ile ((6 : Int)) z := fun z => by rw [ilt_dec, ile_dec, decide_eq_decide]; omega
    rw [e]
    have := row_step t i (X := (some (.inr (.inr false)) : Option (Int ⊕ (Unit ⊕ Bool)))) (Y := some (.inl ((i + 1 : Nat) : Int))) 0 (fun _ => rfl)
    rw [show (some (if InnerOk t i then (.inl ((i + 1 : Nat) : Int)) else .inr (.inr false)) : Option (Int ⊕ (Unit ⊕ Bool))) = if InnerOk t i then some (.inl ((i + 1 : Nat) : Int)) else some (.inr (.inr false)) from apply_ite some _ _ _]
    exact this.trans (apply_ite some _ _ _).symm
  · try dsimp only
    rw [ilt_end, cond_false]
theorem mayD_mayT {t : List Tt} (h : MayD t) : MayT t := by
  have row : ∀ (i : Nat) (x : Tt), t[i]? = some x → t.getD i dT = x ∧ RowOk t i := fun i x hx => by
    have hi := (List.getElem?_eq_some_iff.1 hx).1
    exact ⟨by rw [List.getD_eq_getElem?_getD, hx]; rfl, h.1 i hi⟩
  refine ⟨fun i x hx e he => ?_, fun i x hx f hf => ?_, fun i x hx => ?_, fun i x hx => ?_⟩
  · obtain ⟨rfl, r⟩ := row i x hx
    exact (forall_getD (p := fun e => 0 ≤ e ∧ e < (i : Int)) 0).1 (fun k hk => r.2.2.2.2.2 k hk) e he
  · obtain ⟨rfl, r⟩ := row i x hx
    exact (forall_getD (p := fun f : Tf => 0 ≤ f.2 ∧ f.2 < (t.length : Int)) dF).1 (fun k hk => ⟨(r.2.2.2.2.1 k hk).1, (r.2.2.2.2.1 k hk).2.1⟩) f hf
  · obtain ⟨rfl, r⟩ := row i x hx
    exact rises_nodup ((pair_steps (R := fun a b : Tf => ltS a.1 b.1) (fun a b => ltS_trans a b) _ dF).1 fun k hk h0 => (r.2.2.2.2.1 k hk).2.2 h0)
  · obtain ⟨rfl, r⟩ := row i x hx
    exact ⟨r.1, by have := r.2.1; omega, fun z => by rcases r.2.2.1 with y | y; exact absurd y z; exact y, fun z => by rcases r.2.2.2.1 with y | y; exact absurd y z; exact y⟩
end Go.PL.Ty
end
section
open Go Go.PG Go.PL Go.PL.Sv
set_option linter.all false
namespace Go.PL.Ty
section
variable {κ : Type} [DecidableEq κ] {f : κ → κ → Bool}
abbrev Mt (κ : Type) := List (κ × Bool) × List (κ × Option (List κ)) × List κ
def toSt (f : κ → κ → Bool) (m : Mt κ) : St κ := ⟨outOf f m.1, onOf f m.2.1, m.2.2⟩
def ansM (f : κ → κ → Bool) (m : Mt κ) (o : κ) : Bool := if P.mhas f m.1 o = true then P.mval f m.1 o false else true
def hold1 (f : κ → κ → Bool) (k : κ) (m : Mt κ) (o : κ) : Mt κ :=
  (if P.mhas f m.1 o = true then m.1 else P.mput f m.1 o true, P.mput f (P.dtake f m.2.1 o) o (some (P.app (onOf f m.2.1 o) [k])), if P.mhas f m.1 o = true then m.2.2 else P.app m.2.2 [o])
theorem ansM_eq (m : Mt κ) (o : κ) : ansM f m o = ans (toSt f m) o := by
  unfold ansM ans
  show _ = (outOf f m.1 o).getD true
  unfold outOf
  split <;> rfl
theorem hold1_st (hf : ∀ x y, f x y = true ↔ x = y) (k : κ) (m : Mt κ) (o : κ) (ht : Tidy m.2.1) : toSt f (hold1 f k m o) = ask1 k (toSt f m) o ∧ Tidy (hold1 f k m o).2.1 := by
  obtain ⟨h1, h2⟩ := put_take hf o (P.app (onOf f m.2.1 o) [k]) ht
  refine ⟨?_, h1⟩
  have e : outOf f m.1 o = none ↔ ¬ P.mhas f m.1 o = true := by unfold outOf; split <;> simp_all
  unfold toSt hold1 ask1
  simp only [h2]
  by_cases q : P.mhas f m.1 o = true
  · have : ¬ outOf f m.1 o = none := fun z => e.1 z q
    rw [if_pos q, if_pos q, if_neg this, if_neg this]
    rfl
  · have : outOf f m.1 o = none := e.2 q
    rw [if_neg q, if_neg q, if_pos this, if_pos this, out_put hf]
    rfl
theorem hold1_work (k : κ) (m : Mt κ) (o : κ) : (hold1 f k m o).2.2.length ≤ m.2.2.length + 1 := by
  unfold hold1
  simp only
  split
  · omega
  · simp [P.app]
theorem hold1_on (hf : ∀ x y, f x y = true ↔ x = y) (k : κ) (m : Mt κ) (o x : κ) (ht : Tidy m.2.1) : (onOf f (hold1 f k m o).2.1 x).length ≤ (onOf f m.2.1 x).length + 1 := by
  have := (hold1_st hf k m o ht).1
  have := congrFun (congrArg St.on this) x
  have e : onOf f (hold1 f k m o).2.1 x = up (onOf f m.2.1) o (onOf f m.2.1 o ++ [k]) x := this
  rw [e]
  by_cases q : x = o
  · subst q; rw [up_self]; simp
  · rw [up_ne _ _ q]; omega
def Done (f : κ → κ → Bool) {ρ : Type} (S : St κ) (z : Option ((List κ × List (κ × Bool) × List (κ × Option (List κ))) ⊕ ρ)) : Prop := ∃ m' : Mt κ, z = some (.inl (m'.2.2, m'.1, m'.2.1)) ∧ Tidy m'.2.1 ∧ toSt f m' = S
theorem fall (hf : ∀ x y, f x y = true ↔ x = y) (k : κ) (m : Mt κ) (ht : Tidy m.2.1) : Tidy (P.mdel f (P.dtake f m.2.1 k) k) ∧ toSt f (P.mput f m.1 k false, P.mdel f (P.dtake f m.2.1 k) k, P.app m.2.2 (onOf f m.2.1 k)) = { out := up (toSt f m).out k (some false), on := up (toSt f m).on k [], work := (toSt f m).work ++ (toSt f m).on k } := by
  obtain ⟨h1, h2⟩ := del_take hf k ht
  refine ⟨h1, ?_⟩
  unfold toSt
  simp only
  rw [h2, out_put hf]
  rfl
theorem step_skip {asked : κ → List κ} {rule : κ → (κ → Bool) → Bool} {ρ : Type} {out : List (κ × Bool)} {on : List (κ × Option (List κ))} {w : List κ} {k : κ} (ht : Tidy on) (h : P.mval f out k false = false) :
    Done f (ρ := ρ) (Sv.step asked rule (toSt f (out, on, w ++ [k])) k w) (some (.inl (w, out, on))) := by
  refine ⟨(out, on, w), rfl, ht, ?_⟩
  rw [val_of] at h
  unfold Sv.step
  rw [if_neg (fun z => by have z : outOf f out k = some true := z; rw [z] at h; cases h)]
  rfl
end
end Go.PL.Ty
end
section
open Go Go.PG Go.PL Go.PL.Sv
set_option linter.all false
namespace Go.PL.Ty
abbrev Kp := Int × Int
def pairs (n : Nat) : List Kp := (List.range n).flatMap fun (i : Nat) => (List.range n).map fun (j : Nat) => (((i : Nat) : Int), ((j : Nat) : Int))
theorem mem_pairs {n : Nat} {p : Kp} : p ∈ pairs n ↔ Inb n p.1 ∧ Inb n p.2 := by
  unfold pairs Inb
  simp only [List.mem_flatMap, List.mem_map, List.mem_range]
  constructor
  · rintro ⟨i, hi, j, hj, rfl⟩
    exact ⟨⟨by simp, by simpa using hi⟩, by simp, by simpa using hj⟩
  · rintro ⟨⟨h1, h2⟩, h3, h4⟩
    exact ⟨p.1.toNat, by omega, p.2.toNat, by omega, Prod.ext (by show ((p.1.toNat : Nat) : Int) = _; omega) (by show ((p.2.toNat : Nat) : Int) = _; omega)⟩
theorem asked_pairs {t : List Tt} (h : MayT t) : ∀ k ∈ pairs t.length, ∀ o ∈ asked t k, o ∈ pairs t.length := by
  intro k hk o ho
  obtain ⟨⟨a1, a2⟩, b1, b2⟩ := mem_pairs.1 hk
  obtain ⟨⟨c1, c2⟩, c3, c4⟩ := asked_inn h (p := k) (by unfold Inn; omega) (by unfold Inn; omega) o ho
  unfold Inn at c1 c2
  exact mem_pairs.2 ⟨⟨c3 a1, by have := c3 a1; omega⟩, c4 b1, by have := c4 b1; omega⟩
theorem at_small {t : List Tt} (h : SmallT t) (x : Int) : (at_ t x).2.1.length ≤ 10 ∧ (at_ t x).2.2.length ≤ 10 := by
  rcases at_cases t x with ⟨i, _, q⟩ | ⟨i, _, q⟩ | q
  · exact h.1 _ (List.mem_of_getElem? q)
  · exact h.1 _ (List.mem_of_getElem? q)
  · rw [q]; simp
theorem small_few {t : List Tt} (h : SmallT t) : FewTab t := ⟨by have := h.2; omega, fun x hx => by have := h.1 x hx; omega⟩
theorem inb_k {t : List Tt} {a : Int} (h : Inb t.length a) : P.inb a (P.len t) = true := inb_iff.2 (by rw [len_eq]; exact h)
open Classical in
noncomputable def subB (t : List Tt) (a b : Int) : Bool := decide (MayD t ∧ Inb t.length a ∧ Inb t.length b ∧ Sub t a b)
end Go.PL.Ty
end
section
open Go Go.PG Go.PL Go.PL.Sv
set_option linter.all false
namespace Go.PL.Ty
theorem loop_inv {σ ρ τ : Type} (n : Nat) (I : Nat → Bool → σ → Prop) {F : Bool × Int × σ → Option ((Bool × Int × σ) ⊕ ((Bool × σ) ⊕ ρ))} {A : Bool × σ → Option τ} {B : ρ → Option τ} (Q : Option τ → Prop) {g0 : Bool} {s0 : σ} (h0 : I 0 g0 s0) (hn : n ≤ 1000000000)
    (hs : ∀ (i : Nat) g s, i < n → I i g s → ∃ g' s', F (g, (i : Int), s) = some (.inl (g', ((i + 1 : Nat) : Int), s')) ∧ I (i + 1) g' s') (he : ∀ g s, F (g, (n : Int), s) = some (.inr (.inl (g, s))))
    (fin : ∀ g s, I n g s → Q (A (g, s))) : Q (P.bind (P.iter K F (g0, 0, s0)) (P.either A B)) := by
  have key : ∀ (m i q : Nat) g s, i + m = n → m < q → I i g s → ∃ g' s', P.iter q F (g, (i : Int), s) = some (.inl (g', s')) ∧ I n g' s' := by
    intro m
    induction m with
    | zero =>
      intro i q g s hi hq h
      obtain rfl : i = n := by omega
      exact ⟨g, s, iter_done (by omega) (he g s), h⟩
    | succ m ih =>
      intro i q g s hi hq h
      obtain ⟨g', s', h1, h2⟩ := hs i g s (by omega) h
      rw [iter_step (by omega) h1]
      exact ih (i + 1) (q - 1) g' s' (by omega) (by omega) h2
  obtain ⟨g', s', h1, h2⟩ := key n 0 K g0 s0 (by omega) (by unfold K; omega) h0
  rw [show ((0 : Nat) : Int) = 0 from rfl] at h1
  rw [h1, bind_some, either_inl]
  exact fin g' s' h2
theorem if_all {α : Type} (l : List α) (d : α) (q : α → Bool) (p : Nat → Prop) [DecidablePred p] (hp : ∀ i, i < l.length → (p i ↔ q (l.getD i d) = true)) : (if ∀ i, i < l.length → p i then some true else some false) = some (l.all q) := by
  by_cases h : ∀ i, i < l.length → p i
  · rw [if_pos h]
    congr 1
    symm
    rw [List.all_eq_true]
    exact (forall_getD (p := fun x => q x = true) d).1 fun i hi => (hp i hi).1 (h i hi)
  · rw [if_neg h]
    congr 1
    symm
    rw [Bool.eq_false_iff]
    intro z
    rw [List.all_eq_true] at z
    exact h fun i hi => (hp i hi).2 (z _ (getD_mem hi d))
theorem if_any {α : Type} (l : List α) (d : α) (q : α → Bool) (p : Nat → Prop) [DecidablePred p] (hp : ∀ i, i < l.length → (p i ↔ ¬ q (l.getD i d) = true)) : (if ∀ i, i < l.length → p i then some false else some true) = some (l.any q) := by
  by_cases h : ∀ i, i < l.length → p i
  · rw [if_pos h]
    congr 1
    symm
    rw [Bool.eq_false_iff]
    intro z
    rw [List.any_eq_true] at z
    obtain ⟨x, hx, hq⟩ := z
    exact (forall_getD (p := fun x => ¬ q x = true) d).1 (fun i hi => (hp i hi).1 (h i hi)) x hx hq
  · rw [if_neg h]
    congr 1
    symm
    rw [List.any_eq_true]
    apply Classical.byContradiction
    intro z
    exact h fun i hi => (hp i hi).2 fun e => z ⟨_, getD_mem hi d, e⟩
def idx (n : Nat) (p : Kp) : Nat := p.1.toNat * n + p.2.toNat
def grid (inn : List Bool) (n : Nat) (p : Kp) : Bool := inn.getD (idx n p) false
theorem idx_lt {n : Nat} {p : Kp} (h1 : Inb n p.1) (h2 : Inb n p.2) : idx n p < n * n := by
  unfold idx
  have a : p.1.toNat + 1 ≤ n := by have := h1.1; have := h1.2; omega
  have b : p.2.toNat < n := by have := h2.1; have := h2.2; omega
  have : (p.1.toNat + 1) * n ≤ n * n := Nat.mul_le_mul_right n a
  rw [Nat.add_mul, Nat.one_mul] at this
  omega
theorem idx_inj {n : Nat} {p q : Kp} (h1 : Inb n p.1) (h2 : Inb n p.2) (g1 : Inb n q.1) (g2 : Inb n q.2) (e : idx n p = idx n q) : p = q := by
  unfold idx at e
  have b : p.2.toNat < n := by have := h2.1; have := h2.2; omega
  have b' : q.2.toNat < n := by have := g2.1; have := g2.2; omega
  have m1 : p.2.toNat = q.2.toNat := by
    have := congrArg (· % n) e
    simpa [Nat.mul_comm _ n, Nat.mul_add_mod, Nat.mod_eq_of_lt b, Nat.mod_eq_of_lt b'] using this
  have m2 : p.1.toNat * n = q.1.toNat * n := by omega
  have m3 : p.1.toNat = q.1.toNat := Nat.eq_of_mul_eq_mul_right (by omega) m2
  have := h1.1; have := h2.1; have := g1.1; have := g2.1
  exact Prod.ext (by omega) (by omega)
theorem idx_wrap {t : List Tt} {p : Kp} (hn : t.length ≤ 100000) (h1 : Inb t.length p.1) (h2 : Inb t.length p.2) : P.wrap IntKind.i64 (P.add (P.wrap IntKind.i64 (P.mul p.1 (P.len t))) p.2) = ((idx t.length p : Nat) : Int) := by
  have hl := idx_lt h1 h2
  have hb : t.length * t.length ≤ 100000 * 100000 := Nat.mul_le_mul hn hn
  unfold idx at *
  have e1 : P.mul p.1 (P.len t) = ((p.1.toNat * t.length : Nat) : Int) := by
    rw [len_eq]
    show p.1 * _ = _
    rw [Int.natCast_mul, Int.toNat_of_nonneg h1.1]
  rw [e1, wrap_nat (by omega)]
  have e2 : P.add ((p.1.toNat * t.length : Nat) : Int) p.2 = ((p.1.toNat * t.length + p.2.toNat : Nat) : Int) := by
    show _ + _ = _
    rw [Int.natCast_add, Int.toNat_of_nonneg h2.1]
  rw [e2, wrap_nat (by omega)]
theorem at_inb {t : List Tt} (hm : MayT t) {x e : Int} (k : (at_ t x).1 = 5) (he : e ∈ (at_ t x).2.2) : Inb t.length e := by
  have h1 := at_pos (t := t) (x := x) (by rw [k]; decide)
  have h2 := (List.getElem?_eq_some_iff.1 h1).1
  have := hm.elem_lt k he
  exact ⟨this.1, by have := this.2; have := this; omega⟩
theorem ref_rule (t : List Tt) (inn : List Bool) (p : Kp) (hs : SmallT t) (hm : MayD t) (h1 : Inb t.length p.1) (h2 : Inb t.length p.2) (hl : inn.length = t.length * t.length) : ref24_rule K (t, inn, p.1, p.2) = some (ruleB t p (grid inn t.length)) := by
  have hmt := mayD_mayT hm
  have sm := at_small hs
  have hn : t.length ≤ 100000 := by have := hs.2; omega
  have rd : ∀ q : Kp, Inb t.length q.1 → Inb t.length q.2 → P.inb (P.wrap IntKind.i64 (P.add (P.wrap IntKind.i64 (P.mul q.1 (P.len t))) q.2)) (P.len inn) = true ∧ P.get inn (P.wrap IntKind.i64 (P.add (P.wrap IntKind.i64 (P.mul q.1 (P.len t))) q.2)) false = grid inn t.length q := fun q g1 g2 => by
    rw [idx_wrap hn g1 g2, get_nat]
    exact ⟨inb_len (by rw [hl]; exact idx_lt g1 g2), rfl⟩
  unfold ref24_rule
  try dsimp only
  rw [inb_k h1, inb_k h2, cond_true, cond_true]
  simp only [get_dT]
  unfold ruleB
  by_cases x5 : (at_ t p.1).1 = 5
  · rw [show P.ieq (at_ t p.1).1 5 = true from ieq_iff.2 x5, cond_true, if_pos x5]
    rw [loop_all (at_ t p.1).2.2.length (fun i => grid inn t.length ((at_ t p.1).2.2.getD i 0, p.2) = true) (by have := (sm p.1).2; omega) (r := false) ?_ ?_]
    · exact if_all _ 0 _ _ fun i hi => Iff.rfl
    · intro i hi
      have := rd ((at_ t p.1).2.2.getD i 0, p.2) (at_inb hmt x5 (getD_mem hi 0)) h2
      try dsimp only
      rw [ilt_len hi, cond_true, inb_len hi, cond_true, get_I, this.1, cond_true, this.2, wrap_succ (by have := (sm p.1).2; omega)]
      cases grid inn t.length ((at_ t p.1).2.2.getD i 0, p.2) <;> rfl
    · try dsimp only
      rw [ilt_end, cond_false]
  · rw [show P.ieq (at_ t p.1).1 5 = false from by rw [Bool.eq_false_iff, Ne, ieq_iff]; exact x5, cond_false, if_neg x5]
    by_cases y5 : (at_ t p.2).1 = 5
    · rw [show P.ieq (at_ t p.2).1 5 = true from ieq_iff.2 y5, cond_true, if_pos y5]
      rw [loop_all (at_ t p.2).2.2.length (fun i => ¬ grid inn t.length (p.1, (at_ t p.2).2.2.getD i 0) = true) (by have := (sm p.2).2; omega) (r := true) ?_ ?_]
      · exact if_any _ 0 _ _ fun i hi => Iff.rfl
      · intro i hi
        have := rd (p.1, (at_ t p.2).2.2.getD i 0) h1 (at_inb hmt y5 (getD_mem hi 0))
        try dsimp only
        rw [ilt_len hi, cond_true, inb_len hi, cond_true, get_I, this.1, cond_true, this.2, wrap_succ (by have := (sm p.2).2; omega)]
        cases grid inn t.length (p.1, (at_ t p.2).2.2.getD i 0) <;> rfl
      · try dsimp only
        rw [ilt_end, cond_false]
    · rw [show P.ieq (at_ t p.2).1 5 = false from by rw [Bool.eq_false_iff, Ne, ieq_iff]; exact y5, cond_false, if_neg y5]
      by_cases y0 : (at_ t p.2).1 = 0
      · rw [show P.ieq (at_ t p.2).1 0 = true from ieq_iff.2 y0, cond_true, if_pos y0]
      · rw [show P.ieq (at_ t p.2).1 0 = false from by rw [Bool.eq_false_iff, Ne, ieq_iff]; exact y0, cond_false, if_neg y0, ieq_eq, cond_ndec]
        by_cases exy : (at_ t p.1).1 = (at_ t p.2).1
        · rw [if_pos exy, if_neg (by simpa using exy)]
          rw [loop_all (at_ t p.2).2.1.length (fun i => fieldB (at_ t p.1).2.1 (grid inn t.length) ((at_ t p.2).2.1.getD i dF) = true) (by have := (sm p.2).1; omega) (r := false) ?_ ?_]
          · exact if_all _ dF _ _ fun i hi => Iff.rfl
          · intro i hi
            try dsimp only
            rw [ilt_len hi, cond_true, inb_len hi, cond_true, get_F, ref_field _ _ (by have := (sm p.1).1; omega), bind_some, wrap_succ (by have := (sm p.2).1; omega)]
            unfold fieldR
            cases hf : fieldT (at_ t p.1).2.1 ((at_ t p.2).2.1.getD i dF).1 with
            | none =>
              have e : fieldB (at_ t p.1).2.1 (grid inn t.length) ((at_ t p.2).2.1.getD i dF) = false := by unfold fieldB; rw [hf]
              rw [if_neg (by rw [e]; simp)]
              rfl
            | some j =>
              have e : fieldB (at_ t p.1).2.1 (grid inn t.length) ((at_ t p.2).2.1.getD i dF) = grid inn t.length (j, ((at_ t p.2).2.1.getD i dF).2) := by unfold fieldB; rw [hf]
              have b1 : Inb t.length j := by
                have := hmt.fld _ _ (at_pos (t := t) (x := p.1) (by rw [exy]; exact y0)) _ (fieldT_mem hf)
                exact this
              have b2 : Inb t.length ((at_ t p.2).2.1.getD i dF).2 := hmt.fld _ _ (at_pos y0) _ (getD_mem hi dF)
              have := rd (j, ((at_ t p.2).2.1.getD i dF).2) b1 b2
              simp only [not_true, cond_false, cond_true]
              rw [this.1, cond_true, this.2, ← e]
              cases fieldB (at_ t p.1).2.1 (grid inn t.length) ((at_ t p.2).2.1.getD i dF) <;> rfl
          · try dsimp only
            rw [ilt_end, cond_false]
        · rw [if_neg exy, if_pos exy]
def cnt (l : List Bool) : Nat := l.count true
theorem cnt_set : ∀ {l : List Bool} {i : Nat}, l.getD i false = true → cnt (l.set i false) + 1 = cnt l
  | [], i, h => by simp at h
  | b :: l, 0, h => by
    have : b = true := by simpa using h
    subst this
    simp [cnt]
  | b :: l, i + 1, h => by
    have := cnt_set (l := l) (i := i) (by simpa using h)
    unfold cnt at *
    rw [List.set_cons_succ, List.count_cons, List.count_cons, ← this]
    omega
structure Pass (t : List Tt) (inn0 : List Bool) (seen : Kp → Prop) (gone : Bool) (inn : List Bool) : Prop where
  len : inn.length = t.length * t.length
  bad : ∀ p, Inb t.length p.1 → Inb t.length p.2 → grid inn t.length p = false → ¬ Gfp (ruleB t) p
  same : gone = false → inn = inn0
  less : gone = true → cnt inn < cnt inn0
  le : cnt inn ≤ cnt inn0
  ok : gone = false → ∀ p, seen p → grid inn0 t.length p = true → ruleB t p (grid inn0 t.length) = true
theorem pass_step {t : List Tt} (hs : SmallT t) (hm : MayD t) {inn0 inn : List Bool} {seen seen' : Kp → Prop} {gone : Bool} (I : Pass t inn0 seen gone inn) {p : Kp} (h1 : Inb t.length p.1) (h2 : Inb t.length p.2) (hseen : ∀ q, seen' q → seen q ∨ q = p) :
    Pass t inn0 seen' (if grid inn t.length p = true ∧ ruleB t p (grid inn t.length) = false then true else gone) (if grid inn t.length p = true ∧ ruleB t p (grid inn t.length) = false then inn.set (idx t.length p) false else inn) := by
  by_cases c : grid inn t.length p = true ∧ ruleB t p (grid inn t.length) = false
  · rw [if_pos c, if_pos c]
    have hc := cnt_set (l := inn) (i := idx t.length p) c.1
    refine ⟨by rw [List.length_set]; exact I.len, fun q g1 g2 hq => ?_, fun z => by simp at z, fun _ => by have := I.le; omega, by have := I.le; omega, fun z => by simp at z⟩
    by_cases e : q = p
    · subst e
      rintro ⟨T, hT1, hT⟩
      have key := hT q hT1 (fun o => if Inb t.length o.1 ∧ Inb t.length o.2 then grid inn t.length o else true) fun o ho => by
        by_cases b : Inb t.length o.1 ∧ Inb t.length o.2
        · simp only [if_pos b]
          cases z : grid inn t.length o with
          | true => rfl
          | false => exact absurd ⟨T, ho, hT⟩ (I.bad o b.1 b.2 z)
        · simp only [if_neg b]
      have := rule_mono t q _ (grid inn t.length) (fun o ho hg => by
        have b := mem_pairs.1 (asked_pairs (mayD_mayT hm) q (mem_pairs.2 ⟨g1, g2⟩) o ho)
        simpa only [if_pos b] using hg) key
      rw [c.2] at this
      cases this
    · refine I.bad q g1 g2 ?_
      unfold grid at hq ⊢
      rw [List.getD_eq_getElem?_getD, List.getElem?_set_ne (fun z => e (idx_inj g1 g2 h1 h2 z.symm)), ← List.getD_eq_getElem?_getD] at hq
      exact hq
  · rw [if_neg c, if_neg c]
    refine ⟨I.len, I.bad, I.same, I.less, I.le, fun z q hq g => ?_⟩
    rcases hseen q hq with w | rfl
    · exact I.ok z q w g
    · have e := I.same z
      subst e
      cases r : ruleB t q (grid inn t.length) with
      | true => rfl
      | false => exact absurd ⟨g, r⟩ c
theorem grid_full {n : Nat} {p : Kp} (h1 : Inb n p.1) (h2 : Inb n p.2) : grid (List.replicate (n * n) true) n p = true := by
  unfold grid
  have := idx_lt h1 h2
  simp [List.getD_eq_getElem?_getD, this]
open Classical in
theorem ref_body (t : List Tt) (hs : SmallT t) (hm : MayD t) (a b : Int) (ha : Inb t.length a) (hb : Inb t.length b) : ref24_Sub K (t, a, b) = some (decide (Sub t a b)) := by
  have hmt := mayD_mayT hm
  have hn : t.length ≤ 100000 := by have := hs.2; omega
  have hnn : t.length * t.length ≤ 16 * 16 := Nat.mul_le_mul hs.2 hs.2
  have mul_eq : P.wrap IntKind.i64 (P.mul (P.len t) (P.len t)) = ((t.length * t.length : Nat) : Int) := by
    rw [len_eq, show P.mul (t.length : Int) (t.length : Int) = ((t.length * t.length : Nat) : Int) from by rw [Int.natCast_mul]; rfl, wrap_nat (by omega)]
  unfold ref24_Sub
  try dsimp only
  rw [ref_may t (small_few hs), bind_some, decide_eq_true hm, not_true, cond_false]
  rw [show P.ilt a 0 = false from by rw [Bool.eq_false_iff, Ne, ilt_iff]; have := ha.1; omega, cond_false, show P.ilt b 0 = false from by rw [Bool.eq_false_iff, Ne, ilt_iff]; have := hb.1; omega, cond_false, show P.ile (P.len t) a = false from by rw [Bool.eq_false_iff, Ne, ile_iff, len_eq]; have := ha.2; omega, cond_false, show P.ile (P.len t) b = false from by rw [Bool.eq_false_iff, Ne, ile_iff, len_eq]; have := hb.2; omega, cond_false, mul_eq]
  -- the grid is filled
  have fill : ∀ (F : List Bool × Int → Option ((List Bool × Int) ⊕ (List Bool ⊕ Bool))), (∀ j : Nat, j < t.length * t.length → F (List.replicate j true, (j : Int)) = some (.inl (List.replicate (j + 1) true, ((j + 1 : Nat) : Int)))) →
      F (List.replicate (t.length * t.length) true, ((t.length * t.length : Nat) : Int)) = some (.inr (.inl (List.replicate (t.length * t.length) true))) → P.iter K F ([], 0) = some (.inl (List.replicate (t.length * t.length) true)) := fun F h1 h2 => by
    have := iter_run (f := F) (fun j => (List.replicate j true, (j : Int))) _ (t.length * t.length) 0 K (by unfold K; omega) (fun j hj => by simp only [Nat.zero_add]; exact h1 j hj) (by simpa using h2)
    simpa using this
  rw [fill _ (fun j hj => by
    try dsimp only
    rw [show P.ilt (j : Int) ((t.length * t.length : Nat) : Int) = true from ilt_iff.2 (by omega), cond_true, len_eq, len_eq, room_nat.2 (by simp; omega), cond_true, wrap_succ (by omega)]
    rw [show P.app (List.replicate j true) [true] = List.replicate (j + 1) true from by rw [List.replicate_succ']; rfl]) (by
    try dsimp only
    rw [show P.ilt ((t.length * t.length : Nat) : Int) ((t.length * t.length : Nat) : Int) = false from by rw [Bool.eq_false_iff, Ne, ilt_iff]; omega, cond_false]), bind_some, either_inl]
  -- the passes
  have loop : ∀ (F : List Bool → Option (List Bool ⊕ Bool)), (∀ inn0, inn0.length = t.length * t.length → (∀ p, Inb t.length p.1 → Inb t.length p.2 → grid inn0 t.length p = false → ¬ Gfp (ruleB t) p) →
      (∃ inn, F inn0 = some (.inl inn) ∧ cnt inn < cnt inn0 ∧ inn.length = t.length * t.length ∧ ∀ p, Inb t.length p.1 → Inb t.length p.2 → grid inn t.length p = false → ¬ Gfp (ruleB t) p) ∨ F inn0 = some (.inr (decide (Sub t a b)))) →
      ∀ (m q : Nat) (inn0 : List Bool), cnt inn0 ≤ m → m < q → inn0.length = t.length * t.length → (∀ p, Inb t.length p.1 → Inb t.length p.2 → grid inn0 t.length p = false → ¬ Gfp (ruleB t) p) → P.iter q F inn0 = some (decide (Sub t a b)) := by
    intro F hF m
    induction m with
    | zero =>
      intro q inn0 h1 h2 h3 h4
      rcases hF inn0 h3 h4 with ⟨inn, g1, g2, _⟩ | g
      · omega
      · exact iter_done (by omega) g
    | succ m ih =>
      intro q inn0 h1 h2 h3 h4
      rcases hF inn0 h3 h4 with ⟨inn, g1, g2, g3, g4⟩ | g
      · rw [iter_step (by omega) g1]
        exact ih (q - 1) inn (by omega) (by omega) g3 g4
      · exact iter_done (by omega) g
  refine loop _ (fun inn0 hl hbad => ?_) (t.length * t.length) K (List.replicate (t.length * t.length) true) (by unfold cnt; exact Nat.le_trans List.count_le_length (by simp)) (by unfold K; omega) (by simp) (fun p h1 h2 h => by rw [grid_full h1 h2] at h; cases h)
  try dsimp only
  refine loop_inv t.length (fun i => Pass t inn0 fun p => Inb t.length p.2 ∧ 0 ≤ p.1 ∧ p.1 < (i : Int)) (fun (z : Option (List Bool ⊕ Bool)) => (∃ inn, z = some (.inl inn) ∧ cnt inn < cnt inn0 ∧ inn.length = t.length * t.length ∧ ∀ p, Inb t.length p.1 → Inb t.length p.2 → grid inn t.length p = false → ¬ Gfp (ruleB t) p) ∨ z = some (.inr (decide (Sub t a b))))
    (g0 := false) (s0 := inn0) ⟨hl, hbad, fun _ => rfl, fun z => (by cases z), Nat.le_refl _, fun _ p hp => by have := hp.2.1; have := hp.2.2; omega⟩ (by omega) (fun i g s hi I => ?_) (fun g s => ?_) (fun g s I => ?_)
  · try dsimp only
    rw [show P.ilt (i : Int) (P.len t) = true from ilt_len hi, cond_true]
    refine loop_inv t.length (fun j => Pass t inn0 fun p => (Inb t.length p.2 ∧ 0 ≤ p.1 ∧ p.1 < (i : Int)) ∨ (p.1 = (i : Int) ∧ 0 ≤ p.2 ∧ p.2 < (j : Int))) (fun (z : Option ((Bool × Int × List Bool) ⊕ ((Bool × List Bool) ⊕ (List Bool ⊕ Bool)))) => ∃ g' s', z = some (.inl (g', ((i + 1 : Nat) : Int), s')) ∧ Pass t inn0 (fun p => Inb t.length p.2 ∧ 0 ≤ p.1 ∧ p.1 < ((i + 1 : Nat) : Int)) g' s')
      ⟨I.len, I.bad, I.same, I.less, I.le, fun z p hp => I.ok z p (by rcases hp with q | q; exact q; have := q.2.1; have := q.2.2; omega)⟩ (by omega) (fun j g s hj I => ?_) (fun g s => ?_) (fun g s I => ?_)
    · have h1 : Inb t.length ((i : Int), (j : Int)).1 := ⟨by simp, by simpa using hi⟩
      have h2 : Inb t.length ((i : Int), (j : Int)).2 := ⟨by simp, by simpa using hj⟩
      have I' := pass_step (seen' := fun p => (Inb t.length p.2 ∧ 0 ≤ p.1 ∧ p.1 < (i : Int)) ∨ (p.1 = (i : Int) ∧ 0 ≤ p.2 ∧ p.2 < ((j + 1 : Nat) : Int))) hs hm I h1 h2 (fun q hq => by
        rcases hq with w | ⟨w1, w2, w3⟩
        · exact .inl (.inl w)
        · by_cases e : q.2 = (j : Int)
          · exact .inr (Prod.ext w1 e)
          · exact .inl (.inr ⟨w1, w2, by omega⟩))
      have hx := idx_wrap (t := t) hn h1 h2
      have hlt : idx t.length ((i : Int), (j : Int)) < s.length := by rw [I.len]; exact idx_lt h1 h2
      try dsimp only
      try dsimp only at hx
      rw [show P.ilt (j : Int) (P.len t) = true from ilt_len hj, cond_true, hx, inb_len hlt, cond_true, get_nat, ref_rule t s ((i : Int), (j : Int)) hs hm h1 h2 I.len, bind_some, wrap_succ (by omega)]
      refine ⟨_, _, ?_, I'⟩
      show P.cond (grid s t.length ((i : Int), (j : Int))) _ _ = _
      cases e1 : grid s t.length ((i : Int), (j : Int)) with
      | false => simp [P.cond]
      | true =>
        rw [cond_true]
        cases e2 : ruleB t ((i : Int), (j : Int)) (grid s t.length) with
        | true => simp [P.cond, P.not]
        | false => simp [P.cond, P.not, P.set]
    · try dsimp only
      rw [show P.ilt (t.length : Int) (P.len t) = false from ilt_end t, cond_false]
    · try dsimp only
      rw [wrap_succ (by omega)]
      refine ⟨g, s, rfl, I.len, I.bad, I.same, I.less, I.le, fun z p hp => I.ok z p ?_⟩
      by_cases e : p.1 = (i : Int)
      · exact .inr ⟨e, hp.1⟩
      · exact .inl ⟨hp.1, hp.2.1, by have := hp.2.2; omega⟩
  · try dsimp only
    rw [show P.ilt (t.length : Int) (P.len t) = false from ilt_end t, cond_false]
  · try dsimp only
    cases g with
    | true => exact .inl ⟨s, rfl, I.less rfl, I.len, I.bad⟩
    | false =>
      right
      have e := I.same rfl
      subst e
      have hx := idx_wrap (t := t) (p := (a, b)) hn ha hb
      try dsimp only at hx
      rw [not_false', cond_true, hx, inb_len (by rw [I.len]; exact idx_lt (p := (a, b)) ha hb), cond_true, get_nat]
      refine congrArg (fun z => some (Sum.inr z)) ?_
      show grid s t.length (a, b) = _
      cases z : grid s t.length (a, b) with
      | false => exact (decide_eq_false (I.bad (a, b) ha hb z)).symm
      | true =>
        symm
        apply decide_eq_true
        refine ⟨fun p => Inb t.length p.1 ∧ Inb t.length p.2 ∧ grid s t.length p = true, ⟨ha, hb, z⟩, fun p ⟨p1, p2, p3⟩ f hf => ?_⟩
        refine rule_mono t p (grid s t.length) f (fun o ho hg => ?_) (I.ok rfl p ⟨p2, p1⟩ p3)
        have b := mem_pairs.1 (asked_pairs hmt p (mem_pairs.2 ⟨p1, p2⟩) o ho)
        exact hf o ⟨b.1, b.2, hg⟩
open Classical in
theorem ref_sub (t : List Tt) (hs : SmallT t) (a b : Int) : ref24_Sub K (t, a, b) = some (subB t a b) := by
  by_cases hm : MayD t
  · by_cases h : Inb t.length a ∧ Inb t.length b
    · rw [ref_body t hs hm a b h.1 h.2]
      unfold subB
      congr 1
      rw [decide_eq_decide]
      exact ⟨fun z => ⟨hm, h.1, h.2, z⟩, fun z => z.2.2.2⟩
    · unfold ref24_Sub subB
      try dsimp only
      rw [ref_may t (small_few hs), bind_some, decide_eq_true hm, not_true, cond_false, decide_eq_false (fun z => h ⟨z.2.1, z.2.2.1⟩), ilt_dec, ilt_dec, ile_dec, ile_dec, cond_dec, cond_dec, cond_dec, cond_dec, len_eq]
      by_cases c1 : a < 0
      · rw [if_pos c1]
      · by_cases c2 : b < 0
        · rw [if_neg c1, if_pos c2]
        · by_cases c3 : (t.length : Int) ≤ a
          · rw [if_neg c1, if_neg c2, if_pos c3]
          · by_cases c4 : (t.length : Int) ≤ b
            · rw [if_neg c1, if_neg c2, if_neg c3, if_pos c4]
            · exact absurd ⟨⟨by omega, by omega⟩, by omega, by omega⟩ h
  · unfold ref24_Sub subB
    try dsimp only
    rw [ref_may t (small_few hs), bind_some, decide_eq_false hm, not_false', cond_true, decide_eq_false (fun z => hm z.1)]
end Go.PL.Ty
end
section
namespace Go.PL.Sv
variable {K : Type} [DecidableEq K]
variable (asked : K → List K) (rule : K → (K → Bool) → Bool) (cj : K → Bool)
def gone (s : St K) (k : K) : Nat := (asked k).countP fun o => s.out o = some false
def room (s : St K) (k : K) : Nat := if cj k = true then 1 + 2 * gone asked s k else 2 ^ gone asked s k
structure InvC (U : List K) (start : K) (ps es : List K) (s : St K) : Prop where
  dom : ∀ k, s.out k ≠ none → k ∈ U
  good : ∀ k, s.out k = some true → k ∈ s.work ∨ ((∀ o ∈ asked k, s.out o ≠ none ∧ (s.out o = some true → k ∈ s.on o)) ∧ rule k (ans s) = true)
  bad : ∀ k, s.out k = some false → ¬ Gfp rule k
  st : s.out start ≠ none
  cw : ∀ k, s.work.count k + ps.count k ≤ room asked cj s k
  co : ∀ k o, (s.on o).count k ≤ es.count k * (asked k).count o
  ep : ∀ k, es.count k ≤ ps.count k
  e1 : ∀ k, cj k = true → s.out k = some true → es.count k ≤ 1
  e2 : ∀ k, cj k = true → es.count k ≤ 2
  ew : ∀ k, cj k = true → s.out k = some true → 1 ≤ es.count k → k ∈ s.work → ∃ o ∈ asked k, s.out o = some false
  new : ∀ k, s.out k = none → k ∉ s.work ∧ k ∉ ps
  psU : ∀ k ∈ ps, k ∈ U
theorem room_one {s : St K} {k : K} : 1 ≤ room asked cj s k := by
  unfold room
  split
  · omega
  · exact Nat.one_le_two_pow
theorem start_invC {U : List K} {start : K} (hs : start ∈ U) : InvC asked rule cj U start [] [] ⟨up (fun _ => none) start (some true), fun _ => [], [start]⟩ := by
  have I := start_inv asked rule hs
  refine ⟨I.dom, I.good, I.bad, I.st, fun k => ?_, fun k o => by simp, fun k => by simp, fun k _ _ => by simp, fun k _ => by simp, fun k _ _ h => by simp at h, I.new, I.psU⟩
  have h2 : [start].count k ≤ 1 := by
    rw [List.count_singleton]; split <;> omega
  have := room_one asked cj (s := ⟨up (fun _ => none) start (some true), fun _ => [], [start]⟩) (k := k)
  simp only [List.count_nil, Nat.add_zero]
  omega
variable {asked rule cj}
theorem cons_count (l : List K) (k x : K) : (k :: l).count x = l.count x + if x = k then 1 else 0 := by
  rw [List.count_cons]
  congr 1
  by_cases e : x = k
  · subst e; simp
  · rw [if_neg e, if_neg (by simpa using fun z => e z.symm)]
theorem step_invC (mono : ∀ k (f g : K → Bool), (∀ o ∈ asked k, f o = true → g o = true) → rule k f = true → rule k g = true) (conj : ∀ k f, cj k = true → (∃ o ∈ asked k, f o = false) → rule k f = false)
    {U : List K} {start : K} (hU : ∀ k ∈ U, ∀ o ∈ asked k, o ∈ U) {ps es : List K} {s : St K} {k : K} {w : List K} (hw : s.work = w ++ [k]) (I : InvC asked rule cj U start ps es s) :
    ∃ es', InvC asked rule cj U start (k :: ps) es' (step asked rule s k w) := by
  have hkd : s.out k ≠ none := fun h => (I.new k h).1 (by rw [hw]; simp)
  have hkU := I.dom k hkd
  have cnt : ∀ x, s.work.count x = w.count x + if x = k then 1 else 0 := fun x => by
    rw [hw, List.count_append, List.count_singleton]
    congr 1
    by_cases e : x = k
    · subst e; simp
    · rw [if_neg e, if_neg (by simpa using fun z => e z.symm)]
  have pU : ∀ x ∈ k :: ps, x ∈ U := fun x hx => by
    rcases List.mem_cons.1 hx with rfl | h
    · exact hkU
    · exact I.psU x h
  have wsub : ∀ x, x ∈ w → x ∈ s.work := fun x h => by rw [hw]; exact List.mem_append_left _ h
  unfold step
  by_cases hk : s.out k = some true
  case neg =>
    rw [if_neg hk]
    refine ⟨es, I.dom, fun x hx => ?_, I.bad, I.st, fun x => ?_, I.co, fun x => ?_, I.e1, I.e2, fun x h1 h2 h3 h4 => I.ew x h1 h2 h3 (wsub x h4), fun x hx => ?_, pU⟩
    · have hx : s.out x = some true := hx
      rcases I.good x hx with h | h
      · rw [hw] at h
        rcases List.mem_append.1 h with h | h
        · exact .inl h
        · have e : x = k := by simpa using h
          subst e; exact absurd hx hk
      · exact .inr h
    · have := I.cw x
      rw [cnt] at this
      rw [cons_count]
      show w.count x + _ ≤ room asked cj s x
      omega
    · have := I.ep x
      rw [cons_count]; omega
    · have hx : s.out x = none := hx
      obtain ⟨h1, h2⟩ := I.new x hx
      refine ⟨fun h => h1 (wsub x h), fun h => ?_⟩
      rcases List.mem_cons.1 h with rfl | h
      · exact hkd hx
      · exact h2 h
  case pos =>
    rw [if_pos hk]
    have M := mid_all (start := start) (ps := ps) (k := k) (asked k) [] { s with work := w } (hU k hkU) (mid_start (s0 := { s with work := w }) I.dom fun x hx h => (I.new x hx).1 (wsub x h))
    rw [List.nil_append] at M
    have ans1 : ans (asks k (asked k) { s with work := w }) = ans s := asks_ans _ _ _
    generalize hs1 : asks k (asked k) { s with work := w } = s1 at M ans1
    have fls : ∀ x, s1.out x = some false ↔ s.out x = some false := fun x => by
      constructor
      · intro h
        cases q : s.out x with
        | none =>
          rcases M.nw x q with z | ⟨z, _⟩
          · rw [z] at h; cases h
          · rw [z] at h; cases h
        | some b => have := M.old x (by show s.out x ≠ none; rw [q]; simp); rw [h] at this; rw [← q]; exact this.symm
      · intro h
        have := M.old x (by show s.out x ≠ none; rw [h]; simp)
        rw [this]; exact h
    have cP : ∀ x, gone asked s1 x = gone asked s x := fun x => by
      unfold gone
      congr 1; funext o; exact decide_eq_decide.2 (fls o)
    have rm : ∀ x, room asked cj s1 x = room asked cj s x := fun x => by unfold room; rw [cP]
    have co1 : ∀ x o, (s1.on o).count x ≤ (k :: es).count x * (asked x).count o := fun x o => by
      rw [M.co x o, cons_count]
      have h := I.co x o
      by_cases e : x = k
      · subst e
        rw [if_pos rfl, if_pos rfl, Nat.add_mul, Nat.one_mul]
        exact Nat.add_le_add_right h _
      · rw [if_neg e, if_neg e, Nat.add_zero, Nat.add_zero]; exact h
    have cw1 : ∀ x, s1.work.count x + (k :: ps).count x ≤ room asked cj s x := fun x => by
      rw [M.cw x, cons_count]
      show w.count x + _ + _ ≤ _
      have h := I.cw x
      rw [cnt] at h
      by_cases q : s.out x = none ∧ s1.out x ≠ none
      · rw [if_pos q]
        have hx : x ≠ k := fun e => by subst e; exact hkd q.1
        obtain ⟨n1, n2⟩ := I.new x q.1
        have c1 : w.count x = 0 := List.count_eq_zero.2 fun z => n1 (wsub x z)
        have c2 : ps.count x = 0 := List.count_eq_zero.2 n2
        have := room_one asked cj (s := s) (k := x)
        rw [c1, c2, if_neg hx]
        omega
      · have q' : ¬ (s.out x = none ∧ s1.out x ≠ none) := q
        rw [if_neg q']
        omega
    have new1 : ∀ x, s1.out x = none → x ∉ s1.work ∧ x ∉ k :: ps := fun x hx => by
      have h0 : s.out x = none := by
        cases q : s.out x with
        | none => rfl
        | some b => have := M.old x (by show s.out x ≠ none; rw [q]; simp); rw [hx] at this; rw [← q]; exact this.symm
      refine ⟨M.none x hx, fun h => ?_⟩
      rcases List.mem_cons.1 h with rfl | h
      · exact hkd h0
      · exact (I.new x h0).2 h
    have ep1 : ∀ x, (k :: es).count x ≤ (k :: ps).count x := fun x => by
      rw [cons_count, cons_count]; have := I.ep x; omega
    have st1 : s1.out start ≠ none := fun h => by
      have := M.old start I.st
      rw [h] at this
      exact I.st this.symm
    have k1 : s1.out k = some true := by rw [M.old k hkd]; exact hk
    have was : ∀ x, s1.out x = some true → 1 ≤ es.count x → s.out x = some true := fun x hx he => by
      cases q : s.out x with
      | none =>
        have := (I.new x q).2
        have := List.count_eq_zero.2 this
        have := I.ep x
        omega
      | some b => have hb := M.old x (by show s.out x ≠ none; rw [q]; simp); rw [← q, ← hx]; exact hb.symm
    have inw : ∀ x, s.out x = some true → x ∈ s1.work → x ∈ w := fun x hx h => by
      have h1 : 0 < s1.work.count x := List.count_pos_iff.2 h
      rw [M.cw x, if_neg (fun z => by have z1 : s.out x = none := z.1; rw [hx] at z1; cases z1), Nat.add_zero] at h1
      exact List.count_pos_iff.1 h1
    have keep : ∀ x, x ≠ k → s1.out x = some true → x ∈ s1.work ∨ ((∀ o ∈ asked x, s1.out o ≠ none ∧ (s1.out o = some true → x ∈ s1.on o)) ∧ rule x (ans s1) = true) := fun x e hx => by
      cases q : s.out x with
      | none =>
        rcases M.nw x q with z | ⟨_, z⟩
        · rw [z] at hx; cases hx
        · exact .inl z
      | some b =>
        have hb := M.old x (by show s.out x ≠ none; rw [q]; simp)
        have hx0 : s.out x = some true := by rw [← hx]; exact hb.symm
        rcases I.good x hx0 with h | ⟨h1, h2⟩
        · rw [hw] at h
          rcases List.mem_append.1 h with h | h
          · exact .inl (M.sub x h)
          · exact absurd (by simpa using h) e
        · refine .inr ⟨fun o ho => ?_, by rw [ans1]; exact h2⟩
          obtain ⟨g1, g2⟩ := h1 o ho
          have := M.old o g1
          rw [this]
          exact ⟨g1, fun z => M.onsub x o (g2 z)⟩
    have e2' : ∀ x, cj x = true → (k :: es).count x ≤ 2 := fun x hx => by
      rw [cons_count]
      by_cases e : x = k
      · subst e; have := I.e1 x hx hk; rw [if_pos rfl]; omega
      · rw [if_neg e]; exact I.e2 x hx
    by_cases hr : rule k (ans s) = true
    · simp only [hr, if_true]
      have none_gone : cj k = true → ∀ o ∈ asked k, s.out o ≠ some false := fun hc o ho hf => by
        have := conj k (ans s) hc ⟨o, ho, by simp [ans, hf]⟩
        rw [hr] at this; cases this
      have es0 : cj k = true → es.count k = 0 := fun hc => by
        rcases Nat.eq_zero_or_pos (es.count k) with z | z
        · exact z
        · obtain ⟨o, ho, hf⟩ := I.ew k hc hk z (by rw [hw]; simp)
          exact absurd hf (none_gone hc o ho)
      refine ⟨k :: es, M.dom, fun x hx => ?_, fun x hx => I.bad x ((fls x).1 hx), st1, fun x => by rw [rm]; exact cw1 x, co1, ep1, fun x hc hx => ?_, e2', fun x hc hx he hm => ?_, new1, pU⟩
      · by_cases e : x = k
        · subst e
          exact .inr ⟨fun o ho => ⟨(M.dn o ho).1, fun _ => (M.dn o ho).2⟩, by rw [ans1]; exact hr⟩
        · exact keep x e hx
      · rw [cons_count]
        by_cases e : x = k
        · subst e; rw [es0 hc, if_pos rfl]; omega
        · rw [if_neg e, Nat.add_zero]
          rcases Nat.eq_zero_or_pos (es.count x) with z | z
          · omega
          · exact I.e1 x hc (was x hx z)
      · by_cases e : x = k
        · subst e
          exfalso
          have h1 : 0 < s1.work.count x := List.count_pos_iff.2 hm
          have h2 := cw1 x
          have h3 : gone asked s x = 0 := by
            unfold gone
            rw [List.countP_eq_zero]
            intro o ho
            simpa using none_gone hc o ho
          unfold room at h2
          rw [if_pos hc, h3, cons_count, if_pos rfl] at h2
          omega
        · rw [cons_count, if_neg e, Nat.add_zero] at he
          have hx0 := was x hx he
          obtain ⟨o, ho, hf⟩ := I.ew x hc hx0 he (wsub x (inw x hx0 hm))
          exact ⟨o, ho, (fls o).2 hf⟩
    · simp only [hr, Bool.false_eq_true, if_false]
      have hc' : ∀ x, ((asked x).countP fun o => up s1.out k (some false) o = some false) = gone asked s x + (asked x).count k := fun x => by
        unfold gone
        generalize asked x = l
        induction l with
        | nil => simp
        | cons o l ih =>
          rw [List.countP_cons, List.countP_cons, List.count_cons, ih]
          by_cases e : o = k
          · subst e
            simp only [up, hk, if_true, beq_self_eq_true, decide_true]
            simp
            omega
          · simp only [up, if_neg e, fls o]
            have : (o == k) = false := by simpa using e
            rw [this]
            simp
            omega
      refine ⟨k :: es, fun x hx => ?_, fun x hx => ?_, fun x hx => ?_, ?_, fun x => ?_, fun x o => ?_, ep1, fun x hc hx => ?_, e2', fun x hc hx he hm => ?_, fun x hx => ?_, pU⟩
      · by_cases e : x = k
        · subst e; exact hkU
        · exact M.dom x (by simpa [up, e] using hx)
      · by_cases e : x = k
        · subst e; simp [up] at hx
        · have hx : s1.out x = some true := by simpa [up, e] using hx
          rcases keep x e hx with h | ⟨h1, h2⟩
          · exact .inl (List.mem_append_left _ h)
          · by_cases hka : k ∈ asked x
            · exact .inl (List.mem_append_right _ ((h1 k hka).2 k1))
            · refine .inr ⟨fun o ho => ?_, mono x (ans s1) _ (fun o ho h => ?_) h2⟩
              · have ne : o ≠ k := fun z => hka (z ▸ ho)
                obtain ⟨g1, g2⟩ := h1 o ho
                simp only [up, if_neg ne]
                exact ⟨g1, g2⟩
              · have ne : o ≠ k := fun z => hka (z ▸ ho)
                simp only [ans, up, if_neg ne]
                exact h
      · by_cases e : x = k
        · subst e
          rintro ⟨T, hT1, hT⟩
          refine hr (hT x hT1 (ans s) fun o ho => ?_)
          cases q : s.out o with
          | none => simp [ans, q]
          | some b => cases b with
            | true => simp [ans, q]
            | false => exact absurd ⟨T, ho, hT⟩ (I.bad o q)
        · have hx : s1.out x = some false := by simpa [up, e] using hx
          exact I.bad x ((fls x).1 hx)
      · by_cases e : start = k
        · subst e; simp [up]
        · simp only [up, if_neg e]; exact st1
      · show (s1.work ++ s1.on k).count x + _ ≤ _
        have h1 := cw1 x
        rw [List.count_append]
        unfold room gone
        simp only
        rw [hc']
        unfold room at h1
        by_cases hcx : cj x = true
        · rw [if_pos hcx] at h1 ⊢
          have h2 : (s1.on k).count x ≤ 2 * (asked x).count k := Nat.le_trans (co1 x k) (Nat.mul_le_mul_right _ (e2' x hcx))
          omega
        · rw [if_neg hcx] at h1 ⊢
          have h2 : (s1.on k).count x ≤ 2 ^ gone asked s x * (asked x).count k := Nat.le_trans (co1 x k) (Nat.mul_le_mul_right _ (by have := ep1 x; omega))
          have h3 := two_pow_add (gone asked s x) ((asked x).count k)
          omega
      · by_cases e : o = k
        · subst e; simp [up]
        · simp only [up, if_neg e]; exact co1 x o
      · have e : x ≠ k := fun e => by subst e; simp [up] at hx
        have hx : s1.out x = some true := by simpa [up, e] using hx
        rw [cons_count, if_neg e, Nat.add_zero]
        rcases Nat.eq_zero_or_pos (es.count x) with z | z
        · omega
        · exact I.e1 x hc (was x hx z)
      · have e : x ≠ k := fun e => by subst e; simp [up] at hx
        have hx : s1.out x = some true := by simpa [up, e] using hx
        rw [cons_count, if_neg e, Nat.add_zero] at he
        have hx0 := was x hx he
        rcases List.mem_append.1 hm with h | h
        · obtain ⟨o, ho, hf⟩ := I.ew x hc hx0 he (wsub x (inw x hx0 h))
          refine ⟨o, ho, ?_⟩
          simp only [up]
          split
          · rfl
          · exact (fls o).2 hf
        · have h1 : 0 < (s1.on k).count x := List.count_pos_iff.2 h
          have h2 := co1 x k
          have h3 : 0 < (asked x).count k := by
            rcases Nat.eq_zero_or_pos ((asked x).count k) with z | z
            · rw [z, Nat.mul_zero] at h2; omega
            · exact z
          exact ⟨k, List.count_pos_iff.1 h3, by simp [up]⟩
      · by_cases e : x = k
        · subst e; simp [up] at hx
        · have hx : s1.out x = none := by simpa [up, e] using hx
          obtain ⟨g1, g2⟩ := new1 x hx
          refine ⟨fun h => ?_, g2⟩
          rcases List.mem_append.1 h with h | h
          · exact g1 h
          · have c0 : (k :: ps).count x = 0 := List.count_eq_zero.2 g2
            have := ep1 x
            have := co1 x k
            rw [show (k :: es).count x = 0 by omega, Nat.zero_mul] at this
            have : 0 < (s1.on k).count x := List.count_pos_iff.2 h
            omega
structure Asks (asked : K → List K) (cj : K → Bool) (m : Nat) : Prop where
  conj : ∀ k, cj k = true → (asked k).length ≤ m
  disj : ∀ k, ¬ cj k = true → (asked k).length ≤ 10
theorem InvC.room_le {U : List K} {start : K} {ps es : List K} {s : St K} {m : Nat} (A : Asks asked cj m) (k : K) : room asked cj s k ≤ 1 + 2 * m + 1024 := by
  unfold room gone
  split
  · rename_i h
    have := A.conj k h
    have : (asked k).countP (fun o => s.out o = some false) ≤ (asked k).length := List.countP_le_length
    omega
  · rename_i h
    have := A.disj k h
    have h2 : (asked k).countP (fun o => s.out o = some false) ≤ (asked k).length := List.countP_le_length
    have : 2 ^ ((asked k).countP fun o => s.out o = some false) ≤ 2 ^ 10 := Nat.pow_le_pow_right (by omega) (by omega)
    omega
theorem InvC.ps_len {U : List K} {start : K} {ps es : List K} {s : St K} (I : InvC asked rule cj U start ps es s) {m : Nat} (A : Asks asked cj m) : ps.length ≤ U.length * (1 + 2 * m + 1024) :=
  length_le I.psU fun x => Nat.le_trans (Nat.le_trans (Nat.le_add_left _ _) (I.cw x)) (InvC.room_le (U := U) (start := start) (ps := ps) (es := es) A x)
theorem InvC.work_len {U : List K} {start : K} {ps es : List K} {s : St K} (I : InvC asked rule cj U start ps es s) {m : Nat} (A : Asks asked cj m) : s.work.length ≤ U.length * (1 + 2 * m + 1024) :=
  length_le (fun x hx => I.dom x fun h => (I.new x h).1 hx) fun x => Nat.le_trans (Nat.le_trans (Nat.le_add_right _ _) (I.cw x)) (InvC.room_le (U := U) (start := start) (ps := ps) (es := es) A x)
theorem InvC.on_len {U : List K} {start : K} {ps es : List K} {s : St K} (I : InvC asked rule cj U start ps es s) {m : Nat} (A : Asks asked cj m) (o : K) : (s.on o).length ≤ U.length * (2 * m + 10240) := by
  refine length_le (fun x hx => I.psU x ?_) fun x => Nat.le_trans (I.co x o) ?_
  · have h1 : 0 < (s.on o).count x := List.count_pos_iff.2 hx
    have h2 := I.co x o
    apply List.count_pos_iff.1
    have h3 := I.ep x
    rcases Nat.eq_zero_or_pos (es.count x) with z | z
    · rw [z, Nat.zero_mul] at h2; omega
    · omega
  · by_cases c : cj x = true
    · have h1 := I.e2 x c
      have h2 : (asked x).count o ≤ m := Nat.le_trans List.count_le_length (A.conj x c)
      have := Nat.mul_le_mul h1 h2
      omega
    · have h1 : es.count x ≤ 1024 := by
        have h := I.cw x
        have h2 := I.ep x
        unfold room gone at h
        rw [if_neg c] at h
        have h3 : (asked x).countP (fun o => s.out o = some false) ≤ (asked x).length := List.countP_le_length
        have h4 := A.disj x c
        have : 2 ^ ((asked x).countP fun o => s.out o = some false) ≤ 2 ^ 10 := Nat.pow_le_pow_right (by omega) (by omega)
        omega
      have h2 : (asked x).count o ≤ 10 := Nat.le_trans List.count_le_length (A.disj x c)
      have := Nat.mul_le_mul h1 h2
      omega
theorem InvC.done (mono : ∀ k (f g : K → Bool), (∀ o ∈ asked k, f o = true → g o = true) → rule k f = true → rule k g = true) {U : List K} {start : K} {ps es : List K} {s : St K} (I : InvC asked rule cj U start ps es s) (hw : s.work = []) : s.out start = some true ↔ Gfp rule start := by
  constructor
  · intro h
    refine ⟨fun k => s.out k = some true, h, fun k hk f hf => ?_⟩
    rcases I.good k hk with z | ⟨h1, h2⟩
    · rw [hw] at z; cases z
    · refine mono k (ans s) f (fun o ho z => hf o ?_) h2
      obtain ⟨g1, _⟩ := h1 o ho
      cases q : s.out o with
      | none => exact absurd q g1
      | some b => rw [ans, q] at z; simpa using z
  · intro h
    cases q : s.out start with
    | none => exact absurd q I.st
    | some b => cases b with
      | true => rfl
      | false => exact absurd h (I.bad start q)
end Go.PL.Sv
end
section
open Go Go.PG Go.PL Go.PL.Sv
set_option linter.all false
namespace Go.PL.Ty
abbrev BB : Nat := 1000000000000
section
variable {κ : Type} [DecidableEq κ] {f : κ → κ → Bool}
theorem last_keyC (w : List κ) (k d : κ) (hl : w.length ≤ BB) : P.wrap .i64 (P.sub (P.len (w ++ [k])) 1) = (w.length : Int) ∧ P.get (w ++ [k]) (w.length : Int) d = k ∧ P.sub_ (w ++ [k]) 0 (w.length : Int) = w ∧ P.ilt 0 (P.len (w ++ [k])) = true ∧ P.inb (w.length : Int) (P.len (w ++ [k])) = true ∧ P.cut 0 (w.length : Int) (P.len (w ++ [k])) = true := by
  have e : P.len (w ++ [k]) = ((w.length + 1 : Nat) : Int) := by rw [len_eq]; simp
  unfold BB at hl
  refine ⟨?_, ?_, ?_, ?_, ?_, ?_⟩
  · rw [e, show P.sub ((w.length + 1 : Nat) : Int) 1 = (w.length : Int) from by simp [P.sub], wrap_nat (by omega)]
  · rw [get_nat]; simp [List.getD_eq_getElem?_getD]
  · simp [P.sub_]
  · rw [e]; exact ilt_iff.2 (by omega)
  · rw [e]; exact inb_iff.2 (by omega)
  · rw [e]; exact cut_iff.2 (by omega)
open Classical in
theorem solve_goalC (hf : ∀ x y, f x y = true ↔ x = y) {asked : κ → List κ} {rule : κ → (κ → Bool) → Bool} {cj : κ → Bool} (mono : ∀ k (f g : κ → Bool), (∀ o ∈ asked k, f o = true → g o = true) → rule k f = true → rule k g = true) (conj : ∀ k f, cj k = true → (∃ o ∈ asked k, f o = false) → rule k f = false)
    {U : List κ} {start : κ} (hU : ∀ k ∈ U, ∀ o ∈ asked k, o ∈ U) (hst : start ∈ U) {m : Nat}
    (hm : Asks asked cj m) (hlen : U.length * (2 * m + 10240) ≤ BB) {ρ : Type} {G : List κ × List (κ × Bool) × List (κ × Option (List κ)) → Option ((List κ × List (κ × Bool) × List (κ × Option (List κ))) ⊕ ((List (κ × Bool) × List (κ × Option (List κ))) ⊕ ρ))} {B : ρ → Option Bool}
    (hs : ∀ (w : List κ) (k : κ) (out : List (κ × Bool)) (on : List (κ × Option (List κ))), k ∈ U → Tidy on → w.length ≤ BB → (∀ o, (onOf f on o).length ≤ BB) →
      Done f (Sv.step asked rule (toSt f (out, on, w ++ [k])) k w) (G (w ++ [k], out, on)))
    (he : ∀ out on, G ([], out, on) = some (.inr (.inl (out, on)))) :
    P.bind (P.iter K G ([start], P.mput f [] start true, [])) (P.either (fun z => some (P.mval f z.1 start false)) B) = some (decide (Gfp rule start)) := by
  have hle : U.length * (1 + 2 * m + 1024) ≤ U.length * (2 * m + 10240) := Nat.mul_le_mul_left _ (by omega)
  have key : ∀ (n q : Nat) (ps es : List κ) (mm : Mt κ), U.length * (1 + 2 * m + 1024) < ps.length + n → n ≤ q → Tidy mm.2.1 → InvC asked rule cj U start ps es (toSt f mm) →
      ∃ out on, P.iter q G (mm.2.2, mm.1, mm.2.1) = some (.inl (out, on)) ∧ P.mval f out start false = decide (Gfp rule start) := by
    intro n
    induction n with
    | zero => intro q ps es mm h1 _ _ I; have := I.ps_len hm; omega
    | succ n ih =>
      intro q ps es mm h1 h2 hT I
      rcases List.eq_nil_or_concat mm.2.2 with hw | ⟨w, k, hw⟩
      · refine ⟨mm.1, mm.2.1, ?_, ?_⟩
        · rw [hw, iter_done (by omega) (he mm.1 mm.2.1)]
        · rw [val_of]
          have hd := I.done mono hw
          by_cases g : Gfp rule start
          · have := hd.2 g
            have e : outOf f mm.1 start = some true := this
            rw [e]; simp [g]
          · have e : ¬ outOf f mm.1 start = some true := fun z => g (hd.1 z)
            rw [decide_eq_false g]
            cases z : outOf f mm.1 start with
            | none => rfl
            | some b => cases b with
              | false => rfl
              | true => exact absurd z e
      · have hw : mm.2.2 = w ++ [k] := by simpa using hw
        have hk : k ∈ U := I.dom k fun z => (I.new k z).1 (by show k ∈ mm.2.2; rw [hw]; simp)
        have hwl := I.work_len hm
        have hwl : mm.2.2.length ≤ U.length * (1 + 2 * m + 1024) := hwl
        have honl : ∀ o, (onOf f mm.2.1 o).length ≤ BB := fun o => by
          have := I.on_len hm o
          have : (onOf f mm.2.1 o).length ≤ U.length * (2 * m + 10240) := this
          omega
        obtain ⟨m', g1, g2, g3⟩ := hs w k mm.1 mm.2.1 hk hT (by rw [hw] at hwl; simp at hwl; omega) honl
        obtain ⟨es', I'⟩ := step_invC mono conj hU (s := toSt f mm) hw I
        have e : toSt f (mm.1, mm.2.1, w ++ [k]) = toSt f mm := by unfold toSt; simp only [hw]
        rw [e] at g3
        rw [← g3] at I'
        obtain ⟨out, on, r1, r2⟩ := ih (q - 1) (k :: ps) es' m' (by rw [List.length_cons]; omega) (by omega) g2 I'
        exact ⟨out, on, by rw [hw, iter_step (by omega) g1]; exact r1, r2⟩
  obtain ⟨out, on, r1, r2⟩ := key (U.length * (1 + 2 * m + 1024) + 1) K [] [] (P.mput f [] start true, [], [start]) (by rw [List.length_nil, Nat.zero_add]; exact Nat.lt_succ_self _) (Nat.le_trans (Nat.succ_le_succ (Nat.le_trans hle hlen)) (Nat.le_of_ble_eq_true rfl)) tidy_nil (by
    have := start_invC asked rule cj hst
    have e : toSt f (P.mput f [] start true, [], [start]) = ⟨up (fun _ => none) start (some true), fun _ => [], [start]⟩ := by
      unfold toSt
      simp only
      rw [out_put hf, out_nil, on_nil]
    rw [e]; exact this)
  rw [r1, bind_some, either_inl]
  exact congrArg some r2
theorem step_finC (hf : ∀ x y, f x y = true ↔ x = y) {asked : κ → List κ} {rule : κ → (κ → Bool) → Bool} {ρ : Type} {out : List (κ × Bool)} {on : List (κ × Option (List κ))} {w : List κ} {k : κ} (hk : P.mval f out k false = true) {bytes : Nat} (hb : bytes ≤ 32)
    (v : Bool) (m' : Mt κ) (hv : v = rule k (ans (toSt f (out, on, w)))) (ht : Tidy m'.2.1) (hm : toSt f m' = asks k (asked k) (toSt f (out, on, w))) (h1 : m'.2.2.length ≤ 2 * BB) (h2 : ∀ o, (onOf f m'.2.1 o).length ≤ 2 * BB) :
    Done f (ρ := ρ) (Sv.step asked rule (toSt f (out, on, w ++ [k])) k w) (P.cond v (some (.inl (m'.2.2, m'.1, m'.2.1))) (P.bind (P.dget f m'.2.1 k) fun ys => P.cond (P.room (P.add (P.len m'.2.2) (P.len ys)) bytes) (some (.inl (P.app m'.2.2 ys, P.mput f m'.1 k false, P.mdel f (P.dtake f m'.2.1 k) k))) none)) := by
  rw [val_of] at hk
  have hk1 : (toSt f (out, on, w ++ [k])).out k = some true := by
    show outOf f out k = some true
    cases z : outOf f out k with
    | none => rw [z] at hk; cases hk
    | some b => rw [z] at hk; simp at hk; rw [hk]
  have e0 : ({ toSt f (out, on, w ++ [k]) with work := w } : St κ) = toSt f (out, on, w) := rfl
  have e1 : ans (toSt f (out, on, w ++ [k])) = ans (toSt f (out, on, w)) := rfl
  unfold Sv.step
  rw [if_pos hk1]
  simp only
  rw [e0, e1, ← hv, ← hm]
  cases v with
  | true => rw [if_pos rfl]; exact ⟨m', rfl, ht, rfl⟩
  | false =>
    rw [if_neg (by simp), cond_false, dget_some ht.2, bind_some, len_eq, len_eq, room_nat.2 (by have := h2 k; have : (m'.2.2.length + (onOf f m'.2.1 k).length) * bytes ≤ (m'.2.2.length + (onOf f m'.2.1 k).length) * 32 := Nat.mul_le_mul_left _ hb; unfold BB at *; omega), cond_true]
    obtain ⟨g1, g2⟩ := fall hf k m' ht
    exact ⟨(P.mput f m'.1 k false, P.mdel f (P.dtake f m'.2.1 k) k, P.app m'.2.2 (onOf f m'.2.1 k)), rfl, g1, g2⟩
theorem hold_roomC {ρ : Type} (bytes : Nat) (hb : bytes ≤ 32) (o : κ) (l : List κ) (h1 : l.length ≤ 2 * BB) (X Y : Option ρ) : P.cond (P.room (P.add (P.len l) (P.len [o])) bytes) X Y = X := by
  rw [len_eq, len_eq, room_nat.2 (by have : (l.length + [o].length) * bytes ≤ (l.length + [o].length) * 32 := Nat.mul_le_mul_left _ hb; unfold BB at *; simp only [List.length_cons, List.length_nil] at *; omega), cond_true]
theorem hold_getC {ρ : Type} (bytes : Nat) (hb : bytes ≤ 32) (k o : κ) (on : List (κ × Option (List κ))) (ht : Tidy on) (h2 : (onOf f on o).length ≤ 2 * BB) (Y : Option ρ) (Z : List κ → Option ρ) :
    P.bind (P.dget f on o) (fun ys => P.cond (P.room (P.add (P.len ys) (P.len [k])) bytes) (Z ys) Y) = Z (onOf f on o) := by
  rw [dget_some ht.2, bind_some, hold_roomC bytes hb k _ h2]
theorem all_run (hf : ∀ x y, f x y = true ↔ x = y) {ι ρ : Type} (L : List ι) (d : ι) (keyf : ι → κ) (k : κ) (W : Nat)
    {F : Bool × Int × Mt κ → Option ((Bool × Int × Mt κ) ⊕ ((Bool × Mt κ) ⊕ ρ))}
    (hs : ∀ (ok : Bool) (i : Nat) (m : Mt κ), i < L.length → Tidy m.2.1 → m.2.2.length ≤ W + i → (∀ o, (onOf f m.2.1 o).length ≤ W + i) → F (ok, (i : Int), m) = some (.inl (ok && ansM f m (keyf (L.getD i d)), ((i + 1 : Nat) : Int), hold1 f k m (keyf (L.getD i d)))))
    (he : ∀ ok m, F (ok, (L.length : Int), m) = some (.inr (.inl (ok, m)))) (hn : L.length ≤ 1000000000)
    (ok0 : Bool) (m0 : Mt κ) (hW : m0.2.2.length ≤ W) (hon : ∀ o, (onOf f m0.2.1 o).length ≤ W) (ht : Tidy m0.2.1) :
    ∃ m', Tidy m'.2.1 ∧ toSt f m' = asks k (L.map keyf) (toSt f m0) ∧ m'.2.2.length ≤ W + L.length ∧ (∀ o, (onOf f m'.2.1 o).length ≤ W + L.length) ∧ P.iter K F (ok0, 0, m0) = some (.inl (ok0 && L.all (fun x => ans (toSt f m0) (keyf x)), m')) := by
  have key : ∀ (n i q : Nat) (ok : Bool) (m : Mt κ), i + n = L.length → n < q → Tidy m.2.1 → m.2.2.length ≤ W + i → (∀ o, (onOf f m.2.1 o).length ≤ W + i) →
      ∃ m', Tidy m'.2.1 ∧ toSt f m' = asks k ((L.drop i).map keyf) (toSt f m) ∧ m'.2.2.length ≤ W + L.length ∧ (∀ o, (onOf f m'.2.1 o).length ≤ W + L.length) ∧ P.iter q F (ok, (i : Int), m) = some (.inl (ok && (L.drop i).all (fun x => ans (toSt f m) (keyf x)), m')) := by
    intro n
    induction n with
    | zero =>
      intro i q ok m hi hq hT h1 h2
      obtain rfl : i = L.length := by omega
      refine ⟨m, hT, by simp [asks], h1, h2, ?_⟩
      rw [iter_done (by omega) (he ok m)]
      simp
    | succ n ih =>
      intro i q ok m hi hq hT h1 h2
      have hl : i < L.length := by omega
      have hd : L.drop i = L.getD i d :: L.drop (i + 1) := by
        rw [List.drop_eq_getElem_cons hl]
        simp [List.getD_eq_getElem?_getD, hl]
      have h := hs ok i m hl hT h1 h2
      rw [iter_step (by omega) h, hd]
      obtain ⟨e1, e2⟩ := hold1_st hf k m (keyf (L.getD i d)) hT
      obtain ⟨m', g1, g2, g3, g4, g5⟩ := ih (i + 1) (q - 1) (ok && ansM f m (keyf (L.getD i d))) (hold1 f k m (keyf (L.getD i d))) (by omega) (by omega) e2 (by have := hold1_work (f := f) k m (keyf (L.getD i d)); omega) (fun x => by have := hold1_on hf k m (keyf (L.getD i d)) x hT; have := h2 x; omega)
      refine ⟨m', g1, ?_, g3, g4, ?_⟩
      · rw [g2, List.map_cons, e1]
        rfl
      · rw [g5, e1, ask1_ans, ansM_eq, List.all_cons]
        simp only [Bool.and_assoc]
  obtain ⟨m', g1, g2, g3, g4, g5⟩ := key L.length 0 K ok0 m0 (by omega) (by unfold K; omega) ht (by omega) (fun o => by have := hon o; omega)
  rw [show ((0 : Nat) : Int) = 0 from rfl, List.drop_zero] at g5
  rw [List.drop_zero] at g2
  exact ⟨m', g1, g2, g3, g4, g5⟩
theorem any_run (hf : ∀ x y, f x y = true ↔ x = y) {ι ρ : Type} (L : List ι) (d : ι) (keyf : ι → κ) (k : κ) (W : Nat)
    {F : Bool × Int × Mt κ → Option ((Bool × Int × Mt κ) ⊕ ((Bool × Mt κ) ⊕ ρ))}
    (hs : ∀ (ok : Bool) (i : Nat) (m : Mt κ), i < L.length → Tidy m.2.1 → m.2.2.length ≤ W + i → (∀ o, (onOf f m.2.1 o).length ≤ W + i) → F (ok, (i : Int), m) = some (.inl (ok || ansM f m (keyf (L.getD i d)), ((i + 1 : Nat) : Int), hold1 f k m (keyf (L.getD i d)))))
    (he : ∀ ok m, F (ok, (L.length : Int), m) = some (.inr (.inl (ok, m)))) (hn : L.length ≤ 1000000000)
    (ok0 : Bool) (m0 : Mt κ) (hW : m0.2.2.length ≤ W) (hon : ∀ o, (onOf f m0.2.1 o).length ≤ W) (ht : Tidy m0.2.1) :
    ∃ m', Tidy m'.2.1 ∧ toSt f m' = asks k (L.map keyf) (toSt f m0) ∧ m'.2.2.length ≤ W + L.length ∧ (∀ o, (onOf f m'.2.1 o).length ≤ W + L.length) ∧ P.iter K F (ok0, 0, m0) = some (.inl (ok0 || L.any (fun x => ans (toSt f m0) (keyf x)), m')) := by
  have key : ∀ (n i q : Nat) (ok : Bool) (m : Mt κ), i + n = L.length → n < q → Tidy m.2.1 → m.2.2.length ≤ W + i → (∀ o, (onOf f m.2.1 o).length ≤ W + i) →
      ∃ m', Tidy m'.2.1 ∧ toSt f m' = asks k ((L.drop i).map keyf) (toSt f m) ∧ m'.2.2.length ≤ W + L.length ∧ (∀ o, (onOf f m'.2.1 o).length ≤ W + L.length) ∧ P.iter q F (ok, (i : Int), m) = some (.inl (ok || (L.drop i).any (fun x => ans (toSt f m) (keyf x)), m')) := by
    intro n
    induction n with
    | zero =>
      intro i q ok m hi hq hT h1 h2
      obtain rfl : i = L.length := by omega
      refine ⟨m, hT, by simp [asks], h1, h2, ?_⟩
      rw [iter_done (by omega) (he ok m)]
      simp
    | succ n ih =>
      intro i q ok m hi hq hT h1 h2
      have hl : i < L.length := by omega
      have hd : L.drop i = L.getD i d :: L.drop (i + 1) := by
        rw [List.drop_eq_getElem_cons hl]
        simp [List.getD_eq_getElem?_getD, hl]
      have h := hs ok i m hl hT h1 h2
      rw [iter_step (by omega) h, hd]
      obtain ⟨e1, e2⟩ := hold1_st hf k m (keyf (L.getD i d)) hT
      obtain ⟨m', g1, g2, g3, g4, g5⟩ := ih (i + 1) (q - 1) (ok || ansM f m (keyf (L.getD i d))) (hold1 f k m (keyf (L.getD i d))) (by omega) (by omega) e2 (by have := hold1_work (f := f) k m (keyf (L.getD i d)); omega) (fun x => by have := hold1_on hf k m (keyf (L.getD i d)) x hT; have := h2 x; omega)
      refine ⟨m', g1, ?_, g3, g4, ?_⟩
      · rw [g2, List.map_cons, e1]
        rfl
      · rw [g5, e1, ask1_ans, ansM_eq, List.any_cons]
        simp only [Bool.or_assoc]
  obtain ⟨m', g1, g2, g3, g4, g5⟩ := key L.length 0 K ok0 m0 (by omega) (by unfold K; omega) ht (by omega) (fun o => by have := hon o; omega)
  rw [show ((0 : Nat) : Int) = 0 from rfl, List.drop_zero] at g5
  rw [List.drop_zero] at g2
  exact ⟨m', g1, g2, g3, g4, g5⟩
theorem asks_append (k : κ) : ∀ (a b : List κ) (s : St κ), asks k (a ++ b) s = asks k b (asks k a s) := by
  intro a b s
  unfold asks
  rw [List.foldl_append]
theorem many_run {ι ρ : Type} (L : List ι) (d : ι) (pre : ι → Bool) (keys : ι → List κ) (k : κ) (W M : Nat) (hM : ∀ x ∈ L, (keys x).length ≤ M)
    {F : Bool × Int × Mt κ → Option ((Bool × Int × Mt κ) ⊕ ((Bool × Mt κ) ⊕ ρ))}
    (hs : ∀ (ok : Bool) (i : Nat) (m : Mt κ), i < L.length → Tidy m.2.1 → m.2.2.length ≤ W + i * M → (∀ o, (onOf f m.2.1 o).length ≤ W + i * M) → ∃ m', F (ok, (i : Int), m) = some (.inl (ok && (pre (L.getD i d) && (keys (L.getD i d)).all (ans (toSt f m))), ((i + 1 : Nat) : Int), m')) ∧
      Tidy m'.2.1 ∧ toSt f m' = asks k (keys (L.getD i d)) (toSt f m) ∧ m'.2.2.length ≤ W + i * M + M ∧ ∀ o, (onOf f m'.2.1 o).length ≤ W + i * M + M)
    (he : ∀ ok m, F (ok, (L.length : Int), m) = some (.inr (.inl (ok, m)))) (hn : L.length ≤ 1000000000)
    (m0 : Mt κ) (hW : m0.2.2.length ≤ W) (hon : ∀ o, (onOf f m0.2.1 o).length ≤ W) (ht : Tidy m0.2.1) :
    ∃ m', Tidy m'.2.1 ∧ toSt f m' = asks k (L.flatMap keys) (toSt f m0) ∧ m'.2.2.length ≤ W + L.length * M ∧ (∀ o, (onOf f m'.2.1 o).length ≤ W + L.length * M) ∧ P.iter K F (true, 0, m0) = some (.inl (L.all (fun x => pre x && (keys x).all (ans (toSt f m0))), m')) := by
  have key : ∀ (n i q : Nat) (ok : Bool) (m : Mt κ), i + n = L.length → n < q → Tidy m.2.1 → m.2.2.length ≤ W + i * M → (∀ o, (onOf f m.2.1 o).length ≤ W + i * M) →
      ∃ m', Tidy m'.2.1 ∧ toSt f m' = asks k ((L.drop i).flatMap keys) (toSt f m) ∧ m'.2.2.length ≤ W + L.length * M ∧ (∀ o, (onOf f m'.2.1 o).length ≤ W + L.length * M) ∧ P.iter q F (ok, (i : Int), m) = some (.inl (ok && (L.drop i).all (fun x => pre x && (keys x).all (ans (toSt f m))), m')) := by
    intro n
    induction n with
    | zero =>
      intro i q ok m hi hq hT h1 h2
      obtain rfl : i = L.length := by omega
      refine ⟨m, hT, by simp [asks], h1, h2, ?_⟩
      rw [iter_done (by omega) (he ok m)]
      simp
    | succ n ih =>
      intro i q ok m hi hq hT h1 h2
      have hl : i < L.length := by omega
      have hd : L.drop i = L.getD i d :: L.drop (i + 1) := by
        rw [List.drop_eq_getElem_cons hl]
        simp [List.getD_eq_getElem?_getD, hl]
      obtain ⟨m1, h, e2, e1, e3, e4⟩ := hs ok i m hl hT h1 h2
      rw [iter_step (by omega) h, hd]
      have ee : (i + 1) * M = i * M + M := by rw [Nat.add_mul, Nat.one_mul]
      obtain ⟨m', g1, g2, g3, g4, g5⟩ := ih (i + 1) (q - 1) (ok && (pre (L.getD i d) && (keys (L.getD i d)).all (ans (toSt f m)))) m1 (by omega) (by omega) e2 (by omega) (fun x => by have := e4 x; omega)
      refine ⟨m', g1, ?_, g3, g4, ?_⟩
      · rw [g2, List.flatMap_cons, e1, asks_append]
      · rw [g5, e1, asks_ans, List.all_cons]
        simp only [Bool.and_assoc]
  obtain ⟨m', g1, g2, g3, g4, g5⟩ := key L.length 0 K true m0 (by omega) (by unfold K; omega) ht (by omega) (fun o => by have := hon o; omega)
  rw [show ((0 : Nat) : Int) = 0 from rfl, List.drop_zero, Bool.true_and] at g5
  rw [List.drop_zero] at g2
  exact ⟨m', g1, g2, g3, g4, g5⟩
end
end Go.PL.Ty
end

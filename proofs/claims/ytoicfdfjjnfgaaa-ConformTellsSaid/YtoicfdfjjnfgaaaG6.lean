/- Lemmas for the claim. -/
import Derived.Test.YtoicfdfjjnfgaaaG5
import Derived.Test.YtoicfdfjjnfgaaaG4
set_option linter.all false
section
open Go Go.PG Go.PL
set_option linter.all false
namespace Go.PL.Cf
open Go.PL.Sto (Val Prp Ob dP dO Right)
abbrev eqI : Int → Int → Bool := fun x y => P.ieq x y
def mk (out : List Int) : List (Int × Bool) := out.map fun x => (x, true)
theorem mval_mk (x : Int) : ∀ out : List Int, P.mval eqI (mk out) x false = decide (x ∈ out) := by
  intro out
  induction out with
  | nil => rfl
  | cons a l ih =>
    have e : P.mval eqI (mk (a :: l)) x false = match eqI x a with
      | true => true
      | false => P.mval eqI (mk l) x false := rfl
    rw [e, ih]
    have h : eqI x a = decide (x = a) := ieq_eq x a
    rw [h]
    by_cases q : x = a
    · subst q; simp
    · rw [decide_eq_false q]; simp [q]
theorem mput_mk (x : Int) : ∀ out : List Int, x ∉ out → P.mput eqI (mk out) x true = mk (out ++ [x]) := by
  intro out
  induction out with
  | nil => intro _; rfl
  | cons a l ih =>
    intro h
    have e : P.mput eqI (mk (a :: l)) x true = match eqI x a with
      | true => (x, true) :: mk l
      | false => (a, true) :: P.mput eqI (mk l) x true := rfl
    rw [e, ih (fun z => h (List.mem_cons_of_mem _ z))]
    have h2 : eqI x a = decide (x = a) := ieq_eq x a
    rw [h2, decide_eq_false (fun z => h (by rw [z]; simp))]
    rfl
abbrev nz (x : Int) : Bool := decide (x ≠ -1)
def PZ (z : List Int) (N : Nat) (i : Nat) : Prop := z.getD i 0 = -1 ∨ (0 ≤ z.getD i 0 ∧ z.getD i 0 < N ∧ z.getD i 0 ∉ z.take i)
instance (z : List Int) (N i : Nat) : Decidable (PZ z N i) := by unfold PZ; exact inferInstance
def Apart (z : List Int) (N : Nat) : Prop := (∀ x, x ∈ z → 0 ≤ x ∧ x < N) ∧ z.Nodup
instance (z : List Int) (N : Nat) : Decidable (Apart z N) := by unfold Apart; exact inferInstance
theorem pz_iff (z : List Int) (N : Nat) : (∀ i, i < z.length → PZ z N i) ↔ Apart (z.filter nz) N := by
  have gd : ∀ {i}, (h : i < z.length) → z.getD i 0 = z[i] := fun h => by simp [List.getD_eq_getElem?_getD, h]
  constructor
  · intro h
    refine ⟨fun x hx => ?_, ?_⟩
    · rw [List.mem_filter] at hx
      obtain ⟨i, hi, rfl⟩ := List.getElem_of_mem hx.1
      have := h i hi
      unfold PZ at this
      rw [gd hi] at this
      rcases this with q | q
      · simp [nz, q] at hx
      · exact ⟨q.1, q.2.1⟩
    · show List.Pairwise _ _
      rw [List.pairwise_filter, List.pairwise_iff_getElem]
      intro i j hi hj hij p1 p2 e
      have := h j hj
      unfold PZ at this
      rw [gd hj] at this
      rcases this with q | q
      · simp [nz, q] at p2
      · refine q.2.2 ?_
        rw [← e]
        rw [List.mem_take_iff_getElem]
        exact ⟨i, by omega, rfl⟩
  · rintro ⟨h1, h2⟩ i hi
    have h2 : List.Pairwise _ _ := h2
    rw [List.pairwise_filter, List.pairwise_iff_getElem] at h2
    unfold PZ
    rw [gd hi]
    by_cases q : z[i] = -1
    · exact .inl q
    · right
      have hm : z[i] ∈ z.filter nz := by
        rw [List.mem_filter]
        exact ⟨List.getElem_mem hi, by simp [nz, q]⟩
      refine ⟨(h1 _ hm).1, (h1 _ hm).2, fun hc => ?_⟩
      rw [List.mem_take_iff_getElem] at hc
      obtain ⟨j, hj, e⟩ := hc
      exact h2 j i (by omega) hi (by omega) (by simp [nz, e, q]) (by simp [nz, q]) e
theorem seen_loop {σ : Type} (z : List Int) (N : Nat) (hz : z.length ≤ 1000000) {f : Int × List (Int × Bool) → Option ((Int × List (Int × Bool)) ⊕ (List (Int × Bool) ⊕ Bool))} {A : List (Int × Bool) → Option σ} {B : Bool → Option σ}
    (hf : f = fun (y : Int × List (Int × Bool)) => P.cond (P.ilt y.fst (P.len z)) (P.cond (P.inb y.fst (P.len z)) (P.cond (P.ieq (P.get z y.fst 0) (-1)) (some (Sum.inl (P.wrap IntKind.i64 (P.add y.fst 1), y.snd))) (P.cond (P.ilt (P.get z y.fst 0) 0) (some (Sum.inr (Sum.inr false))) (P.cond (P.ile (N : Int) (P.get z y.fst 0)) (some (Sum.inr (Sum.inr false))) (P.cond (P.mval eqI y.snd (P.get z y.fst 0) false) (some (Sum.inr (Sum.inr false))) (some (Sum.inl (P.wrap IntKind.i64 (P.add y.fst 1), P.mput eqI y.snd (P.get z y.fst 0) true))))))) none) (some (Sum.inr (Sum.inl y.snd)))) :
    P.bind (P.iter K f (0, [])) (P.either A B) = if Apart (z.filter nz) N then A (mk (z.filter nz)) else B false := by
  have key := loop_stp (f := f) (A := A) (B := B) z.length (fun i => mk ((z.take i).filter nz)) (PZ z N) false (by omega) (fun i hi hp => by
    rw [hf]
    simp only
    rw [ilt_len hi, cond_true, inb_len hi, cond_true]
    simp only [get_nat]
    rw [wrap_succ (by omega), ieq_eq, cond_dec, ilt_dec, cond_dec, ile_dec, cond_dec, mval_mk, cond_dec]
    have ht : z.take (i + 1) = z.take i ++ [z.getD i 0] := take_getD' hi 0
    rw [ht, List.filter_append]
    have hPZ : PZ z N i ↔ (z.getD i 0 = -1 ∨ (0 ≤ z.getD i 0 ∧ z.getD i 0 < N ∧ z.getD i 0 ∉ z.take i)) := Iff.rfl
    generalize z.getD i 0 = x at hPZ ⊢
    by_cases h1 : x = -1
    · rw [if_pos h1, if_pos (hPZ.2 (.inl h1))]
      simp [nz, h1]
    · rw [if_neg h1]
      by_cases h2 : x < 0
      · rw [if_pos h2, if_neg (fun y => by rcases hPZ.1 y with q | q; exact h1 q; omega)]
      · rw [if_neg h2]
        by_cases h3 : (N : Int) ≤ x
        · rw [if_pos h3, if_neg (fun y => by rcases hPZ.1 y with q | q; exact h1 q; omega)]
        · rw [if_neg h3]
          by_cases h4 : x ∈ (z.take i).filter nz
          · rw [if_pos h4, if_neg (fun y => by rcases hPZ.1 y with q | q; exact h1 q; exact q.2.2 ((List.mem_filter.1 h4).1))]
          · have h5 : x ∉ z.take i := fun q => h4 (by rw [List.mem_filter]; exact ⟨q, by simp [nz, h1]⟩)
            rw [if_neg h4, if_pos (hPZ.2 (.inr ⟨by omega, by omega, h5⟩)), mput_mk x _ h4]
            simp [nz, h1]) (fun _ => by
    rw [hf]
    simp only
    rw [ilt_end]
    rfl)
  simp only [List.take_zero, List.filter_nil, List.take_length] at key
  rw [show mk [] = [] from rfl] at key
  rw [key]
  by_cases q : Apart (z.filter nz) N
  · rw [if_pos q, if_pos ((pz_iff z N).2 q)]
  · rw [if_neg q, if_neg fun h => q ((pz_iff z N).1 h)]
def allF (f : Fr) : List Int := f.2.2.flatten ++ f.2.1.filter nz
def MayF (f : Fr) (s : List Ob) : Prop := Sto.MayS s ∧ f.2.1.length = f.2.2.length ∧ (∀ i, i < f.1.length → Sto.PropOk s.length f.1 i) ∧ Apart (allF f) s.length
instance (f : Fr) (s : List Ob) : Decidable (MayF f s) := by unfold MayF; exact inferInstance
theorem apart_mid {f : Fr} {N : Nat} : (Apart ((f.2.2.flatten ++ f.2.1).filter nz) N ∧ (-1 : Int) ∉ f.2.2.flatten) ↔ Apart (allF f) N := by
  unfold allF
  rw [List.filter_append]
  constructor
  · rintro ⟨h1, h2⟩
    have e : f.2.2.flatten.filter nz = f.2.2.flatten := by
      rw [List.filter_eq_self]
      intro x hx
      have : x ≠ -1 := fun q => h2 (q ▸ hx)
      simp [nz, this]
    rw [e] at h1
    exact h1
  · intro h
    have h2 : (-1 : Int) ∉ f.2.2.flatten := fun q => by
      have := h.1 (-1) (List.mem_append_left _ q)
      omega
    have e : f.2.2.flatten.filter nz = f.2.2.flatten := by
      rw [List.filter_eq_self]
      intro x hx
      have : x ≠ -1 := fun q => h2 (q ▸ hx)
      simp [nz, this]
    rw [e]
    exact ⟨h, h2⟩
theorem clones_eq (k : Nat) (x : List (List Int)) (h : x.length ≤ 1000000) : slices_Clones_int k x = some x := by
  have hr : P.room (P.add (P.len (P.nil (List Int))) (P.len x)) 24 = true := by
    unfold P.room
    rw [decide_eq_true_eq, len_eq, len_eq]
    unfold P.add P.nil
    simp
    omega
  unfold slices_Clones_int
  try dsimp only
  rw [hr, cond_true]
  have e : P.app [] x = x := rfl
  rw [e, ilt_dec, cond_dec, len_eq]
  by_cases h0 : 0 < (x.length : Int)
  · rw [if_pos h0]; rfl
  · rw [if_neg h0]
    have : x = [] := List.eq_nil_of_length_eq_zero (by omega)
    subst this
    exact amb_same _
theorem vars_step {σ : Type} (f : Fr) (s : List Ob) {i : Nat} (hi : i < f.1.length) (hf : FewF f) (X Y : σ) : P.cond (P.not (decide (Right s.length (f.1.getD i dP).2))) X (P.cond (P.ilt 0 (i : Int)) (P.cond (P.not (P.slt (f.1.getD (i - 1) dP).1 (f.1.getD i dP).1)) X Y) Y) = if Sto.PropOk s.length f.1 i then Y else X := by
  rw [cond_ndec, slt_dec, cond_ndec, ilt_dec, cond_dec]
  by_cases h1 : Right s.length (f.1.getD i dP).2
  · rw [if_pos h1]
    by_cases h2 : (0 : Int) < (i : Int)
    · rw [if_pos h2]
      by_cases h3 : ltS (f.1.getD (i - 1) dP).1 (f.1.getD i dP).1
      · rw [if_pos h3, if_pos (show Sto.PropOk s.length f.1 i from ⟨h1, fun _ => h3⟩)]
      · rw [if_neg h3, if_neg fun q : Sto.PropOk s.length f.1 i => h3 (q.2 (by omega))]
    · rw [if_neg h2, if_pos (show Sto.PropOk s.length f.1 i from ⟨h1, fun q => absurd q (by omega)⟩)]
  · rw [if_neg h1, if_neg fun q : Sto.PropOk s.length f.1 i => h1 q.1]
theorem at_may (f : Fr) (s : List Ob) (hf : FewF f) (hs : FewO s) (ht : f.2.2.flatten.length + f.2.1.length ≤ 1000000) : conform_May K (f, s) = some (decide (MayF f s)) := by
  unfold conform_May
  try dsimp only
  rw [Sto.st_may s (fits_few hs), bind_some, cond_ndec]
  by_cases h1 : ¬ (Sto.MayS s)
  · rw [if_neg h1, decide_eq_false fun q : MayF f s => h1 q.1]
  replace h1 := Classical.byContradiction h1
  rw [if_pos h1, ieq_eq, cond_ndec, len_eq, len_eq]
  by_cases h2 : ¬ (f.2.1.length = f.2.2.length)
  · rw [if_neg (by omega), decide_eq_false fun q : MayF f s => h2 q.2.1]
  replace h2 := Classical.byContradiction h2
  rw [if_pos (by omega)]
  rw [loop_all f.1.length (fun i => Sto.PropOk s.length f.1 i) (r := false) (by have := hf.1; omega) ?_ ?_]
  · by_cases h3 : ¬ (∀ i, i < f.1.length → Sto.PropOk s.length f.1 i)
    · rw [if_neg h3, decide_eq_false fun q : MayF f s => h3 q.2.2.1]
    replace h3 := Classical.byContradiction h3
    rw [if_pos h3, clones_eq K _ (by have := hf.2.2.1; omega), bind_some, show P.room (P.add (P.len f.2.2) (P.len [f.2.1])) 24 = true by
      have := hf.2.2.1
      unfold P.room P.add
      rw [decide_eq_true_eq, len_eq, len_eq]
      simp
      omega, cond_true]
    have e1 : P.app f.2.2 [f.2.1] = f.2.2 ++ [f.2.1] := rfl
    rw [e1]
    have hX : (f.2.2 ++ [f.2.1]).length ≤ 200000 := by have := hf.2.2.1; simp; omega
    have hl : ∀ l, l ∈ f.2.2 ++ [f.2.1] → l.length ≤ 100000 := fun l hl => by
      rcases List.mem_append.1 hl with q | q
      · exact hf.2.2.2 l q
      · simp only [List.mem_singleton] at q; subst q; exact hf.2.1
    refine (concat_goal (f.2.2 ++ [f.2.1]) hX hl _).trans ?_
    have e2 : (f.2.2 ++ [f.2.1]).flatten = f.2.2.flatten ++ f.2.1 := by simp
    rw [e2]
    refine (seen_loop (f.2.2.flatten ++ f.2.1) s.length (by rw [List.length_append]; omega) (by simp only [len_eq])).trans ?_
    by_cases h4 : ¬ (Apart ((f.2.2.flatten ++ f.2.1).filter nz) s.length)
    · rw [if_neg h4, decide_eq_false fun q : MayF f s => h4 (apart_mid.2 q.2.2.2).1]
    replace h4 := Classical.byContradiction h4
    rw [if_pos h4]
    refine (concat_goal f.2.2 (by have := hf.2.2.1; omega) hf.2.2.2 _).trans ?_
    rw [loop_any f.2.2.flatten 0 (fun x => -1 = x) false (by omega) ?_ ?_]
    · by_cases h5 : (-1 : Int) ∈ f.2.2.flatten
      · rw [if_pos, decide_eq_false fun q : MayF f s => (apart_mid.2 q.2.2.2).2 h5]
        rw [List.any_eq_true]
        exact ⟨-1, h5, by simp⟩
      · rw [if_neg, decide_eq_true (show MayF f s from ⟨h1, h2, h3, apart_mid.1 ⟨h4, h5⟩⟩)]
        · rfl
        · rw [List.any_eq_true]
          rintro ⟨x, hx, q⟩
          simp only [decide_eq_true_eq] at q
          exact h5 (q ▸ hx)
    · intro i hi
      try dsimp only
      rw [ilt_len hi, cond_true, inb_len hi, cond_true, get_nat, ieq_eq, cond_dec, ile_nat, wrap_succ (by omega)]
      by_cases q : (-1 : Int) = f.2.2.flatten.getD i 0
      · rw [if_pos q, if_pos q]; rfl
      · rw [if_neg q, if_neg q]
    · try dsimp only
      rw [ilt_end]; rfl
  · intro i hi
    have := hf.1
    try dsimp only
    rw [ilt_len hi, cond_true, inb_len hi, cond_true]
    simp only [get_nat]
    rw [Sto.st_right, bind_some, wrap_succ (by omega)]
    by_cases h0 : 0 < i
    · rw [wrap_pred h0 (by omega)]
      have hin : P.inb ((i - 1 : Nat) : Int) (P.len f.1) = true := inb_len (by omega)
      rw [hin, cond_true, get_nat]
      have := vars_step f s hi hf (some (Sum.inr (Sum.inr false)) : Option (Int ⊕ (Unit ⊕ Bool))) (some (.inl ((i + 1 : Nat) : Int)))
      rw [show (if Sto.PropOk s.length f.1 i then (Sum.inl ((i + 1 : Nat) : Int) : Int ⊕ (Unit ⊕ Bool)) else .inr (.inr false)) = _ from rfl]
      refine this.trans ?_
      split <;> rfl
    · have h00 : i = 0 := by omega
      subst h00
      have := vars_step f s hi hf (some (Sum.inr (Sum.inr false)) : Option (Int ⊕ (Unit ⊕ Bool))) (some (.inl ((0 + 1 : Nat) : Int)))
      have e0 : P.ilt 0 ((0 : Nat) : Int) = false := rfl
      rw [e0, cond_false] at this ⊢
      refine this.trans ?_
      split <;> rfl
  · try dsimp only
    rw [ilt_end]; rfl
end Go.PL.Cf
end
section
open Go Go.PG Go.PL
set_option linter.all false
namespace Go.PL.Cf
open Go.PL.Sto (Val Prp Ob dP dO Right setS withM ownM)
theorem flat_small {f : Fr} (h : SmallF f) : f.2.2.flatten.length + f.2.1.length ≤ 1000000 := by
  have h1 := flat_le f.2.2 (m := 30) fun l hl => by simpa using List.all_eq_true.1 h.1 l hl
  have := h.2.2.1
  have := h.2.2.2
  omega
end Go.PL.Cf
end
section
open Go Go.PG Go.PL
set_option linter.all false
namespace Go.PL.Cf
open Go.PL.Sto (Val Prp Ob dP dO Right setS withM ownM)
end Go.PL.Cf
end
section
open Go Go.PG Go.PL
set_option linter.all false
namespace Go.PL.Cf
open Go.PL.Sto (Val Prp Ob dP dO Right setS withM ownM lookM getM tell)
end Go.PL.Cf
end
section
open Go Go.PG Go.PL
set_option linter.all false
namespace Go.PL.Cf
open Go.PL.Sto (Val Prp Ob dP dO Right)
def nwE (f : Fr) (S : Nat) (n : Int) (i : Nat) : Int := if i = S then n else if i < f.2.1.length then f.2.1.getD i 0 else -1
def odE (f : Fr) (S : Nat) (i : Nat) : List Int := f.2.2.getD i [] ++ if i = S ∧ i < f.2.1.length ∧ f.2.1.getD i 0 ≠ -1 then [f.2.1.getD i 0] else []
def nwL (f : Fr) (S : Nat) (n : Int) : List Int := (List.range (max f.2.1.length (S + 1))).map (nwE f S n)
def odL (f : Fr) (S : Nat) : List (List Int) := (List.range (max f.2.2.length (S + 1))).map (odE f S)
def freshF (f : Fr) (site n : Int) : Fr := if site < 0 ∨ 2000 < site then f else (f.1, nwL f site.toNat n, odL f site.toNat)
theorem range_snoc {α : Type} (g : Nat → α) (i : Nat) : (List.range (i + 1)).map g = (List.range i).map g ++ [g i] := by
  rw [List.range_succ, List.map_append]; rfl
theorem ilt_nn (i n : Nat) : P.ilt (i : Int) (n : Int) = decide (i < n) := by rw [ilt_dec, decide_eq_decide]; omega
theorem ile_nn (i n : Nat) : P.ile (i : Int) (n : Int) = decide (i ≤ n) := by rw [ile_dec, decide_eq_decide]; omega
theorem ieq_nn (i n : Nat) : P.ieq (i : Int) (n : Int) = decide (i = n) := by rw [ieq_eq, decide_eq_decide]; omega
theorem inb_nn (i n : Nat) : P.inb (i : Int) (n : Int) = decide (i < n) := by rw [Bool.eq_iff_iff, inb_iff, decide_eq_true_eq]; omega
theorem room_le {a b n : Nat} (h : a + b ≤ 1000000000) (hn : n ≤ 64) : P.room (P.add (a : Int) (b : Int)) n = true := by
  rw [room_nat]
  have := Nat.mul_le_mul h hn
  omega
abbrev wr (l : List Int) : PUnit.{1} × Option (List Int) := (PUnit.unit, some l)
theorem dall_map : ∀ l : List (List Int), P.dall (l.map wr) = some l := by
  intro l
  induction l with
  | nil => rfl
  | cons a l ih =>
    show P.dall ((PUnit.unit, some a) :: l.map wr) = _
    unfold P.dall
    rw [ih]
theorem cloneP (k : Nat) (x : List Prp) (h : x.length ≤ 1000000) : slices_Clone_api_Prop_api_Prop k x = some x := by
  have hr : P.room (P.add (P.len (P.nil Prp)) (P.len x)) 32 = true := by
    rw [len_eq, len_eq]
    exact room_le (by show 0 + x.length ≤ _; omega) (by omega)
  unfold slices_Clone_api_Prop_api_Prop
  try dsimp only
  rw [hr, cond_true]
  have e : P.app [] x = x := rfl
  rw [e, ilt_dec, cond_dec, len_eq]
  by_cases h0 : 0 < (x.length : Int)
  · rw [if_pos h0]; rfl
  · rw [if_neg h0]
    have : x = [] := List.eq_nil_of_length_eq_zero (by omega)
    subst this
    exact amb_same _
theorem loop_ns {τ ρ σ : Type} (n : Nat) (s : Nat → τ) (s0 e : τ) {f : τ → Option (τ ⊕ (τ ⊕ ρ))} {A : τ → Option σ} {B : ρ → Option σ} (hn : n ≤ 1000000000) (h0 : s 0 = s0) (h1 : s n = e)
    (hs : ∀ i : Nat, i < n → f (s i) = some (.inl (s (i + 1)))) (he : f e = some (.inr (.inl e))) :
    P.bind (P.iter K f s0) (P.either A B) = A e := by
  subst h0; subst h1
  have := iter_run (f := f) s (.inl (s n)) n 0 K (by unfold K; omega) (fun j hj => by
    simp only [Nat.zero_add]
    exact hs j hj) (by simpa using he)
  rw [this, bind_some]
  rfl
theorem pad_nw (f : Fr) (S : Nat) (n : Int) : (f.2.1 ++ List.replicate (S + 1 - f.2.1.length) (-1)).set S n = nwL f S n := by
  apply List.ext_getElem?
  intro i
  unfold nwL
  rw [List.getElem?_map]
  by_cases h : i < max f.2.1.length (S + 1)
  · rw [List.getElem?_range h]
    have e : nwE f S n i = if i = S then n else if i < f.2.1.length then f.2.1.getD i 0 else -1 := rfl
    show _ = some (nwE f S n i)
    rw [e, List.getElem?_set]
    by_cases q : S = i
    · rw [if_pos q, if_pos q.symm, if_pos (by simp; omega)]
    · rw [if_neg q, if_neg (fun z => q z.symm), List.getElem?_append]
      by_cases q2 : i < f.2.1.length
      · rw [if_pos q2, if_pos q2, List.getD_eq_getElem?_getD, List.getElem?_eq_getElem q2]; rfl
      · rw [if_neg q2, if_neg q2, List.getElem?_replicate, if_pos (by omega)]
  · rw [List.getElem?_eq_none (by simp; omega), List.getElem?_eq_none (by simp; omega)]; rfl
theorem pad_get (f : Fr) (S : Nat) : (f.2.1 ++ List.replicate (S + 1 - f.2.1.length) (-1)).getD S 0 = if S < f.2.1.length then f.2.1.getD S 0 else -1 := by
  rw [List.getD_eq_getElem?_getD, List.getElem?_append]
  by_cases q2 : S < f.2.1.length
  · rw [if_pos q2, if_pos q2, List.getD_eq_getElem?_getD]
  · rw [if_neg q2, if_neg q2, List.getElem?_replicate, if_pos (by omega)]; rfl
theorem pad_od (f : Fr) (S : Nat) : f.2.2 ++ List.replicate (S + 1 - f.2.2.length) [] = (List.range (max f.2.2.length (S + 1))).map fun i => f.2.2.getD i [] := by
  apply List.ext_getElem?
  intro i
  rw [List.getElem?_map]
  by_cases h : i < max f.2.2.length (S + 1)
  · rw [List.getElem?_range h]
    show _ = some (f.2.2.getD i [])
    rw [List.getElem?_append]
    by_cases q2 : i < f.2.2.length
    · rw [if_pos q2, List.getD_eq_getElem?_getD, List.getElem?_eq_getElem q2]; rfl
    · rw [if_neg q2, List.getElem?_replicate, if_pos (by omega), List.getD_eq_getElem?_getD, List.getElem?_eq_none (by omega)]; rfl
  · rw [List.getElem?_eq_none (by simp; omega), List.getElem?_eq_none (by simp; omega)]; rfl
theorem od_set (f : Fr) (S : Nat) (c : Prop) [Decidable c] (hc : c ↔ S < f.2.1.length ∧ f.2.1.getD S 0 ≠ -1) :
    (if c then (f.2.2 ++ List.replicate (S + 1 - f.2.2.length) []).set S ((f.2.2 ++ List.replicate (S + 1 - f.2.2.length) []).getD S [] ++ [f.2.1.getD S 0]) else f.2.2 ++ List.replicate (S + 1 - f.2.2.length) []) = odL f S := by
  rw [pad_od]
  apply List.ext_getElem?
  intro i
  unfold odL
  rw [List.getElem?_map]
  by_cases h : i < max f.2.2.length (S + 1)
  · rw [List.getElem?_range h]
    show _ = some (odE f S i)
    unfold odE
    by_cases q : c
    · rw [if_pos q, List.getElem?_set]
      by_cases q2 : S = i
      · rw [if_pos q2, if_pos (by simp; omega), if_pos ⟨q2.symm, by rw [← q2]; exact hc.1 q⟩]
        rw [List.getD_eq_getElem?_getD (l := List.map _ _), List.getElem?_map, List.getElem?_range (by omega), ← q2]
        rfl
      · rw [if_neg q2, if_neg (fun z => q2 z.1.symm), List.getElem?_map, List.getElem?_range h, List.append_nil]
        rfl
    · rw [if_neg q, if_neg (fun z => q (hc.2 (by rw [← z.1]; exact z.2))), List.getElem?_map, List.getElem?_range h, List.append_nil]
      rfl
  · rw [List.getElem?_eq_none (l := List.range _) (by simp; omega)]
    split
    · rw [List.getElem?_eq_none (by simp; omega)]; rfl
    · rw [List.getElem?_eq_none (by simp; omega)]; rfl
theorem at_fresh (f : Fr) (site n : Int) (hf : FewF f) : conform_Fresh K (f, site, n) = some (freshF f site n) := by
  obtain ⟨h1, h2, h3, h4⟩ := hf
  unfold conform_Fresh
  try dsimp only
  rw [cloneP K _ (by omega), bind_some, cloneI K _ (by omega), bind_some]
  rw [loop_st f.2.2.length (fun i => (f.1, f.2.1, (f.2.2.take i).map wr)) (f.1, f.2.1, []) (f.1, f.2.1, f.2.2.map wr) (by omega) (by simp) (by simp) ?_ ?_]
  · try dsimp only
    unfold freshF
    rw [ilt_dec, cond_dec, ilt_dec, cond_dec, dall_map, bind_some]
    by_cases g1 : site < 0
    · rw [if_pos g1, if_pos (.inl g1)]
    rw [if_neg g1]
    by_cases g2 : 2000 < site
    · rw [if_pos g2, if_pos (.inr g2)]
    rw [if_neg g2, if_neg (by omega)]
    obtain ⟨S, rfl⟩ := Int.eq_ofNat_of_zero_le (by omega : 0 ≤ site)
    simp only [Int.toNat_natCast]
    have hS : S ≤ 2000 := by omega
    rw [loop_ns (S + 1 - f.2.1.length) (fun i => (f.1, f.2.1 ++ List.replicate i (-1), f.2.2.map wr)) (f.1, f.2.1, f.2.2.map wr) (f.1, f.2.1 ++ List.replicate (S + 1 - f.2.1.length) (-1), f.2.2.map wr) (by omega) (by simp) (by simp) ?_ ?_]
    · try dsimp only
      rw [loop_ns (S + 1 - f.2.2.length) (fun i => (f.1, f.2.1 ++ List.replicate (S + 1 - f.2.1.length) (-1), (f.2.2 ++ List.replicate i []).map wr)) (f.1, f.2.1 ++ List.replicate (S + 1 - f.2.1.length) (-1), f.2.2.map wr) (f.1, f.2.1 ++ List.replicate (S + 1 - f.2.1.length) (-1), (f.2.2 ++ List.replicate (S + 1 - f.2.2.length) []).map wr) (by omega) (by simp) (by simp) ?_ ?_]
      · try dsimp only
        have e1 := pad_nw f S n
        have e2 := pad_get f S
        have e3 := od_set f S ((if S < f.2.1.length then f.2.1.getD S 0 else -1) ≠ -1) (by
          by_cases q : S < f.2.1.length
          · rw [if_pos q]; exact ⟨fun z => ⟨q, z⟩, fun z => z.2⟩
          · rw [if_neg q]; exact ⟨fun z => absurd rfl z, fun z => absurd z.1 q⟩)
        have l1 : S < (f.2.1 ++ List.replicate (S + 1 - f.2.1.length) (-1)).length := by simp; omega
        have l2 : S < (f.2.2 ++ List.replicate (S + 1 - f.2.2.length) []).length := by simp; omega
        have l3 : ((f.2.2 ++ List.replicate (S + 1 - f.2.2.length) []).getD S []).length ≤ 100000 := by
          refine getD_le (fun l hl => ?_) S
          rcases List.mem_append.1 hl with q | q
          · exact h4 l q
          · rw [List.mem_replicate] at q; rw [q.2]; simp
        have hg : (f.2.1 ++ List.replicate (S + 1 - f.2.1.length) (-1)).getD S 0 ≠ -1 → (f.2.1 ++ List.replicate (S + 1 - f.2.1.length) (-1)).getD S 0 = f.2.1.getD S 0 := fun z => by
          rw [e2] at z ⊢
          by_cases q : S < f.2.1.length
          · rw [if_pos q]
          · rw [if_neg q] at z; exact absurd rfl z
        rw [← e2] at e3
        simp only [len_eq, inb_nn, get_nat, ieq_eq]
        generalize hN : f.2.1 ++ List.replicate (S + 1 - f.2.1.length) (-1) = N at *
        generalize hO : f.2.2 ++ List.replicate (S + 1 - f.2.2.length) [] = O at *
        rw [decide_eq_true l1, cond_true, cond_true, cond_ndec]
        have d1 : P.set N (S : Int) n = N.set S n := rfl
        rw [d1, e1]
        by_cases q : N.getD S 0 = -1
        · rw [if_pos q, dall_map, bind_some]
          rw [if_neg (fun z => z q)] at e3
          rw [e3]
        · rw [if_neg q]
          rw [if_pos q] at e3
          have d2 : P.dent (O.map wr) (S : Int) = some (O.getD S []) := by
            unfold P.dent
            rw [Int.toNat_natCast, List.getElem?_map, List.getElem?_eq_getElem l2]
            show some O[S] = _
            rw [List.getD_eq_getElem?_getD, List.getElem?_eq_getElem l2]; rfl
          have d3 : P.dgive (P.dhole (O.map wr) (S : Int) PUnit.unit) (S : Int) PUnit.unit (P.app (O.getD S []) [N.getD S 0]) = (O.set S (O.getD S [] ++ [N.getD S 0])).map wr := by
            unfold P.dgive P.dhole
            rw [Int.toNat_natCast, List.set_set, List.map_set]
            rfl
          rw [d2, bind_some, d3, dall_map, bind_some, hg q, e3]
          have d4 : (P.dhole (O.map wr) (S : Int) PUnit.unit).length = O.length := by unfold P.dhole; simp
          rw [d4, decide_eq_true l2, cond_true, decide_eq_true (by simpa using l2), cond_true, cond_true]
          have := room_le (a := (O.getD S []).length) (b := ([f.2.1.getD S 0] : List Int).length) (n := 8) (by show _ + 1 ≤ _; omega) (by omega)
          rw [this, cond_true]
      · intro i hi
        try dsimp only
        have := room_le (a := ((f.2.2 ++ List.replicate i []).map wr).length) (b := 1) (n := 24) (by simp; omega) (by omega)
        have e : (f.2.2 ++ List.replicate (i + 1) []).map wr = (f.2.2 ++ List.replicate i []).map wr ++ [wr []] := by
          rw [List.replicate_succ', ← List.append_assoc, List.map_append]; rfl
        rw [len_eq, ile_nn, decide_eq_true (by simp; omega), cond_true, len_eq, List.length_singleton, this, cond_true, e]
        rfl
      · try dsimp only
        rw [len_eq, ile_nn, decide_eq_false (by simp; omega), cond_false]
    · intro i hi
      try dsimp only
      have := room_le (a := (f.2.1 ++ List.replicate i (-1)).length) (b := 1) (n := 8) (by simp; omega) (by omega)
      rw [len_eq, ile_nn, decide_eq_true (by simp; omega), cond_true, len_eq, List.length_singleton, this, cond_true, List.replicate_succ', ← List.append_assoc]
      rfl
    · try dsimp only
      rw [len_eq, ile_nn, decide_eq_false (by simp; omega), cond_false]
  · intro i hi
    try dsimp only
    have hg := h4 _ (getD_mem hi [])
    have := room_le (a := ((f.2.2.take i).map wr).length) (b := 1) (n := 24) (by simp; omega) (by omega)
    rw [ilt_len hi, cond_true, inb_len hi, cond_true, get_nat, cloneI K _ (by omega), bind_some, len_eq, len_eq, List.length_singleton, this, cond_true, wrap_succ (by omega), take_getD' hi [], List.map_append]
    rfl
  · try dsimp only
    rw [ilt_end]; rfl
end Go.PL.Cf
end
section
open Go Go.PG Go.PL
set_option linter.all false
namespace Go.PL.Cf
open Go.PL.Sto (Val Prp Ob dP dO Right withM ownM newM)
theorem flat_rep (m : Nat) : (List.replicate m ([] : List Int)).flatten = [] := by
  induction m with
  | zero => rfl
  | succ m ih => rw [List.replicate_succ, List.flatten_cons, ih]; rfl
end Go.PL.Cf
end
section
open Go Go.PG Go.PL
set_option linter.all false
namespace Go.PL.Cf
open Go.PL.Sto (Val Prp Ob dP dO Right)
theorem room_1 {α : Type} (l : List α) (x : α) (n : Nat) (h : l.length ≤ 1000000) (hn : n ≤ 64) : P.room (P.add (P.len l) (P.len [x])) n = true := by
  rw [len_eq, len_eq]
  exact room_le (by show l.length + 1 ≤ _; omega) hn
theorem rg_len {α : Type} (g : Nat → α) (i : Nat) : ((List.range i).map g).length = i := by simp
theorem ref_fresh (f : Fr) (site n : Int) (hf : FewF f) : ref21_Fresh K (f, site, n) = some (freshF f site n) := by
  obtain ⟨h1, h2, h3, h4⟩ := hf
  unfold ref21_Fresh freshF
  try dsimp only
  rw [ilt_dec, cond_dec, ilt_dec, cond_dec]
  by_cases g1 : site < 0
  · rw [if_pos g1, if_pos (.inl g1)]
  rw [if_neg g1]
  by_cases g2 : 2000 < site
  · rw [if_pos g2, if_pos (.inr g2)]
  rw [if_neg g2, if_neg (by omega)]
  obtain ⟨S, rfl⟩ := Int.eq_ofNat_of_zero_le (by omega : 0 ≤ site)
  simp only [Int.toNat_natCast]
  have hS : S ≤ 2000 := by omega
  rw [loop_st (max f.2.1.length (S + 1)) (fun i => (f.1, (List.range i).map (nwE f S n), [])) (f.1, [], []) (f.1, nwL f S n, []) (by omega) rfl rfl ?_ ?_]
  · try dsimp only
    rw [loop_st (max f.2.2.length (S + 1)) (fun i => (f.1, nwL f S n, (List.range i).map (odE f S))) (f.1, nwL f S n, []) (f.1, nwL f S n, odL f S) (by omega) rfl rfl ?_ ?_]
    · intro i hi
      try dsimp only
      have r1 : ∀ x : List Int, P.room (P.add (P.len ((List.range i).map (odE f S))) (P.len [x])) 24 = true := fun x => room_1 _ _ _ (by rw [rg_len]; omega) (by omega)
      have hg := getD_le h4 i
      have r2 : P.room (P.add (P.len (P.nil Int)) (P.len (f.2.2.getD i []))) 8 = true := by
        rw [len_eq, len_eq]
        exact room_le (by show 0 + _ ≤ _; omega) (by omega)
      have r3 : ∀ x : Int, P.room (P.add (P.len (P.app [] (f.2.2.getD i []))) (P.len [x])) 8 = true := fun x => room_1 _ _ _ (by show (f.2.2.getD i []).length ≤ _; omega) (by omega)
      have r4 : ∀ x : Int, P.room (P.add (P.len (P.nil Int)) (P.len [x])) 8 = true := fun x => room_1 _ _ _ (by show 0 ≤ _; omega) (by omega)
      have r5 : P.room (P.add (P.len (P.nil Int)) (P.len ([] : List Int))) 8 = true := by decide
      simp only [get_nat, r1, r2, r3, r4, cond_true, wrap_succ (show i + 1 < 9223372036854775808 by omega)]
      simp only [len_eq, ilt_nn, ile_nn, ieq_nn, inb_nn, cond_dec]
      rw [range_snoc]
      have hE : odE f S i = f.2.2.getD i [] ++ if i = S ∧ i < f.2.1.length ∧ f.2.1.getD i 0 ≠ -1 then [f.2.1.getD i 0] else [] := rfl
      rw [hE]
      have e0 : P.app [] (f.2.2.getD i []) = f.2.2.getD i [] := rfl
      rw [e0]
      by_cases c1 : i < f.2.2.length
      · simp only [if_pos c1]
        by_cases c2 : i = S
        · simp only [if_pos c2]
          by_cases c3 : i < f.2.1.length
          · simp only [if_pos c3, ieq_eq, cond_ndec]
            by_cases c4 : f.2.1.getD i 0 = -1
            · rw [if_pos c4, if_neg (fun z => z.2.2 c4), List.append_nil]; rfl
            · rw [if_neg c4, if_pos ⟨c2, c3, c4⟩]; rfl
          · rw [if_neg c3, if_neg (fun z => c3 z.2.1), List.append_nil]; rfl
        · rw [if_neg c2, if_neg (fun z => c2 z.1), List.append_nil]; rfl
      · have e1 : f.2.2.getD i [] = [] := by rw [List.getD_eq_getElem?_getD, List.getElem?_eq_none (by omega)]; rfl
        rw [if_neg c1, e1, if_pos (by omega : i ≤ S)]
        simp only [if_neg c1]
        by_cases c2 : i = S
        · simp only [if_pos c2]
          by_cases c3 : i < f.2.1.length
          · simp only [if_pos c3, ieq_eq, cond_ndec]
            by_cases c4 : f.2.1.getD i 0 = -1
            · rw [if_pos c4, if_neg (fun z => z.2.2 c4)]; rfl
            · rw [if_neg c4, if_pos ⟨c2, c3, c4⟩]; rfl
          · rw [if_neg c3, if_neg (fun z => c3 z.2.1)]; rfl
        · rw [if_neg c2, if_neg (fun z => c2 z.1)]; rfl
    · try dsimp only
      simp only [len_eq, ilt_nn, ile_nn, cond_dec]
      rw [if_neg (by omega), if_neg (by omega)]
  · intro i hi
    try dsimp only
    have r1 : ∀ x : Int, P.room (P.add (P.len ((List.range i).map (nwE f S n))) (P.len [x])) 8 = true := fun x => room_1 _ _ _ (by rw [rg_len]; omega) (by omega)
    simp only [get_nat, r1, cond_true, wrap_succ (show i + 1 < 9223372036854775808 by omega)]
    simp only [len_eq, ilt_nn, ile_nn, ieq_nn, inb_nn, cond_dec]
    rw [range_snoc]
    have hE : nwE f S n i = if i = S then n else if i < f.2.1.length then f.2.1.getD i 0 else -1 := rfl
    rw [hE]
    by_cases c1 : i < f.2.1.length
    · simp only [if_pos c1]
      by_cases c2 : i = S
      · simp only [if_pos c2]; rfl
      · simp only [if_neg c2]; rfl
    · rw [if_neg c1, if_pos (by omega : i ≤ S)]
      simp only [if_neg c1]
      by_cases c2 : i = S
      · simp only [if_pos c2]; rfl
      · simp only [if_neg c2]; rfl
  · try dsimp only
    simp only [len_eq, ilt_nn, ile_nn, cond_dec]
    rw [if_neg (by omega), if_neg (by omega)]
end Go.PL.Cf
end
section
open Go Go.PG Go.PL
set_option linter.all false
namespace Go.PL.Cf
open Go.PL.Sto (Val Prp Ob dP dO Right)
theorem ref_state (f : Fr) (s : List Ob) (a : Sta) (hf : FewF f) (hs : FewO s) (ha : FewT a) : ref21_State K (f, s, a) = some (decide (StP f s a)) := by
  unfold ref21_State
  try dsimp only
  have hv := fun n => var_few ha n
  cases h1 : a.1 with
  | true => rw [cond_true, decide_eq_false (fun z : StP f s a => by have := z.1; rw [h1] at this; cases this)]
  | false =>
  rw [cond_false, ← st_text h1]
  have a1 := ha.1
  have a3 := ha.2.2.1
  have f1 := hf.1
  have f2 := hf.2.1
  have f3 := hf.2.2.1
  have step : ∀ n : ByteArray, ∀ {σ : Type} (F : Bool → Option σ), (P.bind (ref21_Var K (f, n)) fun r => P.bind (ref08_Var K (a, n)) fun r_1 => P.bind (ref21_Value K (f, r, r_1)) F) = F (vB f a n) := by
    intro n σ F
    rw [ref_varF f n hf, bind_some, ref_var a n (by omega), bind_some, ref_value f _ _ hf (by have := hv n; omega), bind_some]
    rfl
  have lc : ∀ (n : Int) (x : At), ∀ {σ : Type} (X Y : Option σ), (P.bind (ref08_Loc K (a, x)) fun r => P.cond (P.not r.2) X (P.bind (ref21_Object K (f, s, n, r.1)) fun r => P.cond (P.not r) X Y)) = if lcB f s a n x = true then Y else X := by
    intro n x σ X Y
    rw [ref_loc a x (by omega), bind_some, ref_object f s n _ hf hs (locR_few ha x), bind_some]
    unfold lcB
    cases (locR a.2.2 x).2 <;> cases obB f s n (locR a.2.2 x).1 <;> rfl
  rw [loop_every f.1 dP (fun p => vB f a p.1 = true) false (by omega) ?_ ?_]
  · rw [all_if]
    congr 1
    rw [loop_every a.2.1 dB (fun b => vB f a b.1 = true) false (by omega) ?_ ?_]
    · rw [all_if]
      congr 1
      rw [loop_all f.2.1.length (fun i => nwB f s a i = true) (r := false) (by omega) ?_ ?_]
      · congr 1
        rw [loop_all f.2.2.length (fun i => odB f s a i = true) (r := false) (by omega) ?_ ?_]
        · intro i hi
          try dsimp only
          have hl := older_few hf i
          rw [ilt_len hi, cond_true, wrap_succ (by omega)]
          simp only [inb_len hi, cond_true, get_nat]
          rw [loop_every (f.2.2.getD i []) 0 (fun n => lcB f s a n (5, (i : Int)) = true) (.inr (.inr false)) (by omega) ?_ ?_]
          · rw [all_if]
            unfold odB
            cases (f.2.2.getD i []).all fun n => lcB f s a n (5, (i : Int)) <;> rfl
          · intro j hj
            try dsimp only
            rw [ilt_len hj, cond_true]
            simp only [inb_len hj, cond_true, get_nat]
            rw [wrap_succ (by omega)]
            refine (lc _ _ _ _).trans ?_
            split <;> rfl
          · try dsimp only
            rw [ilt_end]; rfl
        · try dsimp only
          rw [ilt_end]; rfl
      · intro i hi
        try dsimp only
        rw [ilt_len hi, cond_true]
        simp only [inb_len hi, cond_true, get_nat]
        rw [wrap_succ (by omega), ieq_eq, cond_ndec]
        unfold nwB
        by_cases q : f.2.1.getD i 0 = -1
        · rw [if_pos q, decide_eq_true q]; rfl
        · rw [if_neg q, decide_eq_false q, Bool.false_or]
          refine (lc _ _ _ _).trans ?_
          split <;> rfl
      · try dsimp only
        rw [ilt_end]; rfl
    · intro i hi
      try dsimp only
      rw [ilt_len hi, cond_true, inb_len hi, cond_true, get_nat, step, wrap_succ (by omega)]
      cases vB f a (a.2.1.getD i dB).1 <;> rfl
    · try dsimp only
      rw [ilt_end]; rfl
  · intro i hi
    try dsimp only
    rw [ilt_len hi, cond_true, inb_len hi, cond_true, get_nat, step, wrap_succ (by omega)]
    cases vB f a (f.1.getD i dP).1 <;> rfl
  · try dsimp only
    rw [ilt_end]; rfl
def zE (f : Fr) (j : Nat) : List Int := (if f.2.1.getD j 0 ≠ -1 then [f.2.1.getD j 0] else []) ++ f.2.2.getD j []
def zL (f : Fr) (i : Nat) : List Int := ((List.range i).map (zE f)).flatten
theorem zL_succ (f : Fr) (i : Nat) : zL f (i + 1) = zL f i ++ zE f i := by
  unfold zL
  rw [range_snoc, List.flatten_append]
  simp
theorem zL_perm (f : Fr) (h : f.2.1.length = f.2.2.length) : ∀ i, i ≤ f.2.1.length → (zL f i).Perm ((f.2.2.take i).flatten ++ (f.2.1.take i).filter nz) := by
  intro i
  induction i with
  | zero => intro _; exact List.Perm.refl _
  | succ i ih =>
    intro hi
    have p := ih (by omega)
    rw [zL_succ, flat_take f.2.2 (by omega), take_getD' (by omega : i < f.2.1.length) 0, List.filter_append]
    have e : List.filter nz [f.2.1.getD i 0] = if f.2.1.getD i 0 ≠ -1 then [f.2.1.getD i 0] else [] := by
      by_cases q : f.2.1.getD i 0 = -1
      · rw [if_neg (fun z => z q), List.filter_cons_of_neg (by simp only [nz, q]; simp)]; rfl
      · rw [if_pos q, List.filter_cons_of_pos (by simp only [nz, decide_eq_true_eq]; exact q)]; rfl
    rw [e]
    unfold zE
    generalize (if f.2.1.getD i 0 ≠ -1 then [f.2.1.getD i 0] else []) = E
    generalize f.2.2.getD i [] = O
    -- zL ++ (E ++ O) ~ (T ++ O) ++ (N ++ E)
    refine (List.Perm.append_right _ p).trans ?_
    generalize (f.2.2.take i).flatten = T
    generalize (f.2.1.take i).filter nz = N
    rw [List.append_assoc, List.append_assoc]
    refine List.Perm.append_left T ?_
    -- N ++ (E ++ O) ~ O ++ (N ++ E)
    rw [← List.append_assoc]
    exact List.perm_append_comm
theorem flat_takeL (X : List (List Int)) (i : Nat) : (X.take i).flatten.length ≤ X.flatten.length := by
  have := congrArg (fun l => (List.flatten l).length) (List.take_append_drop i X)
  simp only [List.flatten_append, List.length_append] at this
  omega
theorem zL_le (f : Fr) (h : f.2.1.length = f.2.2.length) {i : Nat} (hi : i ≤ f.2.1.length) : (zL f i).length ≤ f.2.2.flatten.length + f.2.1.length := by
  rw [(zL_perm f h i hi).length_eq, List.length_append]
  have h1 := flat_takeL f.2.2 i
  have h2 : ((f.2.1.take i).filter nz).length ≤ (f.2.1.take i).length := List.length_filter_le _ _
  have h3 : (f.2.1.take i).length ≤ f.2.1.length := by simp; omega
  omega
theorem zL_all (f : Fr) (h : f.2.1.length = f.2.2.length) : (zL f f.2.1.length).Perm (allF f) := by
  have := zL_perm f h f.2.1.length (Nat.le_refl _)
  rw [List.take_length, h, List.take_length] at this
  rw [h]
  exact this
theorem apart_perm {z w : List Int} {N : Nat} (p : z.Perm w) : Apart z N ↔ Apart w N := by
  unfold Apart
  rw [p.nodup_iff]
  constructor
  · rintro ⟨a, b⟩; exact ⟨fun x hx => a x (p.mem_iff.2 hx), b⟩
  · rintro ⟨a, b⟩; exact ⟨fun x hx => a x (p.mem_iff.1 hx), b⟩
def PY (z : List Int) (N : Nat) (i : Nat) : Prop := 0 ≤ z.getD i 0 ∧ z.getD i 0 < N ∧ ∀ k, k < i → ¬ z.getD k 0 = z.getD i 0
noncomputable instance (z : List Int) (N i : Nat) : Decidable (PY z N i) := Classical.propDecidable _
theorem py_iff (z : List Int) (N : Nat) : (∀ i, i < z.length → PY z N i) ↔ Apart z N := by
  have gd : ∀ {i}, (h : i < z.length) → z.getD i 0 = z[i] := fun h => by simp [List.getD_eq_getElem?_getD, h]
  unfold PY Apart List.Nodup
  rw [List.pairwise_iff_getElem]
  constructor
  · intro h
    refine ⟨fun x hx => ?_, fun i j hi hj hij e => ?_⟩
    · obtain ⟨i, hi, rfl⟩ := List.getElem_of_mem hx
      have := h i hi
      rw [gd hi] at this
      exact ⟨this.1, this.2.1⟩
    · have := (h j hj).2.2 i hij
      rw [gd hj, gd hi] at this
      exact this e
  · rintro ⟨h1, h2⟩ i hi
    have := h1 _ (List.getElem_mem hi)
    rw [gd hi]
    refine ⟨this.1, this.2, fun k hk e => ?_⟩
    rw [gd (by omega)] at e
    exact h2 k i (by omega) hi hk e
theorem ref_mayF (f : Fr) (s : List Ob) (hf : FewF f) (hs : FewO s) (ht : f.2.2.flatten.length + f.2.1.length ≤ 1000000) : ref21_May K (f, s) = some (decide (MayF f s)) := by
  unfold ref21_May
  try dsimp only
  have b1 := hf.1
  have b2 := hf.2.1
  have b3 := hf.2.2.1
  have b4 := hs.1
  rw [Sto.ref_may s (fits_few hs), bind_some, cond_ndec]
  by_cases h1 : ¬ (Sto.MayS s)
  · rw [if_neg h1, decide_eq_false fun q : MayF f s => h1 q.1]
  replace h1 := Classical.byContradiction h1
  rw [if_pos h1, ieq_eq, cond_ndec, len_eq, len_eq]
  by_cases h2 : ¬ (f.2.1.length = f.2.2.length)
  · rw [if_neg (by omega), decide_eq_false fun q : MayF f s => h2 q.2.1]
  replace h2 := Classical.byContradiction h2
  rw [if_pos (by omega)]
  rw [loop_all f.1.length (fun i => Sto.PropOk s.length f.1 i) (r := false) (by omega) ?_ ?_]
  · by_cases h3 : ¬ (∀ i, i < f.1.length → Sto.PropOk s.length f.1 i)
    · rw [if_neg h3, decide_eq_false fun q : MayF f s => h3 q.2.2.1]
    replace h3 := Classical.byContradiction h3
    rw [if_pos h3]
    have run : ∀ {ρ σ : Type} {g : List Int × Int → Option ((List Int × Int) ⊕ (List Int ⊕ ρ))} {A : List Int → Option σ} {B : ρ → Option σ}, (∀ i, i < f.2.1.length → g (zL f i, (i : Int)) = some (.inl (zL f (i + 1), ((i + 1 : Nat) : Int)))) → g (zL f f.2.1.length, (f.2.1.length : Int)) = some (.inr (.inl (zL f f.2.1.length))) →
        P.bind (P.iter K g ([], 0)) (P.either A B) = A (zL f f.2.1.length) := by
      intro ρ σ g A B hg he
      have := iter_run (f := g) (fun i => (zL f i, (i : Int))) (.inl (zL f f.2.1.length)) f.2.1.length 0 K (by unfold K; omega) (fun j hj => by
        simp only [Nat.zero_add]
        exact hg j hj) (by simpa using he)
      rw [show ((0 : Nat) : Int) = 0 from rfl, show zL f 0 = [] from rfl] at this
      rw [this, bind_some]
      rfl
    rw [run ?_ ?_]
    · have hz := zL_le f h2 (Nat.le_refl _)
      have hp := zL_all f h2
      generalize zL f f.2.1.length = z at hz hp
      have hA := (py_iff z s.length).trans (apart_perm hp)
      rw [loop_all z.length (fun i => PY z s.length i) (r := false) (by omega) ?_ ?_]
      · by_cases h4 : ∀ i, i < z.length → PY z s.length i
        · rw [if_pos h4, decide_eq_true (show MayF f s from ⟨h1, h2, h3, hA.1 h4⟩)]
        · rw [if_neg h4, decide_eq_false fun q : MayF f s => h4 (hA.2 q.2.2.2)]
      · intro i hi
        try dsimp only
        rw [ilt_len hi, cond_true]
        simp only [inb_len hi, cond_true, get_nat]
        rw [wrap_succ (by omega), ilt_dec, cond_dec, ile_dec, cond_dec, len_eq]
        by_cases c1 : z.getD i 0 < 0
        · rw [if_pos c1, if_neg (fun y : PY z s.length i => by have := y.1; omega)]
        · rw [if_neg c1]
          by_cases c2 : (s.length : Int) ≤ z.getD i 0
          · rw [if_pos c2, if_neg (fun y : PY z s.length i => by have := y.2.1; omega)]
          · rw [if_neg c2]
            rw [loop_all i (fun k => ¬ z.getD k 0 = z.getD i 0) (r := .inr (.inr false)) (by omega) ?_ ?_]
            · by_cases c3 : ∀ k, k < i → ¬ z.getD k 0 = z.getD i 0
              · rw [if_pos c3, if_pos (show PY z s.length i from ⟨by omega, by omega, c3⟩)]
              · rw [if_neg c3, if_neg (fun y : PY z s.length i => c3 y.2.2)]
            · intro k hk
              try dsimp only
              have hk' : k < z.length := by omega
              rw [ilt_nn, decide_eq_true hk, cond_true, inb_len hk', cond_true, get_nat, wrap_succ (by omega), ieq_eq, cond_dec]
              by_cases c4 : z.getD k 0 = z.getD i 0
              · rw [if_pos c4, if_neg (fun y => y c4)]
              · rw [if_neg c4, if_pos c4]
            · try dsimp only
              rw [ilt_nn, decide_eq_false (by omega)]; rfl
      · try dsimp only
        rw [ilt_end]; rfl
    · intro i hi
      try dsimp only
      have hi2 : i < f.2.2.length := by omega
      have hz := zL_le f h2 (i := i) (by omega)
      have hg := getD_le hf.2.2.2 i
      rw [ilt_nn, decide_eq_true hi, cond_true]
      simp only [inb_nn, decide_eq_true hi, decide_eq_true hi2, cond_true, get_nat]
      rw [wrap_succ (by omega), ieq_eq, cond_ndec, zL_succ]
      have r1 : P.room (P.add (P.len (zL f i)) (P.len (f.2.2.getD i []))) 8 = true := by
        rw [len_eq, len_eq]; exact room_le (by omega) (by omega)
      have r2 : P.room (P.add (P.len (zL f i)) (P.len [f.2.1.getD i 0])) 8 = true := room_1 _ _ _ (by omega) (by omega)
      have r3 : P.room (P.add (P.len (P.app (zL f i) [f.2.1.getD i 0])) (P.len (f.2.2.getD i []))) 8 = true := by
        rw [len_eq, len_eq]
        refine room_le ?_ (by omega)
        show (zL f i ++ [f.2.1.getD i 0]).length + _ ≤ _
        rw [List.length_append, List.length_singleton]
        omega
      rw [r1, r2, r3, cond_true, cond_true, cond_true]
      unfold zE
      by_cases q : f.2.1.getD i 0 = -1
      · rw [if_pos q, if_neg (fun y => y q)]; rfl
      · rw [if_neg q, if_pos q, ← List.append_assoc]; rfl
    · try dsimp only
      rw [ilt_nn, decide_eq_false (by omega)]; rfl
  · intro i hi
    try dsimp only
    rw [ilt_len hi, cond_true, inb_len hi, cond_true]
    simp only [get_nat]
    rw [Sto.ref_right, bind_some, wrap_succ (by omega)]
    by_cases h0 : 0 < i
    · rw [wrap_pred h0 (by omega)]
      have hin : P.inb ((i - 1 : Nat) : Int) (P.len f.1) = true := inb_len (by omega)
      rw [hin, cond_true, cond_true, get_nat]
      have := vars_step f s hi hf (some (Sum.inr (Sum.inr false)) : Option (Int ⊕ (Unit ⊕ Bool))) (some (.inl ((i + 1 : Nat) : Int)))
      refine this.trans ?_
      split <;> rfl
    · have h00 : i = 0 := by omega
      subst h00
      have := vars_step f s hi hf (some (Sum.inr (Sum.inr false)) : Option (Int ⊕ (Unit ⊕ Bool))) (some (.inl ((0 + 1 : Nat) : Int)))
      have e0 : P.ilt 0 ((0 : Nat) : Int) = false := rfl
      rw [e0, cond_false] at this ⊢
      refine this.trans ?_
      split <;> rfl
  · try dsimp only
    rw [ilt_end]; rfl
end Go.PL.Cf
end
section
open Go Go.PG Go.PL
set_option linter.all false
namespace Go.PL.Cf
open Go.PL.Sto (Val Prp Ob dP dO Right)
theorem ints_same (l : List Int) (h : l.length ≤ 1000000) : ref21_ints K (l, l) = some true := by
  unfold ref21_ints
  try dsimp only
  rw [ieq_eq, decide_eq_true rfl, not_true, cond_false]
  rw [loop_every l 0 (fun _ => True) false (by omega) ?_ ?_]
  · rw [if_pos (by simp)]
  · intro i hi
    try dsimp only
    rw [if_pos trivial, ilt_len hi, cond_true, inb_len hi, cond_true, cond_true, ieq_eq, decide_eq_true rfl, not_true, cond_false, wrap_succ (by omega)]
  · try dsimp only
    rw [ilt_end]; rfl
theorem props_same (l : List Prp) (h : l.length ≤ 1000000) : ref19_Props K (l, l) = some true := by
  unfold ref19_Props
  try dsimp only
  rw [ieq_eq, decide_eq_true rfl, not_true, cond_false]
  rw [loop_every l dP (fun _ => True) false (by omega) ?_ ?_]
  · rw [if_pos (by simp)]
  · intro i hi
    try dsimp only
    rw [if_pos trivial, ilt_len hi, cond_true, inb_len hi, cond_true, cond_true, ieq_eq, decide_eq_true rfl, ieq_eq, decide_eq_true rfl, seq_dec, decide_eq_true rfl, wrap_succ (by omega)]
    rfl
  · try dsimp only
    rw [ilt_end]; rfl
theorem same_same (f : Fr) (h : FewF f) : ref21_Same K (f, f) = some true := by
  obtain ⟨h1, h2, h3, h4⟩ := h
  unfold ref21_Same
  try dsimp only
  rw [props_same _ (by omega), bind_some, not_true, cond_false, ints_same _ (by omega), bind_some, not_true, cond_false, ieq_eq, decide_eq_true rfl, not_true, cond_false]
  rw [loop_every f.2.2 [] (fun _ => True) false (by omega) ?_ ?_]
  · rw [if_pos (by simp)]
  · intro i hi
    have := h4 _ (getD_mem hi [])
    try dsimp only
    rw [if_pos trivial, ilt_len hi, cond_true, inb_len hi, cond_true, cond_true, get_nat, ints_same _ (by omega), bind_some, not_true, cond_false, wrap_succ (by omega)]
  · try dsimp only
    rw [ilt_end]; rfl
theorem few_fresh {f : Fr} (h : SmallF f) (site n : Int) : FewF (freshF f site n) := by
  unfold freshF
  split
  · exact smallF_few h
  · rename_i q
    have hf := smallF_few h
    obtain ⟨h1, h2, h3, h4⟩ := h
    have a1 : (nwL f site.toNat n).length = max f.2.1.length (site.toNat + 1) := by simp [nwL]
    have a2 : (odL f site.toNat).length = max f.2.2.length (site.toNat + 1) := by simp [odL]
    have a3 : ∀ l, l ∈ odL f site.toNat → l.length ≤ 31 := by
      intro l hl
      unfold odL at hl
      rw [List.mem_map] at hl
      obtain ⟨i, _, rfl⟩ := hl
      unfold odE
      have := getD_le (m := 30) (fun l hl => by simpa using List.all_eq_true.1 h1 l hl) i
      rw [List.length_append]
      split
      · simp only [List.length_singleton]; omega
      · simp only [List.length_nil]; omega
    exact ⟨by show f.1.length ≤ _; omega, by show (nwL f site.toNat n).length ≤ _; omega, by show (odL f site.toNat).length ≤ _; omega, fun l hl => by have := a3 l hl; omega⟩
theorem tells21 (x : Al × Val × Int) (h1 : x.1.1.2.2.length ≤ 9223372036854775807) (h2 : x.1.2.1.length ≤ 9223372036854775807) : law21_ConformTells K x = some true := by
  obtain ⟨⟨f, s, a⟩, v, site⟩ := x
  unfold law21_ConformTells
  try dsimp only at h1 h2 ⊢
  rw [law_small (f, s, a) h1 h2, bind_some]
  refine g21 fun sm => ?_
  obtain ⟨sf, so, sa⟩ := sm
  have ff := smallF_few sf
  have fo := smallO_few so
  have fa := small_fewT sa
  have l0 : a.2.2.length ≤ 100000 := fa.2.2.1
  rw [loop_every a.2.2 dL (fun _ => True) false (by omega) ?_ ?_]
  · rw [if_pos (by simp), fixed21, bind_some, cond_true, at_state f s a ff fo fa, bind_some, ref_state f s a ff fo fa, bind_some, beq_dec, decide_eq_true rfl, cond_true,
      at_may f s ff fo (flat_small sf), bind_some, ref_mayF f s ff fo (flat_small sf), bind_some, beq_dec, decide_eq_true rfl, cond_true, at_fresh f site v.2 ff, bind_some, ref_fresh f site v.2 ff, bind_some,
      same_same _ (few_fresh sf site v.2), bind_some]
  · intro i hi
    rw [if_pos trivial]
    try dsimp only
    have hb := getD_mem hi dL
    have hb2 := small_fewL (sa.2.2.2 _ hb)
    rw [ilt_len hi, cond_true, inb_len hi, cond_true]
    have e : P.get a.2.2 (i : Int) ((0, 0), [], []) = a.2.2.getD i dL := get_nat _ _ _
    simp only [e]
    rw [wrap_succ (by omega)]
    generalize a.2.2.getD i dL = b at hb2
    have l2 : b.2.2.length ≤ 1000000 := by have := hb2.2.2; omega
    rw [at_object f s v.2 b.2 ff fo hb2, bind_some, ref_object f s v.2 b.2 ff fo hb2, bind_some, beq_dec, decide_eq_true rfl, not_true, cond_false, at_value f v b.2.2 ff l2, bind_some, ref_value f v b.2.2 ff l2, bind_some,
      beq_dec, decide_eq_true rfl, not_true, cond_false]
  · try dsimp only
    rw [ilt_end]; rfl
end Go.PL.Cf
end

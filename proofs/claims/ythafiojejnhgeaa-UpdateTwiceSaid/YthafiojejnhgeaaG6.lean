/- Law 07: the statements. -/
import Derived.Test.YthafiojejnhgeaaG5
import Derived.Test.YthafiojejnhgeaaG3
set_option linter.all false
section
/- Law 07: the statements. -/
open Go Go.PG Go.PL
set_option linter.unusedVariables false
namespace Go.PL
theorem gd {b : Bool} {F X : Option Bool} (h : b = true → X = some true) (hF : F = some true := by first | rfl | (rw [fixed7]; rfl)) : P.cond (P.not b) F X = some true := by
  cases b
  · rw [show P.not false = true from rfl, cond_true, hF]
  · rw [show P.not true = false from rfl, cond_false]; exact h rfl
theorem beq_refl (b : Bool) : P.beq b b = true := beq_iff.2 rfl
theorem seq_refl (b : ByteArray) : P.seq b b = true := seq_iff.2 rfl
theorem lenLe {l : Nat} : P.ilt (60 : Int) (l : Int) = P.not (decide (l ≤ 60)) := by
  rw [Bool.eq_iff_iff, ilt_iff, not_iff, decide_eq_true_eq]; omega
theorem tells7 (x : Sp × Sp × ByteArray) (h1 : x.1.1.length < 9223372036854775808) (h2 : x.2.1.1.length < 9223372036854775808) : law07_ObjectTells K x = some true := by
  obtain ⟨a, b, n⟩ := x
  unfold law07_ObjectTells
  try dsimp only
  rw [ob_small a h1, bind_some]
  refine gd fun h => ?_
  have fa := small_few (of_decide_eq_true h)
  rw [ob_small b h2, bind_some]
  refine gd fun h => ?_
  have fb := small_few (of_decide_eq_true h)
  have va := getR_few fa n
  rw [ob_get a n fa, bind_some, ref_get a n (by have := fa.1; omega), bind_some, fixed7, bind_some, cond_true, ob_may a fa, bind_some, ref_may7 a fa, bind_some, beq_refl, cond_true, seq_refl, cond_true, beq_refl, cond_true, ref_same _ _ (by omega), bind_some, decide_eq_true rfl, cond_true, beq_refl, cond_true, ob_join a b fa fb, bind_some, ref_join a b fa fb, bind_some,
    ref_same7 _ _ (bd_few (join_bd (small_bd (of_decide_eq_true ‹_›)) (small_bd (of_decide_eq_true h))) (by decide)), bind_some, decide_eq_true rfl, cond_true, ob_within a b fa fb, bind_some, ref_within7 a b fa fb, bind_some, beq_refl]
theorem writes7 (x : Sp × ByteArray × List At) (h1 : x.1.1.length < 9223372036854775808) : law07_ObjectWrites K x = some true := by
  obtain ⟨s, n, v⟩ := x
  unfold law07_ObjectWrites
  try dsimp only
  rw [ob_small s h1, bind_some]
  refine gd fun h => ?_
  have hs := of_decide_eq_true h
  have fs := small_few hs
  rw [len_eq, lenLe]
  refine gd fun h => ?_
  have hv := of_decide_eq_true h
  have main : ∀ i : Int, (P.bind (law07_fixed K PUnit.unit) fun (r : Bool) => P.cond r (P.bind (object_Strong K (s, n, v)) fun (r : Sp) => P.bind (ref07_Strong K (s, n, v)) fun (r_1 : Sp) => P.bind (ref07_Same K (r, r_1)) fun (r : Bool) => P.cond r (P.bind (object_Weak K (s, n, v)) fun (r : Sp) => P.bind (ref07_Weak K (s, n, v)) fun (r_2 : Sp) => P.bind (ref07_Same K (r, r_2)) fun (r : Bool) => P.cond r (P.bind (object_Rename K (s, i)) fun (r : Sp) => P.bind (ref07_Rename K (s, i)) fun (r_3 : Sp) => P.bind (ref07_Same K (r, r_3)) fun (r : Bool) => some r) (some false)) (some false)) (some false)) = some true := by
    intro i
    rw [fixed7, bind_some, cond_true, ob_strong s n v fs (by omega), bind_some, ref_strong s n v fs (by omega), bind_some, ref_same7 _ _ (bd_few (strong_bd (small_bd hs) n hv) (by decide)), bind_some, decide_eq_true rfl, cond_true,
      ob_weak s n v fs (by omega), bind_some, ref_weak s n v fs (by omega), bind_some, ref_same7 _ _ (bd_few (weak_bd (small_bd hs) n hv) (by decide)), bind_some, decide_eq_true rfl, cond_true,
      ob_rename s i fs, bind_some, ref_rename7 s i fs, bind_some, ref_same7 _ _ (bd_few (rename_bd (small_bd hs) i) (by decide)), bind_some, decide_eq_true rfl]
  by_cases q : 0 < v.length
  · rw [show P.ilt (0 : Int) (v.length : Int) = true from ilt_iff.2 (by omega), cond_true, show P.inb (0 : Int) (v.length : Int) = true from inb_iff.2 (by omega), cond_true]
    exact main _
  · rw [show P.ilt (0 : Int) (v.length : Int) = false from by rw [Bool.eq_false_iff, Ne, ilt_iff]; omega, cond_false]
    exact main _
theorem renamed7 (x : Sp × Sp × Int) (h1 : x.1.1.length < 9223372036854775808) (h2 : x.2.1.1.length < 9223372036854775808) : law07_ObjectRenamed K x = some true := by
  obtain ⟨a, b, i⟩ := x
  unfold law07_ObjectRenamed
  try dsimp only
  rw [fixed7, bind_some]
  refine gd fun _ => ?_
  rw [ob_small a h1, bind_some]
  refine gd fun h => ?_
  have sa := small_bd (of_decide_eq_true h)
  rw [ob_small b h2, bind_some]
  refine gd fun h => ?_
  have sb := small_bd (of_decide_eq_true h)
  have fa := bd_few sa (by decide)
  have fb := bd_few sb (by decide)
  rw [ob_may a fa, bind_some]
  refine gd fun h => ?_
  have ma := of_decide_eq_true h
  rw [ob_may b fb, bind_some]
  refine gd fun h => ?_
  have mb := of_decide_eq_true h
  have ra := rename_bd sa i
  have rb := rename_bd sb i
  have fra := bd_few ra (by decide)
  have frb := bd_few rb (by decide)
  have ja := join_bd sa sb
  rw [ob_rename a i fa, bind_some, ob_rename b i fb, bind_some, ob_join a b fa fb, bind_some, ob_rename _ i (bd_few ja (by decide)), bind_some, ob_join _ _ fra frb, bind_some, ref_same7 _ _ (bd_few (rename_bd ja i) (by decide)), bind_some, rename_join ma mb, decide_eq_true rfl, cond_true, ob_within a b fa fb, bind_some, ob_rename _ i fra, bind_some, ref_same7 _ _ (bd_few (rename_bd ra i) (by decide)), bind_some, rename_twice ma, decide_eq_true rfl, ob_within _ _ fra frb, bind_some]
  by_cases q : WithinO a b
  · rw [decide_eq_true q, decide_eq_true (rename_within q i)]; rfl
  · rw [decide_eq_false q]; rfl
theorem joined7 (x : Sp × Sp × ByteArray) (h1 : x.1.1.length < 9223372036854775808) (h2 : x.2.1.1.length < 9223372036854775808) : law07_ObjectJoined K x = some true := by
  obtain ⟨a, b, n⟩ := x
  unfold law07_ObjectJoined
  try dsimp only
  rw [fixed7, bind_some]
  refine gd fun _ => ?_
  rw [ob_small a h1, bind_some]
  refine gd fun h => ?_
  have sa := small_bd (of_decide_eq_true h)
  rw [ob_small b h2, bind_some]
  refine gd fun h => ?_
  have sb := small_bd (of_decide_eq_true h)
  have fa := bd_few sa (by decide)
  have fb := bd_few sb (by decide)
  rw [ob_may a fa, bind_some]
  refine gd fun h => ?_
  have ma := of_decide_eq_true h
  rw [ob_may b fb, bind_some]
  refine gd fun h => ?_
  have mb := of_decide_eq_true h
  have ja := join_bd sa sb
  have wa := bd_va sa n
  have wb := bd_va sb n
  obtain ⟨v1, v2, v3⟩ := join_view a.1 b.1 n
  have e1 : (getR (join a b).1 n).2 = (pr a.1 n || pr b.1 n) := by rw [join_eq ma mb]; exact v1
  have e2 : (getR (join a b).1 n).1.2.1 = (su a.1 n && su b.1 n) := by rw [join_eq ma mb]; exact v2
  have e3 : (getR (join a b).1 n).1.2.2 = norm (va a.1 n ++ va b.1 n) := by rw [join_eq ma mb]; exact v3
  have hl := norm_length (va a.1 n ++ va b.1 n)
  rw [List.length_append] at hl
  rw [ob_get a n fa, bind_some, ob_get b n fb, bind_some, ob_join a b fa fb, bind_some, ob_get _ n (bd_few ja (by decide)), bind_some, e1, e2, e3, show (getR a.1 n).2 = pr a.1 n from rfl, show (getR b.1 n).2 = pr b.1 n from rfl, show (getR a.1 n).1.2.1 = su a.1 n from rfl, show (getR b.1 n).1.2.1 = su b.1 n from rfl, show (getR a.1 n).1.2.2 = va a.1 n from rfl, show (getR b.1 n).1.2.2 = va b.1 n from rfl, ref_union _ _ (by omega), bind_some, ref_same _ _ (by omega), bind_some, decide_eq_true rfl]
  have c1 := fun h => (view_none (l := a.1) (n := n) h).1
  have c2 := fun h => (view_none (l := b.1) (n := n) h).1
  revert c1 c2
  generalize pr a.1 n = p
  generalize pr b.1 n = q
  generalize su a.1 n = s
  generalize su b.1 n = t
  intro c1 c2
  cases p <;> cases q <;> cases s <;> cases t <;> first | rfl | (cases c1 rfl) | (cases c2 rfl)
theorem joinLaw7 (x : Sp × Sp × Sp) (h1 : x.1.1.length < 9223372036854775808) (h2 : x.2.1.1.length < 9223372036854775808) (h3 : x.2.2.1.length < 9223372036854775808) : law07_ObjectJoin K x = some true := by
  obtain ⟨a, b, c⟩ := x
  unfold law07_ObjectJoin
  try dsimp only
  rw [fixed7, bind_some]
  refine gd fun _ => ?_
  rw [ob_small a h1, bind_some]
  refine gd fun h => ?_
  have sa := small_bd (of_decide_eq_true h)
  rw [ob_small b h2, bind_some]
  refine gd fun h => ?_
  have sb := small_bd (of_decide_eq_true h)
  rw [ob_small c h3, bind_some]
  refine gd fun h => ?_
  have sc := small_bd (of_decide_eq_true h)
  have fa := bd_few sa (by decide)
  have fb := bd_few sb (by decide)
  have fc := bd_few sc (by decide)
  rw [ob_may a fa, bind_some]
  refine gd fun h => ?_
  have ma := of_decide_eq_true h
  rw [ob_may b fb, bind_some]
  refine gd fun h => ?_
  have mb := of_decide_eq_true h
  rw [ob_may c fc, bind_some]
  refine gd fun h => ?_
  have mc := of_decide_eq_true h
  have ja := join_bd sa sb
  have fj := bd_few ja (by decide)
  have jb := join_bd sb sc
  rw [ob_join a b fa fb, bind_some, ob_may _ fj, bind_some, decide_eq_true (join_may ma mb), show P.not true = false from rfl, cond_false, ob_within a _ fa fj, bind_some, decide_eq_true (within_join_left ma mb), show P.not true = false from rfl, cond_false, ob_within b _ fb fj, bind_some, decide_eq_true (within_join_right ma mb), show P.not true = false from rfl, cond_false, ob_within a a fa fa, bind_some, decide_eq_true (within_refl ma), show P.not true = false from rfl, cond_false,
    ob_join b a fb fa, bind_some, ref_same7 _ _ fj, bind_some, decide_eq_true (join_comm ma mb), show P.not true = false from rfl, cond_false, ob_join _ a fj fa, bind_some, ref_same7 _ _ (bd_few (join_bd ja sa) (by decide)), bind_some, decide_eq_true (join_absorb (within_join_left ma mb)), show P.not true = false from rfl, cond_false]
  have tail : ∀ A : Option Bool, (P.bind (object_Join K (join a b, c)) fun (r : Sp) => P.bind (object_Join K (b, c)) fun (r_12 : Sp) => P.bind (object_Join K (a, r_12)) fun (r_13 : Sp) => P.bind (ref07_Same K (r, r_13)) fun (r : Bool) => P.cond r A (some false)) = A := by
    intro A
    rw [ob_join _ c fj fc, bind_some, ob_join b c fb fc, bind_some, ob_join a _ fa (bd_few jb (by decide)), bind_some, ref_same7 _ _ (bd_few (join_bd ja sc) (by decide)), bind_some, decide_eq_true (join_assoc ma mb mc), cond_true]
  have last : (P.bind (object_Within K (a, b)) fun (r : Bool) => P.cond r (P.bind (object_Within K (b, a)) fun (r : Bool) => P.bind (ref07_Same K (a, b)) fun (r_14 : Bool) => some (P.beq r r_14)) (P.bind (ref07_Same K (a, b)) fun (r : Bool) => some (P.beq false r))) = some true := by
    rw [ob_within a b fa fb, bind_some, ob_within b a fb fa, bind_some, ref_same7 a b fa, bind_some, bind_some]
    by_cases q : WithinO a b
    · by_cases r : WithinO b a
      · rw [decide_eq_true q, decide_eq_true r, decide_eq_true (within_antisymm q r)]; rfl
      · rw [decide_eq_true q, decide_eq_false r, decide_eq_false (fun e : a = b => r (by rw [e]; exact within_refl mb))]; rfl
    · rw [decide_eq_false q, decide_eq_false (fun e : a = b => q (by rw [e]; exact within_refl mb))]; rfl
  rw [ob_within a c fa fc, bind_some, tail, last]
  by_cases q : WithinO a c
  · rw [decide_eq_true q, cond_true, ob_within b c fb fc, bind_some]
    by_cases r : WithinO b c
    · rw [decide_eq_true r, cond_true, ob_within _ c fj fc, bind_some, decide_eq_true (join_least q r)]; rfl
    · rw [decide_eq_false r, cond_false]
  · rw [decide_eq_false q, cond_false]
end Go.PL
end
section
/- Law 07: what is written weakly. -/
open Go Go.PG Go.PL
set_option linter.unusedVariables false
namespace Go.PL
theorem lt_max {n : Nat} (h : n ≤ maxLen) : n < 9223372036854775808 := by simp only [maxLen] at h; omega
theorem view_mem {l : List Fd} (h : RisesF l) {f : Fd} (hf : f ∈ l) : getR l f.1 = (f, true) := by
  unfold getR; rw [get_of_mem h hf]
theorem weaker7 (x : Sp × ByteArray × List At) (h1 : x.1.1.length < 9223372036854775808) : law07_ObjectWeaker K x = some true := by
  obtain ⟨s, n, v⟩ := x
  unfold law07_ObjectWeaker
  try dsimp only
  rw [fixed7, bind_some]
  refine gd fun _ => ?_
  rw [ob_small s h1, bind_some]
  refine gd fun h => ?_
  have ss := small_bd (of_decide_eq_true h)
  rw [len_eq, lenLe]
  refine gd fun h => ?_
  have hv := of_decide_eq_true h
  have fs := bd_few ss (by decide)
  rw [ob_may s fs, bind_some]
  refine gd fun h => ?_
  have ms := of_decide_eq_true h
  rw [ref_may v (by omega), bind_some]
  refine gd fun h => ?_
  have cv := canon_iff.1 (of_decide_eq_true h)
  have bw := weak_bd ss n hv
  have bx := strong_bd ss n hv
  have fw := bd_few bw (by decide)
  have fx := bd_few bx (by decide)
  have mw := weak_may ms n v
  have mx := strong_may ms n v
  have vw := put_view ms.1 (n, su s.1 n, norm (va s.1 n ++ v))
  have vx := put_view ms.1 (n, true, norm v)
  have ew1 : (weak s n v).1 = put s.1 (n, su s.1 n, norm (va s.1 n ++ v)) := by rw [weak_eq ms]
  have ex1 : (strong s n v).1 = put s.1 (n, true, norm v) := by rw [strong_eq ms]
  rw [ob_weak s n v fs (by omega), bind_some, ob_strong s n v fs (by omega), bind_some, ob_get s n fs, bind_some, ob_may _ fw, bind_some, decide_eq_true mw, show P.not true = false from rfl, cond_false, ob_may _ fx, bind_some, decide_eq_true mx, show P.not true = false from rfl, cond_false]
  have must : (getR s.1 n).2 = true → (P.beq (getR s.1 n).1.2.1 ((getR (weak s n v).1 n).2 && (getR (weak s n v).1 n).1.2.1)) = true := by
    intro hp
    rw [ew1]
    have a1 := (vw n).1; have a2 := (vw n).2.1
    rw [if_pos rfl] at a1 a2
    show P.beq (su s.1 n) (pr (put s.1 (n, su s.1 n, norm (va s.1 n ++ v))) n && su (put s.1 (n, su s.1 n, norm (va s.1 n ++ v))) n) = true
    rw [a1, a2]
    exact beq_iff.2 (by simp)
  have loop : ∀ f : Int → Option (Int ⊕ (Unit ⊕ Bool)), (∀ i : Nat, i < s.1.length → f (i : Int) = some (.inl ((i + 1 : Nat) : Int))) → f (s.1.length : Int) = some (.inr (.inl ())) → P.iter K f 0 = some (.inl ()) := by
    intro f hs he
    exact iter_run (f := f) (fun i => (i : Int)) _ s.1.length 0 K (by unfold K; have := fs.1; omega) (fun j hj => by simp only [Nat.zero_add]; exact hs j hj) (by simpa using he)
  have fin : (P.bind (ref06_Null K PUnit.unit) fun (r : List (Int × Int)) => P.bind (object_Strong K (s, n, r)) fun (r : Sp) => P.bind (object_Strong K (r, n, v)) fun (r : Sp) => P.bind (ref07_Same K (r, strong s n v)) fun (r : Bool) => some r) = some true := by
    have bn := strong_bd ss n (v := [(0, 0)]) (j := 1) (by decide)
    rw [at_null, bind_some, ob_strong s n _ fs (by decide), bind_some, ob_strong _ n v (bd_few bn (by decide)) (by omega), bind_some, ref_same7 _ _ (bd_few (strong_bd bn n hv) (by decide)), bind_some, strong_twice ms, decide_eq_true rfl]
  have step : ∀ i : Nat, i < s.1.length → (P.cond (P.ilt (i : Int) (P.len s.1)) (P.cond (P.inb (i : Int) (P.len s.1)) (P.bind (object_Get K (weak s n v, (P.get s.1 (i : Int) ((ByteArray.mk #[]), false, [])).fst)) fun (r : (ByteArray × Bool × List (Int × Int)) × Bool) => P.cond (P.inb (i : Int) (P.len s.1)) (P.bind (object_Get K (strong s n v, (P.get s.1 (i : Int) ((ByteArray.mk #[]), false, [])).fst)) fun (r_6 : (ByteArray × Bool × List (Int × Int)) × Bool) => P.cond (P.inb (i : Int) (P.len s.1)) (P.cond (P.not (P.seq (P.get s.1 (i : Int) ((ByteArray.mk #[]), false, [])).fst n)) (P.cond (P.not r.snd) (some (Sum.inr (Sum.inr false))) (P.cond (P.not r_6.snd) (some (Sum.inr (Sum.inr false))) (P.cond (P.inb (i : Int) (P.len s.1)) (P.bind (ref06_Same K (r.fst.snd.snd, (P.get s.1 (i : Int) ((ByteArray.mk #[]), false, [])).snd.snd)) fun (r_7 : Bool) => P.cond (P.not r_7) (some (Sum.inr (Sum.inr false))) (P.cond (P.inb (i : Int) (P.len s.1)) (P.bind (ref06_Same K (r_6.fst.snd.snd, (P.get s.1 (i : Int) ((ByteArray.mk #[]), false, [])).snd.snd)) fun (r_8 : Bool) => P.cond (P.not r_8) (some (Sum.inr (Sum.inr false))) (P.cond (P.inb (i : Int) (P.len s.1)) (P.cond (P.not (P.beq r.fst.snd.fst (P.get s.1 (i : Int) ((ByteArray.mk #[]), false, [])).snd.fst)) (some (Sum.inr (Sum.inr false))) (P.cond (P.not (P.beq r_6.fst.snd.fst r.fst.snd.fst)) (some (Sum.inr (Sum.inr false))) (some (Sum.inl (P.wrap IntKind.i64 (P.add (i : Int) ((1 : Int)))))))) none)) none)) none))) (some (Sum.inl (P.wrap IntKind.i64 (P.add (i : Int) ((1 : Int))))))) none) none) none) (some (Sum.inr (Sum.inl PUnit.unit))) : Option (Int ⊕ (Unit ⊕ Bool))) = some (.inl ((i + 1 : Nat) : Int)) := by
    intro i hi
    have hl := fs.1
    have hm := mem_getD hi
    have hiv := fs.2.1 _ hm
    rw [show P.ilt (i : Int) (P.len s.1) = true from ilt_iff.2 (by rw [len_eq]; omega), show P.inb (i : Int) (P.len s.1) = true from inb_iff.2 (by rw [len_eq]; omega), wrap_succ (by omega)]
    simp only [cond_true]
    rw [show P.get s.1 (i : Int) ((ByteArray.mk #[]), false, []) = s.1.getD i dF from get_nat _ _ _]
    generalize hf : s.1.getD i dF = f at hm hiv
    rw [ob_get _ _ fw, bind_some, ob_get _ _ fx, bind_some]
    by_cases q : f.1 = n
    · rw [show P.not (P.seq f.1 n) = false from by rw [seq_iff.2 q]; rfl, cond_false]
    · rw [show P.not (P.seq f.1 n) = true from by rw [not_iff, seq_iff]; exact q, cond_true]
      have gs := view_mem ms.1 hm
      have q' : ¬ n = f.1 := fun e => q e.symm
      have gw : getR (weak s n v).1 f.1 = (f, true) := by
        rw [ew1]; unfold getR at gs ⊢; rw [get_put ms.1, if_neg q']; exact gs
      have gx : getR (strong s n v).1 f.1 = (f, true) := by
        rw [ex1]; unfold getR at gs ⊢; rw [get_put ms.1, if_neg q']; exact gs
      rw [gw, gx]
      simp only [show P.not true = false from rfl, cond_false]
      rw [ref_same _ _ (by omega), bind_some, decide_eq_true rfl, beq_refl]
      rfl
  have hmust := ob_must (weak s n v) n fw
  have all : ∀ (A B : Option Bool), (A = some true) → B = some true → P.cond (getR s.1 n).2 A B = some true := by
    intro A B ha hb
    cases (getR s.1 n).2
    · exact hb
    · exact ha
  have whole : ∀ f, f = some (.inl ()) → (P.bind f (P.either (fun (z : PUnit) => P.bind (ref06_Null K PUnit.unit) fun (r : List (Int × Int)) => P.bind (object_Strong K (s, n, r)) fun (r : Sp) => P.bind (object_Strong K (r, n, v)) fun (r : Sp) => P.bind (ref07_Same K (r, strong s n v)) fun (r : Bool) => some r) fun (r : Bool) => some r)) = some true := by
    intro f hf
    rw [hf, bind_some, either_inl]
    exact fin
  rw [ob_within s _ fs fw, bind_some, decide_eq_true (within_weak ms cv), show P.not true = false from rfl, cond_false]
  cases hp : (getR s.1 n).2
  · simp only [cond_false]
    exact whole _ (loop _ step (copy_end _ _ _))
  · simp only [cond_true]
    rw [ob_within _ _ fx fw, bind_some, decide_eq_true (strong_within_weak ms cv hp), show P.not true = false from rfl, cond_false, hmust, bind_some, must hp, show P.not true = false from rfl, cond_false]
    exact whole _ (loop _ step (copy_end _ _ _))
end Go.PL
end
section
/- States: what may be. -/
open Go Go.PG Go.PL
set_option linter.all false
namespace Go.PL
abbrev Bv := ByteArray × List At
abbrev Lc := At × Sp
abbrev Sta := Bool × List Bv × List Lc
abbrev dB : Bv := (⟨#[]⟩, [])
abbrev dL : Lc := ((0, 0), [], [])
/-! ### lists by their places -/
theorem getD_mem {α : Type} {l : List α} {i : Nat} (h : i < l.length) (d : α) : l.getD i d ∈ l := by
  simp [List.getD_eq_getElem?_getD, h]
theorem forall_getD {α : Type} {l : List α} (d : α) {p : α → Prop} : (∀ i, i < l.length → p (l.getD i d)) ↔ ∀ f, f ∈ l → p f := by
  constructor
  · intro h f hf
    obtain ⟨i, hi, rfl⟩ := List.getElem_of_mem hf
    have := h i hi
    simpa [List.getD_eq_getElem?_getD, hi] using this
  · intro h i hi; exact h _ (getD_mem hi d)
theorem pair_steps {α : Type} {R : α → α → Prop} (tr : ∀ {a b c}, R a b → R b c → R a c) (l : List α) (d : α) : (∀ i, i < l.length → 0 < i → R (l.getD (i - 1) d) (l.getD i d)) ↔ l.Pairwise R := by
  constructor
  · intro h
    have key : ∀ k i, i + k + 1 < l.length → R (l.getD i d) (l.getD (i + k + 1) d) := by
      intro k
      induction k with
      | zero => intro i hi; have := h (i + 1) hi (by omega); simpa using this
      | succ k ih =>
        intro i hi
        have h1 := ih i (by omega)
        have h2 := h (i + (k + 1) + 1) hi (by omega)
        rw [show i + (k + 1) + 1 - 1 = i + k + 1 by omega] at h2
        exact tr h1 h2
    refine List.pairwise_iff_getElem.2 fun i j hi hj hij => ?_
    have := key (j - i - 1) i (by omega)
    rw [show i + (j - i - 1) + 1 = j by omega] at this
    simpa [List.getD_eq_getElem?_getD, hi, hj] using this
  · intro h i hi h0
    have := List.pairwise_iff_getElem.1 h (i - 1) i (by omega) hi (by omega)
    simpa [List.getD_eq_getElem?_getD, hi, show i - 1 < l.length by omega] using this
theorem ext_getD {α : Type} {a b : List α} (d : α) (h : a.length = b.length) : (∀ i, i < a.length → a.getD i d = b.getD i d) ↔ a = b := by
  constructor
  · intro q
    refine List.ext_getElem h fun i h1 h2 => ?_
    have := q i h1
    simpa [List.getD_eq_getElem?_getD, h1, h2] using this
  · rintro rfl _ _; rfl
theorem take_getD' {α : Type} {l : List α} {j : Nat} (h : j < l.length) (d : α) : l.take (j + 1) = l.take j ++ [l.getD j d] := by
  rw [List.take_add_one, List.getElem?_eq_getElem h]
  simp [List.getD_eq_getElem?_getD, h]
/-! ### single steps -/
theorem ilt_len {α : Type} {l : List α} {i : Nat} (h : i < l.length) : P.ilt (i : Int) (P.len l) = true := ilt_iff.2 (by rw [len_eq]; omega)
theorem ilt_end {α : Type} (l : List α) : P.ilt (l.length : Int) (P.len l) = false := by rw [Bool.eq_false_iff, Ne, ilt_iff, len_eq]; omega
theorem inb_len {α : Type} {l : List α} {i : Nat} (h : i < l.length) : P.inb (i : Int) (P.len l) = true := inb_iff.2 (by rw [len_eq]; omega)
theorem not_true : P.not true = false := rfl
theorem not_false' : P.not false = true := rfl
theorem cond_dec {α : Type} (p : Prop) [Decidable p] (x y : α) : P.cond (decide p) x y = if p then x else y := by
  by_cases h : p
  · rw [decide_eq_true h, if_pos h]; rfl
  · rw [decide_eq_false h, if_neg h]; rfl
theorem cond_ndec {α : Type} (p : Prop) [Decidable p] (x y : α) : P.cond (P.not (decide p)) x y = if p then y else x := by
  by_cases h : p
  · rw [decide_eq_true h, if_pos h]; rfl
  · rw [decide_eq_false h, if_neg h]; rfl
theorem slt_dec (a b : ByteArray) : P.slt a b = decide (ltS a b) := by rw [Bool.eq_iff_iff, slt_iff, decide_eq_true_eq]
theorem seq_dec (a b : ByteArray) : P.seq a b = decide (a = b) := by rw [Bool.eq_iff_iff, seq_iff, decide_eq_true_eq]
theorem ilt_dec (a b : Int) : P.ilt a b = decide (a < b) := rfl
theorem ile_dec (a b : Int) : P.ile a b = decide (a ≤ b) := rfl
theorem eqA_dec (a b : At) : P.and (P.ieq a.1 b.1) (P.ieq a.2 b.2) = decide (a = b) := by rw [Bool.eq_iff_iff, eqA_iff, decide_eq_true_eq]
theorem beq_dec (a b : Bool) : P.beq a b = decide (a = b) := by cases a <;> cases b <;> rfl
/-- A count that ends where something fails. -/
theorem loop_all {ρ σ : Type} (n : Nat) (p : Nat → Prop) [DecidablePred p] {f : Int → Option (Int ⊕ (Unit ⊕ ρ))} {A : Option σ} {B : ρ → Option σ} {r : ρ} (hn : n ≤ 1000000000)
    (hs : ∀ i : Nat, i < n → f (i : Int) = some (if p i then .inl ((i + 1 : Nat) : Int) else .inr (.inr r))) (he : f (n : Int) = some (.inr (.inl ()))) :
    P.bind (P.iter K f 0) (P.either (fun (_ : Unit) => A) B) = if ∀ i, i < n → p i then A else B r := by
  rw [iter_all (n := n) (e := .inl ()) (r := .inr r) p K hs he (by unfold K; omega), bind_some]
  by_cases q : ∀ i, i < n → p i
  · rw [if_pos q, if_pos q]; rfl
  · rw [if_neg q, if_neg q]; rfl
/-- A count that goes all the way with a state. -/
theorem loop_fold {τ ρ σ : Type} (n : Nat) (s : Nat → τ) {f : Int × τ → Option ((Int × τ) ⊕ (τ ⊕ ρ))} {A : τ → Option σ} {B : ρ → Option σ} (hn : n ≤ 1000000000)
    (hs : ∀ i : Nat, i < n → f ((i : Int), s i) = some (.inl (((i + 1 : Nat) : Int), s (i + 1)))) (he : f ((n : Int), s n) = some (.inr (.inl (s n)))) :
    P.bind (P.iter K f (0, s 0)) (P.either A B) = A (s n) := by
  have := iter_run (f := f) (fun i => ((i : Int), s i)) _ n 0 K (by unfold K; omega) (fun j hj => by simp only [Nat.zero_add]; exact hs j hj) (by simpa using he)
  rw [show ((0 : Nat) : Int) = 0 from rfl] at this
  rw [this, bind_some, either_inl]
/-! ### what may be -/
def PlaceA (a : At) : Prop := (a.1 = 4 ∨ a.1 = 5) ∧ 0 ≤ a.2
instance (a : At) : Decidable (PlaceA a) := by unfold PlaceA; exact inferInstance
theorem place_right {a : At} (h : PlaceA a) : RightA a := by unfold PlaceA at h; unfold RightA; omega
abbrev RisesB (l : List Bv) : Prop := l.Pairwise fun a b => ltS a.1 b.1
abbrev RisesL (l : List Lc) : Prop := l.Pairwise fun a b => ltA a.1 b.1
def MayS (s : Sta) : Prop := (RisesB s.2.1 ∧ ∀ b, b ∈ s.2.1 → b.2 = norm b.2) ∧ (RisesL s.2.2 ∧ ∀ l, l ∈ s.2.2 → PlaceA l.1 ∧ MayO l.2) ∧ (s.1 = true → s.2.1 = [] ∧ s.2.2 = [])
instance (s : Sta) : Decidable (MayS s) := by unfold MayS; exact inferInstance
def FewT (s : Sta) : Prop := s.2.1.length ≤ 100000 ∧ (∀ b, b ∈ s.2.1 → b.2.length ≤ 100000) ∧ s.2.2.length ≤ 100000 ∧ ∀ l, l ∈ s.2.2 → FewS l.2
instance (s : Sta) : Decidable (FewT s) := by unfold FewT; exact inferInstance
theorem ref_place (k : Nat) (a : At) : ref08_Place k a = some (decide (PlaceA a)) := by
  unfold ref08_Place
  obtain ⟨x, y⟩ := a
  try dsimp only
  simp only [PlaceA, ieq_eq, ile_dec, cond_dec]
  by_cases h4 : x = 4
  · rw [if_pos h4]; simp [h4]
  · by_cases h5 : x = 5
    · rw [if_neg h4, if_pos h5]; simp [h5]
    · rw [if_neg h4, if_neg h5]; simp [h4, h5]
theorem norm_one {a : At} : [a] = norm [a] ↔ RightA a := by
  rw [canon_iff]
  exact ⟨fun h => h.2 a (by simp), fun h => ⟨List.pairwise_singleton _ _, fun z hz => by rw [List.mem_singleton] at hz; rw [hz]; exact h⟩⟩
theorem st_place (a : At) : state_place K a = some (decide (PlaceA a)) := by
  unfold state_place
  try dsimp only
  rw [at_may [a] (by simp), bind_some]
  have e : decide ([a] = norm [a]) = decide (RightA a) := by rw [decide_eq_decide]; exact norm_one
  rw [e]
  obtain ⟨x, y⟩ := a
  simp only [PlaceA, RightA, ieq_eq, cond_dec]
  by_cases h4 : x = 4
  · rw [if_pos h4]; simp [h4]
  · by_cases h5 : x = 5
    · rw [if_neg h4, if_pos h5]; simp [h5]
    · rw [if_neg h4, if_neg h5]; simp [h4, h5]
theorem cmp_int (k : Nat) (x y : Int) : cmp_Compare_int k (x, y) = some (if x < y then -1 else if y < x then 1 else 0) := by
  unfold cmp_Compare_int
  try dsimp only
  have h : ∀ z : Int, cmp_isNaN_int k z = some false := by
    intro z
    unfold cmp_isNaN_int
    simp [P.not, P.ieq]
  rw [h, bind_some, h, bind_some, cond_false, cond_false, ilt_dec, ilt_dec, cond_dec, cond_dec]
  repeat' split
  all_goals first | rfl | omega
theorem at_compare (a b : At) : ∃ r : Int, atoms_Compare K (a, b) = some r ∧ (0 ≤ r ↔ ¬ ltA a b) := by
  unfold atoms_Compare
  try dsimp only
  rw [cmp_int, bind_some, cmp_int, bind_some]
  have hor : ∀ x y : Int, cmp_Or_int K [x, y] = some (if x = 0 then y else x) := by
    intro x y
    unfold cmp_Or_int
    try dsimp only
    have hK : ∃ m, K = m + 3 := ⟨18446744073709551613, rfl⟩
    obtain ⟨m, hm⟩ := hK
    rw [hm]
    by_cases hx : x = 0
    · subst hx
      by_cases hy : y = 0
      · subst hy; rfl
      · rw [iter_succ]
        simp [P.ilt, P.inb, P.len, P.cond, P.get, P.ieq, P.not, P.wrap, P.add, IntKind.wrap, IntKind.bits, IntKind.signed]
        rw [iter_succ]
        have hy' : (y == 0) = false := by simp [hy]
        simp [P.ilt, P.inb, P.len, P.cond, P.get, P.ieq, P.not, P.bind, P.either, hy']
    · rw [iter_succ]
      have hx' : (x == 0) = false := by simp [hx]
      simp [P.ilt, P.inb, P.len, P.cond, P.get, P.ieq, P.not, P.bind, P.either, hx, hx']
  rw [hor, bind_some]
  refine ⟨_, rfl, ?_⟩
  unfold ltA
  repeat' split
  all_goals omega
end Go.PL
end
section
/- States: what may be, as both say it; which are the same; what they hold. -/
open Go Go.PG Go.PL
set_option linter.all false
namespace Go.PL
def StepB (l : List Bv) (i : Nat) : Prop := (l.getD i dB).2 = norm (l.getD i dB).2 ∧ (0 < i → ltS (l.getD (i - 1) dB).1 (l.getD i dB).1)
instance (l : List Bv) (i : Nat) : Decidable (StepB l i) := by unfold StepB; exact inferInstance
def StepL (l : List Lc) (i : Nat) : Prop := (PlaceA (l.getD i dL).1 ∧ MayO (l.getD i dL).2) ∧ (0 < i → ltA (l.getD (i - 1) dL).1 (l.getD i dL).1)
instance (l : List Lc) (i : Nat) : Decidable (StepL l i) := by unfold StepL; exact inferInstance
theorem stepsB_iff {l : List Bv} : (∀ i, i < l.length → StepB l i) ↔ RisesB l ∧ ∀ f, f ∈ l → f.2 = norm f.2 := by
  have e1 := pair_steps (R := fun a b : Bv => ltS a.1 b.1) (fun h1 h2 => ltS_trans h1 h2) l dB
  have e2 := forall_getD (l := l) dB (p := fun f : Bv => f.2 = norm f.2)
  exact ⟨fun h => ⟨e1.1 fun i hi => (h i hi).2, e2.1 fun i hi => (h i hi).1⟩, fun h i hi => ⟨e2.2 h.2 i hi, e1.2 h.1 i hi⟩⟩
theorem stepsL_iff {l : List Lc} : (∀ i, i < l.length → StepL l i) ↔ RisesL l ∧ ∀ f, f ∈ l → PlaceA f.1 ∧ MayO f.2 := by
  have e1 := pair_steps (R := fun a b : Lc => ltA a.1 b.1) (fun h1 h2 => ltA_trans h1 h2) l dL
  have e2 := forall_getD (l := l) dL (p := fun f : Lc => PlaceA f.1 ∧ MayO f.2)
  exact ⟨fun h => ⟨e1.1 fun i hi => (h i hi).2, e2.1 fun i hi => (h i hi).1⟩, fun h i hi => ⟨e2.2 h.2 i hi, e1.2 h.1 i hi⟩⟩
theorem may_tail (s : Sta) (A : Option Bool) (hA : A = some (decide (s.1 = true → s.2.1 = [] ∧ s.2.2 = []))) :
    (if ∀ i, i < s.2.1.length → StepB s.2.1 i then (if ∀ i, i < s.2.2.length → StepL s.2.2 i then A else some false) else some false) = some (decide (MayS s)) := by
  subst hA
  by_cases q1 : ∀ i, i < s.2.1.length → StepB s.2.1 i
  · by_cases q2 : ∀ i, i < s.2.2.length → StepL s.2.2 i
    · rw [if_pos q1, if_pos q2]
      congr 1
      rw [decide_eq_decide]
      exact ⟨fun h => ⟨stepsB_iff.1 q1, stepsL_iff.1 q2, h⟩, fun h => h.2.2⟩
    · rw [if_pos q1, if_neg q2, decide_eq_false fun h : MayS s => q2 (stepsL_iff.2 h.2.1)]
  · rw [if_neg q1, decide_eq_false fun h : MayS s => q1 (stepsB_iff.2 h.1)]
theorem ref_may8 (s : Sta) (h : FewT s) : ref08_May K s = some (decide (MayS s)) := by
  unfold ref08_May
  try dsimp only
  obtain ⟨h1, h2, h3, h4⟩ := h
  rw [loop_all s.2.1.length (StepB s.2.1) (r := false) (by omega) ?_ ?_]
  · rw [loop_all s.2.2.length (StepL s.2.2) (r := false) (by omega) ?_ ?_]
    · refine may_tail s _ ?_
      cases s.1
      · simp [P.not, P.cond]
      · rw [not_true, cond_false, ieq_eq, cond_dec, ieq_eq, len_eq, len_eq]
        by_cases q : s.2.1 = []
        · rw [if_pos (by simp [q])]; simp [q]
        · rw [if_neg (by simp [q])]; simp [q]
    · intro i hi
      try dsimp only
      have hm := getD_mem hi dL
      rw [ilt_len hi, cond_true, inb_len hi, cond_true, get_nat, ref_place, bind_some, cond_ndec, cond_true, ref_may7 _ (h4 _ hm), bind_some, cond_ndec, wrap_succ (by omega)]
      by_cases q1 : PlaceA (s.2.2.getD i dL).1
      · by_cases q2 : MayO (s.2.2.getD i dL).2
        · rw [if_pos q1, if_pos q2]
          by_cases h0 : 0 < i
          · rw [show P.ilt ((0 : Int)) (i : Int) = true from ilt_iff.2 (by omega), cond_true, wrap_pred h0 (by omega), inb_len (show i - 1 < s.2.2.length by omega), cond_true, get_nat, ref_less, bind_some, cond_true, cond_ndec]
            by_cases z : ltA (s.2.2.getD (i - 1) dL).1 (s.2.2.getD i dL).1
            · rw [if_pos z, if_pos (show StepL s.2.2 i from ⟨⟨q1, q2⟩, fun _ => z⟩)]
            · rw [if_neg z, if_neg (show ¬ StepL s.2.2 i from fun y => z (y.2 h0))]
          · rw [show P.ilt ((0 : Int)) (i : Int) = false from by rw [Bool.eq_false_iff, Ne, ilt_iff]; omega, cond_false, if_pos (show StepL s.2.2 i from ⟨⟨q1, q2⟩, fun z => absurd z h0⟩)]
        · rw [if_pos q1, if_neg q2, if_neg (show ¬ StepL s.2.2 i from fun z => q2 z.1.2)]
      · rw [if_neg q1, if_neg (show ¬ StepL s.2.2 i from fun z => q1 z.1.1)]
    · try dsimp only
      rw [ilt_end]; rfl
  · intro i hi
    try dsimp only
    have hm := getD_mem hi dB
    rw [ilt_len hi, cond_true, inb_len hi, cond_true, get_nat, ref_may (s.2.1.getD i dB).2 (by have := h2 _ hm; omega), bind_some, cond_ndec, wrap_succ (by omega)]
    by_cases q : (s.2.1.getD i dB).2 = norm (s.2.1.getD i dB).2
    · rw [if_pos q]
      by_cases h0 : 0 < i
      · rw [show P.ilt ((0 : Int)) (i : Int) = true from ilt_iff.2 (by omega), cond_true, wrap_pred h0 (by omega), inb_len (show i - 1 < s.2.1.length by omega), cond_true, cond_true, get_nat, slt_dec, cond_ndec]
        by_cases z : ltS (s.2.1.getD (i - 1) dB).1 (s.2.1.getD i dB).1
        · rw [if_pos z, if_pos (show StepB s.2.1 i from ⟨q, fun _ => z⟩)]
        · rw [if_neg z, if_neg (show ¬ StepB s.2.1 i from fun y => z (y.2 h0))]
      · rw [show P.ilt ((0 : Int)) (i : Int) = false from by rw [Bool.eq_false_iff, Ne, ilt_iff]; omega, cond_false, if_pos (show StepB s.2.1 i from ⟨q, fun z => absurd z h0⟩)]
    · rw [if_neg q, if_neg (show ¬ StepB s.2.1 i from fun z => q z.1)]
  · try dsimp only
    rw [ilt_end]; rfl
theorem st_may (s : Sta) (h : FewT s) : state_May K s = some (decide (MayS s)) := by
  unfold state_May
  try dsimp only
  obtain ⟨h1, h2, h3, h4⟩ := h
  rw [loop_all s.2.1.length (StepB s.2.1) (r := false) (by omega) ?_ ?_]
  · rw [loop_all s.2.2.length (StepL s.2.2) (r := false) (by omega) ?_ ?_]
    · refine may_tail s _ ?_
      cases s.1
      · simp [P.not, P.cond]
      · rw [not_true, cond_false, ieq_eq, len_eq, len_eq, show P.add (s.2.1.length : Int) (s.2.2.length : Int) = ((s.2.1.length + s.2.2.length : Nat) : Int) from by simp [P.add], wrap_nat (by omega)]
        congr 1
        rw [decide_eq_decide, ← List.length_eq_zero_iff, ← List.length_eq_zero_iff]
        exact ⟨fun h _ => by omega, fun h => by have := h rfl; omega⟩
    · intro i hi
      try dsimp only
      have hm := getD_mem hi dL
      rw [ilt_len hi, cond_true, inb_len hi, cond_true, get_nat, st_place, bind_some, cond_ndec, ob_may _ (h4 _ hm), bind_some, cond_ndec, wrap_succ (by omega)]
      by_cases q1 : PlaceA (s.2.2.getD i dL).1
      · by_cases q2 : MayO (s.2.2.getD i dL).2
        · rw [if_pos q1, if_pos q2]
          by_cases h0 : 0 < i
          · obtain ⟨r, hr, hlt⟩ := at_compare (s.2.2.getD (i - 1) dL).1 (s.2.2.getD i dL).1
            rw [show P.ilt ((0 : Int)) (i : Int) = true from ilt_iff.2 (by omega), cond_true, wrap_pred h0 (by omega), inb_len (show i - 1 < s.2.2.length by omega), cond_true, get_nat, hr, bind_some, ile_dec, cond_dec]
            by_cases z : ltA (s.2.2.getD (i - 1) dL).1 (s.2.2.getD i dL).1
            · rw [if_neg (fun y => hlt.1 y z), if_pos (show StepL s.2.2 i from ⟨⟨q1, q2⟩, fun _ => z⟩)]
            · rw [if_pos (hlt.2 z), if_neg (show ¬ StepL s.2.2 i from fun y => z (y.2 h0))]
          · rw [show P.ilt ((0 : Int)) (i : Int) = false from by rw [Bool.eq_false_iff, Ne, ilt_iff]; omega, cond_false, if_pos (show StepL s.2.2 i from ⟨⟨q1, q2⟩, fun z => absurd z h0⟩)]
        · rw [if_pos q1, if_neg q2, if_neg (show ¬ StepL s.2.2 i from fun z => q2 z.1.2)]
      · rw [if_neg q1, if_neg (show ¬ StepL s.2.2 i from fun z => q1 z.1.1)]
    · try dsimp only
      rw [ilt_end]; rfl
  · intro i hi
    try dsimp only
    have hm := getD_mem hi dB
    rw [ilt_len hi, cond_true, inb_len hi, cond_true, get_nat, at_may (s.2.1.getD i dB).2 (by have := h2 _ hm; omega), bind_some, cond_ndec, wrap_succ (by omega)]
    by_cases q : (s.2.1.getD i dB).2 = norm (s.2.1.getD i dB).2
    · rw [if_pos q]
      by_cases h0 : 0 < i
      · rw [show P.ilt ((0 : Int)) (i : Int) = true from ilt_iff.2 (by omega), cond_true, wrap_pred h0 (by omega), inb_len (show i - 1 < s.2.1.length by omega), cond_true, get_nat, slt_dec, cond_ndec]
        by_cases z : ltS (s.2.1.getD (i - 1) dB).1 (s.2.1.getD i dB).1
        · rw [if_pos z, if_pos (show StepB s.2.1 i from ⟨q, fun _ => z⟩)]
        · rw [if_neg z, if_neg (show ¬ StepB s.2.1 i from fun y => z (y.2 h0))]
      · rw [show P.ilt ((0 : Int)) (i : Int) = false from by rw [Bool.eq_false_iff, Ne, ilt_iff]; omega, cond_false, if_pos (show StepB s.2.1 i from ⟨q, fun z => absurd z h0⟩)]
    · rw [if_neg q, if_neg (show ¬ StepB s.2.1 i from fun z => q z.1)]
  · try dsimp only
    rw [ilt_end]; rfl
instance decSp : DecidableEq Sp := fun a b => inferInstance
instance decLc : DecidableEq Lc := fun a b => decidable_of_iff (a.1 = b.1 ∧ a.2 = b.2) ⟨fun h => Prod.ext h.1 h.2, fun h => by rw [h]; exact ⟨rfl, rfl⟩⟩
instance decSta : DecidableEq Sta := fun a b => decidable_of_iff (a.1 = b.1 ∧ a.2.1 = b.2.1 ∧ a.2.2 = b.2.2) ⟨fun h => Prod.ext h.1 (Prod.ext h.2.1 h.2.2), fun h => by rw [h]; exact ⟨rfl, rfl, rfl⟩⟩
theorem ieq_len {α β : Type} (a : List α) (b : List β) : P.ieq (P.len a) (P.len b) = decide (a.length = b.length) := by
  rw [ieq_eq, len_eq, len_eq, decide_eq_decide]; omega
theorem ref_same8 (a b : Sta) (h : FewT a) : ref08_Same K (a, b) = some (decide (a = b)) := by
  obtain ⟨h1, h2, h3, h4⟩ := h
  unfold ref08_Same
  try dsimp only
  rw [beq_dec, cond_ndec, ieq_len, cond_ndec, ieq_len, cond_ndec]
  by_cases q1 : a.1 = b.1
  · by_cases q2 : a.2.1.length = b.2.1.length
    · by_cases q3 : a.2.2.length = b.2.2.length
      · rw [if_pos q1, if_pos q2, if_pos q3, loop_all a.2.1.length (fun i => a.2.1.getD i dB = b.2.1.getD i dB) (r := false) (by omega) ?_ ?_]
        · rw [loop_all a.2.2.length (fun i => a.2.2.getD i dL = b.2.2.getD i dL) (r := false) (by omega) ?_ ?_]
          · by_cases z1 : a.2.1 = b.2.1
            · by_cases z2 : a.2.2 = b.2.2
              · rw [if_pos ((ext_getD dB q2).2 z1), if_pos ((ext_getD dL q3).2 z2), decide_eq_true (Prod.ext q1 (Prod.ext z1 z2))]
              · rw [if_pos ((ext_getD dB q2).2 z1), if_neg (fun z => z2 ((ext_getD dL q3).1 z)), decide_eq_false (fun z : a = b => z2 (by rw [z]))]
            · rw [if_neg (fun z => z1 ((ext_getD dB q2).1 z)), decide_eq_false (fun z : a = b => z1 (by rw [z]))]
          · intro i hi
            try dsimp only
            have hm := getD_mem hi dL
            rw [ilt_len hi, cond_true, inb_len hi, cond_true, inb_len (show i < b.2.2.length by omega), cond_true, get_nat, get_nat, eqA_dec, cond_ndec, cond_true, cond_true, ref_same7 _ _ (h4 _ hm), bind_some, cond_ndec, wrap_succ (by omega)]
            by_cases z1 : (a.2.2.getD i dL).1 = (b.2.2.getD i dL).1
            · by_cases z2 : (a.2.2.getD i dL).2 = (b.2.2.getD i dL).2
              · rw [if_pos z1, if_pos z2, if_pos (Prod.ext z1 z2)]
              · rw [if_pos z1, if_neg z2, if_neg (fun z : a.2.2.getD i dL = b.2.2.getD i dL => z2 (by rw [z]))]
            · rw [if_neg z1, if_neg (fun z : a.2.2.getD i dL = b.2.2.getD i dL => z1 (by rw [z]))]
          · try dsimp only
            rw [ilt_end]; rfl
        · intro i hi
          try dsimp only
          have hm := getD_mem hi dB
          rw [ilt_len hi, cond_true, inb_len hi, cond_true, inb_len (show i < b.2.1.length by omega), cond_true, get_nat, get_nat, seq_dec, cond_ndec, cond_true, cond_true, ref_same (a.2.1.getD i dB).2 (b.2.1.getD i dB).2 (by have := h2 _ hm; omega), bind_some, cond_ndec, wrap_succ (by omega)]
          by_cases z1 : (a.2.1.getD i dB).1 = (b.2.1.getD i dB).1
          · by_cases z2 : (a.2.1.getD i dB).2 = (b.2.1.getD i dB).2
            · rw [if_pos z1, if_pos z2, if_pos (Prod.ext z1 z2)]
            · rw [if_pos z1, if_neg z2, if_neg (fun z : a.2.1.getD i dB = b.2.1.getD i dB => z2 (by rw [z]))]
          · rw [if_neg z1, if_neg (fun z : a.2.1.getD i dB = b.2.1.getD i dB => z1 (by rw [z]))]
        · try dsimp only
          rw [ilt_end]; rfl
      · rw [if_pos q1, if_pos q2, if_neg q3, decide_eq_false (fun z : a = b => q3 (by rw [z]))]
    · rw [if_pos q1, if_neg q2, decide_eq_false (fun z : a = b => q2 (by rw [z]))]
  · rw [if_neg q1, decide_eq_false (fun z : a = b => q1 (by rw [z]))]
end Go.PL
end
section
/- States: what they hold; which are small; which is within which. -/
open Go Go.PG Go.PL
set_option linter.all false
namespace Go.PL
theorem range_findSome {α ρ : Type} (l : List α) (d : α) (h : α → Option ρ) : (List.range l.length).findSome? (fun i => h (l.getD i d)) = l.findSome? h := by
  conv => rhs; rw [← range_map l d]
  rw [List.findSome?_map]; rfl
theorem findSome_if {α ρ : Type} (q : α → Prop) [DecidablePred q] (g : α → ρ) : ∀ l : List α, l.findSome? (fun x => if q x then some (g x) else none) = (l.find? fun x => decide (q x)).map g := by
  intro l
  induction l with
  | nil => rfl
  | cons a l ih =>
    rw [List.findSome?_cons, List.find?_cons]
    by_cases h : q a
    · rw [if_pos h, decide_eq_true h]; rfl
    · rw [if_neg h, decide_eq_false h]; exact ih
/-- A count that ends at the first one of some sort. -/
theorem loop_find {α ρ σ : Type} (l : List α) (d : α) (q : α → Prop) [DecidablePred q] (g : α → ρ) {f : Int → Option (Int ⊕ (Unit ⊕ ρ))} {A : Option σ} {B : ρ → Option σ} (hn : l.length ≤ 1000000000)
    (hs : ∀ i : Nat, i < l.length → f (i : Int) = some (if q (l.getD i d) then .inr (.inr (g (l.getD i d))) else .inl ((i + 1 : Nat) : Int))) (he : f (l.length : Int) = some (.inr (.inl ()))) :
    P.bind (P.iter K f 0) (P.either (fun (_ : Unit) => A) B) = match l.find? fun x => decide (q x) with
      | some x => B (g x)
      | none => A := by
  rw [iter_find0 (n := l.length) (e := .inl ()) (fun i => if q (l.getD i d) then some (.inr (g (l.getD i d))) else none) K (fun i hi => by
    rw [hs i hi]
    by_cases h : q (l.getD i d)
    · rw [if_pos h, if_pos h]
    · rw [if_neg h, if_neg h]) he (by unfold K; omega)]
  rw [range_findSome l d (fun x => if q x then some (Sum.inr (g x) : Unit ⊕ ρ) else none), findSome_if q (fun x => (Sum.inr (g x) : Unit ⊕ ρ)) l, bind_some]
  cases l.find? fun x => decide (q x) with
  | none => rfl
  | some x => rfl
def getV (l : List Bv) (n : ByteArray) : Option Bv := l.find? fun b => decide (b.1 = n)
def var (l : List Bv) (n : ByteArray) : List At := match getV l n with
  | some b => b.2
  | none => [(0, 0)]
def getL (l : List Lc) (x : At) : Option Lc := l.find? fun b => decide (b.1 = x)
def locR (l : List Lc) (x : At) : Sp × Bool := match getL l x with
  | some b => (b.2, true)
  | none => (([], []), false)
theorem ref_var (s : Sta) (n : ByteArray) (h : s.2.1.length ≤ 1000000) : ref08_Var K (s, n) = some (var s.2.1 n) := by
  unfold ref08_Var
  try dsimp only
  rw [loop_find s.2.1 dB (fun b => b.1 = n) (fun b => b.2) (by omega) ?_ ?_]
  · unfold var getV
    cases s.2.1.find? fun b => decide (b.1 = n) with
    | none => rfl
    | some b => rfl
  · intro i hi
    try dsimp only
    rw [ilt_len hi, cond_true, inb_len hi, cond_true, cond_true, get_nat, seq_dec, cond_dec, wrap_succ (by omega)]
    by_cases q : (s.2.1.getD i dB).1 = n
    · rw [if_pos q, if_pos q]
    · rw [if_neg q, if_neg q]
  · try dsimp only
    rw [ilt_end]; rfl
theorem ref_loc (s : Sta) (x : At) (h : s.2.2.length ≤ 1000000) : ref08_Loc K (s, x) = some (locR s.2.2 x) := by
  unfold ref08_Loc
  try dsimp only
  rw [loop_find s.2.2 dL (fun b => b.1 = x) (fun b => (b.2, true)) (by omega) ?_ ?_]
  · unfold locR getL
    cases s.2.2.find? fun b => decide (b.1 = x) with
    | none => rfl
    | some b => rfl
  · intro i hi
    try dsimp only
    rw [ilt_len hi, cond_true, inb_len hi, cond_true, cond_true, get_nat, eqA_dec, cond_dec, wrap_succ (by omega)]
    by_cases q : (s.2.2.getD i dL).1 = x
    · rw [if_pos q, if_pos q]
    · rw [if_neg q, if_neg q]
  · try dsimp only
    rw [ilt_end]; rfl
theorem ref_dyn (l : List At) (h : l.length ≤ 1000000) : ref06_IsDyn K l = some (decide ((6, 0) ∈ l)) := by
  unfold ref06_IsDyn
  try dsimp only
  rw [ref_has l _ (by omega), bind_some]
/-! ### small ones -/
def SmallL (l : Lc) : Prop := l.2.1.length ≤ 40 ∧ l.2.2.length ≤ 40 ∧ ∀ f, f ∈ l.2.1 → f.2.2.length ≤ 40
instance (l : Lc) : Decidable (SmallL l) := by unfold SmallL; exact inferInstance
def SmallT (s : Sta) : Prop := s.2.1.length ≤ 40 ∧ s.2.2.length ≤ 40 ∧ (∀ b, b ∈ s.2.1 → b.2.length ≤ 40) ∧ ∀ l, l ∈ s.2.2 → SmallL l
instance (s : Sta) : Decidable (SmallT s) := by unfold SmallT; exact inferInstance
theorem small_fewL {l : Lc} (h : SmallL l) : FewS l.2 := ⟨by have := h.1; omega, fun f hf => by have := h.2.2 f hf; omega, by have := h.2.1; omega⟩
theorem small_fewT {s : Sta} (h : SmallT s) : FewT s := ⟨by have := h.1; omega, fun b hb => by have := h.2.2.1 b hb; omega, by have := h.2.1; omega, fun l hl => small_fewL (h.2.2.2 l hl)⟩
theorem ilt_dec40 {α : Type} (l : List α) : P.ilt (40 : Int) (P.len l) = decide (¬ l.length ≤ 40) := by rw [ilt_dec, len_eq, decide_eq_decide]; omega
theorem ref_small8 (s : Sta) : ref08_Small K s = some (decide (SmallT s)) := by
  unfold ref08_Small
  try dsimp only
  rw [ilt_dec40, cond_dec, ilt_dec40, cond_dec]
  by_cases q1 : s.2.1.length ≤ 40
  · by_cases q2 : s.2.2.length ≤ 40
    · rw [if_neg (fun z => z q1), if_neg (fun z => z q2), loop_all s.2.1.length (fun i => (s.2.1.getD i dB).2.length ≤ 40) (r := false) (by omega) ?_ ?_]
      · rw [loop_all s.2.2.length (fun i => SmallL (s.2.2.getD i dL)) (r := false) (by omega) ?_ ?_]
        · have e1 := forall_getD (l := s.2.1) dB (p := fun b => b.2.length ≤ 40)
          have e2 := forall_getD (l := s.2.2) dL (p := SmallL)
          by_cases z1 : ∀ i, i < s.2.1.length → (s.2.1.getD i dB).2.length ≤ 40
          · by_cases z2 : ∀ i, i < s.2.2.length → SmallL (s.2.2.getD i dL)
            · rw [if_pos z1, if_pos z2, decide_eq_true (show SmallT s from ⟨q1, q2, e1.1 z1, e2.1 z2⟩)]
            · rw [if_pos z1, if_neg z2, decide_eq_false (fun z : SmallT s => z2 (e2.2 z.2.2.2))]
          · rw [if_neg z1, decide_eq_false (fun z : SmallT s => z1 (e1.2 z.2.2.1))]
        · intro i hi
          try dsimp only
          rw [ilt_len hi, cond_true, inb_len hi, cond_true, cond_true, get_nat, ilt_dec40, cond_dec, ilt_dec40, cond_dec, wrap_succ (by omega)]
          generalize s.2.2.getD i dL = l
          by_cases y1 : l.2.1.length ≤ 40
          · by_cases y2 : l.2.2.length ≤ 40
            · rw [if_neg (fun z => z y1), if_neg (fun z => z y2), loop_all l.2.1.length (fun j => (l.2.1.getD j dF).2.2.length ≤ 40) (r := .inr (.inr false)) (by omega) ?_ ?_]
              · have e3 := forall_getD (l := l.2.1) dF (p := fun f => f.2.2.length ≤ 40)
                by_cases y3 : ∀ j, j < l.2.1.length → (l.2.1.getD j dF).2.2.length ≤ 40
                · rw [if_pos y3, if_pos (show SmallL l from ⟨y1, y2, e3.1 y3⟩)]
                · rw [if_neg y3, if_neg (fun z : SmallL l => y3 (e3.2 z.2.2))]
              · intro j hj
                try dsimp only
                rw [cond_true, ilt_len hj, cond_true, cond_true, inb_len hj, cond_true, get_nat, ilt_dec40, cond_dec, wrap_succ (by omega)]
                by_cases y3 : (l.2.1.getD j dF).2.2.length ≤ 40
                · rw [if_neg (fun z => z y3), if_pos y3]
                · rw [if_pos y3, if_neg y3]
              · try dsimp only
                rw [cond_true, ilt_end]; rfl
            · rw [if_neg (fun z => z y1), if_pos y2, if_neg (fun z : SmallL l => y2 z.2.1)]
          · rw [if_pos y1, if_neg (fun z : SmallL l => y1 z.1)]
        · try dsimp only
          rw [ilt_end]; rfl
      · intro i hi
        try dsimp only
        rw [ilt_len hi, cond_true, inb_len hi, cond_true, get_nat, ilt_dec40, cond_dec, wrap_succ (by omega)]
        by_cases y3 : (s.2.1.getD i dB).2.length ≤ 40
        · rw [if_neg (fun z => z y3), if_pos y3]
        · rw [if_pos y3, if_neg y3]
      · try dsimp only
        rw [ilt_end]; rfl
    · rw [if_neg (fun z => z q1), if_pos q2, decide_eq_false (fun z : SmallT s => q2 z.2.1)]
  · rw [if_pos q1, decide_eq_false (fun z : SmallT s => q1 z.1)]
/-! ### within -/
def WithinT (a b : Sta) : Prop := MayS a ∧ MayS b ∧ (a.1 = true ∨ (b.1 = false ∧ (∀ v, v ∈ a.2.1 → Within v.2 (var b.2.1 v.1)) ∧ (∀ v, v ∈ b.2.1 → Within (var a.2.1 v.1) v.2) ∧ ∀ l, l ∈ a.2.2 → (locR b.2.2 l.1).2 = true ∧ WithinO l.2 (locR b.2.2 l.1).1))
instance (a b : Sta) : Decidable (WithinT a b) := by unfold WithinT; exact inferInstance
theorem var_few {s : Sta} (h : FewT s) (n : ByteArray) : (var s.2.1 n).length ≤ 100000 := by
  unfold var getV
  cases q : s.2.1.find? fun b => decide (b.1 = n) with
  | none => simp
  | some b => exact h.2.1 b (List.mem_of_find?_eq_some q)
theorem loc_few {s : Sta} (h : FewT s) (x : At) : FewS (locR s.2.2 x).1 := by
  unfold locR getL
  cases q : s.2.2.find? fun b => decide (b.1 = x) with
  | none => exact ⟨by simp, by simp, by simp⟩
  | some b => exact h.2.2.2 b (List.mem_of_find?_eq_some q)
theorem ref_within8 (a b : Sta) (ha : FewT a) (hb : FewT b) : ref08_Within K (a, b) = some (decide (WithinT a b)) := by
  unfold ref08_Within
  try dsimp only
  obtain ⟨h1, h2, h3, h4⟩ := ha
  obtain ⟨g1, g2, g3, g4⟩ := hb
  rw [ref_may8 a ⟨h1, h2, h3, h4⟩, bind_some, cond_ndec, ref_may8 b ⟨g1, g2, g3, g4⟩, bind_some, cond_ndec]
  by_cases m1 : MayS a
  · by_cases m2 : MayS b
    · rw [if_pos m1, if_pos m2]
      cases da : a.1
      · cases db : b.1
        · rw [cond_false, cond_false, loop_all a.2.1.length (fun i => Within (a.2.1.getD i dB).2 (var b.2.1 (a.2.1.getD i dB).1)) (r := false) (by omega) ?_ ?_]
          · rw [loop_all b.2.1.length (fun i => Within (var a.2.1 (b.2.1.getD i dB).1) (b.2.1.getD i dB).2) (r := false) (by omega) ?_ ?_]
            · rw [loop_all a.2.2.length (fun i => (locR b.2.2 (a.2.2.getD i dL).1).2 = true ∧ WithinO (a.2.2.getD i dL).2 (locR b.2.2 (a.2.2.getD i dL).1).1) (r := false) (by omega) ?_ ?_]
              · have e1 := forall_getD (l := a.2.1) dB (p := fun v => Within v.2 (var b.2.1 v.1))
                have e2 := forall_getD (l := b.2.1) dB (p := fun v => Within (var a.2.1 v.1) v.2)
                have e3 := forall_getD (l := a.2.2) dL (p := fun l => (locR b.2.2 l.1).2 = true ∧ WithinO l.2 (locR b.2.2 l.1).1)
                by_cases z1 : ∀ i, i < a.2.1.length → Within (a.2.1.getD i dB).2 (var b.2.1 (a.2.1.getD i dB).1)
                · by_cases z2 : ∀ i, i < b.2.1.length → Within (var a.2.1 (b.2.1.getD i dB).1) (b.2.1.getD i dB).2
                  · by_cases z3 : ∀ i, i < a.2.2.length → (locR b.2.2 (a.2.2.getD i dL).1).2 = true ∧ WithinO (a.2.2.getD i dL).2 (locR b.2.2 (a.2.2.getD i dL).1).1
                    · rw [if_pos z1, if_pos z2, if_pos z3, decide_eq_true (show WithinT a b from ⟨m1, m2, .inr ⟨db, e1.1 z1, e2.1 z2, e3.1 z3⟩⟩)]
                    · rw [if_pos z1, if_pos z2, if_neg z3, decide_eq_false (fun z : WithinT a b => by
                        rcases z.2.2 with y | y
                        · rw [da] at y; cases y
                        · exact z3 (e3.2 y.2.2.2))]
                  · rw [if_pos z1, if_neg z2, decide_eq_false (fun z : WithinT a b => by
                      rcases z.2.2 with y | y
                      · rw [da] at y; cases y
                      · exact z2 (e2.2 y.2.2.1))]
                · rw [if_neg z1, decide_eq_false (fun z : WithinT a b => by
                    rcases z.2.2 with y | y
                    · rw [da] at y; cases y
                    · exact z1 (e1.2 y.2.1))]
              · intro i hi
                try dsimp only
                have hm := getD_mem hi dL
                rw [ilt_len hi, cond_true, inb_len hi, cond_true, get_nat, ref_loc b _ (by omega), bind_some, cond_true, ref_within7 _ _ (h4 _ hm) (loc_few ⟨g1, g2, g3, g4⟩ _), bind_some, cond_ndec, wrap_succ (by omega)]
                cases q : (locR b.2.2 (a.2.2.getD i dL).1).2
                · rw [not_false', cond_true, if_neg (fun z => by cases z.1)]
                · rw [not_true, cond_false]
                  by_cases y : WithinO (a.2.2.getD i dL).2 (locR b.2.2 (a.2.2.getD i dL).1).1
                  · rw [if_pos y, if_pos ⟨rfl, y⟩]
                  · rw [if_neg y, if_neg (fun z => y z.2)]
              · try dsimp only
                rw [ilt_end]; rfl
            · intro i hi
              try dsimp only
              have hm := getD_mem hi dB
              have hv := var_few ⟨h1, h2, h3, h4⟩ (b.2.1.getD i dB).1
              rw [ilt_len hi, cond_true, inb_len hi, cond_true, get_nat, ref_var a _ (by omega), bind_some, cond_true, ref_within (var a.2.1 (b.2.1.getD i dB).1) (b.2.1.getD i dB).2 (by omega) (by have := g2 _ hm; omega), bind_some, cond_ndec, wrap_succ (by omega)]
              by_cases y : Within (var a.2.1 (b.2.1.getD i dB).1) (b.2.1.getD i dB).2
              · rw [if_pos y, if_pos y]
              · rw [if_neg y, if_neg y]
            · try dsimp only
              rw [ilt_end]; rfl
          · intro i hi
            try dsimp only
            have hm := getD_mem hi dB
            have hv := var_few (s := b) ⟨g1, g2, g3, g4⟩ (a.2.1.getD i dB).1
            rw [ilt_len hi, cond_true, inb_len hi, cond_true, cond_true, get_nat, ref_var b _ (by omega), bind_some, ref_within (a.2.1.getD i dB).2 (var b.2.1 (a.2.1.getD i dB).1) (by have := h2 _ hm; omega) (by omega), bind_some, cond_ndec, wrap_succ (by omega)]
            by_cases y : Within (a.2.1.getD i dB).2 (var b.2.1 (a.2.1.getD i dB).1)
            · rw [if_pos y, if_pos y]
            · rw [if_neg y, if_neg y]
          · try dsimp only
            rw [ilt_end]; rfl
        · rw [cond_false, cond_true, decide_eq_false (fun z : WithinT a b => by
            rcases z.2.2 with y | y
            · rw [da] at y; cases y
            · rw [db] at y; cases y.1)]
      · rw [cond_true, decide_eq_true (show WithinT a b from ⟨m1, m2, .inl da⟩)]
    · rw [if_pos m1, if_neg m2, decide_eq_false (fun z : WithinT a b => m2 z.2.1)]
  · rw [if_neg m1, decide_eq_false (fun z : WithinT a b => m1 z.1)]
end Go.PL
end
section
/- States: copied; what is written. -/
open Go Go.PG Go.PL
set_option linter.all false
namespace Go.PL
theorem loop_st {τ ρ σ : Type} (n : Nat) (s : Nat → τ) (s0 e : τ) {f : Int × τ → Option ((Int × τ) ⊕ (τ ⊕ ρ))} {A : τ → Option σ} {B : ρ → Option σ} (hn : n ≤ 1000000000) (h0 : s 0 = s0) (h1 : s n = e)
    (hs : ∀ i : Nat, i < n → f ((i : Int), s i) = some (.inl (((i + 1 : Nat) : Int), s (i + 1)))) (he : f ((n : Int), e) = some (.inr (.inl e))) :
    P.bind (P.iter K f (0, s0)) (P.either A B) = A e := by
  subst h0; subst h1
  exact loop_fold n s hn hs he
theorem room_one {α : Type} (l : List α) (x : α) (b : Nat) (h : l.length ≤ 1000000) (hb : b ≤ 64) : P.room (P.add (P.len l) (P.len [x])) b = true := by
  rw [len_eq, len_eq, room_nat]
  have : (l.length + [x].length) * b ≤ 1000001 * 64 := Nat.mul_le_mul (by simp; omega) hb
  omega
theorem take_len {α : Type} (l : List α) (i : Nat) (h : l.length ≤ 1000000) : (l.take i).length ≤ 1000000 := by rw [List.length_take]; omega
theorem app_take {α : Type} {l : List α} {i : Nat} (h : i < l.length) (d : α) : P.app (l.take i) [l.getD i d] = l.take (i + 1) := (take_getD' h d).symm
theorem ob_copy (o : Sp) (h : FewS o) : object_Copy K o = some o := by
  unfold object_Copy
  try dsimp only
  rw [at_clone K o.2 (by have := h.2.2; omega), bind_some, copy_run o.1 o.2 (by have := h.1; omega) _ (fun i hi => copy_step o.1 (by have := h.1; omega) h.2.1 o.2 i hi) (copy_end _ _ _), bind_some, either_inl]
/-- A list in part gone over. -/
def mixG {α : Type} (c : α → α) (l : List α) (i : Nat) : List α := (l.take i).map c ++ l.drop i
theorem mixG_len {α : Type} (c : α → α) (l : List α) (i : Nat) : (mixG c l i).length = l.length := by simp [mixG]; omega
theorem mixG_get {α : Type} (c : α → α) (l : List α) {i : Nat} (h : i < l.length) (d : α) : (mixG c l i).getD i d = l.getD i d := by
  have hl : ((l.take i).map c).length = i := by rw [List.length_map, List.length_take]; omega
  simp only [mixG, List.getD_eq_getElem?_getD]
  rw [List.getElem?_append_right (by omega), hl, Nat.sub_self, List.getElem?_drop, Nat.add_zero]
theorem drop_getD' {α : Type} {l : List α} {j : Nat} (h : j < l.length) (d : α) : l.drop j = l.getD j d :: l.drop (j + 1) := by
  rw [List.drop_eq_getElem_cons h]; simp [List.getD_eq_getElem?_getD, h]
theorem mixG_set {α : Type} (c : α → α) (l : List α) {i : Nat} (h : i < l.length) (d : α) : (mixG c l i).set i (c (l.getD i d)) = mixG c l (i + 1) := by
  have hl : ((l.take i).map c).length = i := by rw [List.length_map, List.length_take]; omega
  unfold mixG
  rw [List.set_append_right _ _ (by omega), hl, Nat.sub_self, drop_getD' h d, List.set_cons_zero, take_getD' h d, List.map_append]
  simp
theorem mixG_same {α : Type} (c : α → α) (l : List α) {i : Nat} (h : i < l.length) (d : α) (q : c (l.getD i d) = l.getD i d) : mixG c l i = mixG c l (i + 1) := by
  rw [← mixG_set c l h d, q]
  have := mixG_get c l h d
  have hi : i < (mixG c l i).length := by rw [mixG_len]; exact h
  rw [List.getD_eq_getElem?_getD, List.getElem?_eq_getElem hi] at this
  simp only [Option.getD_some] at this
  rw [← this, List.set_getElem_self]
theorem mixG_zero {α : Type} (c : α → α) (l : List α) : mixG c l 0 = l := by simp [mixG]
theorem mixG_all {α : Type} (c : α → α) (l : List α) : mixG c l l.length = l.map c := by simp [mixG]
/-! ### what is written -/
def stg (v : List At) : Prop := (norm v).length = 1 ∧ ((norm v).getD 0 dA).1 = 4
instance (v : List At) : Decidable (stg v) := by unfold stg; exact inferInstance
def hits (v : List At) (x : At) : Prop := (6, 0) ∈ norm v ∨ x ∈ norm v
instance (v : List At) (x : At) : Decidable (hits v x) := by unfold hits; exact inferInstance
def wr (v : List At) (n : ByteArray) (w : List At) (o : Sp) : Sp := if stg v then strong o n w else weak o n w
def wrL (v : List At) (n : ByteArray) (w : List At) (l : Lc) : Lc := if hits v l.1 then (l.1, wr v n w l.2) else l
def writeT (s : Sta) (v : List At) (n : ByteArray) (w : List At) : Sta := if MayS s then (s.1, s.2.1, s.2.2.map (wrL v n w)) else (false, [], [])
theorem norm_norm (l : List At) : norm (norm l) = norm l := (canon_iff.2 (norm_canon l)).symm
theorem up_strong (v : List At) (h : v.length ≤ 1000000) : update_Strong K v = some (decide (stg v)) := by
  unfold update_Strong
  try dsimp only
  rw [at_norm' v (by omega), bind_some]
  by_cases q : (norm v).length = 1
  · rw [show P.ieq (P.len (norm v)) (1 : Int) = true from by rw [ieq_iff, len_eq]; omega, cond_true, show P.inb (0 : Int) (P.len (norm v)) = true from inb_iff.2 (by rw [len_eq]; omega), cond_true, show P.get (norm v) (0 : Int) ((0 : Int), (0 : Int)) = (norm v).getD 0 dA from get_nat (norm v) 0 dA, ieq_eq]
    exact congrArg some (decide_eq_decide.2 ⟨fun h => (⟨q, h⟩ : stg v), fun h => h.2⟩)
  · rw [show P.ieq (P.len (norm v)) (1 : Int) = false from by rw [Bool.eq_false_iff, Ne, ieq_iff, len_eq]; omega, cond_false, decide_eq_false fun z : stg v => q z.1]
theorem ref_strong11 (v : List At) (h : v.length ≤ 1000000) : ref11_Strong K v = some (decide (stg v)) := by
  unfold ref11_Strong
  try dsimp only
  rw [ref_norm v (by omega), bind_some]
  by_cases q : (norm v).length = 1
  · rw [show P.ieq (P.len (norm v)) (1 : Int) = true from by rw [ieq_iff, len_eq]; omega, cond_true, show P.inb (0 : Int) (P.len (norm v)) = true from inb_iff.2 (by rw [len_eq]; omega), cond_true, show P.get (norm v) (0 : Int) ((0 : Int), (0 : Int)) = (norm v).getD 0 dA from get_nat (norm v) 0 dA, ieq_eq]
    exact congrArg some (decide_eq_decide.2 ⟨fun h => (⟨q, h⟩ : stg v), fun h => h.2⟩)
  · rw [show P.ieq (P.len (norm v)) (1 : Int) = false from by rw [Bool.eq_false_iff, Ne, ieq_iff, len_eq]; omega, cond_false, decide_eq_false fun z : stg v => q z.1]
theorem stg_norm (v : List At) : stg (norm v) ↔ stg v := by unfold stg; rw [norm_norm]
/-- The copy of a state: its two loops. -/
theorem copy_vars {ρ σ : Type} (s : Sta) (h : FewT s) {f : Int × Sta → Option ((Int × Sta) ⊕ (Sta ⊕ ρ))} {A : Sta → Option σ} {B : ρ → Option σ}
    (hs : ∀ i : Nat, i < s.2.1.length → f ((i : Int), s.1, s.2.1.take i, []) = (P.bind (slices_Clone_api_Atom_api_Atom K (P.get s.2.1 (i : Int) ((ByteArray.mk #[]), [])).snd) fun (r : List (Int × Int)) => P.cond (P.room (P.add (P.len (s.2.1.take i)) (P.len [((P.get s.2.1 (i : Int) ((ByteArray.mk #[]), [])).fst, r)])) 40) (some (Sum.inl (P.wrap IntKind.i64 (P.add (i : Int) (1 : Int)), s.1, P.app (s.2.1.take i) [((P.get s.2.1 (i : Int) ((ByteArray.mk #[]), [])).fst, r)], []))) none))
    (he : f ((s.2.1.length : Int), s.1, s.2.1, []) = some (.inr (.inl (s.1, s.2.1, [])))) :
    P.bind (P.iter K f (0, s.1, [], [])) (P.either A B) = A (s.1, s.2.1, []) := by
  obtain ⟨h1, h2, h3, h4⟩ := h
  refine loop_st s.2.1.length (fun i => (s.1, s.2.1.take i, [])) _ _ (by omega) (by simp) (by simp) (fun i hi => ?_) he
  have hm := getD_mem hi dB
  rw [hs i hi, get_nat, at_clone K (s.2.1.getD i dB).2 (by have := h2 _ hm; omega), bind_some, room_one _ _ 40 (take_len _ _ (by omega)) (by omega), cond_true, wrap_succ (by omega)]
  rw [show P.app (s.2.1.take i) [((s.2.1.getD i dB).1, (s.2.1.getD i dB).2)] = s.2.1.take (i + 1) from app_take hi dB]
theorem copy_locs {ρ σ : Type} (s : Sta) (h : FewT s) {f : Int × Sta → Option ((Int × Sta) ⊕ (Sta ⊕ ρ))} {A : Sta → Option σ} {B : ρ → Option σ}
    (hs : ∀ i : Nat, i < s.2.2.length → f ((i : Int), s.1, s.2.1, s.2.2.take i) = (P.bind (object_Copy K (P.get s.2.2 (i : Int) (((0 : Int), (0 : Int)), [], [])).snd) fun (r : Sp) => P.cond (P.room (P.add (P.len (s.2.2.take i)) (P.len [((P.get s.2.2 (i : Int) (((0 : Int), (0 : Int)), [], [])).fst, r)])) 64) (some (Sum.inl (P.wrap IntKind.i64 (P.add (i : Int) (1 : Int)), s.1, s.2.1, P.app (s.2.2.take i) [((P.get s.2.2 (i : Int) (((0 : Int), (0 : Int)), [], [])).fst, r)]))) none))
    (he : f ((s.2.2.length : Int), s.1, s.2.1, s.2.2) = some (.inr (.inl (s.1, s.2.1, s.2.2)))) :
    P.bind (P.iter K f (0, s.1, s.2.1, [])) (P.either A B) = A (s.1, s.2.1, s.2.2) := by
  obtain ⟨h1, h2, h3, h4⟩ := h
  refine loop_st s.2.2.length (fun i => (s.1, s.2.1, s.2.2.take i)) _ _ (by omega) (by simp) (by simp) (fun i hi => ?_) he
  have hm := getD_mem hi dL
  rw [hs i hi, get_nat, ob_copy (s.2.2.getD i dL).2 (h4 _ hm), bind_some, room_one _ _ 64 (take_len _ _ (by omega)) (by omega), cond_true, wrap_succ (by omega)]
  rw [show P.app (s.2.2.take i) [((s.2.2.getD i dL).1, (s.2.2.getD i dL).2)] = s.2.2.take (i + 1) from app_take hi dL]
theorem get_dL (l : List Lc) (i : Nat) : P.get l (i : Int) (((0 : Int), (0 : Int)), [], []) = l.getD i dL := get_nat _ _ _
theorem get_dB (l : List Bv) (i : Nat) : P.get l (i : Int) ((ByteArray.mk #[]), []) = l.getD i dB := get_nat _ _ _
theorem set_nat {α : Type} (l : List α) (i : Nat) (x : α) : P.set l (i : Int) x = l.set i x := by simp [P.set]
theorem up_write (s : Sta) (v : List At) (n : ByteArray) (w : List At) (h : FewT s) (hv : v.length ≤ 100000) (hw : w.length ≤ 100000) : update_Write K (s, v, n, w) = some (writeT s v n w) := by
  unfold update_Write writeT
  try dsimp only
  rw [st_may s h, bind_some, cond_ndec]
  by_cases m : MayS s
  · have hn := norm_length v
    rw [if_pos m, if_pos m, at_norm' v (by omega), bind_some, up_strong _ (by omega), bind_some, show decide (stg (norm v)) = decide (stg v) from by rw [decide_eq_decide]; exact stg_norm v, cond_dec]
    by_cases q : stg v
    · rw [if_pos q, at_has _ _ (by omega), bind_some, copy_vars s h ?_ ?_]
      · rw [copy_locs s h ?_ ?_]
        · try dsimp only
          rw [loop_st s.2.2.length (fun i => mixG (wrL v n w) s.2.2 i) _ (s.2.2.map (wrL v n w)) (by have := h.2.2.1; omega) (mixG_zero _ _) (mixG_all _ _) ?_ ?_]
          · intro i hi
            have hm := getD_mem hi dL
            have h3 := h.2.2.1
            have hi' : i < (mixG (wrL v n w) s.2.2 i).length := by rw [mixG_len]; exact hi
            try dsimp only
            rw [ilt_len hi, cond_true, inb_len hi', cond_true]
            simp only [cond_true, get_dL, set_nat]
            rw [cond_dec, mixG_get _ _ hi, wrap_succ (by omega), ob_strong _ n w (h.2.2.2 _ hm) (by omega), bind_some, at_has _ _ (by omega), bind_some, cond_dec]
            by_cases y : hits v (s.2.2.getD i dL).1
            · have e : ((s.2.2.getD i dL).1, strong (s.2.2.getD i dL).2 n w) = wrL v n w (s.2.2.getD i dL) := by unfold wrL wr; rw [if_pos y, if_pos q]
              rw [e, mixG_set _ _ hi]
              rcases y with y | y
              · rw [if_pos y]
              · rw [if_pos y]; split <;> rfl
            · have e : wrL v n w (s.2.2.getD i dL) = s.2.2.getD i dL := by unfold wrL; rw [if_neg y]
              rw [if_neg (fun z => y (.inl z)), if_neg (fun z => y (.inr z)), mixG_same _ _ hi dL e]
          · try dsimp only
            rw [ilt_end]; rfl
        · intro i hi
          try dsimp only
          rw [ilt_len hi, cond_true, inb_len hi, cond_true]
        · try dsimp only
          rw [ilt_end]; rfl
      · intro i hi
        try dsimp only
        rw [ilt_len hi, cond_true, inb_len hi, cond_true]
      · try dsimp only
        rw [ilt_end]; rfl
    · rw [if_neg q, at_has _ _ (by omega), bind_some, copy_vars s h ?_ ?_]
      · rw [copy_locs s h ?_ ?_]
        · try dsimp only
          rw [loop_st s.2.2.length (fun i => mixG (wrL v n w) s.2.2 i) _ (s.2.2.map (wrL v n w)) (by have := h.2.2.1; omega) (mixG_zero _ _) (mixG_all _ _) ?_ ?_]
          · intro i hi
            have hm := getD_mem hi dL
            have h3 := h.2.2.1
            have hi' : i < (mixG (wrL v n w) s.2.2 i).length := by rw [mixG_len]; exact hi
            try dsimp only
            rw [ilt_len hi, cond_true, inb_len hi', cond_true]
            simp only [cond_true, get_dL, set_nat]
            rw [cond_dec, mixG_get _ _ hi, wrap_succ (by omega), ob_weak _ n w (h.2.2.2 _ hm) (by omega), bind_some, at_has _ _ (by omega), bind_some, cond_dec]
            by_cases y : hits v (s.2.2.getD i dL).1
            · have e : ((s.2.2.getD i dL).1, weak (s.2.2.getD i dL).2 n w) = wrL v n w (s.2.2.getD i dL) := by unfold wrL wr; rw [if_pos y, if_neg q]
              rw [e, mixG_set _ _ hi]
              rcases y with y | y
              · rw [if_pos y]
              · rw [if_pos y]; split <;> rfl
            · have e : wrL v n w (s.2.2.getD i dL) = s.2.2.getD i dL := by unfold wrL; rw [if_neg y]
              rw [if_neg (fun z => y (.inl z)), if_neg (fun z => y (.inr z)), mixG_same _ _ hi dL e]
          · try dsimp only
            rw [ilt_end]; rfl
        · intro i hi
          try dsimp only
          rw [ilt_len hi, cond_true, inb_len hi, cond_true]
        · try dsimp only
          rw [ilt_end]; rfl
      · intro i hi
        try dsimp only
        rw [ilt_len hi, cond_true, inb_len hi, cond_true]
      · try dsimp only
        rw [ilt_end]; rfl
  · rw [if_neg m, if_neg m]
end Go.PL
end
section
/- What is written: the document's answer; names written by nobody knows whom. -/
open Go Go.PG Go.PL
set_option linter.all false
namespace Go.PL
theorem stg_hits {v : List At} (h : stg v) (x : At) : hits v x ↔ x = (norm v).getD 0 dA := by
  obtain ⟨h1, h2⟩ := h
  unfold hits
  obtain ⟨a, ha⟩ := List.length_eq_one_iff.1 h1
  rw [ha] at h2 ⊢
  simp only [List.mem_singleton, List.getD_cons_zero] at h2 ⊢
  constructor
  · rintro (q | q)
    · rw [← q] at h2; cases h2
    · exact q
  · exact .inr
theorem app_map {α : Type} {l : List α} {i : Nat} (h : i < l.length) (d : α) (c : α → α) : P.app ((l.take i).map c) [c (l.getD i d)] = (l.take (i + 1)).map c := by
  rw [take_getD' h d, List.map_append]; rfl
theorem map_take_len {α : Type} (c : α → α) (l : List α) (i : Nat) (h : l.length ≤ 1000000) : ((l.take i).map c).length ≤ 1000000 := by rw [List.length_map, List.length_take]; omega
theorem ref_write11 (s : Sta) (v : List At) (n : ByteArray) (w : List At) (h : FewT s) (hv : v.length ≤ 100000) (hw : w.length ≤ 100000) : ref11_Write K (s, v, n, w) = some (writeT s v n w) := by
  unfold ref11_Write writeT
  try dsimp only
  rw [ref_may8 s h, bind_some, cond_ndec]
  by_cases m : MayS s
  · have hn := norm_length v
    have h3 := h.2.2.1
    rw [if_pos m, if_pos m, ref_norm v (by omega), bind_some, loop_st s.2.2.length (fun i => (s.1, s.2.1, (s.2.2.take i).map (wrL v n w))) _ (s.1, s.2.1, s.2.2.map (wrL v n w)) (by omega) (by simp) (by simp) ?_ ?_]
    · intro i hi
      have hm := getD_mem hi dL
      have hl := map_take_len (wrL v n w) s.2.2 i (by omega)
      have hg := h.2.2.2 _ hm
      try dsimp only
      rw [ilt_len hi, cond_true, inb_len hi, cond_true]
      simp only [get_dL]
      rw [ref_strong11 _ (by omega), bind_some, show decide (stg (norm v)) = decide (stg v) from by rw [decide_eq_decide]; exact stg_norm v, cond_dec, wrap_succ (by omega)]
      rw [← app_map hi dL]
      generalize s.2.2.getD i dL = l at hg
      have key : hits v l.1 → (l.1, wr v n w l.2) = wrL v n w l := fun q => by unfold wrL; rw [if_pos q]
      have key2 : ¬ hits v l.1 → wrL v n w l = l := fun q => by unfold wrL; rw [if_neg q]
      by_cases q : stg v
      · have hh := stg_hits q l.1
        have hl1 := q.1
        rw [if_pos q, show P.inb (0 : Int) (P.len (norm v)) = true from inb_iff.2 (by rw [len_eq]; omega), cond_true, show P.get (norm v) (0 : Int) ((0 : Int), (0 : Int)) = (norm v).getD 0 dA from get_nat (norm v) 0 dA, eqA_dec, cond_dec]
        by_cases y : l.1 = (norm v).getD 0 dA
        · rw [if_pos y, ref_strong l.2 n w hg (by omega), bind_some, room_one _ _ 64 hl (by omega), cond_true]
          rw [← key (hh.2 y)]
          unfold wr
          rw [if_pos q]
        · rw [if_neg y, bind_some, decide_eq_true q, not_true, cond_false, room_one _ _ 64 hl (by omega), cond_true, key2 (fun z => y (hh.1 z))]
      · rw [if_neg q, bind_some, decide_eq_false q, not_false', cond_true, ref_dyn _ (by omega), bind_some, cond_dec, ref_weak l.2 n w hg (by omega), bind_some, room_one _ _ 64 hl (by omega), cond_true, ref_has _ _ (by omega), bind_some, cond_dec, room_one _ _ 64 hl (by omega), cond_true]
        have hw' : wr v n w l.2 = weak l.2 n w := by unfold wr; rw [if_neg q]
        rw [hw'] at key
        by_cases y : hits v l.1
        · rw [← key y]
          rcases y with y | y
          · rw [if_pos y]
          · rw [if_pos y]; split <;> rfl
        · rw [if_neg (fun z => y (.inl z)), if_neg (fun z => y (.inr z)), key2 y]
    · try dsimp only
      rw [ilt_end]; rfl
  · rw [if_neg m, if_neg m]
/-! ### havoc -/
def hav (ns : List ByteArray) (o : Sp) : Sp := ns.foldl (fun o n => weak o n [(6, 0)]) o
def havocT (s : Sta) (ns : List ByteArray) : Sta := if MayS s then (s.1, s.2.1, s.2.2.map fun l => (l.1, hav ns l.2)) else (false, [], [])
abbrev dS : ByteArray := ⟨#[]⟩
def FewB (k : Nat) (o : Sp) : Prop := Bd k o
theorem hav_bd (ns : List ByteArray) : ∀ {k : Nat} {o : Sp}, Bd k o → Bd (k + 2 * ns.length) (hav ns o) := by
  induction ns with
  | nil => intro k o h; exact h
  | cons n ns ih =>
    intro k o h
    have := ih (weak_bd h n (v := [(6, 0)]) (j := 1) (by decide))
    rw [show k + 1 + 1 + 2 * ns.length = k + 2 * (n :: ns).length by simp; omega] at this
    exact this
theorem hav_take (ns : List ByteArray) (o : Sp) {i : Nat} (h : i < ns.length) : hav (ns.take (i + 1)) o = weak (hav (ns.take i) o) (ns.getD i dS) [(6, 0)] := by
  unfold hav
  rw [take_getD' h dS, List.foldl_append]
  rfl
/-- States of so many of each thing. -/
def BdT (k : Nat) (s : Sta) : Prop := s.2.1.length ≤ k ∧ (∀ b, b ∈ s.2.1 → b.2.length ≤ k) ∧ s.2.2.length ≤ k ∧ ∀ l, l ∈ s.2.2 → Bd k l.2
theorem small_bdT {s : Sta} (h : SmallT s) : BdT 40 s := ⟨h.1, h.2.2.1, h.2.1, fun l hl => ⟨(h.2.2.2 l hl).1, (h.2.2.2 l hl).2.2, (h.2.2.2 l hl).2.1⟩⟩
theorem bd_fewT {s : Sta} {k : Nat} (h : BdT k s) (hk : k ≤ 100000) : FewT s := ⟨Nat.le_trans h.1 hk, fun b hb => Nat.le_trans (h.2.1 b hb) hk, Nat.le_trans h.2.2.1 hk, fun l hl => bd_few (h.2.2.2 l hl) hk⟩
theorem at_dyn (k : Nat) : ref06_Dyn k () = some [(6, 0)] := rfl
theorem up_havoc (s : Sta) (ns : List ByteArray) (k : Nat) (hb : BdT k s) (hk : k + 2 * ns.length ≤ 100000) : update_Havoc K (s, ns) = some (havocT s ns) := by
  have h := bd_fewT hb (by omega)
  have h3 := h.2.2.1
  unfold update_Havoc havocT
  try dsimp only
  rw [st_may s h, bind_some, cond_ndec]
  by_cases m : MayS s
  · rw [if_pos m, if_pos m, copy_vars s h ?_ ?_]
    · rw [copy_locs s h ?_ ?_]
      · try dsimp only
        rw [loop_st s.2.2.length (fun i => mixG (fun l : Lc => (l.1, hav ns l.2)) s.2.2 i) _ (s.2.2.map fun l => (l.1, hav ns l.2)) (by omega) (mixG_zero _ _) (mixG_all _ _) ?_ ?_]
        · intro i hi
          have hm := getD_mem hi dL
          have hl := hb.2.2.2 _ hm
          have hi' : i < (mixG (fun l : Lc => (l.1, hav ns l.2)) s.2.2 i).length := by rw [mixG_len]; exact hi
          try dsimp only
          rw [ilt_len hi, cond_true, inb_len hi', cond_true]
          simp only [get_dL]
          rw [mixG_get _ _ hi]
          rw [loop_st ns.length (fun j => hav (ns.take j) (s.2.2.getD i dL).2) _ (hav ns (s.2.2.getD i dL).2) (by omega) (by simp [hav]) (by simp) ?_ ?_]
          · rw [cond_true, set_nat, wrap_succ (by omega), mixG_set (fun l : Lc => (l.1, hav ns l.2)) _ hi]
          · intro j hj
            try dsimp only
            have hbj := hav_bd (ns.take j) hl
            rw [List.length_take] at hbj
            rw [ilt_len hj, cond_true, inb_len hj, cond_true, show P.get ns (j : Int) (ByteArray.mk #[]) = ns.getD j dS from get_nat _ _ _, ob_weak _ _ _ (bd_few hbj (by omega)) (by simp), bind_some, wrap_succ (by omega), hav_take ns _ hj]
          · try dsimp only
            rw [ilt_end]; rfl
        · try dsimp only
          rw [ilt_end]; rfl
      · intro i hi
        try dsimp only
        rw [ilt_len hi, cond_true, inb_len hi, cond_true]
      · try dsimp only
        rw [ilt_end]; rfl
    · intro i hi
      try dsimp only
      rw [ilt_len hi, cond_true, inb_len hi, cond_true]
    · try dsimp only
      rw [ilt_end]; rfl
  · rw [if_neg m, if_neg m]
theorem ref_havoc11 (s : Sta) (ns : List ByteArray) (k : Nat) (hb : BdT k s) (hk : k + 2 * ns.length ≤ 100000) : ref11_Havoc K (s, ns) = some (havocT s ns) := by
  have h := bd_fewT hb (by omega)
  have h3 := h.2.2.1
  unfold ref11_Havoc havocT
  try dsimp only
  rw [ref_may8 s h, bind_some, cond_ndec]
  by_cases m : MayS s
  · rw [if_pos m, if_pos m, loop_st s.2.2.length (fun i => (s.1, s.2.1, (s.2.2.take i).map (fun l : Lc => (l.1, hav ns l.2)))) _ (s.1, s.2.1, s.2.2.map (fun l : Lc => (l.1, hav ns l.2))) (by omega) (by simp) (by simp) ?_ ?_]
    · intro i hi
      have hm := getD_mem hi dL
      have hl := hb.2.2.2 _ hm
      have hl' := map_take_len (fun l : Lc => (l.1, hav ns l.2)) s.2.2 i (by omega)
      try dsimp only
      rw [ilt_len hi, cond_true, inb_len hi, cond_true, get_dL]
      rw [loop_st ns.length (fun j => ((s.2.2.getD i dL).1, hav (ns.take j) (s.2.2.getD i dL).2)) _ ((s.2.2.getD i dL).1, hav ns (s.2.2.getD i dL).2) (by omega) (by simp [hav]) (by simp) ?_ ?_]
      · rw [room_one _ _ 64 hl' (by omega), cond_true, wrap_succ (by omega), app_map hi dL (fun l : Lc => (l.1, hav ns l.2))]
      · intro j hj
        try dsimp only
        have hbj := hav_bd (ns.take j) hl
        rw [List.length_take] at hbj
        rw [ilt_len hj, cond_true, inb_len hj, cond_true, at_dyn, bind_some, show P.get ns (j : Int) (ByteArray.mk #[]) = ns.getD j dS from get_nat _ _ _, ref_weak _ _ _ (bd_few hbj (by omega)) (by simp), bind_some, wrap_succ (by omega), hav_take ns _ hj]
      · try dsimp only
        rw [ilt_end]; rfl
    · try dsimp only
      rw [ilt_end]; rfl
  · rw [if_neg m, if_neg m]
end Go.PL
end
section
/- What is written: laws. -/
open Go Go.PG Go.PL
set_option linter.all false
namespace Go.PL
/-! ### weakly, strongly, as seen at each name -/
theorem wk_view {o : Sp} (h : MayO o) (n : ByteArray) (v : List At) (m : ByteArray) : pr (weak o n v).1 m = (decide (n = m) || pr o.1 m) ∧ su (weak o n v).1 m = su o.1 m ∧ va (weak o n v).1 m = if n = m then norm (va o.1 n ++ v) else va o.1 m := by
  obtain ⟨a1, a2, a3⟩ := put_view h.1 (n, su o.1 n, norm (va o.1 n ++ v)) m
  rw [weak_eq h]
  show pr (put o.1 (n, su o.1 n, norm (va o.1 n ++ v))) m = _ ∧ su (put o.1 (n, su o.1 n, norm (va o.1 n ++ v))) m = _ ∧ va (put o.1 (n, su o.1 n, norm (va o.1 n ++ v))) m = _
  rw [a1, a2, a3]
  by_cases q : n = m
  · subst q; simp
  · simp [q]
theorem st_view {o : Sp} (h : MayO o) (n : ByteArray) (v : List At) (m : ByteArray) : pr (strong o n v).1 m = (decide (n = m) || pr o.1 m) ∧ su (strong o n v).1 m = (decide (n = m) || su o.1 m) ∧ va (strong o n v).1 m = if n = m then norm v else va o.1 m := by
  obtain ⟨a1, a2, a3⟩ := put_view h.1 (n, true, norm v) m
  rw [strong_eq h]
  show pr (put o.1 (n, true, norm v)) m = _ ∧ su (put o.1 (n, true, norm v)) m = _ ∧ va (put o.1 (n, true, norm v)) m = _
  rw [a1, a2, a3]
  by_cases q : n = m
  · subst q; simp
  · simp [q]
theorem wk_snd {o : Sp} (h : MayO o) (n : ByteArray) (v : List At) : (weak o n v).2 = o.2 := by rw [weak_eq h]
theorem st_snd {o : Sp} (h : MayO o) (n : ByteArray) (v : List At) : (strong o n v).2 = o.2 := by rw [strong_eq h]
theorem norm_mono {l m : List At} (h : Within l m) : Within (norm l) (norm m) := fun z hz => mem_norm.2 ⟨h z (mem_norm.1 hz).1, (mem_norm.1 hz).2⟩
theorem within_app {a b c d : List At} (h1 : Within a b) (h2 : Within c d) : Within (a ++ c) (b ++ d) := fun z hz => by
  rcases List.mem_append.1 hz with h | h
  · exact List.mem_append_left _ (h1 z h)
  · exact List.mem_append_right _ (h2 z h)
theorem weak_mono {a b : Sp} (h : WithinO a b) (n : ByteArray) {v w : List At} (hv : Within v w) : WithinO (weak a n v) (weak b n w) := by
  obtain ⟨ha, hb, p, q⟩ := within_view.1 h
  refine within_view.2 ⟨weak_may ha n v, weak_may hb n w, by rw [wk_snd ha, wk_snd hb]; exact p, fun m => ?_⟩
  obtain ⟨a1, a2, a3⟩ := wk_view ha n v m
  obtain ⟨b1, b2, b3⟩ := wk_view hb n w m
  obtain ⟨q1, q2, q3⟩ := q m
  unfold WinV
  rw [a1, a2, a3, b1, b2, b3]
  refine ⟨fun z => ?_, ?_, q3⟩
  · rw [Bool.or_eq_true] at z ⊢
    exact z.imp id q1
  · by_cases e : n = m
    · rw [if_pos e, if_pos e]; exact norm_mono (within_app (q n).2.1 hv)
    · rw [if_neg e, if_neg e]; exact q2
theorem strong_mono {a b : Sp} (h : WithinO a b) (n : ByteArray) {v w : List At} (hv : Within v w) : WithinO (strong a n v) (strong b n w) := by
  obtain ⟨ha, hb, p, q⟩ := within_view.1 h
  refine within_view.2 ⟨strong_may ha n v, strong_may hb n w, by rw [st_snd ha, st_snd hb]; exact p, fun m => ?_⟩
  obtain ⟨a1, a2, a3⟩ := st_view ha n v m
  obtain ⟨b1, b2, b3⟩ := st_view hb n w m
  obtain ⟨q1, q2, q3⟩ := q m
  unfold WinV
  rw [a1, a2, a3, b1, b2, b3]
  refine ⟨fun z => ?_, ?_, fun z => ?_⟩
  · rw [Bool.or_eq_true] at z ⊢
    exact z.imp id q1
  · by_cases e : n = m
    · rw [if_pos e, if_pos e]; exact norm_mono hv
    · rw [if_neg e, if_neg e]; exact q2
  · rw [Bool.or_eq_true] at z ⊢
    exact z.imp id q3
theorem strong_weak_mono {a b : Sp} (h : WithinO a b) (n : ByteArray) {v w : List At} (hv : Within v w) : WithinO (strong a n v) (weak b n w) := by
  obtain ⟨ha, hb, p, q⟩ := within_view.1 h
  refine within_view.2 ⟨strong_may ha n v, weak_may hb n w, by rw [st_snd ha, wk_snd hb]; exact p, fun m => ?_⟩
  obtain ⟨a1, a2, a3⟩ := st_view ha n v m
  obtain ⟨b1, b2, b3⟩ := wk_view hb n w m
  obtain ⟨q1, q2, q3⟩ := q m
  unfold WinV
  rw [a1, a2, a3, b1, b2, b3]
  refine ⟨fun z => ?_, ?_, fun z => ?_⟩
  · rw [Bool.or_eq_true] at z ⊢
    exact z.imp id q1
  · by_cases e : n = m
    · rw [if_pos e, if_pos e]; exact norm_mono fun z hz => List.mem_append_right _ (hv z hz)
    · rw [if_neg e, if_neg e]; exact q2
  · rw [Bool.or_eq_true]; exact .inr (q3 z)
theorem norm_app_norm (a b : List At) : norm (norm a ++ b) = norm (a ++ b) := by
  refine canon_ext (norm_canon _) (norm_canon _) fun z => ?_
  rw [mem_norm, mem_norm, List.mem_append, List.mem_append, mem_norm]
  exact ⟨fun h => ⟨h.1.imp (fun x => x.1) id, h.2⟩, fun h => ⟨h.1.imp (fun x => ⟨x, h.2⟩) id, h.2⟩⟩
theorem norm_norm_app (a b : List At) : norm (a ++ norm b) = norm (a ++ b) := by
  refine canon_ext (norm_canon _) (norm_canon _) fun z => ?_
  rw [mem_norm, mem_norm, List.mem_append, List.mem_append, mem_norm]
  exact ⟨fun h => ⟨h.1.imp id (fun x => x.1), h.2⟩, fun h => ⟨h.1.imp id (fun x => ⟨x, h.2⟩), h.2⟩⟩
theorem weak_twice {o : Sp} (h : MayO o) (n : ByteArray) (v w : List At) : weak (weak o n v) n w = weak o n (norm (v ++ w)) := by
  have hw := weak_may h n v
  refine sp_ext (weak_may hw n w) (weak_may h n _) (by rw [wk_snd hw, wk_snd h, wk_snd h]) fun m => ?_
  obtain ⟨a1, a2, a3⟩ := wk_view h n v m
  obtain ⟨_, _, a4⟩ := wk_view h n v n
  obtain ⟨b1, b2, b3⟩ := wk_view hw n w m
  obtain ⟨c1, c2, c3⟩ := wk_view h n (norm (v ++ w)) m
  rw [b1, b2, b3, c1, c2, c3, a1, a2, a3, a4, if_pos rfl]
  refine ⟨by rw [← Bool.or_assoc, Bool.or_self], rfl, ?_⟩
  by_cases e : n = m
  · rw [if_pos e, if_pos e, norm_app_norm, norm_norm_app, List.append_assoc]
  · rw [if_neg e, if_neg e, if_neg e]
theorem weak_turn {o : Sp} (h : MayO o) (n m : ByteArray) (v : List At) : weak (weak o n v) m v = weak (weak o m v) n v := by
  have h1 := weak_may h n v
  have h2 := weak_may h m v
  refine sp_ext (weak_may h1 m v) (weak_may h2 n v) (by rw [wk_snd h1, wk_snd h2, wk_snd h, wk_snd h]) fun k => ?_
  obtain ⟨a1, a2, a3⟩ := wk_view h n v k
  obtain ⟨b1, b2, b3⟩ := wk_view h m v k
  obtain ⟨_, _, a4⟩ := wk_view h n v m
  obtain ⟨_, _, b4⟩ := wk_view h m v n
  obtain ⟨c1, c2, c3⟩ := wk_view h1 m v k
  obtain ⟨d1, d2, d3⟩ := wk_view h2 n v k
  rw [c1, c2, c3, d1, d2, d3, a1, a2, a3, b1, b2, b3, a4, b4]
  refine ⟨by rw [← Bool.or_assoc, ← Bool.or_assoc, Bool.or_comm (decide (m = k))], rfl, ?_⟩
  by_cases e1 : m = k
  · subst e1
    by_cases e2 : n = m
    · subst e2; simp
    · have : ¬ m = n := fun z => e2 z.symm
      simp [e2, this]
  · by_cases e2 : n = k
    · subst e2
      simp [e1]
    · simp [e1, e2]
theorem weak_again {o : Sp} (h : MayO o) (n : ByteArray) (v : List At) : weak (weak o n v) n v = weak o n v := by
  rw [weak_twice h]
  refine sp_ext (weak_may h n _) (weak_may h n _) (by rw [wk_snd h, wk_snd h]) fun m => ?_
  obtain ⟨a1, a2, a3⟩ := wk_view h n v m
  obtain ⟨c1, c2, c3⟩ := wk_view h n (norm (v ++ v)) m
  rw [c1, c2, c3, a1, a2, a3]
  refine ⟨rfl, rfl, ?_⟩
  by_cases e : n = m
  · rw [if_pos e, if_pos e, norm_norm_app]
    refine canon_ext (norm_canon _) (norm_canon _) fun z => ?_
    simp [mem_norm]
  · rw [if_neg e, if_neg e]
/-! ### states -/
theorem getL_map {l : List Lc} {c : Lc → Lc} (hc : ∀ x, (c x).1 = x.1) (x : At) : getL (l.map c) x = (getL l x).map c := by
  induction l with
  | nil => rfl
  | cons f l ih =>
    simp only [getL, List.map_cons, List.find?_cons, hc] at ih ⊢
    by_cases q : f.1 = x
    · simp only [q, decide_true, Option.map_some]
    · simp only [q, decide_false]
      exact ih
theorem getL_mem {l : List Lc} {x : At} {b : Lc} (h : getL l x = some b) : b ∈ l ∧ b.1 = x := ⟨List.mem_of_find?_eq_some h, of_decide_eq_true (by have := List.find?_some h; exact this)⟩
theorem risesL_inj {l : List Lc} (h : RisesL l) {f g : Lc} (hf : f ∈ l) (hg : g ∈ l) (e : f.1 = g.1) : f = g := by
  induction l with
  | nil => cases hf
  | cons a l ih =>
    obtain ⟨h1, h2⟩ := List.pairwise_cons.1 h
    rcases List.mem_cons.1 hf with rfl | hf'
    · rcases List.mem_cons.1 hg with rfl | hg'
      · rfl
      · exact absurd (h1 g hg') (by rw [e]; exact ltA_irrefl _)
    · rcases List.mem_cons.1 hg with rfl | hg'
      · exact absurd (h1 f hf') (by rw [e]; exact ltA_irrefl _)
      · exact ih h2 hf' hg'
theorem getL_none {l : List Lc} {x : At} (h : getL l x = none) {f : Lc} (hf : f ∈ l) : f.1 ≠ x := by
  unfold getL at h
  rw [List.find?_eq_none] at h
  intro e
  exact h f hf (decide_eq_true e)
theorem getL_of_mem {l : List Lc} (h : RisesL l) {f : Lc} (hf : f ∈ l) : getL l f.1 = some f := by
  cases q : getL l f.1 with
  | none => exact absurd rfl (getL_none q hf)
  | some g => rw [risesL_inj h (getL_mem q).1 hf (getL_mem q).2]
theorem locR_of_mem {l : List Lc} (h : RisesL l) {f : Lc} (hf : f ∈ l) : locR l f.1 = (f.2, true) := by unfold locR; rw [getL_of_mem h hf]
theorem locR_map {l : List Lc} {c : Lc → Lc} (hc : ∀ x, (c x).1 = x.1) {x : At} (h : (locR l x).2 = true) : locR (l.map c) x = ((c (x, (locR l x).1)).2, true) := by
  unfold locR at h ⊢
  rw [getL_map hc]
  cases q : getL l x with
  | none => rw [q] at h; cases h
  | some b =>
    have := (getL_mem q).2
    subst this
    rfl
theorem risesL_map {l : List Lc} {c : Lc → Lc} (hc : ∀ x, (c x).1 = x.1) (h : RisesL l) : RisesL (l.map c) := by
  refine List.pairwise_map.2 (h.imp fun {a b} q => ?_)
  rw [hc, hc]; exact q
/-- A state's objects changed, each one to one that may be. -/
theorem mapS_may {s : Sta} (h : MayS s) {c : Lc → Lc} (hc : ∀ x, (c x).1 = x.1) (hm : ∀ l : Lc, MayO l.2 → MayO (c l).2) : MayS (s.1, s.2.1, s.2.2.map c) := by
  obtain ⟨h1, ⟨h2, h3⟩, h4⟩ := h
  refine ⟨h1, ⟨risesL_map hc h2, fun l hl => ?_⟩, fun hd => ⟨(h4 hd).1, by show s.2.2.map c = []; rw [(h4 hd).2]; rfl⟩⟩
  obtain ⟨x, hx, rfl⟩ := List.mem_map.1 hl
  rw [hc]
  exact ⟨(h3 x hx).1, hm x (h3 x hx).2⟩
theorem mapS_within {s t : Sta} (h : WithinT s t) {c d : Lc → Lc} (hc : ∀ x, (c x).1 = x.1) (hd : ∀ x, (d x).1 = x.1) (mc : ∀ l : Lc, MayO l.2 → MayO (c l).2) (md : ∀ l : Lc, MayO l.2 → MayO (d l).2)
    (hw : ∀ (x : At) (o p : Sp), (x, o) ∈ s.2.2 → WithinO o p → WithinO (c (x, o)).2 (d (x, p)).2) : WithinT (s.1, s.2.1, s.2.2.map c) (t.1, t.2.1, t.2.2.map d) := by
  obtain ⟨h1, h2, h3⟩ := h
  refine ⟨mapS_may h1 hc mc, mapS_may h2 hd md, h3.imp id ?_⟩
  rintro ⟨e, a1, a2, a3⟩
  refine ⟨e, a1, a2, fun l hl => ?_⟩
  obtain ⟨x, hx, rfl⟩ := List.mem_map.1 hl
  obtain ⟨b1, b2⟩ := a3 x hx
  rw [hc]
  rw [locR_map hd b1]
  exact ⟨rfl, hw x.1 x.2 _ hx b2⟩
theorem wrL_fst (v : List At) (n : ByteArray) (w : List At) (x : Lc) : (wrL v n w x).1 = x.1 := by unfold wrL; split <;> rfl
theorem wr_may {o : Sp} (h : MayO o) (v : List At) (n : ByteArray) (w : List At) : MayO (wr v n w o) := by
  unfold wr
  split
  · exact strong_may h n w
  · exact weak_may h n w
theorem wrL_may (v : List At) (n : ByteArray) (w : List At) (l : Lc) (h : MayO l.2) : MayO (wrL v n w l).2 := by
  unfold wrL
  split
  · exact wr_may h v n w
  · exact h
theorem writeT_eq {s : Sta} (h : MayS s) (v : List At) (n : ByteArray) (w : List At) : writeT s v n w = (s.1, s.2.1, s.2.2.map (wrL v n w)) := by unfold writeT; rw [if_pos h]
theorem writeT_may {s : Sta} (h : MayS s) (v : List At) (n : ByteArray) (w : List At) : MayS (writeT s v n w) := by rw [writeT_eq h]; exact mapS_may h (wrL_fst v n w) (wrL_may v n w)
theorem havocT_eq {s : Sta} (h : MayS s) (ns : List ByteArray) : havocT s ns = (s.1, s.2.1, s.2.2.map fun l => (l.1, hav ns l.2)) := by unfold havocT; rw [if_pos h]
theorem hav_may (ns : List ByteArray) : ∀ {o : Sp}, MayO o → MayO (hav ns o) := by
  induction ns with
  | nil => intro o h; exact h
  | cons n ns ih => intro o h; exact ih (weak_may h n _)
theorem havocT_may {s : Sta} (h : MayS s) (ns : List ByteArray) : MayS (havocT s ns) := by rw [havocT_eq h]; exact mapS_may h (fun _ => rfl) (fun l hl => hav_may ns hl)
theorem writeT_bd {s : Sta} {k : Nat} (h : BdT k s) (v : List At) (n : ByteArray) {w : List At} {j : Nat} (hw : w.length ≤ j) : BdT (k + j + 1) (writeT s v n w) := by
  unfold writeT
  split
  · refine ⟨by have := h.1; show s.2.1.length ≤ _; omega, fun b hb => by have := h.2.1 b hb; omega, by have := h.2.2.1; show (s.2.2.map _).length ≤ _; rw [List.length_map]; omega, fun l hl => ?_⟩
    obtain ⟨x, hx, rfl⟩ := List.mem_map.1 hl
    have hb := h.2.2.2 x hx
    unfold wrL
    split
    · unfold wr
      split
      · exact strong_bd hb n hw
      · exact weak_bd hb n hw
    · exact ⟨by have := hb.1; omega, fun f hf => by have := hb.2.1 f hf; omega, by have := hb.2.2; omega⟩
  · exact ⟨by simp, by simp, by simp, by simp⟩
theorem havocT_bd {s : Sta} {k : Nat} (h : BdT k s) (ns : List ByteArray) : BdT (k + 2 * ns.length) (havocT s ns) := by
  unfold havocT
  split
  · refine ⟨by have := h.1; show s.2.1.length ≤ _; omega, fun b hb => by have := h.2.1 b hb; omega, by have := h.2.2.1; show (s.2.2.map _).length ≤ _; rw [List.length_map]; omega, fun l hl => ?_⟩
    obtain ⟨x, hx, rfl⟩ := List.mem_map.1 hl
    exact hav_bd ns (h.2.2.2 x hx)
  · exact ⟨by simp, by simp, by simp, by simp⟩
end Go.PL
end
section
/- The fixed calls of law 11. -/
open Go Go.PG Go.PL
set_option linter.all false
namespace Go.PL
def oneT : Sta := (false, [], [((4, 0), oneS)])
theorem at_one11 (k : Nat) : law11_one k () = some oneT := rfl
theorem fixed11 : law11_fixed K () = some true := by
  unfold law11_fixed
  have f1 : FewT oneT := by decide
  simp only [at_one11, at_null, bind_some]
  rw [up_write oneT [(4, 0)] ⟨#[112]⟩ [(0, 0)] f1 (by decide) (by decide), bind_some, up_write oneT [(4, 0), (5, 0)] ⟨#[112]⟩ [(0, 0)] f1 (by decide) (by decide), bind_some, up_havoc oneT [⟨#[113]⟩] 40 (small_bdT (by decide)) (by decide), bind_some, up_strong _ (by decide), bind_some, up_strong _ (by decide), bind_some]
  rw [show writeT oneT [(4, 0)] ⟨#[112]⟩ [(0, 0)] = (false, [], [((4, 0), ([(⟨#[112]⟩, true, [(0, 0)])], [(0, 0)]))]) by decide +kernel]
  rw [show writeT oneT [(4, 0), (5, 0)] ⟨#[112]⟩ [(0, 0)] = (false, [], [((4, 0), ([(⟨#[112]⟩, true, [(0, 0), (2, 0)])], [(0, 0)]))]) by decide +kernel]
  rw [show havocT oneT [⟨#[113]⟩] = (false, [], [((4, 0), ([(⟨#[112]⟩, true, [(2, 0)]), (⟨#[113]⟩, false, [(6, 0)])], [(0, 0)]))]) by decide +kernel]
  rw [show decide (stg [(4, 0)]) = true by decide +kernel, show decide (stg [(5, 0)]) = false by decide +kernel]
  rw [show ref08_Text K (false, [], [((4, 0), ([(⟨#[112]⟩, true, [(0, 0)])], [(0, 0)]))]) = some ⟨#[114, 101, 99, 48, 58, 32, 112, 33, 40, 110, 117, 108, 108, 41, 32, 112, 114, 111, 116, 111, 32, 40, 110, 117, 108, 108, 41, 10]⟩ by decide +kernel]
  rw [show ref08_Text K (false, [], [((4, 0), ([(⟨#[112]⟩, true, [(0, 0), (2, 0)])], [(0, 0)]))]) = some ⟨#[114, 101, 99, 48, 58, 32, 112, 33, 40, 110, 117, 108, 108, 32, 110, 117, 109, 41, 32, 112, 114, 111, 116, 111, 32, 40, 110, 117, 108, 108, 41, 10]⟩ by decide +kernel]
  rw [show ref08_Text K (false, [], [((4, 0), ([(⟨#[112]⟩, true, [(2, 0)]), (⟨#[113]⟩, false, [(6, 0)])], [(0, 0)]))]) = some ⟨#[114, 101, 99, 48, 58, 32, 112, 33, 40, 110, 117, 109, 41, 32, 113, 63, 40, 97, 110, 121, 41, 32, 112, 114, 111, 116, 111, 32, 40, 110, 117, 108, 108, 41, 10]⟩ by decide +kernel]
  simp only [bind_some, seq_refl, cond_true]
  rfl
end Go.PL
end
section
/- States: variables by name; within is reflexive. -/
open Go Go.PG Go.PL
set_option linter.all false
namespace Go.PL
theorem getV_mem {l : List Bv} {n : ByteArray} {b : Bv} (h : getV l n = some b) : b ∈ l ∧ b.1 = n := ⟨List.mem_of_find?_eq_some h, of_decide_eq_true (by have := List.find?_some h; exact this)⟩
theorem getV_none {l : List Bv} {n : ByteArray} (h : getV l n = none) {f : Bv} (hf : f ∈ l) : f.1 ≠ n := by
  unfold getV at h
  rw [List.find?_eq_none] at h
  intro e
  exact h f hf (decide_eq_true e)
theorem risesB_inj {l : List Bv} (h : RisesB l) {f g : Bv} (hf : f ∈ l) (hg : g ∈ l) (e : f.1 = g.1) : f = g := by
  induction l with
  | nil => cases hf
  | cons a l ih =>
    obtain ⟨h1, h2⟩ := List.pairwise_cons.1 h
    rcases List.mem_cons.1 hf with rfl | hf'
    · rcases List.mem_cons.1 hg with rfl | hg'
      · rfl
      · exact absurd (h1 g hg') (by rw [e]; exact ltS_irrefl _)
    · rcases List.mem_cons.1 hg with rfl | hg'
      · exact absurd (h1 f hf') (by rw [e]; exact ltS_irrefl _)
      · exact ih h2 hf' hg'
theorem getV_of_mem {l : List Bv} (h : RisesB l) {f : Bv} (hf : f ∈ l) : getV l f.1 = some f := by
  cases q : getV l f.1 with
  | none => exact absurd rfl (getV_none q hf)
  | some g => rw [risesB_inj h (getV_mem q).1 hf (getV_mem q).2]
theorem var_of_mem {l : List Bv} (h : RisesB l) {f : Bv} (hf : f ∈ l) : var l f.1 = f.2 := by unfold var; rw [getV_of_mem h hf]
theorem withinT_refl {s : Sta} (h : MayS s) : WithinT s s := by
  refine ⟨h, h, ?_⟩
  cases hd : s.1
  · refine .inr ⟨rfl, fun v hv => ?_, fun v hv => ?_, fun l hl => ?_⟩
    · rw [var_of_mem h.1.1 hv]; exact fun _ z => z
    · rw [var_of_mem h.1.1 hv]; exact fun _ z => z
    · rw [locR_of_mem h.2.1.1 hl]; exact ⟨rfl, within_refl (h.2.1.2 l hl).2⟩
  · exact .inl rfl
end Go.PL
end
section
/- Law 11: the statements. -/
open Go Go.PG Go.PL
set_option linter.all false
namespace Go.PL
theorem ge {b : Bool} {F X : Option Bool} (h : b = true → X = some true) (hF : F = some true := by first | rfl | (rw [fixed11]; rfl)) : P.cond (P.not b) F X = some true := by
  cases b
  · rw [not_false', cond_true, hF]
  · rw [not_true, cond_false]; exact h rfl
theorem ge40 {α : Type} {l : List α} {F X : Option Bool} (h : l.length ≤ 40 → X = some true) (hF : F = some true := by first | rfl | (rw [fixed11]; rfl)) : P.cond (P.ilt (40 : Int) (P.len l)) F X = some true := by
  rw [ilt_dec40, cond_dec]
  by_cases q : l.length ≤ 40
  · rw [if_neg (fun z => z q)]; exact h q
  · rw [if_pos q, hF]
abbrev Put := List At × ByteArray × List At
theorem tells11 (x : Sta × Put × List ByteArray) : law11_UpdateTells K x = some true := by
  obtain ⟨s, ⟨v, n, w⟩, ns⟩ := x
  unfold law11_UpdateTells
  try dsimp only
  rw [ref_small8, bind_some]
  refine ge fun h => ?_
  have hs := small_bdT (of_decide_eq_true h)
  have fs := bd_fewT hs (by decide)
  refine ge40 fun hv => ?_
  refine ge40 fun hw => ?_
  refine ge40 fun hn => ?_
  rw [fixed11, bind_some, cond_true, up_write s v n w fs (by omega) (by omega), bind_some, ref_write11 s v n w fs (by omega) (by omega), bind_some, ref_same8 _ _ (bd_fewT (writeT_bd hs v n hw) (by decide)), bind_some, decide_eq_true rfl, cond_true,
    up_havoc s ns 40 hs (by omega), bind_some, ref_havoc11 s ns 40 hs (by omega), bind_some, ref_same8 _ _ (bd_fewT (havocT_bd hs ns) (by omega)), bind_some, decide_eq_true rfl, cond_true, up_strong v (by omega), bind_some, ref_strong11 v (by omega), bind_some, beq_refl]
theorem hits_mono {v u : List At} (h : Within v u) {x : At} (hx : hits v x) : hits u x := hx.imp (fun z => norm_mono h _ z) fun z => norm_mono h _ z
/-- What is written to more atoms, and with more, is more. -/
theorem write_mono {s t : Sta} (h : WithinT s t) {v u : List At} (hv : v = norm v) (hu : u = norm u) (hvu : Within v u) (hne : v ≠ []) (n : ByteArray) {w z : List At} (hw : w = norm w) (hz : z = norm z) (hwz : Within w z) : WithinT (writeT s v n w) (writeT t u n z) := by
  rw [writeT_eq h.1, writeT_eq h.2.1]
  refine mapS_within h (wrL_fst _ _ _) (wrL_fst _ _ _) (wrL_may _ _ _) (wrL_may _ _ _) fun x o p _ hop => ?_
  unfold wrL
  by_cases hx : hits v x
  · have hx' : hits u x := hits_mono hvu hx
    simp only [if_pos hx, if_pos hx']
    unfold wr
    by_cases su : stg u
    · have sv : stg v := by
        unfold stg at su ⊢
        rw [← hu] at su
        rw [← hv]
        obtain ⟨a, ha⟩ := List.length_eq_one_iff.1 su.1
        have hva : ∀ y, y ∈ v → y = a := fun y hy => by have := hvu y hy; rw [ha] at this; exact List.mem_singleton.1 this
        have hvr : Rises v := (canon_iff.1 hv).1
        have : v = [a] := by
          cases v with
          | nil => exact absurd rfl hne
          | cons b r =>
            have hb := hva b (by simp)
            subst hb
            cases r with
            | nil => rfl
            | cons c r =>
              have hc := hva c (by simp)
              subst hc
              have := (List.pairwise_cons.1 hvr).1 c (by simp)
              exact absurd this (ltA_irrefl _)
        rw [this]
        rw [ha] at su
        exact ⟨rfl, su.2⟩
      rw [if_pos su, if_pos sv]
      exact strong_mono hop n hwz
    · rw [if_neg su]
      by_cases sv : stg v
      · rw [if_pos sv]; exact strong_weak_mono hop n hwz
      · rw [if_neg sv]; exact weak_mono hop n hwz
  · simp only [if_neg hx]
    by_cases hx' : hits u x
    · simp only [if_pos hx']
      unfold wr
      by_cases su : stg u
      · exfalso
        have := (stg_hits su x).1 hx'
        unfold stg at su
        rw [← hu] at su this
        obtain ⟨a, ha⟩ := List.length_eq_one_iff.1 su.1
        rw [ha] at this
        have hxa : x = a := by simpa using this
        apply hx
        unfold hits
        rw [← hv]
        cases v with
        | nil => exact absurd rfl hne
        | cons b r =>
          have := hvu b (by simp)
          rw [ha, List.mem_singleton] at this
          subst this
          rw [hxa]; exact .inr (by simp)
      · rw [if_neg su]
        exact within_trans hop (within_weak hop.2.1 (canon_iff.1 hz))
    · simp only [if_neg hx']
      exact hop
theorem havoc_mono {s t : Sta} (h : WithinT s t) (n m : ByteArray) : WithinT (havocT s [n]) (havocT t [n, m]) := by
  rw [havocT_eq h.1, havocT_eq h.2.1]
  refine mapS_within h (fun _ => rfl) (fun _ => rfl) (fun l hl => hav_may _ hl) (fun l hl => hav_may _ hl) fun x o p _ hop => ?_
  show WithinO (weak o n [(6, 0)]) (weak (weak p n [(6, 0)]) m [(6, 0)])
  have := weak_mono hop n (v := [(6, 0)]) (w := [(6, 0)]) fun _ z => z
  exact within_trans this (within_weak this.2.1 (canon_iff.1 (by decide)))
/-- Objects that are changed twice. -/
theorem map_map {α : Type} (l : List α) (f g : α → α) : (l.map f).map g = l.map fun x => g (f x) := by rw [List.map_map]; rfl
theorem map_congr_mem {α : Type} {l : List α} {f g : α → α} (h : ∀ x, x ∈ l → f x = g x) : l.map f = l.map g := List.map_congr_left h
theorem hav_two (o : Sp) (h : MayO o) (a b : ByteArray) : hav [a, b] o = hav [a] (hav [b] o) := weak_turn h a b _
theorem hav_again (o : Sp) (h : MayO o) (a b : ByteArray) : hav [b, a, b] (hav [a, b] o) = hav [a, b] o := by
  show weak (weak (weak (weak (weak o a [(6, 0)]) b [(6, 0)]) b [(6, 0)]) a [(6, 0)]) b [(6, 0)] = weak (weak o a [(6, 0)]) b [(6, 0)]
  have h1 := weak_may h a [(6, 0)]
  rw [weak_again h1, weak_turn h1 b a, weak_again h, weak_again h1]
theorem getR_of_view {l : List Fd} {n : ByteArray} : (getR l n).2 = pr l n ∧ (getR l n).1.2.2 = va l n ∧ (getR l n).1.2.1 = su l n := ⟨rfl, rfl, rfl⟩
theorem havoc11 (x : Sta × ByteArray × ByteArray) : law11_UpdateHavoc K x = some true := by
  obtain ⟨s, a, b⟩ := x
  unfold law11_UpdateHavoc
  try dsimp only
  rw [fixed11, bind_some]
  refine ge fun _ => ?_
  rw [ref_small8, bind_some]
  refine ge fun h => ?_
  have hs := small_bdT (of_decide_eq_true h)
  have fs := bd_fewT hs (by decide)
  rw [ref_may8 s fs, bind_some]
  refine ge fun h => ?_
  have ms := of_decide_eq_true h
  have bt := havocT_bd hs [a, b]
  have ft := bd_fewT bt (by simp)
  have mt := havocT_may ms [a, b]
  have bu := havocT_bd hs [b]
  have e1 : havocT (havocT s [b]) [a] = havocT s [a, b] := by
    rw [havocT_eq (havocT_may ms [b]), havocT_eq ms, havocT_eq ms]
    refine congrArg (fun z => (s.1, s.2.1, z)) ?_
    show ((s.2.2.map fun l => (l.1, hav [b] l.2)).map fun l => (l.1, hav [a] l.2)) = s.2.2.map fun l => (l.1, hav [a, b] l.2)
    rw [map_map]
    exact map_congr_mem fun l hl => by rw [hav_two _ (ms.2.1.2 l hl).2 a b]
  have e2 : havocT (havocT s [a, b]) [b, a, b] = havocT s [a, b] := by
    rw [havocT_eq mt, havocT_eq ms]
    refine congrArg (fun z => (s.1, s.2.1, z)) ?_
    show ((s.2.2.map fun l => (l.1, hav [a, b] l.2)).map fun l => (l.1, hav [b, a, b] l.2)) = s.2.2.map fun l => (l.1, hav [a, b] l.2)
    rw [map_map]
    exact map_congr_mem fun l hl => by rw [hav_again _ (ms.2.1.2 l hl).2 a b]
  have w1 : WithinT s (havocT s [a, b]) := by
    have hr := withinT_refl ms
    rw [havocT_eq ms]
    have := mapS_within hr (c := id) (d := fun l => (l.1, hav [a, b] l.2)) (fun _ => rfl) (fun _ => rfl) (fun _ hl => hl) (fun l hl => hav_may _ hl) fun x o p _ hop => by
      show WithinO o (weak (weak p a [(6, 0)]) b [(6, 0)])
      have := within_weak (v := [(6, 0)]) hop.2.1 (n := a) (canon_iff.1 (by decide))
      exact within_trans hop (within_trans this (within_weak this.2.1 (canon_iff.1 (by decide))))
    rwa [List.map_id] at this
  rw [up_havoc s _ 40 hs (by simp), bind_some, loop_all (havocT s [a, b]).2.2.length (fun _ => True) (r := false) (by have := ft.2.2.1; omega) ?_ ?_]
  · rw [if_pos (fun _ _ => trivial), ref_within8 _ _ fs ft, bind_some, decide_eq_true w1, cond_true, up_havoc s _ 40 hs (by simp), bind_some, up_havoc _ _ _ bu (by simp), bind_some, ref_same8 _ _ ft, bind_some, e1, decide_eq_true rfl, cond_true, up_havoc _ _ _ bt (by simp), bind_some, ref_same8 _ _ ft, bind_some, e2, decide_eq_true rfl]
  · intro i hi
    try dsimp only
    have hm := getD_mem hi dL
    have hf := ft.2.2.2 _ hm
    have hv := getR_few hf a
    rw [ilt_len hi, cond_true, inb_len hi, cond_true, get_dL, ref_get _ a (by have := hf.1; omega), bind_some, ref_dyn _ (by omega), bind_some, wrap_succ (by have := ft.2.2.1; omega)]
    rw [havocT_eq ms] at hm
    obtain ⟨l, hl, el⟩ := List.mem_map.1 hm
    have ml := (ms.2.1.2 l hl).2
    have m1 := weak_may ml a [(6, 0)]
    have e3 : ((havocT s [a, b]).2.2.getD i dL).2 = weak (weak l.2 a [(6, 0)]) b [(6, 0)] := by
      rw [havocT_eq ms, ← el]; rfl
    rw [e3]
    obtain ⟨a1, a2, a3⟩ := wk_view ml a [(6, 0)] a
    obtain ⟨b1, b2, b3⟩ := wk_view m1 b [(6, 0)] a
    rw [a1] at b1
    rw [getR_of_view.1, getR_of_view.2.1, b1]
    have : (6, 0) ∈ va (weak (weak l.2 a [(6, 0)]) b [(6, 0)]).1 a := by
      rw [b3]
      have key : ∀ r : List At, (6, 0) ∈ norm (r ++ [(6, 0)]) := fun r => mem_norm.2 ⟨by simp, by decide⟩
      split
      · exact key _
      · rw [a3, if_pos rfl]; exact key _
    rw [decide_eq_true this]
    simp [P.not, P.cond]
  · try dsimp only
    rw [ilt_end]; rfl
theorem twice11 (x : Sta × Put × List At) : law11_UpdateTwice K x = some true := by
  obtain ⟨s, ⟨v, n, w⟩, z⟩ := x
  unfold law11_UpdateTwice
  try dsimp only
  rw [fixed11, bind_some]
  refine ge fun _ => ?_
  rw [ref_small8, bind_some]
  refine ge fun h => ?_
  have hs := small_bdT (of_decide_eq_true h)
  have fs := bd_fewT hs (by decide)
  rw [ref_may8 s fs, bind_some]
  refine ge fun h => ?_
  have ms := of_decide_eq_true h
  refine ge40 fun hv => ?_
  refine ge40 fun hw => ?_
  refine ge40 fun hz => ?_
  rw [ref_may w (by omega), bind_some]
  refine ge fun h => ?_
  have mw := of_decide_eq_true h
  rw [ref_may z (by omega), bind_some]
  refine ge fun h => ?_
  have mz := of_decide_eq_true h
  have b1 := writeT_bd hs v n hw
  have b2 := writeT_bd b1 v n hz
  have hu : (norm (w ++ z)).length ≤ 80 := by have := norm_length (w ++ z); rw [List.length_append] at this; omega
  rw [up_write s v n w fs (by omega) (by omega), bind_some, up_write _ v n z (bd_fewT b1 (by decide)) (by omega) (by omega), bind_some, up_strong v (by omega), bind_some, cond_dec, up_write s v n z fs (by omega) (by omega), bind_some, ref_union w z (by omega), bind_some, up_write s v n _ fs (by omega) (by omega), bind_some, ref_same8 _ _ (bd_fewT b2 (by decide)), bind_some, ref_same8 _ _ (bd_fewT b2 (by decide)), bind_some]
  have e : writeT (writeT s v n w) v n z = (s.1, s.2.1, s.2.2.map fun l => wrL v n z (wrL v n w l)) := by
    rw [writeT_eq (writeT_may ms v n w), writeT_eq ms]
    exact congrArg (fun y => (s.1, s.2.1, y)) (map_map _ _ _)
  by_cases q : stg v
  · rw [if_pos q, e, writeT_eq ms, decide_eq_true]
    refine congrArg (fun y => (s.1, s.2.1, y)) (map_congr_mem fun l hl => ?_)
    have ml := (ms.2.1.2 l hl).2
    unfold wrL
    by_cases y : hits v l.1
    · simp only [if_pos y]
      unfold wr
      rw [if_pos q, if_pos q, if_pos q, strong_twice ml]
    · simp only [if_neg y]
  · rw [if_neg q, e, writeT_eq ms, decide_eq_true]
    refine congrArg (fun y => (s.1, s.2.1, y)) (map_congr_mem fun l hl => ?_)
    have ml := (ms.2.1.2 l hl).2
    unfold wrL
    by_cases y : hits v l.1
    · simp only [if_pos y]
      unfold wr
      rw [if_neg q, if_neg q, if_neg q, weak_twice ml]
    · simp only [if_neg y]
end Go.PL
end
section
/- Law 11: what rises; what stays apart. -/
open Go Go.PG Go.PL
set_option linter.all false
namespace Go.PL
theorem lt_bytes {l : Nat} (h : l * BAtom TAtom ≤ reachBytes) : l ≤ 8796093022000 := by
  have e : BAtom TAtom = 16 := rfl
  rw [e] at h
  unfold reachBytes at h
  omega
theorem len_of_subset : ∀ {v u : List At}, v.Nodup → Within v u → v.length ≤ u.length := by
  intro v
  induction v with
  | nil => intro u _ _; simp
  | cons a v ih =>
    intro u hn hw
    obtain ⟨h1, h2⟩ := List.nodup_cons.1 hn
    have ha := hw a (by simp)
    have := ih (u := u.erase a) h2 fun z hz => (List.mem_erase_of_ne (fun e => by subst e; exact h1 hz)).2 (hw z (List.mem_cons_of_mem _ hz))
    rw [List.length_erase_of_mem ha] at this
    have := List.length_pos_of_mem ha
    simp only [List.length_cons]
    omega
theorem len_within {v u : List At} (hv : v = norm v) (h : Within v u) : v.length ≤ u.length := len_of_subset (nodup_rises (canon_iff.1 hv).1) h
theorem gt {b : Bool} {X : Option Bool} (h : b = true → X = some true) : P.cond (P.not b) (some true) X = some true := by
  cases b
  · rfl
  · rw [not_true, cond_false]; exact h rfl
theorem rises11 (x : Sta × Sta × Put × Put) (h1 : x.2.2.1.1.length ≤ 8796093022000) (h2 : x.2.2.1.2.2.length ≤ 8796093022000) (h3 : x.2.2.2.1.length ≤ 8796093022000) (h4 : x.2.2.2.2.2.length ≤ 8796093022000) : law11_UpdateRises K x = some true := by
  obtain ⟨s, t, ⟨v, n, w⟩, ⟨u, m, z⟩⟩ := x
  unfold law11_UpdateRises
  try dsimp only at h1 h2 h3 h4 ⊢
  rw [fixed11, bind_some]
  refine ge fun _ => ?_
  rw [ref_small8, bind_some]
  refine ge fun h => ?_
  have hs := small_bdT (of_decide_eq_true h)
  have fs := bd_fewT hs (by decide)
  rw [ref_small8, bind_some]
  refine ge fun h => ?_
  have ht := small_bdT (of_decide_eq_true h)
  have ft := bd_fewT ht (by decide)
  rw [ref_may8 s fs, bind_some]
  refine ge fun h => ?_
  have ms := of_decide_eq_true h
  rw [ref_may8 t ft, bind_some]
  refine ge fun h => ?_
  have mt := of_decide_eq_true h
  rw [ref_may v h1, bind_some]
  refine ge fun h => ?_
  have mv := of_decide_eq_true h
  rw [ref_may u h3, bind_some]
  refine ge fun h => ?_
  have mu := of_decide_eq_true h
  rw [ref_may w h2, bind_some]
  refine ge fun h => ?_
  have mw := of_decide_eq_true h
  rw [ref_may z h4, bind_some]
  refine ge fun h => ?_
  have mz := of_decide_eq_true h
  rw [ieq_eq, cond_dec, len_eq]
  by_cases hne : (v.length : Int) = 0
  · rw [if_pos hne]; rfl
  rw [if_neg hne]
  have hne : v ≠ [] := fun e => hne (by rw [e]; rfl)
  refine ge40 fun lu => ?_
  refine ge40 fun lz => ?_
  rw [ref_within8 s t fs ft, bind_some]
  refine gt fun h => ?_
  have wst := of_decide_eq_true h
  rw [ref_within v u (by omega) (by omega), bind_some]
  refine gt fun h => ?_
  have wvu := of_decide_eq_true h
  rw [ref_within w z (by omega) (by omega), bind_some]
  refine gt fun h => ?_
  have wwz := of_decide_eq_true h
  have lv := len_within mv wvu
  have lw := len_within mw wwz
  have lw40 : w.length ≤ 40 := by omega
  have b1 := writeT_bd hs v n lw40
  have b2 := writeT_bd ht u n lz
  have c1 := havocT_bd hs [n]
  have c2 := havocT_bd ht [n, m]
  have f1 := bd_fewT b1 (by decide)
  have f2 := bd_fewT b2 (by decide)
  have f3 := bd_fewT c1 (by simp)
  have f4 := bd_fewT c2 (by simp)
  rw [up_write s v n w fs (by omega) (by omega), bind_some, up_write t u n z ft (by omega) (by omega), bind_some, up_havoc s [n] 40 hs (by simp), bind_some, up_havoc t [n, m] 40 ht (by simp), bind_some, ref_within8 _ _ f1 f2, bind_some, decide_eq_true (write_mono wst mv mu wvu hne n mw mz wwz), cond_true, ref_within8 _ _ f3 f4, bind_some, decide_eq_true (havoc_mono wst n m), cond_true,
    ref_may8 _ f1, bind_some, decide_eq_true (writeT_may ms v n w), cond_true, ref_may8 _ f3, bind_some, decide_eq_true (havocT_may ms [n])]
theorem getR_ext {l m : List Fd} {n : ByteArray} (h : pr l n = pr m n ∧ su l n = su m n ∧ va l n = va m n) : (getR l n).2 = (getR m n).2 ∧ (getR l n).1.2.1 = (getR m n).1.2.1 ∧ (getR l n).1.2.2 = (getR m n).1.2.2 := h
theorem apart11 (x : Sta × Put × ByteArray) (h1 : x.2.1.2.2.length ≤ 8796093022000) : law11_UpdateApart K x = some true := by
  obtain ⟨s, ⟨v, n, w⟩, other⟩ := x
  unfold law11_UpdateApart
  try dsimp only at h1 ⊢
  rw [fixed11, bind_some]
  refine ge fun _ => ?_
  rw [ref_small8, bind_some]
  refine ge fun h => ?_
  have hs := small_bdT (of_decide_eq_true h)
  have fs := bd_fewT hs (by decide)
  rw [ref_may8 s fs, bind_some]
  refine ge fun h => ?_
  have ms := of_decide_eq_true h
  refine ge40 fun lv => ?_
  rw [ref_may v (by omega), bind_some]
  refine ge fun h => ?_
  have mv := of_decide_eq_true h
  rw [ref_may w h1, bind_some]
  refine ge fun h => ?_
  have mw := of_decide_eq_true h
  refine ge40 fun lw => ?_
  have ba := writeT_bd hs v n lw
  have fa := bd_fewT ba (by decide)
  rw [up_write s v n w fs (by omega) (by omega), bind_some]
  have ea := writeT_eq ms v n w
  generalize writeT s v n w = a at ea fa ba
  have e1 : a.1 = s.1 := by rw [ea]
  have e2 : a.2.1 = s.2.1 := by rw [ea]
  have e3 : a.2.2 = s.2.2.map (wrL v n w) := by rw [ea]
  have e4 : a.2.2.length = s.2.2.length := by rw [e3, List.length_map]
  rw [ieq_len, cond_ndec, if_pos (by rw [e2]), ieq_len, cond_ndec, if_pos e4, beq_dec, cond_ndec, if_pos e1]
  rw [loop_all s.2.1.length (fun _ => True) (r := false) (by have := fs.1; omega) ?_ ?_]
  · rw [if_pos (fun _ _ => trivial), loop_all s.2.2.length (fun _ => True) (r := false) (by have := fs.2.2.1; omega) ?_ ?_]
    · rw [if_pos (fun _ _ => trivial)]
    · intro i hi
      have hm := getD_mem hi dL
      have h3 := fs.2.2.1
      try dsimp only
      simp only [ilt_len hi, inb_len hi, cond_true, get_dL, wrap_succ (show i + 1 < 9223372036854775808 by omega), if_true]
      have hf := fs.2.2.2 _ hm
      have ml := (ms.2.1.2 _ hm).2
      generalize s.2.2.getD i dL = l at hm hf ml
      have F1 : locR a.2.2 l.1 = ((wrL v n w l).2, true) := by
        rw [e3]
        have := locR_of_mem (risesL_map (wrL_fst v n w) ms.2.1.1) (List.mem_map_of_mem hm)
        rwa [wrL_fst] at this
      have fo : FewS (wrL v n w l).2 := by
        have := fa.2.2.2 (wrL v n w l) (by rw [e3]; exact List.mem_map_of_mem hm)
        exact this
      have nv : norm v = v := mv.symm
      have hh : hits v l.1 ↔ ((6, 0) ∈ v ∨ l.1 ∈ v) := by unfold hits; rw [nv]
      have F2 : (wrL v n w l).2.2 = l.2.2 := by
        unfold wrL
        split
        · unfold wr
          split
          · exact st_snd ml n w
          · exact wk_snd ml n w
        · rfl
      have F3 : other ≠ n → pr (wrL v n w l).2.1 other = pr l.2.1 other ∧ su (wrL v n w l).2.1 other = su l.2.1 other ∧ va (wrL v n w l).2.1 other = va l.2.1 other := by
        intro hne
        have hne' : ¬ n = other := fun z => hne z.symm
        unfold wrL
        split
        · unfold wr
          split
          · obtain ⟨a1, a2, a3⟩ := st_view ml n w other
            show pr (strong l.2 n w).1 other = _ ∧ su (strong l.2 n w).1 other = _ ∧ va (strong l.2 n w).1 other = _
            rw [a1, a2, a3]; simp [hne']
          · obtain ⟨a1, a2, a3⟩ := wk_view ml n w other
            show pr (weak l.2 n w).1 other = _ ∧ su (weak l.2 n w).1 other = _ ∧ va (weak l.2 n w).1 other = _
            rw [a1, a2, a3]; simp [hne']
        · exact ⟨rfl, rfl, rfl⟩
      have F4 : ¬ l.1 ∈ v → ¬ (6, 0) ∈ v → (wrL v n w l).2 = l.2 := by
        intro q1 q2
        unfold wrL
        rw [if_neg (fun z => by rcases hh.1 z with y | y; exact q2 y; exact q1 y)]
      have F5 : stg v → l.1 ∈ v → pr (wrL v n w l).2.1 n = true ∧ su (wrL v n w l).2.1 n = true ∧ va (wrL v n w l).2.1 n = w := by
        intro q1 q2
        unfold wrL
        rw [if_pos (hh.2 (.inr q2))]
        unfold wr
        rw [if_pos q1]
        obtain ⟨a1, a2, a3⟩ := st_view ml n w n
        show pr (strong l.2 n w).1 n = _ ∧ su (strong l.2 n w).1 n = _ ∧ va (strong l.2 n w).1 n = _
        rw [a1, a2, a3, if_pos rfl]
        exact ⟨by simp, by simp, mw.symm⟩
      generalize (wrL v n w l).2 = o at F1 F2 F3 F4 F5 fo
      have v1 := getR_few hf other
      have v2 := getR_few fo other
      have v3 := getR_few fo n
      have v4 := fo.2.2
      rw [ref_loc a _ (by have := fa.2.2.1; omega), bind_some, F1]
      simp only [ref_get l.2 other (by have := hf.1; omega), ref_get o other (by have := fo.1; omega), ref_get o n (by have := fo.1; omega), bind_some, not_true, cond_false, F2, ref_same l.2.2 l.2.2 (by have := hf.2.2; omega), ref_same (getR l.2.1 other).1.2.2 (getR o.1 other).1.2.2 (by omega), ref_same (getR o.1 n).1.2.2 w (by omega), ref_has v l.1 (by omega), ref_dyn v (by omega), ref_same7 o l.2 fo, up_strong v (by omega), seq_dec, beq_dec, cond_ndec, cond_dec]
      have G3 : other ≠ n → (getR l.2.1 other).2 = (getR o.1 other).2 ∧ (getR l.2.1 other).1.2.1 = (getR o.1 other).1.2.1 ∧ (getR l.2.1 other).1.2.2 = (getR o.1 other).1.2.2 := fun z => ⟨(F3 z).1.symm, (F3 z).2.1.symm, (F3 z).2.2.symm⟩
      have G5 : stg v → l.1 ∈ v → (getR o.1 n).2 = true ∧ (getR o.1 n).1.2.1 = true ∧ (getR o.1 n).1.2.2 = w := F5
      have T : (if stg v then if l.1 ∈ v then P.cond (P.not (getR o.1 n).2) (some (Sum.inr (Sum.inr false))) (P.cond (P.not (getR o.1 n).1.2.1) (some (Sum.inr (Sum.inr false))) (if (getR o.1 n).1.2.2 = w then (some (Sum.inl ((i + 1 : Nat) : Int)) : Option (Int ⊕ (Unit ⊕ Bool))) else some (Sum.inr (Sum.inr false)))) else some (Sum.inl ((i + 1 : Nat) : Int)) else some (Sum.inl ((i + 1 : Nat) : Int))) = some (Sum.inl ((i + 1 : Nat) : Int)) := by
        by_cases q1 : stg v
        · by_cases q2 : l.1 ∈ v
          · obtain ⟨y1, y2, y3⟩ := G5 q1 q2
            rw [if_pos q1, if_pos q2, y1, y2, y3, if_pos rfl]; rfl
          · rw [if_pos q1, if_neg q2]
        · rw [if_neg q1]
      rw [T]
      have T2 : (if l.1 ∈ v then (some (Sum.inl ((i + 1 : Nat) : Int)) : Option (Int ⊕ (Unit ⊕ Bool))) else if (6, 0) ∈ v then some (Sum.inl ((i + 1 : Nat) : Int)) else if o = l.2 then some (Sum.inl ((i + 1 : Nat) : Int)) else some (Sum.inr (Sum.inr false))) = some (Sum.inl ((i + 1 : Nat) : Int)) := by
        by_cases q1 : l.1 ∈ v
        · rw [if_pos q1]
        · by_cases q2 : (6, 0) ∈ v
          · rw [if_neg q1, if_pos q2]
          · rw [if_neg q1, if_neg q2, if_pos (F4 q1 q2)]
      rw [T2]
      by_cases q : other = n
      · rw [if_pos trivial, if_pos q]
      · obtain ⟨y1, y2, y3⟩ := G3 q
        rw [if_pos trivial, if_neg q, if_pos y1, if_pos y2, if_pos y3]
    · try dsimp only
      rw [ilt_end]; rfl
  · intro i hi
    try dsimp only
    have hm := getD_mem hi dB
    have hb := fs.2.1 _ hm
    rw [ilt_len hi, cond_true, inb_len hi, cond_true, get_dB, ref_var a _ (by have := fa.1; omega), bind_some, cond_true, e2, var_of_mem ms.1.1 hm, ref_same _ _ (by omega), bind_some, decide_eq_true rfl, not_true, cond_false, wrap_succ (by have := fs.1; omega), if_pos trivial]
  · try dsimp only
    rw [ilt_end]; rfl
end Go.PL
end

/- What the functions on casts compute; the plain laws of layer 20. -/
import Derived.Test.YtmklilemnfkppaaPlainSt
import Derived.Test.YtmklilemnfkppaaPGY
set_option linter.all false
open Go Go.PG Go.PL
set_option linter.unusedVariables false
set_option linter.unusedSimpArgs false
namespace Go.PL
abbrev Cst := Int × Int × Int × Int × ByteArray × Int

def holdsM (s : List Ob) (ps : List Int) (c : Cst) (v : Val) : Bool :=
  if c.2.2.2.1 = 0 then (getM s v c.2.2.2.2.1).isSome
  else if c.2.2.2.1 = 1 then decide (v.1 = 4 ∧ Right s.length v)
  else if c.2.2.2.1 = 2 then decide ((v.1 = 4 ∧ Right s.length v) ∨ (v.1 = 0 ∧ v.2 = 0))
  else if c.2.2.2.1 = 3 then decide (v.1 = 2)
  else if c.2.2.2.1 = 4 then decide (v.1 = 1)
  else if c.2.2.2.1 = 5 then decide (v.1 = 3 ∧ 0 ≤ v.2 ∧ v.2 < ps.length ∧ P.get ps v.2 0 = c.2.2.2.2.2)
  else false

theorem tell_snd (o : Option Val) : (tell o).2 = o.isSome := by cases o <;> rfl

theorem ref_holds (s : List Ob) (ps : List Int) (c : Cst) (v : Val) (hf : Fits s) : ref20_Holds K (s, ps, c, v) = some (holdsM s ps c v) := by
  obtain ⟨c1, c2, c3, kd, nm, cn⟩ := c
  obtain ⟨a, b⟩ := v
  unfold ref20_Holds holdsM
  dsimp only
  rw [ref_right, ref_get s (a, b) nm hf]
  simp only [cond_eq, ieq_iff, bind_some, tell_snd, decide_eq_true_eq, inb_iff, ile_iff, ilt_iff, len_eq]
  have hq : ∀ x y : Int, P.ieq x y = decide (x = y) := ieq_eq
  simp only [hq]
  by_cases h0 : kd = 0
  · subst h0; simp
  by_cases h1 : kd = 1
  · subst h1; by_cases h4 : a = 4 <;> simp [h4]
  by_cases h2 : kd = 2
  · subst h2
    by_cases h4 : a = 4
    · by_cases hr : Right s.length (a, b)
      · rw [h4] at hr; simp [h4, hr]
      · rw [h4] at hr; simp [h4, hr]
    · by_cases hz : a = 0 <;> simp [h4, hz]
  by_cases h3 : kd = 3
  · subst h3; by_cases h4 : a = 4 <;> simp [h4]
  by_cases h4' : kd = 4
  · subst h4'; by_cases h4 : a = 4 <;> simp [h4]
  by_cases h5 : kd = 5
  · subst h5
    by_cases h4 : a = 4
    · simp [h4]
    · by_cases h6 : a = 3
      · by_cases h7 : 0 ≤ b
        · by_cases h8 : b < (ps.length : Int) <;> simp [h6, h7, h8]
        · simp [h6, h7]
      · simp [h4, h6]
  · simp [h0, h1, h2, h3, h4', h5]

theorem cast_holds (s : List Ob) (ps : List Int) (c : Cst) (v : Val) (hf : Fits s) : cast_Holds K (s, ps, c, v) = some (holdsM s ps c v) := by
  obtain ⟨c1, c2, c3, kd, nm, cn⟩ := c
  obtain ⟨a, b⟩ := v
  unfold cast_Holds holdsM cast_askers_1 cast_askers_2 cast_askers_4 cast_askers_5 cast_askers_6
  dsimp only
  rw [st_right, st_get s (a, b) nm hf]
  have hq : ∀ x y : Int, P.ieq x y = decide (x = y) := ieq_eq
  simp only [cond_eq, ieq_iff, bind_some, tell_snd, decide_eq_true_eq, inb_iff, ile_iff, ilt_iff, len_eq, and_iff, hq]
  by_cases hk : 0 ≤ kd ∧ kd < 6
  · rw [if_pos hk.1, if_pos hk.2]
    by_cases h0 : kd = 0
    · subst h0; simp
    by_cases h1 : kd = 1
    · subst h1; by_cases h4 : a = 4 <;> simp [h4, bind_some]
    by_cases h2 : kd = 2
    · subst h2
      by_cases h4 : a = 4
      · subst h4; simp [bind_some]
      · by_cases hz : a = 0 <;> by_cases hb : b = 0 <;> simp [h4, hz, hb, bind_some]
    by_cases h3 : kd = 3
    · subst h3; simp
    by_cases h4' : kd = 4
    · subst h4'; simp
    have h5 : kd = 5 := by omega
    subst h5
    by_cases h6 : a = 3
    · by_cases h7 : 0 ≤ b
      · by_cases h8 : b < (ps.length : Int) <;> simp [h6, h7, h8, bind_some]
      · simp [h6, h7, bind_some]
    · simp [h6, bind_some]
  · by_cases hk0 : 0 ≤ kd
    · rw [if_pos hk0, if_neg (by omega), if_neg (by omega), if_neg (by omega), if_neg (by omega), if_neg (by omega), if_neg (by omega), if_neg (by omega)]
    · rw [if_neg hk0, if_neg (by omega), if_neg (by omega), if_neg (by omega), if_neg (by omega), if_neg (by omega), if_neg (by omega)]

/-! ### the first one -/
abbrev dC : Cst := (0, 0, 0, 0, ⟨#[]⟩, 0)
def valOf (o : Val) (vs : List Val) (c : Cst) : Val := if c.2.2.1 = -1 then o else if 0 ≤ c.2.2.1 ∧ c.2.2.1 < vs.length then P.get vs c.2.2.1 (0, 0) else (0, 0)
def firstN (s : List Ob) (ps : List Int) (l : List Cst) (o : Val) (vs : List Val) : Option Nat := (List.range l.length).find? fun i => !holdsM s ps (l.getD i dC) (valOf o vs (l.getD i dC))
def firstM (s : List Ob) (ps : List Int) (l : List Cst) (o : Val) (vs : List Val) : Int := match firstN s ps l o vs with
  | some i => i
  | none => -1
theorem first_of (s : List Ob) (ps : List Int) (l : List Cst) (o : Val) (vs : List Val) (hl : l.length < 9223372036854775808) {f : Int → Option (Int ⊕ (PUnit ⊕ Int))}
    (h1 : ∀ i : Nat, i < l.length → f (i : Int) = some (if holdsM s ps (l.getD i dC) (valOf o vs (l.getD i dC)) = true then .inl ((i + 1 : Nat) : Int) else .inr (.inr (i : Int)))) (h2 : f (l.length : Int) = some (.inr (.inl ()))) :
    P.iter K f 0 = some (match firstN s ps l o vs with
      | some i => .inr (i : Int)
      | none => .inl ()) := by
  rw [iter_find0 (n := l.length) (e := .inl ()) (fun i => if holdsM s ps (l.getD i dC) (valOf o vs (l.getD i dC)) = true then none else some (Sum.inr (i : Int))) K (fun i hi => ?_) h2 (by unfold K; omega)]
  · have : (List.range l.length).findSome? (fun i => if holdsM s ps (l.getD i dC) (valOf o vs (l.getD i dC)) = true then none else some (Sum.inr (α := PUnit) (i : Int))) = (firstN s ps l o vs).map (fun (i : Nat) => (Sum.inr (i : Int) : PUnit ⊕ Int)) := by
      unfold firstN
      rw [← List.findSome?_guard, List.map_findSome?]
      congr 1
      funext i
      simp only [Function.comp, Option.guard]
      by_cases hh : holdsM s ps (l.getD i dC) (valOf o vs (l.getD i dC)) = true
      · rw [if_pos hh, if_neg (by rw [hh]; simp)]; rfl
      · rw [if_neg hh, if_pos (by rw [Bool.eq_false_iff.2 hh]; rfl)]; rfl
    rw [this]
    cases firstN s ps l o vs <;> rfl
  · rw [h1 i hi]
    cases holdsM s ps (l.getD i dC) (valOf o vs (l.getD i dC)) <;> rfl

theorem ref_first (s : List Ob) (ps : List Int) (l : List Cst) (o : Val) (vs : List Val) (hf : Fits s) (hl : l.length < 9223372036854775808) : ref20_First K (s, ps, l, o, vs) = some (firstM s ps l o vs) := by
  unfold ref20_First firstM
  dsimp only
  rw [first_of s ps l o vs hl ?_ ?_]
  · cases firstN s ps l o vs <;> rfl
  · intro i hi
    have hi1 : (i : Int) < (l.length : Int) := by omega
    have hi2 : 0 ≤ (i : Int) ∧ (i : Int) < (l.length : Int) := by omega
    have hR : ∀ c v, ref20_Holds K (s, ps, c, v) = some (holdsM s ps c v) := fun c v => ref_holds s ps c v hf
    simp only [cond_eq, ilt_iff, inb_iff, ile_iff, ieq_iff, len_eq, get_nat, not_iff, valOf]
    rw [wrap_succ (by omega)]
    simp only [hi1, hi2, if_true, and_self]
    generalize l.getD i dC = c
    rw [hR, hR, hR]
    simp only [bind_some]
    by_cases q1 : c.2.2.1 = -1
    · have : ¬ 0 ≤ c.2.2.1 := by omega
      simp [q1]
      split <;> simp [*]
    · by_cases q2 : 0 ≤ c.2.2.1
      · by_cases q3 : c.2.2.1 < (vs.length : Int)
        · simp [q1, q2, q3]
          split <;> simp [*]
        · simp [q1, q2, q3]
          split <;> simp [*]
      · simp [q1, q2]
        split <;> simp [*]
  · simp only [cond_eq, ilt_iff, len_eq]
    rw [if_neg (by omega)]
theorem cast_first (s : List Ob) (ps : List Int) (l : List Cst) (o : Val) (vs : List Val) (hf : Fits s) (hl : l.length < 9223372036854775808) : cast_First K (s, ps, l, o, vs) = some (firstM s ps l o vs) := by
  unfold cast_First firstM
  dsimp only
  rw [first_of s ps l o vs hl ?_ ?_]
  · cases firstN s ps l o vs <;> rfl
  · intro i hi
    have hi1 : (i : Int) < (l.length : Int) := by omega
    have hi2 : 0 ≤ (i : Int) ∧ (i : Int) < (l.length : Int) := by omega
    have hR : ∀ c v, cast_Holds K (s, ps, c, v) = some (holdsM s ps c v) := fun c v => cast_holds s ps c v hf
    simp only [cond_eq, ilt_iff, inb_iff, ile_iff, ieq_iff, len_eq, get_nat, not_iff, valOf]
    rw [wrap_succ (by omega)]
    simp only [hi1, hi2, if_true, and_self]
    generalize l.getD i dC = c
    rw [hR, hR, hR]
    simp only [bind_some]
    by_cases q1 : c.2.2.1 = -1
    · have : ¬ 0 ≤ c.2.2.1 := by omega
      simp [q1]
      split <;> simp [*]
    · by_cases q2 : 0 ≤ c.2.2.1
      · by_cases q3 : c.2.2.1 < (vs.length : Int)
        · simp [q1, q2, q3]
          split <;> simp [*]
        · simp [q1, q2, q3]
          split <;> simp [*]
      · simp [q1, q2]
        split <;> simp [*]
  · simp only [cond_eq, ilt_iff, len_eq]
    rw [if_neg (by omega)]

theorem fits_nil : Fits [] := ⟨by simp, fun i hi => by simp at hi⟩
theorem fits_one (o : Ob) (h : o.1.length < 9223372036854775808) : Fits [o] := ⟨by simp, fun i hi => by
  have : i = 0 := by simpa using hi
  subst this
  simpa using h⟩
theorem fixed_true : law20_fixed K () = some true := by
  have h0 : ∀ ps c v, cast_Holds K ([], ps, c, v) = some (holdsM [] ps c v) := fun ps c v => cast_holds [] ps c v fits_nil
  have h1 : ∀ ps c v, cast_Holds K ([([(⟨#[112]⟩, 2, 7)], 0, 0)], ps, c, v) = some (holdsM [([(⟨#[112]⟩, 2, 7)], 0, 0)] ps c v) := fun ps c v => cast_holds _ ps c v (fits_one _ (by simp))
  have h2 : ∀ ps (l : List Cst) o vs, l.length < 9223372036854775808 → cast_First K ([], ps, l, o, vs) = some (firstM [] ps l o vs) := fun ps l o vs hl => cast_first [] ps l o vs fits_nil hl
  unfold law20_fixed
  rw [h0, h0, h1, h1, h1, h0, h2 _ _ _ _ (by simp), h2 _ _ _ _ (by simp)]
  decide +kernel

theorem find_congr {α : Type} {p q : α → Bool} : ∀ {l : List α}, (∀ a, a ∈ l → p a = q a) → l.find? p = l.find? q
  | [], _ => rfl
  | a :: l, h => by
    rw [List.find?_cons, List.find?_cons, h a (by simp), find_congr fun b hb => h b (List.mem_cons_of_mem _ hb)]
/-! ### the laws -/
abbrev Ask := List Int × List Cst × Val × List Val
theorem fits_of {s : List Ob} (h : Wf (.slice T_api_Obj) s) : Fits s := by
  simp only [Wf, maxLen] at h
  obtain ⟨h1, h2⟩ := h
  refine ⟨by omega, fun i hi => ?_⟩
  have := (h2 (s.getD i dO) (by rw [List.getD_eq_getElem?_getD, List.getElem?_eq_getElem hi]; exact List.getElem_mem hi)).1.1
  omega

theorem tells (x : List Ob × Ask) (hf : Fits x.1) (hl : x.2.2.1.length < 9223372036854775808) : law20_CastTells K x = some true := by
  obtain ⟨s, ps, l, o, vs⟩ := x
  unfold law20_CastTells
  dsimp only at hf hl ⊢
  have hF : law20_fixed K PUnit.unit = some true := fixed_true
  rw [ref_small s hf, hF]
  simp only [bind_some, cond_eq, not_iff, decide_eq_true_eq, ilt_iff, len_eq, if_true]
  split
  · rfl
  split
  · rfl
  rw [iter_all (n := l.length) (e := .inl ()) (r := .inr false) (fun _ => True) K ?_ ?_ (by unfold K; omega)]
  · rw [if_pos (fun _ _ => trivial), bind_some, either_inl, cast_first s ps l o vs hf hl, ref_first s ps l o vs hf hl]
    simp [bind_some, ieq_eq]
  · intro i hi
    have hR : ∀ c v, ref20_Holds K (s, ps, c, v) = some (holdsM s ps c v) := fun c v => ref_holds s ps c v hf
    have hC : ∀ c v, cast_Holds K (s, ps, c, v) = some (holdsM s ps c v) := fun c v => cast_holds s ps c v hf
    rw [hR, hC]
    simp only [bind_some, inb_iff, beq_iff, if_true, not_true_eq_false, if_false, get_nat]
    rw [if_pos (by omega), if_pos ⟨by omega, by omega⟩, if_pos ⟨by omega, by omega⟩, wrap_succ (by omega)]
  · rw [if_neg (by omega)]

theorem parts (x : List Ob × Ask × Int) (hf : Fits x.1) (hl : x.2.1.2.1.length < 9223372036854775808) : law20_CastParts K x = some true := by
  obtain ⟨s, ⟨ps, l, o, vs⟩, at_⟩ := x
  unfold law20_CastParts
  dsimp only at hf hl ⊢
  have hF : law20_fixed K PUnit.unit = some true := fixed_true
  rw [ref_small s hf, hF]
  simp only [bind_some, cond_eq, not_iff, decide_eq_true_eq, ilt_iff, len_eq, if_true, cut_iff]
  rw [if_neg (by simp)]
  split
  · rfl
  split
  · rfl
  split
  · rfl
  split
  · rfl
  obtain ⟨n, rfl⟩ : ∃ n : Nat, at_ = n := ⟨at_.toNat, by omega⟩
  have hn : n ≤ l.length := by omega
  have e1 : P.sub_ l 0 (n : Int) = l.take n := by simp [P.sub_]
  have e2 : P.sub_ l (n : Int) (l.length : Int) = l.drop n := by simp [P.sub_]
  have hC : ∀ l', l'.length < 9223372036854775808 → cast_First K (s, ps, l', o, vs) = some (firstM s ps l' o vs) := fun l' h => cast_first s ps l' o vs hf h
  rw [if_pos ⟨by omega, by omega, by omega⟩, e1, hC _ (by simp; omega), bind_some, if_pos ⟨by omega, by omega, by omega⟩, e2, hC _ (by simp; omega), bind_some, hC _ hl, bind_some]
  -- what the parts say of the whole
  have key : firstN s ps l o vs = (firstN s ps (l.take n) o vs).or ((firstN s ps (l.drop n) o vs).map (n + ·)) := by
    unfold firstN
    have hr : List.range l.length = List.range n ++ (List.range (l.drop n).length).map (n + ·) := by
      rw [List.length_drop]
      have : l.length = n + (l.length - n) := by omega
      rw [this, List.range_add]
      congr 3
      omega
    rw [hr, List.find?_append]
    congr 1
    · rw [List.length_take, Nat.min_eq_left hn]
      apply find_congr
      intro i hi
      have hi := List.mem_range.1 hi
      have : (l.take n).getD i dC = l.getD i dC := by
        simp [List.getD_eq_getElem?_getD, List.getElem?_take, hi]
      rw [this]
    · rw [List.find?_map]
      congr 1
      apply find_congr
      intro i _
      have : (l.drop n).getD i dC = l.getD (n + i) dC := by
        simp [List.getD_eq_getElem?_getD, List.getElem?_drop]
      simp only [Function.comp]
      rw [this]
  have bound : ∀ (l' : List Cst) i, firstN s ps l' o vs = some i → i < l'.length := fun l' i h => List.mem_range.1 (List.mem_of_find?_eq_some h)
  unfold firstM
  rw [key]
  cases ha : firstN s ps (l.take n) o vs with
  | some i =>
    have := bound _ _ ha
    rw [List.length_take] at this
    simp only [Option.some_or, ile_iff, ieq_iff]
    rw [if_pos (by omega), if_pos trivial, Option.some.injEq, ilt_iff]
    omega
  | none =>
    cases hb : firstN s ps (l.drop n) o vs with
    | some i =>
      have := bound _ _ hb
      rw [List.length_drop] at this
      simp only [Option.none_or, Option.map_some, ile_iff, ieq_iff]
      rw [if_neg (by omega), if_pos (by omega), Option.some.injEq, ieq_iff, wrap_i64 (by simp only [P.add]; omega) (by simp only [P.add]; omega)]
      simp [P.add]
    | none =>
      simp only [Option.none_or, Option.map_none, ile_iff, ieq_iff]
      simp [ieq_eq]

theorem getM_of_not {s : List Ob} {v : Val} {name : ByteArray} (h : ¬ (v.1 = 4 ∧ Right s.length v)) : getM s v name = none := by
  unfold getM
  split
  · rw [lookM, if_neg h]
  · rfl

theorem kinds (x : List Ob × Val × ByteArray) (hf : Fits x.1) : law20_CastKinds K x = some true := by
  obtain ⟨s, v, nm⟩ := x
  unfold law20_CastKinds
  dsimp only at hf ⊢
  have hF : law20_fixed K PUnit.unit = some true := fixed_true
  rw [ref_small s hf, hF, ref_may s hf, ref_right, ref_get s v nm hf]
  have hC : ∀ ps c, cast_Holds K (s, ps, c, v) = some (holdsM s ps c v) := fun ps c => cast_holds s ps c v hf
  have out : ∀ (b : Bool) (y : Option Bool), (b = true → y = some true) → P.cond (P.not b) (P.bind (law20_fixed K PUnit.unit) fun r => some r) y = some true := by
    intro b y h
    cases b
    · show P.bind (law20_fixed K PUnit.unit) _ = _
      rw [hF]; rfl
    · exact h rfl
  rw [bind_some]
  refine out _ _ fun _ => ?_
  rw [bind_some]
  refine out _ _ fun h1 => ?_
  rw [bind_some]
  refine out _ _ fun h2 => ?_
  rw [bind_some]
  refine out _ _ fun hr => ?_
  have hr : Right s.length v := by simpa using hr
  rw [bind_some]
  rw [iter_all (n := 6) (e := .inl ()) (r := .inr false) (fun _ => True) K ?_ ?_ (by unfold K; omega)]
  · rw [if_pos (fun _ _ => trivial), bind_some]; rfl
  · intro i hi
    rw [hC]
    have hw : P.wrap .i64 (P.add (i : Int) 1) = ((i + 1 : Nat) : Int) := wrap_succ (by omega)
    rw [bind_some, hw, cond_eq, if_pos (by rw [ilt_iff]; omega)]
    rw [tell_snd]
    obtain ⟨a, b⟩ := v
    have hr2 : Right s.length (a, b) := hr
    have h4 : (a = 4 ∧ Right s.length (a, b)) ↔ a = 4 := ⟨fun q => q.1, fun q => ⟨q, hr2⟩⟩
    have h0 : a = 0 → b = 0 := by unfold Right at hr; intro q; subst q; simp at hr; exact hr
    have h0' : (a = 0 ∧ b = 0) ↔ a = 0 := ⟨fun q => q.1, fun q => ⟨q, h0 q⟩⟩
    rcases (by omega : i = 0 ∨ i = 1 ∨ i = 2 ∨ i = 3 ∨ i = 4 ∨ i = 5) with rfl | rfl | rfl | rfl | rfl | rfl
    · simp [holdsM, ieq_eq, cond_eq, beq_iff, not_iff]
    · simp [holdsM, ieq_eq, cond_eq, beq_iff, not_iff, h4]
    · by_cases q : a = 4
      · subst q
        simp [holdsM, ieq_eq, cond_eq, beq_iff, not_iff, hr2]
      · simp [holdsM, ieq_eq, cond_eq, beq_iff, not_iff, h4, h0', q]
    · simp [holdsM, ieq_eq, cond_eq, beq_iff, not_iff]
    · simp [holdsM, ieq_eq, cond_eq, beq_iff, not_iff]
    · simp [holdsM, ieq_eq, cond_eq, beq_iff, not_iff]
      intro _ q1 q2
      omega
  · rw [cond_eq, if_neg (by rw [ilt_iff]; omega)]
end Go.PL

/- What setting a property, and a new object, do to stores. -/
import Derived.Test.YtmklilemnfkppaaPlainSt
set_option linter.all false
open Go Go.PG Go.PL
set_option linter.unusedVariables false
set_option linter.unusedSimpArgs false
namespace Go.PL
/-- The first place behind those of a name. -/
noncomputable def zBk (l : List Prp) (nm : ByteArray) : Nat := if zOf l nm < l.length ∧ (l.getD (zOf l nm) dP).1 = nm then zOf l nm + 1 else zOf l nm
noncomputable def withM (l : List Prp) (nm : ByteArray) (w : Val) : List Prp := l.take (zOf l nm) ++ (nm, w) :: l.drop (zBk l nm)

theorem take_snoc {α : Type} {l : List α} {i : Nat} (h : i < l.length) (d : α) : l.take (i + 1) = l.take i ++ [l.getD i d] := by
  rw [List.take_succ_eq_append_getElem h]; simp [List.getD_eq_getElem?_getD, h]
theorem zBk_bd (l : List Prp) (nm : ByteArray) : zOf l nm ≤ zBk l nm ∧ zBk l nm ≤ zOf l nm + 1 := by
  unfold zBk; split <;> omega

theorem ref_with (l : List Prp) (nm : ByteArray) (w : Val) (hs : Srt l) (hl : l.length ≤ 1000000000) : ref19_With K (l, nm, w) = some (withM l nm w) := by
  obtain ⟨q1, q2, q3⟩ := zOf_spec (name := nm) hs
  obtain ⟨b1, b2⟩ := zBk_bd l nm
  have hgt : ∀ t, zOf l nm < t → t < l.length → ltS nm (l.getD t dP).1 := by
    intro t h1 h2
    have h3 := q3 _ (Nat.le_refl _) (by omega : zOf l nm < l.length)
    have h4 := hs.lt t _ h1 h2
    rcases ltS_tri (l.getD (zOf l nm) dP).1 nm with h | h | h
    · exact absurd h h3
    · rw [← h]; exact h4
    · exact ltS_trans h h4
  unfold ref19_With
  dsimp only
  let S : Nat → List Prp × Bool × Int := fun i => (if i ≤ zOf l nm then l.take i else l.take (zOf l nm) ++ (nm, w) :: (l.take i).drop (zBk l nm), decide (zOf l nm < i), (i : Int))
  have h0 : (([], false, 0) : List Prp × Bool × Int) = S 0 := by simp [S]
  rw [h0]
  rw [iter_run S (Sum.inl (if l.length ≤ zOf l nm then l else withM l nm w, decide (zOf l nm < l.length))) l.length 0 K (by unfold K; omega) ?_ ?_]
  · rw [bind_some, either_inl]
    simp only [cond_eq, not_iff, decide_eq_true_eq, room_nat, len_eq]
    by_cases h : l.length ≤ zOf l nm
    · have hz : zOf l nm = l.length := by omega
      have hb : zBk l nm = l.length := by unfold zBk; rw [if_neg (by omega)]; exact hz
      rw [if_pos (by omega), if_pos h, if_pos (by simp; omega)]
      simp [withM, P.app, hz, hb]
    · rw [if_neg (by omega), if_neg h]
  · intro i hi
    simp only [Nat.zero_add]
    have hw : P.wrap .i64 (P.add (i : Int) 1) = ((i + 1 : Nat) : Int) := wrap_succ (by omega)
    have len1 : (l.take i).length ≤ 1000000000 := by rw [List.length_take]; omega
    rcases Nat.lt_trichotomy i (zOf l nm) with h | h | h
    · have h5 := q2 i h
      have h6 : ¬ (ltS nm (l.getD i dP).1 ∨ nm = (l.getD i dP).1) := by
        rintro (z | z)
        · exact ltS_asymm h5 z
        · rw [← z] at h5; exact ltS_irrefl _ h5
      have h7 : ¬ (l.getD i dP).1 = nm := fun z => h6 (.inr z.symm)
      have e1 : S i = (l.take i, false, (i : Int)) := by simp only [S]; rw [if_pos (by omega)]; simp; omega
      have e2 : S (i + 1) = (l.take i ++ [l.getD i dP], false, ((i + 1 : Nat) : Int)) := by simp only [S]; rw [if_pos (by omega), take_snoc hi dP]; simp; omega
      rw [e1, e2]
      simp only [cond_eq, ilt_iff, inb_iff, room_nat, len_eq, not_iff, hw, sle_iff, seq_iff, get_nat, P.app]
      rw [if_pos (by omega), if_pos (by simp), if_pos (by omega), if_neg h6, if_pos (by omega), if_pos h7, if_pos (by omega), if_pos (by simp; omega)]
    · subst h
      have h5 := q3 _ (Nat.le_refl _) hi
      have h6 : ltS nm (l.getD (zOf l nm) dP).1 ∨ nm = (l.getD (zOf l nm) dP).1 := by
        rcases ltS_tri (l.getD (zOf l nm) dP).1 nm with h | h | h
        · exact absurd h h5
        · exact .inr h.symm
        · exact .inl h
      have e1 : S (zOf l nm) = (l.take (zOf l nm), false, (zOf l nm : Int)) := by simp only [S]; rw [if_pos (by omega)]; simp
      rw [e1]
      simp only [cond_eq, ilt_iff, inb_iff, room_nat, len_eq, not_iff, hw, sle_iff, seq_iff, get_nat, P.app]
      rw [if_pos (by omega), if_pos (by simp), if_pos (by omega), if_pos h6, if_pos (by simp; omega), if_pos (by omega)]
      by_cases h7 : (l.getD (zOf l nm) dP).1 = nm
      · have hb : zBk l nm = zOf l nm + 1 := by unfold zBk; rw [if_pos ⟨hi, h7⟩]
        have e2 : S (zOf l nm + 1) = (l.take (zOf l nm) ++ [(nm, w)], true, ((zOf l nm + 1 : Nat) : Int)) := by simp only [S]; rw [if_neg (by omega), hb]; simp
        rw [if_neg (not_not_intro h7), e2]
      · have hb : zBk l nm = zOf l nm := by unfold zBk; rw [if_neg (fun q => h7 q.2)]
        have e2 : S (zOf l nm + 1) = ((l.take (zOf l nm) ++ [(nm, w)]) ++ [l.getD (zOf l nm) dP], true, ((zOf l nm + 1 : Nat) : Int)) := by simp only [S]; rw [if_neg (by omega), hb, take_snoc hi dP]; simp [List.drop_append, Nat.min_eq_left q1]
        rw [if_pos h7, if_pos (by omega), if_pos (by simp; omega), e2]
    · have h5 := hgt i h hi
      have h7 : ¬ (l.getD i dP).1 = nm := fun z => by rw [z] at h5; exact ltS_irrefl _ h5
      have e1 : S i = (l.take (zOf l nm) ++ (nm, w) :: (l.take i).drop (zBk l nm), true, (i : Int)) := by simp only [S]; rw [if_neg (by omega)]; simp; omega
      have e2 : S (i + 1) = ((l.take (zOf l nm) ++ (nm, w) :: (l.take i).drop (zBk l nm)) ++ [l.getD i dP], true, ((i + 1 : Nat) : Int)) := by
        simp only [S]; rw [if_neg (by omega), take_snoc hi dP, List.drop_append_of_le_length (by rw [List.length_take]; omega)]; simp; omega
      rw [e1, e2]
      simp only [cond_eq, ilt_iff, inb_iff, room_nat, len_eq, not_iff, hw, sle_iff, seq_iff, get_nat, P.app]
      rw [if_pos (by omega), if_neg (by simp), if_pos (by omega), if_pos h7, if_pos (by omega), if_pos (by simp; omega)]
  · simp only [Nat.zero_add, S, cond_eq, ilt_iff, len_eq]
    rw [if_neg (by omega)]
    have e : l.take l.length = l := List.take_length
    rw [e]
    rfl
/-! ### lists of properties -/
theorem range_findSome {α β : Type} (d : α) (g : α → Option β) : ∀ l : List α, (List.range l.length).findSome? (fun i => g (l.getD i d)) = l.findSome? g
  | [] => rfl
  | a :: l => by
    rw [List.length_cons, List.range_succ_eq_map, List.findSome?_cons, List.findSome?_cons]
    have : (List.map Nat.succ (List.range l.length)).findSome? (fun i => g ((a :: l).getD i d)) = l.findSome? g := by
      rw [List.findSome?_map, ← range_findSome d g l]
      rfl
    rw [this]
    rfl
theorem own_find (l : List Prp) (nm : ByteArray) : ownM l nm = l.findSome? fun p => if p.1 = nm then some p.2 else none :=
  range_findSome dP (fun p : Prp => if p.1 = nm then some p.2 else none) l
theorem srt_iff {l : List Prp} : Srt l ↔ l.Pairwise fun p q => ltS p.1 q.1 := by
  rw [List.pairwise_iff_getElem]
  constructor
  · intro h i j hi hj hij
    have := h.lt j i hij hj
    simpa [List.getD_eq_getElem?_getD, hi, hj] using this
  · intro h i h0 hi
    have := h (i - 1) i (by omega) hi (by omega)
    have h1 : i - 1 < l.length := by omega
    simpa [List.getD_eq_getElem?_getD, hi, h1] using this
theorem getD_mem {α : Type} {l : List α} {i : Nat} (h : i < l.length) (d : α) : l.getD i d ∈ l := by
  rw [List.getD_eq_getElem?_getD, List.getElem?_eq_getElem h]; exact List.getElem_mem h
theorem mem_getD {α : Type} {l : List α} {a : α} (h : a ∈ l) (d : α) : ∃ i, i < l.length ∧ l.getD i d = a := by
  obtain ⟨i, hi, e⟩ := List.getElem_of_mem h
  exact ⟨i, hi, by rw [List.getD_eq_getElem?_getD, List.getElem?_eq_getElem hi]; exact e⟩
theorem props_iff {n : Nat} {l : List Prp} : (∀ k, k < l.length → PropOk n l k) ↔ (∀ p, p ∈ l → Right n p.2) ∧ Srt l := by
  constructor
  · intro h
    refine ⟨fun p hp => ?_, fun i h0 hi => (h i hi).2 h0⟩
    obtain ⟨i, hi, e⟩ := mem_getD hp dP
    rw [← e]
    exact (h i hi).1
  · rintro ⟨h1, h2⟩ k hk
    exact ⟨h1 _ (getD_mem hk dP), fun h0 => h2 k h0 hk⟩

theorem split_z (l : List Prp) (nm : ByteArray) : l = l.take (zOf l nm) ++ l.drop (zOf l nm) := (List.take_append_drop _ _).symm
theorem take_lt {l : List Prp} {nm : ByteArray} (hs : Srt l) : ∀ p, p ∈ l.take (zOf l nm) → ltS p.1 nm := by
  intro p hp
  obtain ⟨q1, q2, q3⟩ := zOf_spec (name := nm) hs
  obtain ⟨i, hi, e⟩ := mem_getD hp dP
  rw [List.length_take] at hi
  have := q2 i (by omega)
  rw [← e]
  simpa [List.getD_eq_getElem?_getD, List.getElem?_take, show i < zOf l nm by omega] using this
theorem drop_lt {l : List Prp} {nm : ByteArray} (hs : Srt l) : ∀ p, p ∈ l.drop (zBk l nm) → ltS nm p.1 := by
  intro p hp
  obtain ⟨q1, q2, q3⟩ := zOf_spec (name := nm) hs
  obtain ⟨i, hi, e⟩ := mem_getD hp dP
  rw [List.length_drop] at hi
  have e1 : (l.drop (zBk l nm)).getD i dP = l.getD (zBk l nm + i) dP := by simp [List.getD_eq_getElem?_getD, List.getElem?_drop]
  rw [← e, e1]
  by_cases h : zOf l nm < l.length ∧ (l.getD (zOf l nm) dP).1 = nm
  · have hb : zBk l nm = zOf l nm + 1 := by unfold zBk; rw [if_pos h]
    have := hs.lt (zBk l nm + i) (zOf l nm) (by omega) (by omega)
    rw [h.2] at this
    exact this
  · have hb : zBk l nm = zOf l nm := by unfold zBk; rw [if_neg h]
    have h3 := q3 (zBk l nm + i) (by omega) (by omega)
    rcases ltS_tri (l.getD (zBk l nm + i) dP).1 nm with z | z | z
    · exact absurd z h3
    · exfalso
      rcases Nat.eq_zero_or_pos i with w | w
      · subst w
        rw [hb, Nat.add_zero] at z
        exact h ⟨by omega, z⟩
      · have h4 := hs.lt (zBk l nm + i) (zOf l nm) (by omega) (by omega)
        rw [z] at h4
        exact q3 _ (Nat.le_refl _) (by omega) h4
    · exact z
theorem with_srt {l : List Prp} (nm : ByteArray) (w : Val) (hs : Srt l) : Srt (withM l nm w) := by
  have hp := srt_iff.1 hs
  rw [srt_iff]
  unfold withM
  rw [List.pairwise_append, List.pairwise_cons]
  refine ⟨hp.sublist (List.take_sublist _ _), ⟨fun q hq => drop_lt hs q hq, hp.sublist (List.drop_sublist _ _)⟩, fun p h1 q h2 => ?_⟩
  have h3 := take_lt hs p h1
  rcases List.mem_cons.1 h2 with rfl | h2
  · exact h3
  · exact ltS_trans h3 (drop_lt hs q h2)
theorem with_mem {l : List Prp} {nm : ByteArray} {w : Val} {p : Prp} (h : p ∈ withM l nm w) : p = (nm, w) ∨ p ∈ l := by
  unfold withM at h
  rcases List.mem_append.1 h with h | h
  · exact .inr (List.mem_of_mem_take h)
  · rcases List.mem_cons.1 h with h | h
    · exact .inl h
    · exact .inr (List.mem_of_mem_drop h)
theorem with_len (l : List Prp) (nm : ByteArray) (w : Val) : (withM l nm w).length ≤ l.length + 1 := by
  obtain ⟨b1, b2⟩ := zBk_bd l nm
  unfold withM
  simp
  omega
theorem own_with {l : List Prp} (nm nm' : ByteArray) (w : Val) (hs : Srt l) : ownM (withM l nm w) nm' = if nm' = nm then some w else ownM l nm' := by
  rw [own_find, own_find]
  unfold withM
  rw [List.findSome?_append, List.findSome?_cons]
  by_cases h : nm' = nm
  · subst h
    have : (l.take (zOf l nm')).findSome? (fun p => if p.1 = nm' then some p.2 else none) = none := by
      rw [List.findSome?_eq_none_iff]
      intro p hp
      rw [if_neg]
      intro e
      have := take_lt hs p hp
      rw [e] at this
      exact ltS_irrefl _ this
    rw [this]
    simp
  · rw [if_neg h, if_neg (fun e => h e.symm)]
    simp only
    conv => rhs; rw [split_z l nm]
    rw [List.findSome?_append]
    congr 1
    by_cases h2 : zOf l nm < l.length ∧ (l.getD (zOf l nm) dP).1 = nm
    · have hb : zBk l nm = zOf l nm + 1 := by unfold zBk; rw [if_pos h2]
      rw [hb, List.drop_eq_getElem_cons h2.1, List.findSome?_cons]
      have e : (l[zOf l nm]'h2.1).1 = nm := by
        have := h2.2
        rw [List.getD_eq_getElem?_getD, List.getElem?_eq_getElem h2.1] at this
        exact this
      rw [if_neg (by rw [e]; exact fun q => h q.symm)]
    · have hb : zBk l nm = zOf l nm := by unfold zBk; rw [if_neg h2]
      rw [hb]

/-! ### a new object -/
theorem right_mono {n m : Nat} {v : Val} (h : Right n v) (hnm : n ≤ m) : Right m v := by unfold Right at *; omega
def newM (s : List Ob) (o : Ob) : List Ob × Val × Bool := if MayS (s ++ [o]) then (s ++ [o], (4, (s.length : Int)), true) else ([], (0, 0), false)
theorem fits_app {s : List Ob} {o : Ob} (hf : Fits s) (hs : s.length ≤ 1000000000) (ho : o.1.length < 9223372036854775808) : Fits (s ++ [o]) := by
  refine ⟨by simp; omega, fun i hi => ?_⟩
  rw [List.length_append, List.length_singleton] at hi
  rcases Nat.lt_or_ge i s.length with h | h
  · have := hf.2 i h
    rw [List.getD_eq_getElem?_getD, List.getElem?_append_left h, ← List.getD_eq_getElem?_getD]
    exact this
  · have : i = s.length := by omega
    subst this
    simpa [List.getD_eq_getElem?_getD] using ho
theorem ref_new (s : List Ob) (o : Ob) (hf : Fits s) (hs : s.length ≤ 1000000000) (ho : o.1.length < 9223372036854775808) : ref19_New K (s, o) = some (newM s o) := by
  unfold ref19_New newM
  have e : P.app (P.app ([] : List Ob) s) [o] = s ++ [o] := by simp [P.app]
  have e1 : P.app ([] : List Ob) s = s := by simp [P.app]
  have e2 : P.nil (List (ByteArray × Int × Int) × Int × Int) = [] := rfl
  dsimp only
  rw [e, e1, e2, ref_may _ (fits_app hf hs ho)]
  simp only [cond_eq, bind_some, len_eq, room_nat, not_iff, decide_eq_true_eq]
  rw [if_pos (by simp; omega), if_pos (by simp; omega)]
  by_cases h : MayS (s ++ [o])
  · rw [if_neg (not_not_intro h), if_pos h]
  · rw [if_pos h, if_neg h]

theorem getD_app {α : Type} {s : List α} {t : List α} {i : Nat} (h : i < s.length) (d : α) : (s ++ t).getD i d = s.getD i d := by
  rw [List.getD_eq_getElem?_getD, List.getElem?_append_left h, ← List.getD_eq_getElem?_getD]
theorem look_app (s : List Ob) (o : Ob) (nm : ByteArray) : ∀ (m m' : Nat) (v w : Val), m ≤ m' → lookM s nm m v = some w → lookM (s ++ [o]) nm m' v = some w := by
  intro m
  induction m with
  | zero => intro m' v w _ h; simp [lookM] at h
  | succ m ih =>
    intro m' v w hm h
    obtain ⟨m', rfl⟩ : ∃ k, m' = k + 1 := ⟨m' - 1, by omega⟩
    rw [lookM] at h ⊢
    split at h
    · rename_i hc
      have hr := right4 hc.1 hc.2
      rw [if_pos ⟨hc.1, right_mono hc.2 (by simp)⟩, getD_app (by omega)]
      split at h
      · exact h
      · exact ih m' _ w (by omega) h
    · cases h
theorem get_app {s : List Ob} {o : Ob} {v : Val} {nm : ByteArray} (hm : MayS s) (ht : MayS (s ++ [o])) (h : (getM s v nm).isSome = true) : (getM (s ++ [o]) v nm).isSome = true := by
  unfold getM at *
  rw [if_pos hm] at h
  rw [if_pos ht]
  obtain ⟨w, hw⟩ := Option.isSome_iff_exists.1 h
  rw [look_app s o nm _ ((s ++ [o]).length + 1) v w (by simp) hw]
  rfl

/-! ### a property set -/
noncomputable def setS (s : List Ob) (i : Nat) (nm : ByteArray) (w : Val) : List Ob := s.set i (withM (s.getD i dO).1 nm w, (s.getD i dO).2)
open Classical in
noncomputable def setM (s : List Ob) (v : Val) (nm : ByteArray) (w : Val) : List Ob × Bool := if MayS s ∧ v.1 = 4 ∧ Right s.length v ∧ Right s.length w then (setS s v.2.toNat nm w, true) else ([], false)
theorem ref_set (s : List Ob) (v : Val) (nm : ByteArray) (w : Val) (hf : Fits s) (hs : s.length ≤ 1000000000) (hp : ∀ i, i < s.length → (s.getD i dO).1.length ≤ 1000000000) : ref19_Set K (s, v, nm, w) = some (setM s v nm w) := by
  unfold ref19_Set setM
  have e1 : P.app ([] : List Ob) s = s := by simp [P.app]
  have e2 : P.nil (List (ByteArray × Int × Int) × Int × Int) = [] := rfl
  dsimp only
  rw [ref_may s hf, ref_right, ref_right, e1, e2]
  simp only [cond_eq, bind_some, len_eq, room_nat, not_iff, decide_eq_true_eq, ieq_iff, inb_iff]
  by_cases h1 : MayS s
  · rw [if_neg (not_not_intro h1)]
    by_cases h2 : v.1 = 4
    · rw [if_neg (not_not_intro h2)]
      by_cases h3 : Right s.length v
      · rw [if_neg (not_not_intro h3)]
        by_cases h4 : Right s.length w
        · have hr := right4 h2 h3
          have hlt : v.2.toNat < s.length := by omega
          have hg : P.get s v.2 (([], 0, 0) : Ob) = s.getD v.2.toNat dO := rfl
          rw [if_neg (not_not_intro h4), if_pos (by simp; omega), if_pos (by omega), hg, ref_with _ nm w (h1.srt hlt) (hp _ hlt), bind_some, if_pos (by omega), if_pos ⟨h1, h2, h3, h4⟩]
          rfl
        · rw [if_pos h4, if_neg (fun q => h4 q.2.2.2)]
      · rw [if_pos h3, if_neg (fun q => h3 q.2.2.1)]
    · rw [if_pos h2, if_neg (fun q => h2 q.2.1)]
  · rw [if_pos h1, if_neg (fun q => h1 q.1)]

theorem setS_len (s : List Ob) (i : Nat) (nm : ByteArray) (w : Val) : (setS s i nm w).length = s.length := by simp [setS]
theorem setS_at {s : List Ob} {i : Nat} (h : i < s.length) (nm : ByteArray) (w : Val) : (setS s i nm w).getD i dO = (withM (s.getD i dO).1 nm w, (s.getD i dO).2) := by
  simp [setS, List.getD_eq_getElem?_getD, h]
theorem setS_ne {s : List Ob} {i j : Nat} (h : i ≠ j) (nm : ByteArray) (w : Val) : (setS s i nm w).getD j dO = s.getD j dO := by
  simp [setS, List.getD_eq_getElem?_getD, List.getElem?_set_ne h]
theorem may_set {s : List Ob} {i : Nat} {nm : ByteArray} {w : Val} (hm : MayS s) (hi : i < s.length) (hw : Right s.length w) : MayS (setS s i nm w) := by
  intro j hj
  rw [setS_len] at hj ⊢
  by_cases h : i = j
  · subst h
    rw [setS_at hi]
    obtain ⟨h1, h2⟩ := hm i hi
    obtain ⟨h3, h4⟩ := props_iff.1 h1
    refine ⟨props_iff.2 ⟨fun p hp => ?_, with_srt nm w h4⟩, h2⟩
    rcases with_mem hp with rfl | hp
    · exact hw
    · exact h3 p hp
  · rw [setS_ne h]
    exact hm j hj
theorem fits_set {s : List Ob} {i : Nat} {nm : ByteArray} {w : Val} (hs : s.length ≤ 1000000000) (hp : ∀ i, i < s.length → (s.getD i dO).1.length ≤ 1000000000) : Fits (setS s i nm w) := by
  refine ⟨by rw [setS_len]; omega, fun j hj => ?_⟩
  rw [setS_len] at hj
  have := hp j hj
  by_cases h : i = j
  · subst h
    rw [setS_at hj]
    have := with_len (s.getD i dO).1 nm w
    simp only
    omega
  · rw [setS_ne h]
    omega
theorem own_set {s : List Ob} {i j : Nat} {nm nm' : ByteArray} {w : Val} (hm : MayS s) (hi : i < s.length) : ownM ((setS s i nm w).getD j dO).1 nm' = if j = i ∧ nm' = nm then some w else ownM (s.getD j dO).1 nm' := by
  by_cases h : i = j
  · subst h
    rw [setS_at hi, own_with _ _ _ (hm.srt hi)]
    by_cases q : nm' = nm <;> simp [q]
  · rw [setS_ne h, if_neg (fun q => h q.1.symm)]
theorem proto_set {s : List Ob} {i j : Nat} {nm : ByteArray} {w : Val} (hi : i < s.length) : ((setS s i nm w).getD j dO).2 = (s.getD j dO).2 := by
  by_cases h : i = j
  · subst h; rw [setS_at hi]
  · rw [setS_ne h]
theorem look_set {s : List Ob} {i : Nat} {nm : ByteArray} {w : Val} (hm : MayS s) (hi : i < s.length) (nm' : ByteArray) : ∀ (m : Nat) (v u : Val), lookM s nm' m v = some u → ∃ u', lookM (setS s i nm w) nm' m v = some u' := by
  intro m
  induction m with
  | zero => intro v u h; simp [lookM] at h
  | succ m ih =>
    intro v u h
    rw [lookM] at h ⊢
    rw [setS_len]
    split at h
    · rename_i hc
      rw [if_pos hc, own_set hm hi, proto_set hi]
      by_cases q : v.2.toNat = i ∧ nm' = nm
      · rw [if_pos q]; exact ⟨w, rfl⟩
      · rw [if_neg q]
        split at h
        · rename_i x hx; exact ⟨x, rfl⟩
        · rename_i hx; exact ih _ u h
    · cases h
theorem get_set {s : List Ob} {i : Nat} {nm : ByteArray} {w v : Val} {nm' : ByteArray} (hm : MayS s) (hi : i < s.length) (hw : Right s.length w) (h : (getM s v nm').isSome = true) : (getM (setS s i nm w) v nm').isSome = true := by
  unfold getM at *
  rw [if_pos hm] at h
  rw [if_pos (may_set hm hi hw), setS_len]
  obtain ⟨u, hu⟩ := Option.isSome_iff_exists.1 h
  obtain ⟨u', hu'⟩ := look_set hm hi nm' _ _ _ hu
  rw [hu']
  rfl
end Go.PL

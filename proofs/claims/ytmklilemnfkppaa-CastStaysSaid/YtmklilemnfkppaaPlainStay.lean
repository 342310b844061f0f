/- The plain law CastStays. -/
import Derived.Test.YtmklilemnfkppaaPlainCa
import Derived.Test.YtmklilemnfkppaaPlainSet
set_option linter.all false
open Go Go.PG Go.PL
set_option linter.unusedVariables false
set_option linter.unusedSimpArgs false
namespace Go.PL
theorem holds_mono {s t : List Ob} {ps : List Int} {c : Cst} {v : Val} (hl : s.length ≤ t.length) (hg : ∀ nm, (getM s v nm).isSome = true → (getM t v nm).isSome = true) (h : holdsM s ps c v = true) : holdsM t ps c v = true := by
  unfold holdsM at *
  by_cases h0 : c.2.2.2.1 = 0
  · rw [if_pos h0] at h ⊢; exact hg _ h
  rw [if_neg h0] at h ⊢
  by_cases h1 : c.2.2.2.1 = 1
  · rw [if_pos h1, decide_eq_true_eq] at h ⊢; exact ⟨h.1, right_mono h.2 hl⟩
  rw [if_neg h1] at h ⊢
  by_cases h2 : c.2.2.2.1 = 2
  · rw [if_pos h2, decide_eq_true_eq] at h ⊢; exact h.imp (fun q => ⟨q.1, right_mono q.2 hl⟩) id
  rw [if_neg h2] at h ⊢
  exact h

theorem stays (x : List Ob × Ask × Ob) (hf : Fits x.1) (hl : x.2.1.2.1.length < 9223372036854775808) (ho : x.2.2.1.length < 9223372036854775808) (hv : x.2.1.2.2.2.length < 9223372036854775808) : law20_CastStays K x = some true := by
  obtain ⟨s, ⟨ps, l, o, vs⟩, ob⟩ := x
  dsimp only at hf hl ho hv
  have hF : law20_fixed K PUnit.unit = some true := fixed_true
  have out : ∀ (b : Bool) (y : Option Bool), (b = true → y = some true) → P.cond (P.not b) (P.bind (law20_fixed K PUnit.unit) fun r => some r) y = some true := by
    intro b y h
    cases b
    · show P.bind (law20_fixed K PUnit.unit) _ = _
      rw [hF]; rfl
    · exact h rfl
  have out2 : ∀ (b : Bool) (y : Option Bool), (b = false → y = some true) → P.cond b (P.bind (law20_fixed K PUnit.unit) fun r => some r) y = some true := by
    intro b y h
    cases b
    · exact h rfl
    · show P.bind (law20_fixed K PUnit.unit) _ = _
      rw [hF]; rfl
  unfold law20_CastStays
  dsimp only
  rw [ref_small s hf, ref_may s hf]
  conv => lhs; arg 1; rw [hF]
  rw [bind_some]
  refine out _ _ fun _ => ?_
  rw [bind_some]
  refine out _ _ fun h1 => ?_
  refine out2 _ _ fun h2 => ?_
  rw [bind_some]
  refine out _ _ fun h3 => ?_
  refine out2 _ _ fun h4 => ?_
  refine out2 _ _ fun h5 => ?_
  simp only [decide_eq_true_eq] at h1 h3
  have h2' : ¬ P.ilt 30 (P.len l) = true := by rw [h2]; simp
  have h4' : ¬ P.ilt 60 (P.len ob.1) = true := by rw [h4]; simp
  have h5' : ¬ P.ilt (P.len vs) 2 = true := by rw [h5]; simp
  rw [ilt_iff, len_eq] at h2' h4' h5'
  have hs : s.length ≤ 1000000000 := by omega
  have hp : ∀ i, i < s.length → (s.getD i dO).1.length ≤ 1000000000 := fun i hi => by have := h1.1 i hi; omega
  have hN := ref_new s ob hf hs ho
  have hS : ∀ (v w : Val) (nm : ByteArray), ref19_Set K (s, v, nm, w) = some (setM s v nm w) := fun v w nm => ref_set s v nm w hf hs hp
  have hN' : ref19_New K (s, ob.1, ob.2) = some (newM s ob) := hN
  rw [hN', bind_some, cond_eq, if_pos (by rw [inb_iff, len_eq]; omega), cond_eq, if_pos (by rw [inb_iff, len_eq]; omega), hS, bind_some]
  generalize hset : setM s _ _ _ = u
  have hu : u.2 = true → Fits u.1 ∧ s.length ≤ u.1.length ∧ ∀ v nm, (getM s v nm).isSome = true → (getM u.1 v nm).isSome = true := by
    intro q
    rw [← hset] at q ⊢
    unfold setM at q ⊢
    split at q
    · rename_i hc
      rw [if_pos hc]
      have hr := right4 hc.2.1 hc.2.2.1
      have hi : (P.get vs 0 ((0, 0) : Val)).2.toNat < s.length := by omega
      exact ⟨fits_set hs hp, by rw [setS_len]; exact Nat.le_refl _, fun v nm => get_set h3 hi hc.2.2.2⟩
    · cases q
  have ht : (newM s ob).2.2 = true → Fits (newM s ob).1 ∧ s.length ≤ (newM s ob).1.length ∧ ∀ v nm, (getM s v nm).isSome = true → (getM (newM s ob).1 v nm).isSome = true := by
    intro q
    unfold newM at q ⊢
    split at q
    · rename_i hc
      rw [if_pos hc]
      exact ⟨fits_app hf hs ho, by simp, fun v nm => get_app h3 hc⟩
    · cases q
  generalize newM s ob = t at *
  rw [iter_all (n := l.length) (e := .inl ()) (r := .inr false) (fun _ => True) K ?_ ?_ (by unfold K; omega)]
  · rw [if_pos (fun _ _ => trivial)]; rfl
  · intro i hi
    have hw : P.wrap .i64 (P.add (i : Int) 1) = ((i + 1 : Nat) : Int) := wrap_succ (by omega)
    have hC : ∀ (r : List Ob) c v, Fits r → cast_Holds K (r, ps, c, v) = some (holdsM r ps c v) := fun r c v h => cast_holds r ps c v h
    have hin : P.inb (i : Int) (P.len l) = true := by rw [inb_iff, len_eq]; omega
    have hlt : P.ilt (i : Int) (P.len l) = true := by rw [ilt_iff, len_eq]; omega
    simp only [hw, hin, hlt, cond_true, if_true]
    rw [hC s _ _ hf, bind_some]
    by_cases q : holdsM s ps (P.get l (i : Int) ((0, 0, 0, 0, ⟨#[]⟩, 0) : Cst)) o = true
    · rw [q]
      show P.cond _ _ _ = _
      have A : ∀ r : List Ob, (Fits r ∧ s.length ≤ r.length ∧ ∀ v nm, (getM s v nm).isSome = true → (getM r v nm).isSome = true) → cast_Holds K (r, ps, P.get l (i : Int) ((0, 0, 0, 0, ⟨#[]⟩, 0) : Cst), o) = some true := by
        intro r hr
        rw [hC r _ _ hr.1, holds_mono hr.2.1 (hr.2.2 o) q]
      cases ht2 : t.2.2
      · cases hu2 : u.2
        · rfl
        · rw [A u.1 (hu hu2)]; rfl
      · rw [A t.1 (ht ht2)]
        cases hu2 : u.2
        · rfl
        · rw [A u.1 (hu hu2)]; rfl
    · rw [Bool.eq_false_iff.2 q]
      rfl
  · rw [cond_eq, if_neg (by rw [ilt_iff, len_eq]; omega)]
end Go.PL

/- The evaluator's soundness: loops. -/
import Derived.Test.YtmklilemnfkppaaPGV
set_option linter.all false
namespace Go.PG
open Go.RowKit

variable {Pg : Program} {G : World → Prop} {E : Env} {S : Nat → Prop} {B : Nat} {w0 w w' w'' w1 : World} {h h' : Hp} {M0 M M' M'' M1 : Nat → Bk} {ρ : Type} {r : ρ} {st st' st'' b s s2 s' : St} {a a' a'' a1 : Act} {o : Oper}

theorem memb_mem {i : Nat} : ∀ {l : List Nat}, memb i l = true ↔ i ∈ l
  | [] => by simp [memb]
  | j :: l => by
    simp only [memb]
    split
    · rename_i e
      have := Nat.eq_of_beq_eq_true e
      subst this
      simp
    · rename_i e
      have hne : i ≠ j := by rintro rfl; simp [Nat.beq_refl] at e
      rw [memb_mem]
      simp [hne]
theorem memb_not {i : Nat} {l : List Nat} : memb i l = false ↔ i ∉ l := by
  rw [← memb_mem]; simp

theorem nodup_spec : ∀ {l : List Nat}, nodup l = true → l.Nodup
  | [], _ => List.nodup_nil
  | i :: l, h => by
    simp only [nodup] at h
    split at h
    · cases h
    · rename_i e
      exact List.nodup_cons.2 ⟨memb_not.1 e, nodup_spec h⟩
theorem subs_spec {m : List Nat} : ∀ {l : List Nat}, subs l m = true → ∀ i, i ∈ l → i ∈ m
  | [], _ => by simp
  | j :: l, h => by
    simp only [subs] at h
    split at h
    · rename_i e
      intro i hi
      rcases List.mem_cons.1 hi with rfl | hi
      · exact memb_mem.1 e
      · exact subs_spec h i hi
    · cases h
theorem above_spec {n : Nat} : ∀ {l : List Nat}, above n l = true → ∀ i, i ∈ l → n ≤ i
  | [], _ => by simp
  | j :: l, h => by
    simp only [above] at h
    split at h
    · rename_i e
      intro i hi
      rcases List.mem_cons.1 hi with rfl | hi
      · exact Nat.le_of_ble_eq_true e
      · exact above_spec h i hi
    · cases h
theorem alive_spec {h h' : Hp} : ∀ {l : List Nat}, alive h h' l = true → ∀ i, i ∈ l → ∀ v L, h.e i = some (.box v L) → ∃ v' L', h'.e i = some (.box v' L')
  | [], _ => by simp
  | j :: l, q => by
    simp only [alive] at q
    intro i hi v L he
    rcases List.mem_cons.1 hi with rfl | hi
    · split at q
      · split at q
        · rename_i v' L' e; exact ⟨v', L', e⟩
        · cases q
      · rename_i hno
        exact absurd he (hno v L)
    · split at q
      · split at q
        · exact alive_spec q i hi v L he
        · cases q
      · exact alive_spec q i hi v L he

/-- The base of a loop. -/
def loopBase (as : List Nat) (st : St) (ls c : List Nat) : St := inner as { st with h := st.h.kills ls } c

theorem loopBase_ok (as : List Nat) (st : St) (ls c : List Nat) (hf : ∀ i, st.h.next ≤ i → st.h.e i = none) (hu : unlocked st.h c = true) : Base st (loopBase as st ls c) c := by
  have hk := kills_e ls st.h
  have hk0 : ∀ i, st.h.e i = none → (st.h.kills ls).e i = none := fun i q => by rw [hk]; split <;> first | rfl | exact q
  refine ⟨kills_next ls st.h, fun i hi => ?_, fun i hi => ?_, fun i hi => ?_⟩
  · simp only [loopBase, inner, clr]
    have := hk0 i (hf i hi)
    split
    · simp [this]
    · exact this
  · simp only [loopBase, inner, clr, memb_mem.2 hi]
    rw [hk]
    by_cases hl : i ∈ ls
    · simp [hl]
    · simp only [hl, if_false]
      split
      · rename_i v L e
        split
        · rename_i q
          exact .inr ⟨v, L, e, rfl, q⟩
        · exact .inl rfl
      · exact .inl rfl
  · simp only [loopBase, inner, clr, memb_not.2 hi]
    rw [hk]
    split
    · exact .inl rfl
    · exact .inr rfl

structure LoopRel (S : Nat → Prop) (st : St) (a : Act) (M0 : Nat → Bk) (w : World) (b : St) (c : List Nat) (s : St) (a1 : Act) (M1 : Nat → Bk) (w1 : World) : Prop where
  tr : Tr (cx S st.h M0 w) (cx S s.h M1 w1)
  same : ∀ i, i < st.h.next → i ∉ c → s.h.e i = b.h.e i ∧ M1 i = M0 i
  lk : s.h.lk = b.h.lk
  ro : s.ro = b.ro
  n : s.n = b.n
  le : st.h.next ≤ s.h.next
  keep : ∀ t, b.ro t = true → a1.tmps.getD t undef = a.tmps.getD t undef

theorem LoopRel.step {as ls c : List Nat} (R : LoopRel S st a M0 w (loopBase as st ls c) c s a1 M1 w1) (k : Stp S s a1 M1 w1 s' a' M' w') : LoopRel S st a M0 w (loopBase as st ls c) c s' a' M' w' := by
  refine ⟨R.tr.trans k.k.tr, fun i hi hic => ?_, k.k.lk.trans R.lk, k.ro.trans R.ro, k.n.trans R.n, Nat.le_trans R.le k.k.tr.nx, fun t ht => (k.keep t (by rw [R.ro]; exact ht)).trans (R.keep t ht)⟩
  obtain ⟨e1, e2⟩ := R.same i hi hic
  obtain ⟨e3, e4⟩ := k.k.lock i (Nat.lt_of_lt_of_le hi R.le) (by
    rw [R.lk]
    simp only [loopBase, inner, clr, memb_not.2 hic]
    rw [kills_next]
    simpa [Nat.blt_eq] using hi)
  exact ⟨e3.trans e1, e4.trans e2⟩

theorem outer_ok {as ls c : List Nat} (g : Good S B w0 s' a' M' w') (R : LoopRel S st a M0 w (loopBase as st ls c) c s' a' M' w') (hc : unlocked st.h c = true) (hl : unlocked st.h ls = true) :
    Good S B w0 (outer st s') a' M' w' ∧ Stp S st a M0 w (outer st s') a' M' w' := by
  refine ⟨⟨⟨g.H.ent, g.H.fresh, g.H.dist, g.H.own, g.H.bel, g.H.bsz, g.H.old, g.H.bw⟩, g.F, g.n, g.d⟩, ⟨⟨R.tr, rfl, fun i hi hlk => ?_⟩, rfl, R.n, fun t ht => R.keep t ?_⟩⟩
  · have hic : i ∉ c := fun z => by have := unlocked_mem hc i z; rw [hlk] at this; cases this
    have hil : i ∉ ls := fun z => by have := unlocked_mem hl i z; rw [hlk] at this; cases this
    obtain ⟨e1, e2⟩ := R.same i hi hic
    refine ⟨?_, e2⟩
    show s'.h.e i = st.h.e i
    rw [e1]
    simp only [loopBase, inner, clr, memb_not.2 hic]
    rw [kills_e]
    simp [hil]
  · simp only [loopBase, inner]
    split
    · exact ht
    · rfl

theorem again_ok {as ls c : List Nat} (g0 : Good S B w0 st a M0 w) (hc : unlocked st.h c = true) (g : Good S B w0 s' a' M' w') (R : LoopRel S st a M0 w (loopBase as st ls c) c s' a' M' w') {l : List Item} {z : ItemsD l}
    (ha : again st (loopBase as st ls c) c s' l = some z) (hp : packItems st.fr l z (loopBase as st ls c) = some s2) :
    ∃ M2, Good S B w0 s2 a' M2 w' ∧ LoopRel S st a M0 w (loopBase as st ls c) c s2 a' M2 w' := by
  have hb := loopBase_ok as st ls c g0.H.fresh hc
  unfold again at ha
  split at ha
  · cases ha
  rename_i hal
  split at ha
  case h_2 => cases ha
  rename_i z' os ds ks hu hk
  split at ha
  case h_2 => cases ha
  rename_i h1 h2 h3 h4
  injection ha with ha
  subst ha
  obtain ⟨M2, q1, q2, q3, q4, q5, q6, q7⟩ := lay g0 hb g.H g.F R.tr (fun i hi hic => ⟨fun _ => (R.same i hi hic).1, (R.same i hi hic).2⟩) (fun i hi v L e => alive_spec hal i hi v L e) (fun t => by
      simp only [loopBase, inner]
      split
      · exact .inl rfl
      · rename_i e
        exact .inr ⟨rfl, R.keep t (by simp only [loopBase, inner, e])⟩) hu hk (nodup_spec h1) (subs_spec h2) (fun i hi => hb.fresh i (above_spec h4 i hi)) hp (by rw [← R.n]; exact g.n) g.d
  exact ⟨M2, q1, ⟨q2, q3, q4, q5, q6, q7, R.keep⟩⟩

theorem start_ok {as c : List Nat} (g0 : Good S B w0 st a M0 w) (hc : unlocked st.h c = true) {l : List Item} {z : ItemsD l} {os ds ks : List Nat} (hu : unItems st.fr st l = some (z, os, ds)) (hk : kept st.fr l = some ks)
    (hnd : nodup (ks ++ (os ++ ds)) = true) (hsub : ∀ i, i ∈ ks → i ∈ c) (hp : packItems st.fr l z (loopBase as st (os ++ ds) c) = some s2) :
    ∃ M2, Good S B w0 s2 a M2 w ∧ LoopRel S st a M0 w (loopBase as st (os ++ ds) c) c s2 a M2 w := by
  have hb := loopBase_ok as st (os ++ ds) c g0.H.fresh hc
  obtain ⟨M2, q1, q2, q3, q4, q5, q6, q7⟩ := lay (s' := st) g0 hb g0.H g0.F (HStp.refl g0.H).tr (fun i hi hic => ⟨fun hne => by
      rcases hb.out i hic with q | q
      · exact absurd q hne
      · exact q.symm, rfl⟩) (fun i hi v L e => by
      rcases hb.inc i hi with q | ⟨v', L', q1, _⟩
      · rw [q] at e; cases e
      · exact ⟨v', L', q1⟩) (fun t => by
      simp only [loopBase, inner]
      split
      · exact .inl rfl
      · exact .inr ⟨rfl, trivial⟩) hu hk (nodup_spec hnd) hsub (fun i hi => by
      simp only [loopBase, inner, clr]
      rw [kills_e]
      simp only [hi, if_true]
      split <;> rfl) hp g0.n g0.d
  exact ⟨M2, q1, ⟨q2, q3, q4, q5, q6, q7, fun _ _ => rfl⟩⟩

/-! ### rounds -/
theorem iter_zero {τ ρ : Type} {f : τ → Option (τ ⊕ ρ)} {x : τ} : P.iter 0 f x = none := rfl
theorem iter_succ {τ ρ : Type} {k : Nat} {f : τ → Option (τ ⊕ ρ)} {x : τ} : P.iter (k + 1) f x = (match f x with
    | none => none
    | some (.inl y) => P.iter k f y
    | some (.inr r) => some r) := rfl

theorem map_some {α β : Type} {f : α → β} {x : Option α} {y : β} (h : P.map f x = some y) : ∃ z, x = some z ∧ f z = y := by
  cases x with
  | none => cases h
  | some z => injection h with h; exact ⟨z, rfl, h⟩

/-- What is shown of a piece of code. -/
def CodeOk (Pg : Program) (E : Env) (S : Nat → Prop) (B : Nat) (w0 : World) (call : Handler) (hs : List (Nat × Hint)) (c : Code) : Prop :=
  ∀ {ρ : Type} (st : St) (kn : St → Option ρ) (ke : Nat → St → Option ρ) (kr : St → Option ρ) (r : ρ) (a : Act) (M : Nat → Bk) (w : World) (Q : Exit → Act → World → Prop),
    Good S B w0 st a M w → evC E call hs c st kn ke kr = some r → Then S B w0 st a M w kn r (Q .normal) → (∀ i, Then S B w0 st a M w (ke i) r (Q (.exit i))) → Then S B w0 st a M w kr r (Q .ret) → c.wp Pg Q a w

theorem rounds_ok {as c : List Nat} {code : Code} {ls : List Nat} (g0 : Good S B w0 st a M0 w) (hc : unlocked st.h c = true) {hd : List Item} {σ : Type} {Q : Exit → Act → World → Prop} {R : σ} {k : Nat} {x : ItemsD hd}
    (body : ItemsD hd → St → Option (ItemsD hd ⊕ σ)) (hbody : ∀ y s q a1 M1 w1, Good S B w0 s a1 M1 w1 → LoopRel S st a M0 w (loopBase as st ls c) c s a1 M1 w1 → body y s = some q →
      ∀ X : Act → World → Prop, (∀ z s' a' M' w', q = .inl z → again st (loopBase as st ls c) c s' hd = some z → Good S B w0 s' a' M' w' → LoopRel S st a M0 w (loopBase as st ls c) c s' a' M' w' → X a' w') → (∀ R', q = .inr R' → R' = R) → code.wp Pg (Exit.then X Q) a1 w1)
    (hit : P.iter k (fun y => match packItems st.fr hd y (loopBase as st ls c) with
        | none => none
        | some s => body y s) x = some R)
    (h0 : ∀ s, packItems st.fr hd x (loopBase as st ls c) = some s → ∃ M2, Good S B w0 s a M2 w ∧ LoopRel S st a M0 w (loopBase as st ls c) c s a M2 w) : (Code.loop code).wp Pg Q a w := by
  let f : ItemsD hd → Option (ItemsD hd ⊕ σ) := fun y => match packItems st.fr hd y (loopBase as st ls c) with
        | none => none
        | some s => body y s
  have open_ : ∀ n y, P.iter n f y = some R → ∃ m s q, n = m + 1 ∧ packItems st.fr hd y (loopBase as st ls c) = some s ∧ body y s = some q ∧ (∀ z, q = .inl z → P.iter m f z = some R) ∧ (∀ R', q = .inr R' → R' = R) := by
    intro n y hn
    cases n with
    | zero => cases hn
    | succ m =>
      rw [iter_succ] at hn
      cases hs : packItems st.fr hd y (loopBase as st ls c) with
      | none => simp only [f, hs] at hn; cases hn
      | some s =>
        cases hq : body y s with
        | none => simp only [f, hs, hq] at hn; cases hn
        | some q =>
          refine ⟨m, s, q, rfl, rfl, hq, ?_, ?_⟩
          · rintro z rfl
            simpa only [f, hs, hq] using hn
          · rintro R' rfl
            simp only [f, hs, hq] at hn
            injection hn
  refine wp_loop_ghost (fun n a1 w1 => ∃ y s M1, packItems st.fr hd y (loopBase as st ls c) = some s ∧ P.iter n f y = some R ∧ Good S B w0 s a1 M1 w1 ∧ LoopRel S st a M0 w (loopBase as st ls c) c s a1 M1 w1) k ?_ ?_
  · obtain ⟨m, s, q, _, hs, _⟩ := open_ k x hit
    obtain ⟨M2, q1, q2⟩ := h0 s hs
    exact ⟨x, s, M2, hs, hit, q1, q2⟩
  · rintro n a1 w1 ⟨y, s, M1, hs, hn, g1, R1⟩
    obtain ⟨m, s', q, rfl, hs', hq, hl, hr⟩ := open_ n y hn
    rw [hs] at hs'
    injection hs' with hs'
    subst hs'
    refine hbody y s q a1 M1 w1 g1 R1 hq _ ?_ hr
    intro z s2 a2 M2 w2 e ha g2 R2
    have hz := hl z e
    obtain ⟨m2, s3, q3, rfl, hs3, _⟩ := open_ m z hz
    obtain ⟨M3, q4, q5⟩ := again_ok g0 hc g2 R2 ha hs3
    exact ⟨m2 + 1, by omega, z, s3, M3, hs3, hz, q4, q5⟩

theorem evLoop_ok {E : Env} {call : Handler} {hs : List (Nat × Hint)} {code : Code} (hcode : CodeOk Pg E S B w0 call hs code) {k : Nat} {hint : Option Hint} {as : List Nat} {ke : Nat → St → Option ρ} {kr : St → Option ρ} {Q : Exit → Act → World → Prop}
    (g0 : Good S B w0 st a M0 w) (hr : evLoop k hint as st (fun s kn' ke' kr' => evC E call hs code s kn' ke' kr') ke kr = some r)
    (hke : ∀ i, Then S B w0 st a M0 w (ke i) r (Q (.exit i))) (hkr : Then S B w0 st a M0 w kr r (Q .ret)) : (Code.loop code).wp Pg Q a w := by
  unfold evLoop at hr
  split at hr
  · cases hr
  rename_i hd scr out
  split at hr
  case h_2 => cases hr
  rename_i sc ks x os ds hsc hks hun
  split at hr
  case h_2 => cases hr
  rename_i hc hls hnd
  have h0 : ∀ s, packItems st.fr hd x (loopBase as st (os ++ ds) (sc ++ ks)) = some s → ∃ M2, Good S B w0 s a M2 w ∧ LoopRel S st a M0 w (loopBase as st (os ++ ds) (sc ++ ks)) (sc ++ ks) s a M2 w :=
    fun s hp => start_ok g0 hc hun hks hnd (fun i hi => List.mem_append_right _ hi) hp
  simp only at hr
  split at hr
  · -- no cut
    refine rounds_ok (R := r) g0 hc (fun y s => evC E call hs code s (fun s' => match again st (loopBase as st (os ++ ds) (sc ++ ks)) (sc ++ ks) s' hd with
                | some z => some (Sum.inl z)
                | none => none) (fun i s' => P.map .inr (ke i (outer st s'))) (fun s' => P.map .inr (kr (outer st s')))) ?_ hr h0
    intro y s q a1 M1 w1 g1 R1 hq X hX hR
    refine hcode s _ _ _ q a1 M1 w1 _ g1 hq ?_ ?_ ?_
    · intro s' a' M' w' g' k' hk
      simp only at hk
      split at hk
      · rename_i z hz
        injection hk with hk
        exact hX z s' a' M' w' hk.symm hz g' (R1.step k')
      · cases hk
    · intro i s' a' M' w' g' k' hk
      obtain ⟨r', h1, h2⟩ := map_some hk
      have h3 := hR r' h2.symm
      subst h3
      obtain ⟨h4, h5⟩ := outer_ok g' (R1.step k') hc hls
      exact hke i _ _ _ _ h4 h5 h1
    · intro s' a' M' w' g' k' hk
      obtain ⟨r', h1, h2⟩ := map_some hk
      have h3 := hR r' h2.symm
      subst h3
      obtain ⟨h4, h5⟩ := outer_ok g' (R1.step k') hc hls
      exact hkr _ _ _ _ h4 h5 h1
  · rename_i i0 tl
    obtain ⟨R, hR1, hR2⟩ := bind_some hr
    refine rounds_ok (R := R) g0 hc (fun y s => evC E call hs code s (fun s' => match again st (loopBase as st (os ++ ds) (sc ++ ks)) (sc ++ ks) s' hd with
                | some z => some (Sum.inl z)
                | none => none)
              (fun i s' => match Nat.beq i i0 with
                | true => match again st (loopBase as st (os ++ ds) (sc ++ ks)) (sc ++ ks) s' tl with
                  | some z => some (Sum.inr (Sum.inl z))
                  | none => none
                | false => P.map (fun r => .inr (.inr r)) (ke i (outer st s')))
              (fun s' => P.map (fun r => .inr (.inr r)) (kr (outer st s')))) ?_ hR1 h0
    intro y s q a1 M1 w1 g1 R1 hq X hX hR
    have fin : ∀ r', q = .inr (.inr r') → r' = r := by
      intro r' e
      have := hR _ e
      subst this
      simp only [P.either] at hR2
      injection hR2
    refine hcode s _ _ _ q a1 M1 w1 _ g1 hq ?_ ?_ ?_
    · intro s' a' M' w' g' k' hk
      simp only at hk
      split at hk
      · rename_i z hz
        injection hk with hk
        exact hX z s' a' M' w' hk.symm hz g' (R1.step k')
      · cases hk
    · intro i s' a' M' w' g' k' hk
      simp only at hk
      split at hk
      · rename_i hi
        have := Nat.eq_of_beq_eq_true hi
        subst this
        split at hk
        · rename_i z hz
          injection hk with hk
          have := hR _ hk.symm
          subst this
          simp only [P.either] at hR2
          split at hR2
          · cases hR2
          · rename_i s3 hs3
            obtain ⟨M3, q4, q5⟩ := again_ok g0 hc g' (R1.step k') hz hs3
            obtain ⟨h4, h5⟩ := outer_ok q4 q5 hc hls
            exact hke i _ _ _ _ h4 h5 hR2
        · cases hk
      · obtain ⟨r', h1, h2⟩ := map_some hk
        have h3 := fin r' h2.symm
        subst h3
        obtain ⟨h4, h5⟩ := outer_ok g' (R1.step k') hc hls
        exact hke i _ _ _ _ h4 h5 h1
    · intro s' a' M' w' g' k' hk
      obtain ⟨r', h1, h2⟩ := map_some hk
      have h3 := fin r' h2.symm
      subst h3
      obtain ⟨h4, h5⟩ := outer_ok g' (R1.step k') hc hls
      exact hkr _ _ _ _ h4 h5 h1
end Go.PG

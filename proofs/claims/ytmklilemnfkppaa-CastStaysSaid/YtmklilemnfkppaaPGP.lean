/- The evaluator's soundness: regions in the text's order. -/
import Derived.Test.YtmklilemnfkppaaPGN
set_option linter.all false
namespace Go.PG
open Go.RowKit

variable {Pg : Program} {G : World → Prop} {E : Env} {S : Nat → Prop} {B : Nat} {w0 w w' w'' : World} {h : Hp} {M M' M'' : Nat → Bk} {ρ : Type} {r : ρ} {st st' st'' : St} {a a' a'' : Act} {o : Oper}

structure Good (S : Nat → Prop) (B : Nat) (w0 : World) (st : St) (a : Act) (M : Nat → Bk) (w : World) : Prop where
  H : HInv S B w0 st.h M w
  F : ∀ t, RepV (cx S st.h M w) (st.fr t) (a.tmps.getD t undef)
  n : st.n ≤ a.tmps.size
  d : a.defers = []

structure Stp (S : Nat → Prop) (st : St) (a : Act) (M : Nat → Bk) (w : World) (st' : St) (a' : Act) (M' : Nat → Bk) (w' : World) : Prop where
  k : HStp S st.h M w st'.h M' w'
  ro : st'.ro = st.ro
  n : st'.n = st.n
  keep : ∀ t, st.ro t = true → a'.tmps.getD t undef = a.tmps.getD t undef

theorem Stp.refl (g : Good S B w0 st a M w) : Stp S st a M w st a M w := ⟨HStp.refl g.H, rfl, rfl, fun _ _ => rfl⟩
theorem Stp.trans (k : Stp S st a M w st' a' M' w') (l : Stp S st' a' M' w' st'' a'' M'' w'') : Stp S st a M w st'' a'' M'' w'' :=
  ⟨k.k.trans l.k, l.ro.trans k.ro, l.n.trans k.n, fun t ht => (l.keep t (by rw [k.ro]; exact ht)).trans (k.keep t ht)⟩

theorem put_none {st st' : St} {v : AV} (h : st.put none v = some st') : st' = st := by
  simp only [St.put] at h
  injection h with h
  exact h.symm
theorem put_some {st st' : St} {t : Tmp} {v : AV} (h : st.put (some t) v = some st') : st.ro t = false ∧ t < st.n ∧ st' = { st with fr := set1 st.fr t v } := by
  simp only [St.put] at h
  split at h
  · rename_i h1 h2
    injection h with h
    exact ⟨h1, by simpa [Nat.blt_eq] using h2, h.symm⟩
  · cases h

theorem getD_put (a : Act) (t u : Nat) (v : Value) : (a.put (some t) v).tmps.getD u undef = if u = t ∧ t < a.tmps.size then v else a.tmps.getD u undef := by
  simp only [Act.put, Array.getD_eq_getD_getElem?, Array.getElem?_setIfInBounds]
  by_cases h : t = u
  · subst h
    by_cases h2 : t < a.tmps.size
    · simp [h2]
    · simp [h2]
  · simp [h, Ne.symm h]

theorem put_ok (g : Good S B w0 st a M w) {h' : Hp} (H' : HInv S B w0 h' M' w') (k : HStp S st.h M w h' M' w') {dst : Option Tmp} {av : AV} {v : Value} (hv : RepV (cx S h' M' w') av v)
    (hp : ({ st with h := h' } : St).put dst av = some st') : Good S B w0 st' (a.put dst v) M' w' ∧ Stp S st a M w st' (a.put dst v) M' w' := by
  have F' : ∀ t, RepV (cx S h' M' w') (st.fr t) (a.tmps.getD t undef) := fun t => RepV.tr k.tr _ _ (g.F t)
  cases dst with
  | none =>
    have := put_none hp
    subst this
    exact ⟨⟨H', F', g.n, g.d⟩, ⟨k, rfl, rfl, fun _ _ => rfl⟩⟩
  | some t =>
    obtain ⟨h1, h2, rfl⟩ := put_some hp
    simp only at h1 h2
    have hsz : t < a.tmps.size := Nat.lt_of_lt_of_le h2 g.n
    refine ⟨⟨H', fun u => ?_, by simpa [Act.put] using g.n, by simpa [Act.put] using g.d⟩, ⟨k, rfl, rfl, fun u hu => ?_⟩⟩
    · rw [getD_put]
      by_cases hut : u = t
      · subst hut
        simpa [hsz, set1, Nat.beq_refl] using hv
      · simp only [hut, false_and, if_false, set1, beq_false hut]
        exact F' u
    · rw [getD_put]
      have : u ≠ t := by rintro rfl; rw [h1] at hu; cases hu
      simp [this]

theorem refine1_eq {t : Nat} {b : Bool} (h : st.fr t = .data .bool b) : refine1 st t b = st := by
  obtain ⟨n, fr, ro, hp⟩ := st
  simp only [refine1]
  congr 1
  funext u
  simp only [set1]
  split
  · rename_i e
    have := Nat.eq_of_beq_eq_true e
    subst this
    exact h.symm
  · rfl

/-- What holds behind a state, of what follows. -/
def Then (S : Nat → Prop) (B : Nat) (w0 : World) (st : St) (a : Act) (M : Nat → Bk) (w : World) (K : St → Option ρ) (r : ρ) (X : Act → World → Prop) : Prop :=
  ∀ st' a' M' w', Good S B w0 st' a' M' w' → Stp S st a M w st' a' M' w' → K st' = some r → X a' w'

theorem Then.after {K : St → Option ρ} {X : Act → World → Prop} (h : Then S B w0 st a M w K r X) (k : Stp S st a M w st' a' M' w') : Then S B w0 st' a' M' w' K r X :=
  fun st'' a'' M'' w'' g l hk => h st'' a'' M'' w'' g (k.trans l) hk

theorem doOp_ok (HE : EnvOk Pg G E) (hG : G w0) {call : Handler} (HC : HandlerOk Pg G S B w0 call) (g : Good S B w0 st a M w) {K : St → Option ρ} (hr : doOp E call o st K = some r)
    {X : Act → World → Prop} {Q : Exit → Act → World → Prop} (hX : Then S B w0 st a M w K r X) : o.wp Pg a w X Q := by
  refine evOp_ok HE hG HC g.F g.H hr X Q fun v w' ⟨av, h', M', hk, H', k, hv⟩ => ?_
  simp only at hk
  split at hk
  · rename_i st' hp
    obtain ⟨g', s'⟩ := put_ok g H' k hv hp
    exact hX _ _ _ _ g' s' hk
  · cases hk

theorem skipOp_ok (g : Good S B w0 st a M w) {K : St → Option ρ} (hr : skipOp o st K = some r) {X : Act → World → Prop} (hX : Then S B w0 st a M w K r X) : X (a.put o.dst undef) w := by
  unfold skipOp at hr
  split at hr
  · rename_i st' hp
    obtain ⟨g', s'⟩ := put_ok g g.H (HStp.refl g.H) (dst := o.dst) (av := .tup .unit) (v := undef) (by simp only [RepV, RepT]; exact ⟨#[], rfl, rfl⟩) hp
    exact hX _ _ _ _ g' s' hr
  · cases hr

theorem getD_bool {a : Act} {t : Nat} {b : Bool} (h : a.tmps.getD t undef = .bool b) : a.tmps[t]? = some (.bool b) := by
  rw [Array.getD_eq_getD_getElem?] at h
  cases q : a.tmps[t]? with
  | none => rw [q] at h; simp [undef] at h
  | some v => rw [q] at h; simp only [Option.getD_some] at h; rw [h]

theorem evOps_ok (HE : EnvOk Pg G E) (hG : G w0) {call : Handler} (HC : HandlerOk Pg G S B w0 call) {ops : Array Oper} {Q : Exit → Act → World → Prop} : ∀ (rest : List Oper) (i : Nat) (st : St) (a : Act) (M : Nat → Bk) (w : World) (K : St → Option ρ), ops.toList.drop i = rest →
    Good S B w0 st a M w → evOps E call ops.toList rest st K = some r → Then S B w0 st a M w K r (Q .normal) → wpOps Pg ops Q (List.range' i rest.length) a w := by
  intro rest
  induction rest with
  | nil =>
    intro i st a M w K _ g hr hX
    exact hX st a M w g (Stp.refl g) hr
  | cons o rest ih =>
    intro i st a M w K hd g hr hX
    have ho : ops[i]? = some o := by
      rw [← Array.getElem?_toList]
      have : (ops.toList.drop i)[0]? = some o := by rw [hd]; rfl
      simpa using this
    have hd' : ops.toList.drop (i + 1) = rest := by
      rw [← List.drop_drop, hd]; rfl
    have next : ∀ {st' a' M' w'}, Good S B w0 st' a' M' w' → Stp S st a M w st' a' M' w' → evOps E call ops.toList rest st' K = some r → wpOps Pg ops Q (List.range' (i + 1) rest.length) a' w' :=
      fun g' s' hk => ih (i + 1) _ _ _ _ K hd' g' hk (hX.after s')
    have hwp : Region.wanted o (yielded ops a.tmps) = true → doOp E call o st (fun st' => evOps E call ops.toList rest st' K) = some r → wpOps Pg ops Q (List.range' i (rest.length + 1)) a w := by
      intro hw hk
      rw [List.range'_succ]
      simp only [wpOps, ho, hw, if_true]
      exact .inl (doOp_ok HE hG HC g hk fun st' a' M' w' g' s' hk' => next g' s' hk')
    have hsk : Region.wanted o (yielded ops a.tmps) = false → skipOp o st (fun st' => evOps E call ops.toList rest st' K) = some r → wpOps Pg ops Q (List.range' i (rest.length + 1)) a w := by
      intro hw hk
      rw [List.range'_succ]
      simp only [wpOps, ho, hw, Bool.false_eq_true, if_false]
      exact skipOp_ok (o := o) g hk fun st' a' M' w' g' s' hk' => next g' s' hk'
    simp only [evOps] at hr
    simp only [List.length_cons]
    cases hg : o.guard with
    | none =>
      simp only [hg] at hr
      exact hwp (by simp [Region.wanted, hg]) hr
    | some p =>
      obtain ⟨j, want⟩ := p
      simp only [hg] at hr
      split at hr
      case h_2 => cases hr
      rename_i oj hoj
      split at hr
      case h_2 => cases hr
      rename_i t ht
      have hoj' : ops[j]? = some oj := by rw [← Array.getElem?_toList]; exact hoj
      split at hr
      · rename_i b hb
        have hF := g.F t
        rw [hb] at hF
        have hF := getD_bool (repV_bool hF)
        have hy : yielded ops a.tmps j = some b := by simp [yielded, hoj', ht, hF]
        have hr := cond_some hr
        cases b with
        | true =>
          simp only [if_true] at hr
          rw [refine1_eq hb] at hr
          cases want with
          | true => exact hwp (by simp [Region.wanted, hg, hy]) hr
          | false => exact hsk (by simp [Region.wanted, hg, hy]) hr
        | false =>
          simp only [Bool.false_eq_true, if_false] at hr
          rw [refine1_eq hb] at hr
          cases want with
          | true => exact hsk (by simp [Region.wanted, hg, hy]) hr
          | false => exact hwp (by simp [Region.wanted, hg, hy]) hr
      · rename_i hb
        have hF := g.F t
        rw [hb] at hF
        simp only [RepV, RepT] at hF
        obtain ⟨vs, hv, hvs⟩ := hF
        have hy : yielded ops a.tmps j = none := by
          simp only [yielded, hoj', ht, Option.bind_some]
          rw [Array.getD_eq_getD_getElem?] at hv
          cases q : a.tmps[t]? with
          | none => rfl
          | some u => rw [q] at hv; simp only [Option.getD_some] at hv; rw [hv]
        exact hsk (by simp [Region.wanted, hg, hy]) hr
      · cases hr

theorem region_ok (HE : EnvOk Pg G E) (hG : G w0) {call : Handler} (HC : HandlerOk Pg G S B w0 call) {ops : Array Oper} {Q : Exit → Act → World → Prop} {id : Nat} {K : St → Option ρ}
    (g : Good S B w0 st a M w) (hr : evOps E call ops.toList ops.toList st K = some r) (hX : Then S B w0 st a M w K r (Q .normal)) : (Code.region id ops false).wp Pg Q a w := by
  apply wp_region
  have := evOps_ok HE hG HC (Q := Q) ops.toList 0 st a M w K (by simp) g hr hX
  rwa [List.range_eq_range', ← Array.length_toList]
end Go.PG

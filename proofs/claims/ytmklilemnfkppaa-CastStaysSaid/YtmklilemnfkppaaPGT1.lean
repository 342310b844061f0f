/- The evaluator's soundness: types, parts of values. -/
import Derived.Test.YtmklilemnfkppaaPGH
set_option linter.all false
namespace Go.PG
open Go.RowKit

/-! ### how many cells -/
theorem Rep1.len {c : Cx} {v : AV} {cs : List Value} (h : Rep1 c v cs) : cs.length = 1 := by
  obtain ⟨u, rfl, _⟩ := h.one; rfl

theorem fits_len {c : Cx} : ∀ (v : AV) (L : Ty) (cs : List Value), fitsT v L = true → RepC c v cs → cs.length = L.size := by
  intro v
  induction v with
  | data t x =>
    intro L cs f h
    simp only [fitsT, decide_eq_true_eq] at f
    subst f
    simp only [RepC] at h
    exact h.len
  | st a ih =>
    intro L cs f h
    cases L with
    | st b => simp only [fitsT] at f; simp only [RepC] at h; exact ih b cs f h
    | _ => simp [fitsT] at f
  | pr a r iha ihr =>
    intro L cs f h
    cases L with
    | pair ta tr =>
      simp only [fitsT] at f
      split at f
      · rename_i fa
        simp only [RepC] at h
        obtain ⟨c1, c2, rfl, h1, h2⟩ := h
        simp [Ty.size, iha ta c1 fa h1, ihr tr c2 f h2]
      · cases f
    | _ => simp [fitsT] at f
  | undef =>
    intro L cs f h
    simp only [RepC] at h
    obtain ⟨v, rfl, _⟩ := h
    cases L <;> first | rfl | simp [fitsT] at f
  | nilS e => intro L cs f h; simp only [RepC] at h; rw [h.len]; cases L <;> first | rfl | simp [fitsT] at f
  | own id => intro L cs f h; simp only [RepC] at h; rw [h.len]; cases L <;> first | rfl | simp [fitsT] at f
  | ptr id p => intro L cs f h; simp only [RepC] at h; rw [h.len]; cases L <;> first | rfl | simp [fitsT] at f
  | rptr t x => intro L cs f h; simp only [RepC] at h; rw [h.len]; cases L <;> first | rfl | simp [fitsT] at f
  | eptr id i p => intro L cs f h; simp only [RepC] at h; rw [h.len]; cases L <;> first | rfl | simp [fitsT] at f
  | fn g d => intro L cs f h; simp only [RepC] at h; obtain ⟨vs, rfl, _⟩ := h; cases L <;> first | rfl | simp [fitsT] at f
  | unit => intro L cs f h; cases L <;> simp [fitsT] at f
  | tup b => intro L cs f h; cases L <;> simp [fitsT] at f

/-! ### parts of data -/
theorem comp_rep {Z : Nat → Prop} {w : World} : ∀ (b : Ty) (j : Nat) (x : b.D) (q : Σ t : Ty, t.D) (cs : List Value), compD b j x = some q → RepD Z w b x cs →
    b.nth j = some q.1 ∧ ∃ c1 c c2, cs = c1 ++ c ++ c2 ∧ c1.length = b.off j ∧ RepD Z w q.1 q.2 c := by
  intro b
  induction b with
  | pair a r iha ihr =>
    intro j x q cs hq h
    simp only [RepD] at h
    obtain ⟨c1, c2, rfl, h1, h2⟩ := h
    cases j with
    | zero =>
      simp only [compD] at hq
      injection hq with hq
      subst hq
      exact ⟨rfl, [], c1, c2, by simp, rfl, h1⟩
    | succ j =>
      simp only [compD] at hq
      obtain ⟨e, d1, d, d2, rfl, hl, hd⟩ := ihr j x.2 q c2 hq h2
      exact ⟨e, c1 ++ d1, d, d2, by simp, by simp [Ty.off, hl, h1.len], hd⟩
  | _ =>
    intro j x q cs hq h
    cases j with
    | zero =>
      simp only [compD] at hq
      injection hq with hq
      subst hq
      exact ⟨rfl, [], cs, [], by simp, rfl, h⟩
    | succ j => simp [compD] at hq

theorem upd_rep {Z : Nat → Prop} {w : World} : ∀ (b : Ty) (j : Nat) (x : b.D) (t : Ty) (y : t.D) (z : b.D) (cs d : List Value), updD b j x t y = some z → RepD Z w b x cs → RepD Z w t y d →
    b.nth j = some t ∧ ∃ c1 c c2, cs = c1 ++ c ++ c2 ∧ c1.length = b.off j ∧ c.length = d.length ∧ RepD Z w b z (c1 ++ d ++ c2) := by
  intro b
  induction b with
  | pair a r iha ihr =>
    intro j x t y z cs d hz h hy
    simp only [RepD] at h
    obtain ⟨c1, c2, rfl, h1, h2⟩ := h
    cases j with
    | zero =>
      simp only [updD] at hz
      split at hz
      · rename_i e
        subst e
        injection hz with hz
        subst hz
        refine ⟨rfl, [], c1, c2, by simp, rfl, by rw [h1.len, hy.len], ?_⟩
        simp only [RepD]
        exact ⟨d, c2, by simp, hy, h2⟩
      · cases hz
    | succ j =>
      simp only [updD] at hz
      split at hz
      · rename_i z' hz'
        injection hz with hz
        subst hz
        obtain ⟨e, d1, c, d2, rfl, hl, hcl, hd⟩ := ihr j x.2 t y z' c2 d hz' h2 hy
        refine ⟨e, c1 ++ d1, c, d2, by simp, by simp [Ty.off, hl, h1.len], hcl, ?_⟩
        simp only [RepD]
        exact ⟨c1, d1 ++ d ++ d2, by simp, h1, hd⟩
      · cases hz
  | _ =>
    intro j x t y z cs d hz h hy
    cases j with
    | zero =>
      simp only [updD] at hz
      split at hz
      · rename_i e
        subst e
        injection hz with hz
        subst hz
        exact ⟨rfl, [], cs, [], by simp, rfl, by rw [h.len, hy.len], by simpa using hy⟩
      · cases hz
    | succ j => simp [updD] at hz

theorem spread_rep {c : Cx} : ∀ (b : Ty) (x : b.D) (cs : List Value), RepD c.Z c.w b x cs → RepC c (spread b x) cs ∧ (fitsT (spread b x) b = true) := by
  intro b
  induction b with
  | pair a r iha ihr =>
    intro x cs h
    simp only [RepD] at h
    obtain ⟨c1, c2, rfl, h1, h2⟩ := h
    obtain ⟨h3, h4⟩ := ihr x.2 c2 h2
    refine ⟨?_, ?_⟩
    · simp only [spread, RepC]
      exact ⟨c1, c2, rfl, h1, h3⟩
    · simp [spread, fitsT, h4]
  | _ => intro x cs h; exact ⟨by simpa only [spread, RepC] using h, by simp [spread, fitsT]⟩

/-! ### parts of values -/
theorem compP_rep {c : Cx} : ∀ (v : AV) (b : Ty) (j : Nat) (u : AV) (cs : List Value), compP v j = some u → fitsT v b = true → RepC c v cs →
    ∃ t, b.nth j = some t ∧ fitsT u t = true ∧ ∃ c1 d c2, cs = c1 ++ d ++ c2 ∧ c1.length = b.off j ∧ RepC c u d := by
  intro v
  induction v with
  | pr a r iha ihr =>
    intro b j u cs hu f h
    cases b with
    | pair ta tr =>
      simp only [fitsT] at f
      split at f
      · rename_i fa
        simp only [RepC] at h
        obtain ⟨c1, c2, rfl, h1, h2⟩ := h
        cases j with
        | zero =>
          simp only [compP] at hu
          injection hu with hu
          subst hu
          exact ⟨ta, rfl, fa, [], c1, c2, by simp, rfl, h1⟩
        | succ j =>
          simp only [compP] at hu
          obtain ⟨t, e, fu, d1, d, d2, rfl, hl, hd⟩ := ihr tr j u c2 hu f h2
          exact ⟨t, e, fu, c1 ++ d1, d, d2, by simp, by simp [Ty.off, hl, fits_len a ta c1 fa h1], hd⟩
      · cases f
    | _ => simp [fitsT] at f
  | data t x =>
    intro b j u cs hu f h
    simp only [fitsT, decide_eq_true_eq] at f
    subst f
    simp only [compP] at hu
    split at hu
    · rename_i q hq
      injection hu with hu
      subst hu
      simp only [RepC] at h
      obtain ⟨e, c1, d, c2, e2, hl, hd⟩ := comp_rep t j x q cs hq h
      exact ⟨q.1, e, by simp [fitsT], c1, d, c2, e2, hl, by simpa only [RepC] using hd⟩
    · cases hu
  | _ =>
    intro b j u cs hu f h
    cases j with
    | zero =>
      simp only [compP] at hu
      injection hu with hu
      subst hu
      cases b <;> first | (simp [fitsT] at f; done) | exact ⟨_, rfl, f, [], cs, [], by simp, rfl, h⟩
    | succ j => simp [compP] at hu

theorem av_comp {c : Cx} {v : AV} {L : Ty} {j : Nat} {u : AV} {cs : List Value} (hu : v.comp j = some u) (f : fitsT v L = true) (h : RepC c v cs) :
    ∃ b t, L = .st b ∧ b.nth j = some t ∧ fitsT u t = true ∧ ∃ c1 d c2, cs = c1 ++ d ++ c2 ∧ c1.length = b.off j ∧ RepC c u d := by
  cases v with
  | data t x =>
    cases t with
    | st b =>
      simp only [fitsT, decide_eq_true_eq] at f
      subst f
      simp only [AV.comp] at hu
      split at hu
      · rename_i q hq
        injection hu with hu
        subst hu
        simp only [RepC, RepD] at h
        obtain ⟨e, c1, d, c2, e2, hl, hd⟩ := comp_rep b j x q cs hq h
        exact ⟨b, q.1, rfl, e, by simp [fitsT], c1, d, c2, e2, hl, by simpa only [RepC] using hd⟩
      · cases hu
    | _ => simp [AV.comp] at hu
  | st a =>
    cases L with
    | st b =>
      simp only [fitsT] at f
      simp only [AV.comp] at hu
      simp only [RepC] at h
      obtain ⟨t, e, fu, r⟩ := compP_rep a b j u cs hu f h
      exact ⟨b, t, rfl, e, fu, r⟩
    | _ => simp [fitsT] at f
  | _ => simp [AV.comp] at hu

/-- A part at the end of a way. -/
theorem av_get {c : Cx} : ∀ (p : List Nat) (v : AV) (L : Ty) (u : AV) (cs : List Value) (o : Nat) (t : Ty), v.get p = some u → offs L p = some (o, t) → fitsT v L = true → RepC c v cs →
    fitsT u t = true ∧ ∃ c1 d c2, cs = c1 ++ d ++ c2 ∧ c1.length = o ∧ RepC c u d := by
  intro p
  induction p with
  | nil =>
    intro v L u cs o t hu ho f h
    simp only [AV.get] at hu
    injection hu with hu
    subst hu
    simp only [offs] at ho
    injection ho with ho
    injection ho with h1 h2
    subst h1; subst h2
    exact ⟨f, [], cs, [], by simp, rfl, h⟩
  | cons j p ih =>
    intro v L u cs o t hu ho f h
    simp only [AV.get] at hu
    split at hu
    · rename_i x hx
      obtain ⟨b, t', rfl, e, fx, c1, d, c2, rfl, hl, hd⟩ := av_comp hx f h
      simp only [offs, e] at ho
      split at ho
      · rename_i o' u' ho'
        injection ho with ho
        injection ho with h1 h2
        subst h1; subst h2
        obtain ⟨fu, d1, d', d2, rfl, hl', hd'⟩ := ih x t' u d o' u' hu ho' fx hd
        exact ⟨fu, c1 ++ d1, d', d2 ++ c2, by simp, by simp [hl, hl'], hd'⟩
      · cases ho
    · cases hu

theorem updS_rep {c : Cx} : ∀ (b : Ty) (x : b.D) (j : Nat) (y z : AV) (cs d : List Value) (t : Ty), updS (spread b x) j y = some z → b.nth j = some t → fitsT y t = true → RepD c.Z c.w b x cs → RepC c y d →
    fitsT z b = true ∧ ∃ c1 e c2, cs = c1 ++ e ++ c2 ∧ c1.length = b.off j ∧ e.length = d.length ∧ RepC c z (c1 ++ d ++ c2) := by
  intro b
  induction b with
  | pair a r iha ihr =>
    intro x j y z cs d t hz hn fy h hy
    simp only [RepD] at h
    obtain ⟨c1, c2, rfl, h1, h2⟩ := h
    obtain ⟨h3, h4⟩ := spread_rep (c := c) r x.2 c2 h2
    cases j with
    | zero =>
      simp only [spread, updS] at hz
      injection hz with hz
      subst hz
      simp only [Ty.nth] at hn
      injection hn with hn
      subst hn
      refine ⟨by simp [fitsT, fy, h4], [], c1, c2, by simp, rfl, by rw [h1.len, fits_len y a d fy hy], ?_⟩
      simp only [RepC]
      exact ⟨d, c2, by simp, hy, h3⟩
    | succ j =>
      simp only [spread, updS] at hz
      split at hz
      · rename_i z' hz'
        injection hz with hz
        subst hz
        simp only [Ty.nth] at hn
        obtain ⟨f, d1, e, d2, rfl, hl, hel, hd⟩ := ihr x.2 j y z' c2 d t hz' hn fy h2 hy
        refine ⟨by simp [fitsT, f], c1 ++ d1, e, d2, by simp, by simp [Ty.off, hl, h1.len], hel, ?_⟩
        simp only [RepC]
        exact ⟨c1, d1 ++ d ++ d2, by simp, by simpa only [RepC] using h1, hd⟩
      · cases hz
  | _ =>
    intro x j y z cs d t hz hn fy h hy
    cases j with
    | zero =>
      simp only [spread, updS] at hz
      injection hz with hz
      subst hz
      simp only [Ty.nth] at hn
      injection hn with hn
      subst hn
      exact ⟨fy, [], cs, [], by simp, rfl, by rw [h.len, fits_len y _ d fy hy], by simpa using hy⟩
    | succ j => simp [Ty.nth] at hn

theorem updP_rep {c : Cx} : ∀ (v : AV) (b : Ty) (j : Nat) (y z : AV) (cs d : List Value) (t : Ty), updP v j y = some z → fitsT v b = true → b.nth j = some t → fitsT y t = true → RepC c v cs → RepC c y d →
    fitsT z b = true ∧ ∃ c1 e c2, cs = c1 ++ e ++ c2 ∧ c1.length = b.off j ∧ e.length = d.length ∧ RepC c z (c1 ++ d ++ c2) := by
  intro v
  induction v with
  | pr a r iha ihr =>
    intro b j y z cs d t hz f hn fy h hy
    cases b with
    | pair ta tr =>
      simp only [fitsT] at f
      split at f
      · rename_i fa
        simp only [RepC] at h
        obtain ⟨c1, c2, rfl, h1, h2⟩ := h
        cases j with
        | zero =>
          simp only [updP] at hz
          injection hz with hz
          subst hz
          simp only [Ty.nth] at hn
          injection hn with hn
          subst hn
          refine ⟨by simp [fitsT, fy, f], [], c1, c2, by simp, rfl, by rw [fits_len a ta c1 fa h1, fits_len y ta d fy hy], ?_⟩
          simp only [RepC]
          exact ⟨d, c2, by simp, hy, h2⟩
        | succ j =>
          simp only [updP] at hz
          split at hz
          · rename_i z' hz'
            injection hz with hz
            subst hz
            simp only [Ty.nth] at hn
            obtain ⟨fz, d1, e, d2, rfl, hl, hel, hd⟩ := ihr tr j y z' c2 d t hz' f hn fy h2 hy
            refine ⟨by simp [fitsT, fa, fz], c1 ++ d1, e, d2, by simp, by simp [Ty.off, hl, fits_len a ta c1 fa h1], hel, ?_⟩
            simp only [RepC]
            exact ⟨c1, d1 ++ d ++ d2, by simp, h1, hd⟩
          · cases hz
      · cases f
    | _ => simp [fitsT] at f
  | data t' x =>
    intro b j y z cs d t hz f hn fy h hy
    simp only [fitsT, decide_eq_true_eq] at f
    subst f
    simp only [RepC] at h
    have key : ∀ (hz' : updS (spread t' x) j y = some z), fitsT z t' = true ∧ ∃ c1 e c2, cs = c1 ++ e ++ c2 ∧ c1.length = t'.off j ∧ e.length = d.length ∧ RepC c z (c1 ++ d ++ c2) :=
      fun hz' => updS_rep t' x j y z cs d t hz' hn fy h hy
    cases y with
    | data u q =>
      simp only [updP] at hz
      split at hz
      · rename_i z' hz'
        injection hz with hz
        subst hz
        simp only [RepC] at hy
        obtain ⟨e, c1, e', c2, e2, hl, hel, hd⟩ := upd_rep t' j x u q z' cs d hz' h hy
        exact ⟨by simp [fitsT], c1, e', c2, e2, hl, hel, by simpa only [RepC] using hd⟩
      · cases hz
    | _ => exact key (by simpa only [updP] using hz)
  | _ =>
    intro b j y z cs d t hz f hn fy h hy
    cases j with
    | zero =>
      simp only [updP] at hz
      injection hz with hz
      subst hz
      cases b <;> first
        | (simp [fitsT] at f; done)
        | (simp only [Ty.nth] at hn
           injection hn with hn
           subst hn
           exact ⟨fy, [], cs, [], by simp, rfl, by rw [fits_len _ _ cs f h, fits_len _ _ d fy hy], by simpa using hy⟩)
    | succ j => simp [updP] at hz

theorem av_upd {c : Cx} {v : AV} {b : Ty} {j : Nat} {y z : AV} {cs d : List Value} {t : Ty} (hz : v.upd j y = some z) (f : fitsT v (.st b) = true) (hn : b.nth j = some t) (fy : fitsT y t = true)
    (h : RepC c v cs) (hy : RepC c y d) : fitsT z (.st b) = true ∧ ∃ c1 e c2, cs = c1 ++ e ++ c2 ∧ c1.length = b.off j ∧ e.length = d.length ∧ RepC c z (c1 ++ d ++ c2) := by
  cases v with
  | data t' x =>
    simp only [fitsT, decide_eq_true_eq] at f
    subst f
    simp only [RepC, RepD] at h
    have key : ∀ z', updS (spread b x) j y = some z' → z = .st z' → fitsT z (.st b) = true ∧ ∃ c1 e c2, cs = c1 ++ e ++ c2 ∧ c1.length = b.off j ∧ e.length = d.length ∧ RepC c z (c1 ++ d ++ c2) := by
      intro z' hz' e
      subst e
      obtain ⟨fz, r⟩ := updS_rep b x j y z' cs d t hz' hn fy h hy
      exact ⟨by simpa only [fitsT] using fz, by simpa only [RepC] using r⟩
    cases y with
    | data u q =>
      simp only [AV.upd] at hz
      split at hz
      · rename_i z' hz'
        injection hz with hz
        subst hz
        simp only [RepC] at hy
        obtain ⟨e, c1, e', c2, e2, hl, hel, hd⟩ := upd_rep b j x u q z' cs d hz' h hy
        exact ⟨by simp [fitsT], c1, e', c2, e2, hl, hel, by simpa only [RepC, RepD] using hd⟩
      · cases hz
    | _ =>
      simp only [AV.upd] at hz
      split at hz
      · rename_i z' hz'
        injection hz with hz
        exact key z' hz' hz.symm
      · cases hz
  | st a =>
    simp only [fitsT] at f
    simp only [RepC] at h
    simp only [AV.upd] at hz
    split at hz
    · rename_i z' hz'
      injection hz with hz
      subst hz
      obtain ⟨fz, r⟩ := updP_rep a b j y z' cs d t hz' f hn fy h hy
      exact ⟨by simpa only [fitsT] using fz, by simpa only [RepC] using r⟩
    · cases hz
  | _ => simp [fitsT] at f

/-- A part at the end of a way, written. -/
theorem av_set {c : Cx} : ∀ (p : List Nat) (v : AV) (L : Ty) (y z : AV) (cs d : List Value) (o : Nat) (t : Ty), v.set p y = some z → offs L p = some (o, t) → fitsT v L = true → fitsT y t = true → RepC c v cs → RepC c y d →
    fitsT z L = true ∧ ∃ c1 e c2, cs = c1 ++ e ++ c2 ∧ c1.length = o ∧ e.length = d.length ∧ RepC c z (c1 ++ d ++ c2) := by
  intro p
  induction p with
  | nil =>
    intro v L y z cs d o t hz ho f fy h hy
    simp only [AV.set] at hz
    injection hz with hz
    subst hz
    simp only [offs] at ho
    injection ho with ho
    injection ho with h1 h2
    subst h1; subst h2
    exact ⟨fy, [], cs, [], by simp, rfl, by rw [fits_len v L cs f h, fits_len y L d fy hy], by simpa using hy⟩
  | cons j p ih =>
    intro v L y z cs d o t hz ho f fy h hy
    simp only [AV.set] at hz
    split at hz
    · rename_i x hx
      split at hz
      · rename_i x' hx'
        obtain ⟨b, t', rfl, e, fx, c1, e1, c2, rfl, hl, hd⟩ := av_comp hx f h
        simp only [offs, e] at ho
        split at ho
        · rename_i o' u' ho'
          injection ho with ho
          injection ho with h1 h2
          subst h1; subst h2
          obtain ⟨fx', d1, e2, d2, rfl, hl', hel, hd'⟩ := ih x t' y x' e1 d o' u' hx' ho' fx fy hd hy
          obtain ⟨fz, g1, g, g2, eg, hlg, hgl, hg⟩ := av_upd hz f e fx' h hd'
          have hg1 : g1 = c1 := List.append_inj_left (by simpa using eg.symm) (by omega)
          subst hg1
          have eg2 : e2.length = d.length := hel
          have : g ++ g2 = (d1 ++ e2 ++ d2) ++ c2 := by
            have := List.append_cancel_left (as := g1) (by simpa using eg.symm)
            simpa using this
          obtain ⟨hg3, hg4⟩ := List.append_inj this (by simp [hgl, eg2])
          subst hg4
          exact ⟨fz, g1 ++ d1, e2, d2 ++ g2, by simp, by simp [hl, hl'], hel, by simpa using hg⟩
        · cases ho
      · cases hz
    · cases hz
end Go.PG

/- The evaluator's soundness: what a loop hands on. -/
import Derived.Test.YtmklilemnfkppaaPGP
set_option linter.all false
namespace Go.PG
open Go.RowKit

variable {Pg : Program} {G : World → Prop} {E : Env} {S : Nat → Prop} {B : Nat} {w0 w w' w'' : World} {h h' : Hp} {M M' M'' : Nat → Bk} {ρ : Type} {r : ρ} {st st' st'' b s s2 : St} {a a' a'' : Act} {o : Oper}

/-- A context behind: M', h', w': the state that is read. lo ≤ i < hi: the new ids. -/
structure Fin (S : Nat → Prop) (h' : Hp) (M' : Nat → Bk) (w' : World) (c0 c : Cx) (ds : List Nat) (lo hi : Nat) (e : Nat → Option Ent) (M : Nat → Bk) : Prop where
  w : c.w = w'
  Z : ∀ b, c.Z b → (cx S h' M' w').Z b
  ds : ∀ id ∈ ds, ∀ b, h'.e id ≠ none → (M' id).blk = some b → ¬ c.Z b
  new : ∀ i, lo ≤ i → i < hi → c.h i = e i ∧ c.M i = M i
  nx : hi ≤ c.nx
  tr : Tr c0 c

structure New (h' : Hp) (M' : Nat → Bk) (lo hi : Nat) (e : Nat → Option Ent) (M : Nat → Bk) (g : Nat → Option Nat) (os : List Nat) : Prop where
  row : ∀ i, lo ≤ i → i < hi → ∃ t xs, e i = some (.row t xs) ∧ ((∃ id, id ∈ os ∧ g i = some id ∧ h'.e id = some (.row t xs) ∧ M i = M' id) ∨ (g i = none ∧ xs = [] ∧ ∃ A, M i = .row A 0 0))
  inj : os.Nodup → ∀ i j id, lo ≤ i → i < hi → lo ≤ j → j < hi → g i = some id → g j = some id → i = j

theorem New.empty (h' : Hp) (M' : Nat → Bk) (lo : Nat) (e : Nat → Option Ent) (M : Nat → Bk) (g : Nat → Option Nat) (os : List Nat) : New h' M' lo lo e M g os :=
  ⟨fun i h1 h2 => by omega, fun _ i j id h1 h2 => by omega⟩

theorem New.join {lo mi hi : Nat} {e1 e : Nat → Option Ent} {M1 M : Nat → Bk} {g1 g2 : Nat → Option Nat} {o1 o2 : List Nat} (n1 : New h' M' lo mi e1 M1 g1 o1) (n2 : New h' M' mi hi e M g2 o2)
    (h1 : lo ≤ mi) (h2 : mi ≤ hi) (he : ∀ i, i < mi → e i = e1 i) (hM : ∀ i, i < mi → M i = M1 i) : New h' M' lo hi e M (fun i => if i < mi then g1 i else g2 i) (o1 ++ o2) := by
  have mem1 : ∀ i id, lo ≤ i → i < mi → g1 i = some id → id ∈ o1 := by
    intro i id a b q
    obtain ⟨t, xs, _, ⟨id', m, q', _⟩ | ⟨q', _⟩⟩ := n1.row i a b
    · rw [q] at q'; injection q' with q'; subst q'; exact m
    · rw [q] at q'; cases q'
  have mem2 : ∀ i id, mi ≤ i → i < hi → g2 i = some id → id ∈ o2 := by
    intro i id a b q
    obtain ⟨t, xs, _, ⟨id', m, q', _⟩ | ⟨q', _⟩⟩ := n2.row i a b
    · rw [q] at q'; injection q' with q'; subst q'; exact m
    · rw [q] at q'; cases q'
  refine ⟨fun i a b => ?_, fun nd i j id a1 b1 a2 b2 q1 q2 => ?_⟩
  · by_cases hi : i < mi
    · obtain ⟨t, xs, q, r⟩ := n1.row i a hi
      refine ⟨t, xs, (he i hi).trans q, ?_⟩
      simp only [hi, if_true]
      rcases r with ⟨id, m, r1, r2, r3⟩ | ⟨r1, r2, A, r3⟩
      · exact .inl ⟨id, List.mem_append_left _ m, r1, r2, (hM i hi).trans r3⟩
      · exact .inr ⟨r1, r2, A, (hM i hi).trans r3⟩
    · obtain ⟨t, xs, q, r⟩ := n2.row i (by omega) b
      refine ⟨t, xs, q, ?_⟩
      simp only [hi, if_false]
      rcases r with ⟨id, m, r1, r2, r3⟩ | r
      · exact .inl ⟨id, List.mem_append_right _ m, r1, r2, r3⟩
      · exact .inr r
  · obtain ⟨nd1, nd2, nd3⟩ := List.nodup_append.1 nd
    by_cases hi : i < mi
    · by_cases hj : j < mi
      · simp only [hi, hj, if_true] at q1 q2
        exact n1.inj nd1 i j id a1 hi a2 hj q1 q2
      · simp only [hi, hj, if_true, if_false] at q1 q2
        exact absurd rfl (nd3 id (mem1 i id a1 hi q1) id (mem2 j id (by omega) b2 q2))
    · by_cases hj : j < mi
      · simp only [hi, hj, if_true, if_false] at q1 q2
        exact absurd rfl (nd3 id (mem1 j id a2 hj q2) id (mem2 i id (by omega) b1 q1))
      · simp only [hi, hj, if_false] at q1 q2
        exact n2.inj nd2 i j id (by omega) b1 (by omega) b2 q1 q2

theorem Fin.sub {c0 c : Cx} {ds ds1 : List Nat} {lo lo1 hi hi1 : Nat} {e e1 : Nat → Option Ent} {M1 : Nat → Bk} (f : Fin S h' M' w' c0 c ds lo hi e M) (hd : ∀ i ∈ ds1, i ∈ ds) (h1 : lo ≤ lo1) (h2 : hi1 ≤ hi)
    (he : ∀ i, i < hi1 → e i = e1 i) (hM : ∀ i, i < hi1 → M i = M1 i) : Fin S h' M' w' c0 c ds1 lo1 hi1 e1 M1 :=
  ⟨f.w, f.Z, fun id q => f.ds id (hd id q), fun i a b => by
    obtain ⟨q1, q2⟩ := f.new i (by omega) (by omega)
    exact ⟨q1.trans (he i b), q2.trans (hM i b)⟩, Nat.le_trans h2 f.nx, f.tr⟩

theorem packSh_ok (H' : HInv S B w0 h' M' w') {c0 : Cx} : ∀ (sh : Sh) (v : AV) (x : sh.D) (os ds : List Nat) (h : Hp) (M : Nat → Bk) (cs : List Value), unSh h' sh v = some (x, os, ds) → RepC (cx S h' M' w') v cs →
    ∃ M2 g, h.next ≤ (packSh sh x h).2.next ∧ (packSh sh x h).2.lk = h.lk ∧ (∀ i, i < h.next → M2 i = M i ∧ (packSh sh x h).2.e i = h.e i) ∧ ((∀ i, h.next ≤ i → h.e i = none) → ∀ i, (packSh sh x h).2.next ≤ i → (packSh sh x h).2.e i = none) ∧
      New h' M' h.next (packSh sh x h).2.next (packSh sh x h).2.e M2 g os ∧ ∀ c, Fin S h' M' w' c0 c ds h.next (packSh sh x h).2.next (packSh sh x h).2.e M2 → RepC c (packSh sh x h).1 cs := by
  intro sh
  induction sh with
  | d t =>
    intro v x os ds h M cs hu hr
    simp only [unSh] at hu
    split at hu
    case h_2 => cases hu
    rename_i x' hx
    injection hu with hu
    injection hu with h1 h2
    injection h2 with h2 h3
    subst h1; subst h2; subst h3
    refine ⟨M, fun _ => none, Nat.le_refl _, rfl, fun _ _ => ⟨rfl, rfl⟩, fun q => q, New.empty _ _ _ _ _ _ _, fun c f => ?_⟩
    simp only [packSh, RepC]
    rw [f.w]
    exact toD_rep H' f.Z v t _ cs f.ds hx hr
  | o e =>
    intro v x os ds h M cs hu hr
    simp only [unSh] at hu
    split at hu
    · rename_i xs id hx
      injection hu with hu
      injection hu with h1 h2
      injection h2 with h2 h3
      subst h1; subst h2; subst h3
      have hrow : h'.e id = some (.row e xs) := by
        simp only [toD] at hx
        split at hx
        · rename_i e' ys q
          split at hx
          · rename_i qq
            subst qq
            injection hx with hx
            subst hx
            exact q
          · cases hx
        · cases hx
      simp only [RepC, Rep1] at hr
      obtain ⟨_, A, n, cap, rfl, hM⟩ := hr
      have hM : M' id = .row A n cap := by
        rcases hM with q | q
        · simp only [cx] at q; rw [hrow] at q; cases q
        · exact q
      refine ⟨set1 M h.next (M' id), fun _ => some id, Nat.le_succ _, rfl, fun i hi => ?_, fun q i hi => ?_, ⟨fun i h1 h2 => ?_, fun _ i j _ h1 h2 h3 h4 _ _ => ?_⟩, fun c f => ?_⟩
      · simp [packSh, Hp.new, set1, beq_false (Nat.ne_of_lt hi)]
      · simp only [packSh, Hp.new] at hi
        simp [packSh, Hp.new, set1, beq_false (show i ≠ h.next by omega), q i (by omega)]
      · simp only [packSh, Hp.new] at h2
        have : i = h.next := by omega
        subst this
        exact ⟨e, xs, by simp [packSh, Hp.new, set1, Nat.beq_refl], .inl ⟨id, by simp, rfl, hrow, by simp [set1, Nat.beq_refl]⟩⟩
      · simp only [packSh, Hp.new] at h2 h4
        omega
      · have h1 := f.new h.next (Nat.le_refl _) (by simp [packSh, Hp.new])
        have h2 := f.nx
        simp only [packSh, Hp.new] at h2
        simp only [packSh, RepC, Rep1]
        refine ⟨by omega, A, n, cap, rfl, .inr ?_⟩
        rw [h1.2, ← hM]
        simp [set1, Nat.beq_refl]
    · rename_i xs e' hx
      injection hu with hu
      injection hu with h1 h2
      injection h2 with h2 h3
      subst h1; subst h2; subst h3
      have hnil : xs = [] := by
        simp only [toD] at hx
        injection hx with hx
        exact hx.symm
      subst hnil
      simp only [RepC, Rep1] at hr
      obtain ⟨A, rfl⟩ := hr
      refine ⟨set1 M h.next (.row A 0 0), fun _ => none, Nat.le_succ _, rfl, fun i hi => ?_, fun q i hi => ?_, ⟨fun i h1 h2 => ?_, fun _ i j _ h1 h2 h3 h4 _ _ => ?_⟩, fun c f => ?_⟩
      · simp [packSh, Hp.new, set1, beq_false (Nat.ne_of_lt hi)]
      · simp only [packSh, Hp.new] at hi
        simp [packSh, Hp.new, set1, beq_false (show i ≠ h.next by omega), q i (by omega)]
      · simp only [packSh, Hp.new] at h2
        have : i = h.next := by omega
        subst this
        exact ⟨e, [], by simp [packSh, Hp.new, set1, Nat.beq_refl], .inr ⟨rfl, rfl, A, by simp [set1, Nat.beq_refl]⟩⟩
      · simp only [packSh, Hp.new] at h2 h4
        omega
      · have h1 := f.new h.next (Nat.le_refl _) (by simp [packSh, Hp.new])
        have h2 := f.nx
        simp only [packSh, Hp.new] at h2
        simp only [packSh, RepC, Rep1]
        refine ⟨by omega, A, 0, 0, rfl, .inr ?_⟩
        rw [h1.2]
        simp [set1, Nat.beq_refl]
    · cases hu
  | p p q ihp ihq =>
    intro v x os ds h M cs hu hr
    cases v with
    | pr u v =>
      simp only [unSh] at hu
      split at hu
      case h_2 => cases hu
      rename_i x1 o1 d1 hx1
      split at hu
      case h_2 => cases hu
      rename_i x2 o2 d2 hx2
      injection hu with hu
      injection hu with h1 h2
      injection h2 with h2 h3
      subst h1; subst h2; subst h3
      simp only [RepC] at hr
      obtain ⟨c1, c2, rfl, hr1, hr2⟩ := hr
      obtain ⟨M1, g1, a1, a2, a3, a4, a5, a6⟩ := ihp u x1 o1 d1 h M c1 hx1 hr1
      obtain ⟨M2, g2, b1, b2, b3, b4, b5, b6⟩ := ihq v x2 o2 d2 (packSh p x1 h).2 M1 c2 hx2 hr2
      refine ⟨M2, _, Nat.le_trans a1 b1, b2.trans a2, fun i hi => ?_, fun z => b4 (a4 z), New.join a5 b5 a1 b1 (fun i hi => (b3 i hi).2) (fun i hi => (b3 i hi).1), fun c f => ?_⟩
      · obtain ⟨q1, q2⟩ := a3 i hi
        obtain ⟨q3, q4⟩ := b3 i (Nat.lt_of_lt_of_le hi a1)
        exact ⟨q3.trans q1, q4.trans q2⟩
      · simp only [packSh, RepC]
        refine ⟨c1, c2, rfl, a6 c (f.sub (fun i q => List.mem_append_left _ q) (Nat.le_refl _) b1 (fun i hi => (b3 i hi).2) (fun i hi => (b3 i hi).1)), b6 c (f.sub (fun i q => List.mem_append_right _ q) a1 (Nat.le_refl _) (fun _ _ => rfl) (fun _ _ => rfl))⟩
    | _ => simp [unSh] at hu
  | s p ih =>
    intro v x os ds h M cs hu hr
    cases v with
    | st v =>
      simp only [unSh] at hu
      simp only [RepC] at hr
      obtain ⟨M2, g, a1, a2, a3, a4, a5, a6⟩ := ih v x os ds h M cs hu hr
      refine ⟨M2, g, a1, a2, a3, a4, a5, fun c f => ?_⟩
      simp only [packSh, RepC]
      exact a6 c f
    | _ => simp [unSh] at hu

theorem packSh_okV (H' : HInv S B w0 h' M' w') {c0 : Cx} : ∀ (sh : Sh) (v : AV) (x : sh.D) (os ds : List Nat) (h : Hp) (M : Nat → Bk) (u : Value), unSh h' sh v = some (x, os, ds) → RepV (cx S h' M' w') v u →
    ∃ M2 g, h.next ≤ (packSh sh x h).2.next ∧ (packSh sh x h).2.lk = h.lk ∧ (∀ i, i < h.next → M2 i = M i ∧ (packSh sh x h).2.e i = h.e i) ∧ ((∀ i, h.next ≤ i → h.e i = none) → ∀ i, (packSh sh x h).2.next ≤ i → (packSh sh x h).2.e i = none) ∧
      New h' M' h.next (packSh sh x h).2.next (packSh sh x h).2.e M2 g os ∧ ∀ c, Fin S h' M' w' c0 c ds h.next (packSh sh x h).2.next (packSh sh x h).2.e M2 → RepV c (packSh sh x h).1 u := by
  intro sh v x os ds h M u hu hr
  cases sh with
  | d t =>
    simp only [unSh] at hu
    split at hu
    case h_2 => cases hu
    rename_i x' hx
    injection hu with hu
    injection hu with h1 h2
    injection h2 with h2 h3
    subst h1; subst h2; subst h3
    refine ⟨M, fun _ => none, Nat.le_refl _, rfl, fun _ _ => ⟨rfl, rfl⟩, fun q => q, New.empty _ _ _ _ _ _ _, fun c f => ?_⟩
    simp only [packSh, RepV]
    have := toD_V H' f.Z f.ds hx hr
    rw [f.w]
    exact this
  | o e =>
    have hone : ∃ z, RepC (cx S h' M' w') v [u] ∧ v = z ∧ ((∃ id, z = .own id) ∨ ∃ e', z = .nilS e') := by
      simp only [unSh] at hu
      split at hu
      · simp only [RepV] at hr; exact ⟨_, by simpa only [RepC] using hr, rfl, .inl ⟨_, rfl⟩⟩
      · simp only [RepV] at hr; exact ⟨_, by simpa only [RepC] using hr, rfl, .inr ⟨_, rfl⟩⟩
      · cases hu
    obtain ⟨_, hC, _, _⟩ := hone
    obtain ⟨M2, g, a1, a2, a3, a4, a5, a6⟩ := packSh_ok H' (c0 := c0) (.o e) v x os ds h M [u] hu hC
    refine ⟨M2, g, a1, a2, a3, a4, a5, fun c f => ?_⟩
    have := a6 c f
    simpa only [packSh, RepV, RepC] using this
  | p p q =>
    cases v with
    | pr y z => simp only [RepV] at hr
    | _ => simp [unSh] at hu
  | s p =>
    cases v with
    | st v =>
      simp only [RepV] at hr
      obtain ⟨cs, rfl, hr⟩ := hr
      obtain ⟨M2, g, a1, a2, a3, a4, a5, a6⟩ := packSh_ok H' (c0 := c0) (.s p) (.st v) x os ds h M cs.toList hu (by simpa only [RepC] using hr)
      refine ⟨M2, g, a1, a2, a3, a4, a5, fun c f => ?_⟩
      have := a6 c f
      simp only [packSh, RepC] at this
      simp only [packSh, RepV]
      exact ⟨cs, rfl, this⟩
    | _ => simp [unSh] at hu
end Go.PG

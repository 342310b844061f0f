/- The evaluator's soundness: the items of a loop, laid anew. -/
import Derived.Test.YtmklilemnfkppaaPGR
set_option linter.all false
namespace Go.PG
open Go.RowKit

variable {Pg : Program} {G : World → Prop} {E : Env} {S : Nat → Prop} {B : Nat} {w0 w w' w'' : World} {h h' : Hp} {M0 M M' M'' : Nat → Bk} {ρ : Type} {r : ρ} {st st' st'' b s s2 s' : St} {a a' a'' : Act} {o : Oper}

theorem follow_rep {c : Cx} : ∀ (p : List Nat) (v x : AV) (u : Value), follow v p = some x → RepV c v u → ∃ u', RepV c x u' := by
  intro p
  induction p with
  | nil => intro v x u h hr; simp only [follow] at h; injection h with h; subst h; exact ⟨u, hr⟩
  | cons j p ih =>
    intro v x u h hr
    cases v with
    | fn f cc =>
      simp only [follow] at h
      split at h
      case h_2 => cases h
      rename_i y hy
      simp only [RepV] at hr
      obtain ⟨vs, rfl, hT⟩ := hr
      obtain ⟨z, _, hz⟩ := tupP_rep cc j y _ hy hT
      exact ih y x z h hz
    | _ => simp [follow] at h

/-- Items laid, from what stood in s'. -/
structure Laid (S : Nat → Prop) (c0 : Cx) (n0 : Nat) (b : St) (a' : Act) (h' : Hp) (M' : Nat → Bk) (w' : World) (s : St) (M : Nat → Bk) (g : Nat → Option Nat) (os ds ks : List Nat) : Prop where
  le : n0 ≤ s.h.next
  lk : s.h.lk = b.h.lk
  ro : s.ro = b.ro
  n : s.n = b.n
  old : ∀ i, i < n0 → M i = M' i
  keep : ∀ i, i < n0 → i ∉ ks → s.h.e i = b.h.e i
  laid : ∀ i, i ∈ ks → i < n0 ∧ ((∃ t xs, s.h.e i = some (.row t xs) ∧ h'.e i = some (.row t xs)) ∨ (∃ v2 L v0 v1 L1 bl cs el, s.h.e i = some (.box v2 L) ∧ b.h.e i = some (.box v0 L) ∧ h'.e i = some (.box v1 L1) ∧ M' i = .box bl ∧ w'.heap[bl]? = some (.cells cs el (0, 0)) ∧ fitsT v2 L = true ∧
    ∀ c, Fin S h' M' w' c0 c ds n0 s.h.next s.h.e M → RepC c v2 cs.toList))
  new : New h' M' n0 s.h.next s.h.e M g os
  fresh : ∀ i, s.h.next ≤ i → s.h.e i = none
  slot : ∀ t c, Fin S h' M' w' c0 c ds n0 s.h.next s.h.e M → RepV c (s.fr t) (a'.tmps.getD t undef)

theorem laid_start {c0 : Cx} {n0 : Nat} (hb : b.h.next = n0) (hfresh : ∀ i, n0 ≤ i → b.h.e i = none) (hs : ∀ t c, Tr c0 c → RepV c (b.fr t) (a'.tmps.getD t undef)) :
    Laid S c0 n0 b a' h' M' w' b M' (fun _ => none) [] [] [] :=
  ⟨by omega, rfl, rfl, rfl, fun _ _ => rfl, fun _ _ _ => rfl, fun i hi => absurd hi (by simp), by rw [hb]; exact New.empty _ _ _ _ _ _ _, by rw [hb]; exact hfresh, fun t c f => hs t c f.tr⟩

/-- What an item's place is, seen from the base. -/
theorem kept_lt {c0 : Cx} {fr0 : Nat → AV} (h0 : ∀ t, ∃ u, RepV c0 (fr0 t) u) {t : Nat} {p : List Nat} {x : AV} (hf : follow (fr0 t) p = some x) : (∀ id, x = .own id → id < c0.nx) ∧ (∀ id q, x = .ptr id q → id < c0.nx) := by
  obtain ⟨u, hu⟩ := h0 t
  obtain ⟨u', hu'⟩ := follow_rep p _ x u hf hu
  refine ⟨fun id e => ?_, fun id q e => ?_⟩
  · subst e; simp only [RepV, Rep1] at hu'; exact hu'.1
  · subst e; simp only [RepV, Rep1] at hu'; exact hu'.1

theorem laid_item (H' : HInv S B w0 h' M' w') {c0 : Cx} {fr0 : Nat → AV} (h0 : ∀ t, ∃ u, RepV c0 (fr0 t) u) {n0 : Nat} (hn0 : c0.nx = n0) (hs' : s'.h = h') (F' : ∀ t, RepV (cx S h' M' w') (s'.fr t) (a'.tmps.getD t undef))
    {g : Nat → Option Nat} {os ds ks : List Nat} (L : Laid S c0 n0 b a' h' M' w' s M g os ds ks) (i : Item) {x : i.D} {o1 d1 k1 : List Nat}
    (hu : unItem fr0 s' i = some (x, o1, d1)) (hk : kept1 fr0 i = some k1) (hnd : ∀ j, j ∈ ks → j ∉ k1) (hp : packItem fr0 i x s = some s2) :
    ∃ M2 g2, Laid S c0 n0 b a' h' M' w' s2 M2 g2 (os ++ o1) (ds ++ d1) (ks ++ k1) := by
  cases i with
  | var t sh =>
    simp only [kept1] at hk
    injection hk with hk
    subst hk
    simp only [unItem, hs'] at hu
    simp only [packItem] at hp
    injection hp with hp
    subst hp
    obtain ⟨M2, g2, a1, a2, a3, a4, a5, a6⟩ := packSh_okV H' (c0 := c0) sh (s'.fr t) x o1 d1 s.h M _ hu (F' t)
    have sub1 : ∀ {c}, Fin S h' M' w' c0 c (ds ++ d1) n0 (packSh sh x s.h).2.next (packSh sh x s.h).2.e M2 → Fin S h' M' w' c0 c ds n0 s.h.next s.h.e M :=
      fun f => f.sub (fun i q => List.mem_append_left _ q) (Nat.le_refl _) a1 (fun i hi => (a3 i hi).2) (fun i hi => (a3 i hi).1)
    refine ⟨M2, _, ⟨Nat.le_trans L.le a1, a2.trans L.lk, L.ro, L.n, fun i hi => ?_, fun i hi hik => ?_, fun i hi => ?_, New.join L.new a5 L.le a1 (fun i hi => (a3 i hi).2) (fun i hi => (a3 i hi).1), a4 L.fresh, fun u c f => ?_⟩⟩
    · exact (a3 i (Nat.lt_of_lt_of_le hi L.le)).1.trans (L.old i hi)
    · simp only [List.append_nil] at hik
      exact (a3 i (Nat.lt_of_lt_of_le hi L.le)).2.trans (L.keep i hi hik)
    · simp only [List.append_nil] at hi
      obtain ⟨h1, h2⟩ := L.laid i hi
      refine ⟨h1, ?_⟩
      have e := (a3 i (Nat.lt_of_lt_of_le h1 L.le)).2
      rcases h2 with ⟨t, xs, q1, q2⟩ | ⟨v2, L', v0, v1, L1, bl, cs, el, q1, q2, q3, q4, q5, q6, q7⟩
      · exact .inl ⟨t, xs, e.trans q1, q2⟩
      · exact .inr ⟨v2, L', v0, v1, L1, bl, cs, el, e.trans q1, q2, q3, q4, q5, q6, fun c f => q7 c (sub1 f)⟩
    · simp only [set1]
      split
      · rename_i e
        have := Nat.eq_of_beq_eq_true e
        subst this
        exact a6 c (f.sub (fun i q => List.mem_append_right _ q) L.le (Nat.le_refl _) (fun _ _ => rfl) (fun _ _ => rfl))
      · exact L.slot u c (sub1 f)
  | cel t p e =>
    simp only [kept1] at hk
    simp only [unItem, hs'] at hu
    simp only [packItem] at hp
    split at hk
    case h_2 => cases hk
    rename_i id hid
    injection hk with hk
    subst hk
    simp only [hid] at hu hp
    split at hu
    case h_2 => cases hu
    rename_i e' xs hrow
    split at hu
    case isFalse => cases hu
    rename_i q
    subst q
    injection hu with hu
    injection hu with h1 h2
    injection h2 with h2 h3
    subst h1; subst h2; subst h3
    injection hp with hp
    subst hp
    have hlt : id < n0 := by rw [← hn0]; exact (kept_lt h0 hid).1 id rfl
    have ne : ∀ j, j ≠ id → (s.h.put id (.row e' xs)).e j = s.h.e j := fun j q => by simp [Hp.put, set1, beq_false q]
    have at_ : (s.h.put id (.row e' xs)).e id = some (.row e' xs) := by simp [Hp.put, set1, Nat.beq_refl]
    have sub1 : ∀ {c}, Fin S h' M' w' c0 c (ds ++ []) n0 s.h.next (s.h.put id (.row e' xs)).e M → Fin S h' M' w' c0 c ds n0 s.h.next s.h.e M := by
      intro c f
      exact ⟨f.w, f.Z, fun i hi => f.ds i (by simpa using hi), fun i h1 h2 => by
        have := f.new i h1 h2
        rw [ne i (by omega)] at this
        exact this, f.nx, f.tr⟩
    refine ⟨M, g, ⟨L.le, L.lk, L.ro, L.n, L.old, fun i hi hik => ?_, fun i hi => ?_, ?_, fun i hi => ?_, fun u c f => L.slot u c (sub1 f)⟩⟩
    · have : i ≠ id := by rintro rfl; simp at hik
      show (s.h.put id (.row e' xs)).e i = _
      rw [ne i this]
      exact L.keep i hi (fun z => hik (List.mem_append_left _ z))
    · rcases List.mem_append.1 hi with hj | hi
      · have hne : i ≠ id := fun z => hnd i hj (by simp [z])
        obtain ⟨h1, h2⟩ := L.laid i hj
        refine ⟨h1, ?_⟩
        have e := ne i hne
        rcases h2 with ⟨t, xs, q1, q2⟩ | ⟨v2, L', v0, v1, L1, bl, cs, el, q1, q2, q3, q4, q5, q6, q7⟩
        · exact .inl ⟨t, xs, e.trans q1, q2⟩
        · exact .inr ⟨v2, L', v0, v1, L1, bl, cs, el, e.trans q1, q2, q3, q4, q5, q6, fun c f => q7 c (sub1 f)⟩
      · simp only [List.mem_singleton] at hi
        subst hi
        exact ⟨hlt, .inl ⟨e', xs, at_, hrow⟩⟩
    · refine ⟨fun i h1 h2 => ?_, fun nd => L.new.inj (by simpa using nd)⟩
      obtain ⟨t, ys, q1, q2⟩ := L.new.row i h1 h2
      refine ⟨t, ys, (ne i (by omega)).trans q1, ?_⟩
      simpa using q2
    · show (s.h.put id (.row e' xs)).e i = none
      have hi : s.h.next ≤ i := hi
      rw [ne i (by have := L.le; omega)]
      exact L.fresh i hi
  | box t p sh =>
    simp only [kept1] at hk
    simp only [unItem, hs'] at hu
    simp only [packItem] at hp
    split at hk
    case h_2 => cases hk
    rename_i id hid
    injection hk with hk
    subst hk
    simp only [hid] at hu hp
    split at hu
    case h_2 => cases hu
    rename_i v1 L1 hbox
    split at hp
    case h_2 => cases hp
    rename_i v3 L3 hs3
    split at hp
    case h_2 => cases hp
    rename_i hfit
    injection hp with hp
    subst hp
    have hlt : id < n0 := by rw [← hn0]; exact (kept_lt h0 hid).2 id [] rfl
    have hnk : id ∉ ks := fun z => hnd id z (by simp)
    have hb3 := (L.keep id hlt hnk).symm.trans hs3
    obtain ⟨bl, cs, el, e1, e2, e3, e4⟩ := H'.ent id _ hbox
    obtain ⟨M2, g2, a1, a2, a3, a4, a5, a6⟩ := packSh_ok H' (c0 := c0) sh v1 x o1 d1 s.h M cs.toList hu e4
    have ne : ∀ j, j ≠ id → ((packSh sh x s.h).2.put id (.box (packSh sh x s.h).1 L3)).e j = (packSh sh x s.h).2.e j := fun j q => by simp [Hp.put, set1, beq_false q]
    have at_ : ((packSh sh x s.h).2.put id (.box (packSh sh x s.h).1 L3)).e id = some (.box (packSh sh x s.h).1 L3) := by simp [Hp.put, set1, Nat.beq_refl]
    have sub0 : ∀ {c}, Fin S h' M' w' c0 c (ds ++ d1) n0 (packSh sh x s.h).2.next ((packSh sh x s.h).2.put id (.box (packSh sh x s.h).1 L3)).e M2 → Fin S h' M' w' c0 c (ds ++ d1) n0 (packSh sh x s.h).2.next (packSh sh x s.h).2.e M2 := by
      intro c f
      exact ⟨f.w, f.Z, f.ds, fun i h1 h2 => by
        have := f.new i h1 h2
        rw [ne i (by omega)] at this
        exact this, f.nx, f.tr⟩
    have sub1 : ∀ {c}, Fin S h' M' w' c0 c (ds ++ d1) n0 (packSh sh x s.h).2.next ((packSh sh x s.h).2.put id (.box (packSh sh x s.h).1 L3)).e M2 → Fin S h' M' w' c0 c ds n0 s.h.next s.h.e M :=
      fun f => (sub0 f).sub (fun i q => List.mem_append_left _ q) (Nat.le_refl _) a1 (fun i hi => (a3 i hi).2) (fun i hi => (a3 i hi).1)
    have jn := New.join L.new a5 L.le a1 (fun i hi => (a3 i hi).2) (fun i hi => (a3 i hi).1)
    refine ⟨M2, _, ⟨Nat.le_trans L.le a1, a2.trans L.lk, L.ro, L.n, fun i hi => ?_, fun i hi hik => ?_, fun i hi => ?_, ⟨fun i h1 h2 => ?_, jn.inj⟩, fun i hi => ?_, fun u c f => L.slot u c (sub1 f)⟩⟩
    · exact (a3 i (Nat.lt_of_lt_of_le hi L.le)).1.trans (L.old i hi)
    · have : i ≠ id := by rintro rfl; simp at hik
      show ((packSh sh x s.h).2.put id (.box (packSh sh x s.h).1 L3)).e i = _
      rw [ne i this]
      exact (a3 i (Nat.lt_of_lt_of_le hi L.le)).2.trans (L.keep i hi (fun z => hik (List.mem_append_left _ z)))
    · rcases List.mem_append.1 hi with hj | hi
      · have hne : i ≠ id := fun z => hnk (z ▸ hj)
        obtain ⟨h1, h2⟩ := L.laid i hj
        refine ⟨h1, ?_⟩
        have e := (ne i hne).trans (a3 i (Nat.lt_of_lt_of_le h1 L.le)).2
        rcases h2 with ⟨t, xs, q1, q2⟩ | ⟨v2, L', v0, v1, L1, bl, cs, el, q1, q2, q3, q4, q5, q6, q7⟩
        · exact .inl ⟨t, xs, e.trans q1, q2⟩
        · exact .inr ⟨v2, L', v0, v1, L1, bl, cs, el, e.trans q1, q2, q3, q4, q5, q6, fun c f => q7 c (sub1 f)⟩
      · simp only [List.mem_singleton] at hi
        subst hi
        exact ⟨hlt, .inr ⟨_, L3, v3, v1, L1, bl, cs, el, at_, hb3, hbox, e1, e2, hfit, fun c f => a6 c ((sub0 f).sub (fun i q => List.mem_append_right _ q) L.le (Nat.le_refl _) (fun _ _ => rfl) (fun _ _ => rfl))⟩⟩
    · obtain ⟨t, ys, q1, q2⟩ := jn.row i h1 h2
      exact ⟨t, ys, (ne i (by omega)).trans q1, q2⟩
    · have hi : (packSh sh x s.h).2.next ≤ i := hi
      show ((packSh sh x s.h).2.put id (.box (packSh sh x s.h).1 L3)).e i = none
      rw [ne i (by have := L.le; omega)]
      exact a4 L.fresh i hi

theorem laid_items (H' : HInv S B w0 h' M' w') {c0 : Cx} {fr0 : Nat → AV} (h0 : ∀ t, ∃ u, RepV c0 (fr0 t) u) {n0 : Nat} (hn0 : c0.nx = n0) (hs' : s'.h = h') (F' : ∀ t, RepV (cx S h' M' w') (s'.fr t) (a'.tmps.getD t undef)) :
    ∀ (l : List Item) (x : ItemsD l) (o1 d1 k1 : List Nat) (s s2 : St) (M : Nat → Bk) (g : Nat → Option Nat) (os ds ks : List Nat), Laid S c0 n0 b a' h' M' w' s M g os ds ks →
      unItems fr0 s' l = some (x, o1, d1) → kept fr0 l = some k1 → (ks ++ k1).Nodup → packItems fr0 l x s = some s2 →
      ∃ M2 g2, Laid S c0 n0 b a' h' M' w' s2 M2 g2 (os ++ o1) (ds ++ d1) (ks ++ k1) := by
  intro l
  induction l with
  | nil =>
    intro x o1 d1 k1 s s2 M g os ds ks L hu hk hnd hp
    simp only [unItems] at hu
    injection hu with hu
    injection hu with _ hu
    injection hu with h2 h3
    subst h2; subst h3
    simp only [kept] at hk
    injection hk with hk
    subst hk
    simp only [packItems] at hp
    injection hp with hp
    subst hp
    exact ⟨M, g, by simpa using L⟩
  | cons i l ih =>
    intro x o1 d1 k1 s s2 M g os ds ks L hu hk hnd hp
    simp only [kept] at hk
    split at hk
    case h_2 => cases hk
    rename_i ka hka
    split at hk
    case h_2 => cases hk
    rename_i kb hkb
    injection hk with hk
    subst hk
    have hdis : ∀ j, j ∈ ks → j ∉ ka := by
      intro j hj hj'
      obtain ⟨_, _, h3⟩ := List.nodup_append.1 hnd
      exact h3 j hj j (List.mem_append_left _ hj') rfl
    cases l with
    | nil =>
      simp only [kept] at hkb
      injection hkb with hkb
      subst hkb
      simp only [unItems] at hu
      simp only [packItems] at hp
      simp only [List.append_nil]
      exact laid_item H' h0 hn0 hs' F' L i hu hka hdis hp
    | cons j l =>
      simp only [unItems] at hu
      split at hu
      case h_2 => cases hu
      rename_i x1 oa da hx1
      split at hu
      case h_2 => cases hu
      rename_i x2 ob db hx2
      injection hu with hu
      injection hu with h1 h2
      injection h2 with h2 h3
      subst h1; subst h2; subst h3
      simp only [packItems] at hp
      split at hp
      case h_2 => cases hp
      rename_i s1 hs1
      obtain ⟨M1, g1, L1⟩ := laid_item H' h0 hn0 hs' F' L i hx1 hka hdis hs1
      obtain ⟨M2, g2, L2⟩ := ih x2 ob db kb s1 s2 M1 g1 _ _ _ L1 hx2 hkb (by simpa [List.append_assoc] using hnd) hp
      exact ⟨M2, g2, by simpa [List.append_assoc] using L2⟩
end Go.PG

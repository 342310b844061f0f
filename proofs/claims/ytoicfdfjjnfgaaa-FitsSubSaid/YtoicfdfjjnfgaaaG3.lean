/- Lemmas for the claim. -/
import Derived.Test.YtoicfdfjjnfgaaaG2
import Derived.ChangeArms
import Derived.OpenShut
set_option linter.all false
section
namespace Go.PG
open Go.RowKit
variable {Pg : Program} {G : World → Prop} {E : Env} {S : Nat → Prop} {B : Nat} {w0 w w' w'' : World} {h h' : Hp} {M M' M'' : Nat → Bk} {ρ : Type} {r : ρ} {st st' st'' b s s2 : St} {a a' a'' : Act} {o : Oper}
structure Fin (S : Nat → Prop) (h' : Hp) (M' : Nat → Bk) (w' : World) (c0 c : Cx) (ds : List Nat) (lo hi : Nat) (e : Nat → Option Ent) (M : Nat → Bk) : Prop where
  w : c.w = w'
  Z : ∀ b, c.Z b → (cx S h' M' w').Z b
  ds : ∀ id ∈ ds, ∀ b, h'.e id ≠ none → (M' id).has b → ¬ c.Z b
  new : ∀ i, lo ≤ i → i < hi → c.h i = e i ∧ c.M i = M i
  nx : hi ≤ c.nx
  tr : Tr c0 c
def RowPart {t : Ty} (k' : Bk) (ys : List t.D) (k : Bk) (xs : List t.D) : Prop :=
  (k = k' ∧ xs = ys) ∨ ∃ (A z : Option Addr) (len cap a m : Nat), k' = .row A len cap ∧ k = .row z m (cap - a) ∧ xs = (ys.take (a + m)).drop a ∧ a + m ≤ ys.length ∧ m ≤ cap - a ∧ (cap - a = 0 ∨ z = A.map (·.add (a * t.size)))
theorem RowPart.has {t : Ty} {k' : Bk} {ys : List t.D} {k : Bk} {xs : List t.D} (h : RowPart k' ys k xs) {b : Nat} (hb : k.has b) : k'.has b := by
  rcases h with ⟨rfl, _⟩ | ⟨A, z, len, cap, a, m, rfl, rfl, _, _, _, hz⟩
  · exact hb
  · obtain ⟨hc, ad, e1, e2⟩ := has_some hb
    rcases hz with hz | hz
    · exact absurd hz hc
    · rw [hz] at e1
      cases A with
      | none => simp at e1
      | some ad' =>
        simp only [Option.map_some, Option.some.injEq] at e1
        subst e1
        left
        obtain ⟨n, rfl⟩ : ∃ n, cap = n + 1 := ⟨cap - 1, by omega⟩
        simp only [Bk.blk, Option.map_some]
        rw [← e2]
        unfold Addr.add
        split <;> rfl
def RowIs (c : Cx) (k : Bk) {e : Ty} (xs : List e.D) : Prop :=
  ∃ A cap, k = .row A (List.length xs) cap ∧ List.length xs ≤ cap ∧ (cap = 0 ∨
      cap ≠ 0 ∧ ∃ b o cs el, A = some ⟨b, o, none⟩ ∧ c.w.heap[b]? = some (.cells cs el (0, 0)) ∧ o + cap * e.size ≤ cs.size ∧
        ∀ i x, xs[i]? = some x → ∃ d, RepD c.Z c.w e x d ∧ Mem c.w b (o + i * e.size) d)
theorem RowPart.is {c : Cx} {t : Ty} {k' : Bk} {ys : List t.D} {k : Bk} {xs : List t.D} (h : RowPart k' ys k xs) (H : RowIs c k' ys) : RowIs c k xs := by
  rcases h with ⟨rfl, rfl⟩ | ⟨A, z, len, cap, a, m, rfl, rfl, rfl, hle, hm, hz⟩
  · exact H
  · obtain ⟨A', cap', h1, h2, h3⟩ := H
    injection h1 with q1 q2 q3
    subst q1; subst q2; subst q3
    have hlen : ((ys.take (a + m)).drop a).length = m := by simp; omega
    refine ⟨z, cap - a, by rw [hlen], by rw [hlen]; exact hm, ?_⟩
    by_cases hc : cap - a = 0
    · exact .inl hc
    right
    rcases hz with hz | hz
    · exact absurd hz hc
    rcases h3 with h3 | ⟨h3, b, o, cs, el, rfl, g1, g2, g3⟩
    · omega
    refine ⟨hc, b, o + a * t.size, cs, el, by rw [hz]; simp [Addr.add_mid], g1, ?_, fun i x hx => ?_⟩
    · have : cap * t.size = a * t.size + (cap - a) * t.size := by rw [← Nat.add_mul]; congr 1; omega
      omega
    · rw [List.getElem?_drop, List.getElem?_take] at hx
      split at hx
      · obtain ⟨d, d1, d2⟩ := g3 _ _ hx
        refine ⟨d, d1, ?_⟩
        have e1 : o + a * t.size + i * t.size = o + (a + i) * t.size := by rw [Nat.add_mul]; omega
        rw [e1]; exact d2
      · cases hx
structure New (h' : Hp) (M' : Nat → Bk) (lo hi : Nat) (e : Nat → Option Ent) (M : Nat → Bk) (g : Nat → Option Nat) (os : List Nat) : Prop where
  row : ∀ i, lo ≤ i → i < hi → ∃ t xs, e i = some (.row t xs) ∧ ((∃ (id : Nat) (ys : List t.D), id ∈ os ∧ g i = some id ∧ h'.e id = some (.row t ys) ∧ RowPart (M' id) ys (M i) xs) ∨ (g i = none ∧ xs = [] ∧ ∃ A, M i = .row A 0 0))
  inj : os.Nodup → ∀ i j id, lo ≤ i → i < hi → lo ≤ j → j < hi → g i = some id → g j = some id → i = j
theorem New.empty (h' : Hp) (M' : Nat → Bk) (lo : Nat) (e : Nat → Option Ent) (M : Nat → Bk) (g : Nat → Option Nat) (os : List Nat) : New h' M' lo lo e M g os :=
  ⟨fun i h1 h2 => by omega, fun _ i j id h1 h2 => by omega⟩
theorem New.join {lo mi hi : Nat} {e1 e : Nat → Option Ent} {M1 M : Nat → Bk} {g1 g2 : Nat → Option Nat} {o1 o2 : List Nat} (n1 : New h' M' lo mi e1 M1 g1 o1) (n2 : New h' M' mi hi e M g2 o2)
    (h1 : lo ≤ mi) (h2 : mi ≤ hi) (he : ∀ i, i < mi → e i = e1 i) (hM : ∀ i, i < mi → M i = M1 i) : New h' M' lo hi e M (fun i => if i < mi then g1 i else g2 i) (o1 ++ o2) := by
  have mem1 : ∀ i id, lo ≤ i → i < mi → g1 i = some id → id ∈ o1 := by
    intro i id a b q
    obtain ⟨t, xs, _, ⟨id', _, m, q', _⟩ | ⟨q', _⟩⟩ := n1.row i a b
    · rw [q] at q'; injection q' with q'; subst q'; exact m
    · rw [q] at q'; cases q'
  have mem2 : ∀ i id, mi ≤ i → i < hi → g2 i = some id → id ∈ o2 := by
    intro i id a b q
    obtain ⟨t, xs, _, ⟨id', _, m, q', _⟩ | ⟨q', _⟩⟩ := n2.row i a b
    · rw [q] at q'; injection q' with q'; subst q'; exact m
    · rw [q] at q'; cases q'
  refine ⟨fun i a b => ?_, fun nd i j id a1 b1 a2 b2 q1 q2 => ?_⟩
  · by_cases hi : i < mi
    · obtain ⟨t, xs, q, r⟩ := n1.row i a hi
      refine ⟨t, xs, (he i hi).trans q, ?_⟩
      simp only [hi, if_true]
      rcases r with ⟨id, ys, m, r1, r2, r3⟩ | ⟨r1, r2, A, r3⟩
      · exact .inl ⟨id, ys, List.mem_append_left _ m, r1, r2, by rw [hM i hi]; exact r3⟩
      · exact .inr ⟨r1, r2, A, (hM i hi).trans r3⟩
    · obtain ⟨t, xs, q, r⟩ := n2.row i (by omega) b
      refine ⟨t, xs, q, ?_⟩
      simp only [hi, if_false]
      rcases r with ⟨id, ys, m, r1, r2, r3⟩ | r
      · exact .inl ⟨id, ys, List.mem_append_right _ m, r1, r2, r3⟩
      · exact .inr r
  · obtain ⟨nd1, nd2, nd3⟩ := List.nodup_append.1 nd
    by_cases hi : i < mi
    · by_cases hj : j < mi
      · simp only [hi, hj, if_true] at q1 q2
        exact n1.inj nd1 i j id a1 hi a2 hj q1 q2
      · simp only [hi, hj, if_true, if_false] at q1 q2
        exact absurd rfl (nd3 id (mem1 i id a1 hi q1) id (mem2 j id (by omega) b2 q2))
    · by_cases hj : j < mi
      · simp only [hi, hj, if_true, if_false] at q1 q2
        exact absurd rfl (nd3 id (mem1 j id a2 hj q2) id (mem2 i id (by omega) b1 q1))
      · simp only [hi, hj, if_false] at q1 q2
        exact n2.inj nd2 i j id (by omega) b1 (by omega) b2 q1 q2
theorem Fin.sub {c0 c : Cx} {ds ds1 : List Nat} {lo lo1 hi hi1 : Nat} {e e1 : Nat → Option Ent} {M1 : Nat → Bk} (f : Fin S h' M' w' c0 c ds lo hi e M) (hd : ∀ i ∈ ds1, i ∈ ds) (h1 : lo ≤ lo1) (h2 : hi1 ≤ hi)
    (he : ∀ i, i < hi1 → e i = e1 i) (hM : ∀ i, i < hi1 → M i = M1 i) : Fin S h' M' w' c0 c ds1 lo1 hi1 e1 M1 :=
  ⟨f.w, f.Z, fun id q => f.ds id (hd id q), fun i a b => by
    obtain ⟨q1, q2⟩ := f.new i (by omega) (by omega)
    exact ⟨q1.trans (he i b), q2.trans (hM i b)⟩, Nat.le_trans h2 f.nx, f.tr⟩
theorem packSh_ok (H' : HInv S B w0 h' M' w') {c0 : Cx} : ∀ (sh : Sh) (v : AV) (x : sh.D) (os ds : List Nat) (h : Hp) (M : Nat → Bk) (cs : List Value), unSh h' sh v = some (x, os, ds) → RepC (cx S h' M' w') v cs →
    ∃ M2 g, h.next ≤ (packSh sh x h).2.next ∧ (packSh sh x h).2.lk = h.lk ∧ (∀ i, i < h.next → M2 i = M i ∧ (packSh sh x h).2.e i = h.e i) ∧ ((∀ i, h.next ≤ i → h.e i = none) → ∀ i, (packSh sh x h).2.next ≤ i → (packSh sh x h).2.e i = none) ∧
      New h' M' h.next (packSh sh x h).2.next (packSh sh x h).2.e M2 g os ∧ ∀ c, Fin S h' M' w' c0 c ds h.next (packSh sh x h).2.next (packSh sh x h).2.e M2 → RepC c (packSh sh x h).1 cs := by
  intro sh
  induction sh with
  | d t =>
    intro v x os ds h M cs hu hr
    simp only [unSh] at hu
    split at hu
    case h_2 => cases hu
    rename_i x' hx
    injection hu with hu
    injection hu with h1 h2
    injection h2 with h2 h3
    subst h1; subst h2; subst h3
    refine ⟨M, fun _ => none, Nat.le_refl _, rfl, fun _ _ => ⟨rfl, rfl⟩, fun q => q, New.empty _ _ _ _ _ _ _, fun c f => ?_⟩
    simp only [packSh, RepC]
    rw [f.w]
    exact toD_rep H' f.Z v t _ cs f.ds hx hr
  | o e =>
    intro v x os ds h M cs hu hr
    simp only [unSh] at hu
    split at hu
    · rename_i xs id hx
      injection hu with hu
      injection hu with h1 h2
      injection h2 with h2 h3
      subst h1; subst h2; subst h3
      have hrow : h'.e id = some (.row e xs) := by
        simp only [toD] at hx
        split at hx
        · rename_i e' ys q
          split at hx
          · rename_i qq
            subst qq
            injection hx with hx
            subst hx
            exact q
          · cases hx
        · cases hx
      simp only [RepC, Rep1] at hr
      obtain ⟨_, A, n, cap, rfl, hM⟩ := hr
      have hM : M' id = .row A n cap := by
        rcases hM with q | q
        · simp only [cx] at q; rw [hrow] at q; cases q
        · exact q
      refine ⟨set1 M h.next (M' id), fun _ => some id, Nat.le_succ _, rfl, fun i hi => ?_, fun q i hi => ?_, ⟨fun i h1 h2 => ?_, fun _ i j _ h1 h2 h3 h4 _ _ => ?_⟩, fun c f => ?_⟩
      · simp [packSh, Hp.new, set1, beq_false (Nat.ne_of_lt hi)]
      · simp only [packSh, Hp.new] at hi
        simp [packSh, Hp.new, set1, beq_false (show i ≠ h.next by omega), q i (by omega)]
      · simp only [packSh, Hp.new] at h2
        have : i = h.next := by omega
        subst this
        exact ⟨e, xs, by simp [packSh, Hp.new, set1, Nat.beq_refl], .inl ⟨id, xs, by simp, rfl, hrow, .inl ⟨by simp [set1, Nat.beq_refl], rfl⟩⟩⟩
      · simp only [packSh, Hp.new] at h2 h4
        omega
      · have h1 := f.new h.next (Nat.le_refl _) (by simp [packSh, Hp.new])
        have h2 := f.nx
        simp only [packSh, Hp.new] at h2
        simp only [packSh, RepC, Rep1]
        refine ⟨by omega, A, n, cap, rfl, .inr ?_⟩
        rw [h1.2, ← hM]
        simp [set1, Nat.beq_refl]
    · rename_i xs id va vn hx
      injection hu with hu
      injection hu with h1 h2
      injection h2 with h2 h3
      subst h1; subst h2; subst h3
      obtain ⟨ys, hrow, hxs⟩ : ∃ ys : List e.D, h'.e id = some (.row e ys) ∧ xs = P.sub_ ys va (P.add va vn) := by
        simp only [toD] at hx
        split at hx
        · rename_i e' ys q
          split at hx
          · rename_i qq
            subst qq
            injection hx with hx
            exact ⟨ys, q, hx.symm⟩
          · cases hx
        · cases hx
      simp only [RepC, Rep1] at hr
      obtain ⟨_, z, m, cap', rfl, hn, ha, hm', hr⟩ := hr
      rcases hr with hr | ⟨A, len, cap, e', ys', g1, g2, g3, g4, g5⟩
      · simp only [cx] at hr; rw [hrow] at hr; cases hr
      have g2 : h'.e id = some (.row e' ys') := g2
      rw [hrow] at g2
      injection g2 with g2
      injection g2 with q1 q2
      subst q1
      have q2 := eq_of_heq q2
      subst q2
      have hxl : xs = (ys.take (va.toNat + m)).drop va.toNat := by
        rw [hxs, hn]
        unfold P.sub_ P.add
        rw [show (va + (m : Int)).toNat = va.toNat + m by omega]
      have hpart : RowPart (M' id) ys (.row z m cap') xs := .inr ⟨A, z, len, cap, va.toNat, m, g1, by rw [g4], hxl, g3, by rw [← g4]; exact hm', by rw [← g4]; exact g5⟩
      refine ⟨set1 M h.next (.row z m cap'), fun _ => some id, Nat.le_succ _, rfl, fun i hi => ?_, fun q i hi => ?_, ⟨fun i h1 h2 => ?_, fun _ i j _ h1 h2 h3 h4 _ _ => ?_⟩, fun c f => ?_⟩
      · simp [packSh, Hp.new, set1, beq_false (Nat.ne_of_lt hi)]
      · simp only [packSh, Hp.new] at hi
        simp [packSh, Hp.new, set1, beq_false (show i ≠ h.next by omega), q i (by omega)]
      · simp only [packSh, Hp.new] at h2
        have : i = h.next := by omega
        subst this
        exact ⟨e, xs, by simp [packSh, Hp.new, set1, Nat.beq_refl], .inl ⟨id, ys, by simp, rfl, hrow, by simpa [set1, Nat.beq_refl] using hpart⟩⟩
      · simp only [packSh, Hp.new] at h2 h4
        omega
      · have h1 := f.new h.next (Nat.le_refl _) (by simp [packSh, Hp.new])
        have h2 := f.nx
        simp only [packSh, Hp.new] at h2
        simp only [packSh, RepC, Rep1]
        refine ⟨by omega, z, m, cap', rfl, .inr ?_⟩
        rw [h1.2]
        simp [set1, Nat.beq_refl]
    · rename_i xs e' hx
      injection hu with hu
      injection hu with h1 h2
      injection h2 with h2 h3
      subst h1; subst h2; subst h3
      have hnil : xs = [] := by
        simp only [toD] at hx
        injection hx with hx
        exact hx.symm
      subst hnil
      simp only [RepC, Rep1] at hr
      obtain ⟨A, rfl⟩ := hr
      refine ⟨set1 M h.next (.row A 0 0), fun _ => none, Nat.le_succ _, rfl, fun i hi => ?_, fun q i hi => ?_, ⟨fun i h1 h2 => ?_, fun _ i j _ h1 h2 h3 h4 _ _ => ?_⟩, fun c f => ?_⟩
      · simp [packSh, Hp.new, set1, beq_false (Nat.ne_of_lt hi)]
      · simp only [packSh, Hp.new] at hi
        simp [packSh, Hp.new, set1, beq_false (show i ≠ h.next by omega), q i (by omega)]
      · simp only [packSh, Hp.new] at h2
        have : i = h.next := by omega
        subst this
        exact ⟨e, [], by simp [packSh, Hp.new, set1, Nat.beq_refl], .inr ⟨rfl, rfl, A, by simp [set1, Nat.beq_refl]⟩⟩
      · simp only [packSh, Hp.new] at h2 h4
        omega
      · have h1 := f.new h.next (Nat.le_refl _) (by simp [packSh, Hp.new])
        have h2 := f.nx
        simp only [packSh, Hp.new] at h2
        simp only [packSh, RepC, Rep1]
        refine ⟨by omega, A, 0, 0, rfl, .inr ?_⟩
        rw [h1.2]
        simp [set1, Nat.beq_refl]
    · cases hu
  | p p q ihp ihq =>
    intro v x os ds h M cs hu hr
    cases v with
    | pr u v =>
      simp only [unSh] at hu
      split at hu
      case h_2 => cases hu
      rename_i x1 o1 d1 hx1
      split at hu
      case h_2 => cases hu
      rename_i x2 o2 d2 hx2
      injection hu with hu
      injection hu with h1 h2
      injection h2 with h2 h3
      subst h1; subst h2; subst h3
      simp only [RepC] at hr
      obtain ⟨c1, c2, rfl, hr1, hr2⟩ := hr
      obtain ⟨M1, g1, a1, a2, a3, a4, a5, a6⟩ := ihp u x1 o1 d1 h M c1 hx1 hr1
      obtain ⟨M2, g2, b1, b2, b3, b4, b5, b6⟩ := ihq v x2 o2 d2 (packSh p x1 h).2 M1 c2 hx2 hr2
      refine ⟨M2, _, Nat.le_trans a1 b1, b2.trans a2, fun i hi => ?_, fun z => b4 (a4 z), New.join a5 b5 a1 b1 (fun i hi => (b3 i hi).2) (fun i hi => (b3 i hi).1), fun c f => ?_⟩
      · obtain ⟨q1, q2⟩ := a3 i hi
        obtain ⟨q3, q4⟩ := b3 i (Nat.lt_of_lt_of_le hi a1)
        exact ⟨q3.trans q1, q4.trans q2⟩
      · simp only [packSh, RepC]
        refine ⟨c1, c2, rfl, a6 c (f.sub (fun i q => List.mem_append_left _ q) (Nat.le_refl _) b1 (fun i hi => (b3 i hi).2) (fun i hi => (b3 i hi).1)), b6 c (f.sub (fun i q => List.mem_append_right _ q) a1 (Nat.le_refl _) (fun _ _ => rfl) (fun _ _ => rfl))⟩
    | _ => simp [unSh] at hu
  | s p ih =>
    intro v x os ds h M cs hu hr
    cases v with
    | st v =>
      simp only [unSh] at hu
      simp only [RepC] at hr
      obtain ⟨M2, g, a1, a2, a3, a4, a5, a6⟩ := ih v x os ds h M cs hu hr
      refine ⟨M2, g, a1, a2, a3, a4, a5, fun c f => ?_⟩
      simp only [packSh, RepC]
      exact a6 c f
    | _ => simp [unSh] at hu
theorem packSh_okV (H' : HInv S B w0 h' M' w') {c0 : Cx} : ∀ (sh : Sh) (v : AV) (x : sh.D) (os ds : List Nat) (h : Hp) (M : Nat → Bk) (u : Value), unSh h' sh v = some (x, os, ds) → RepV (cx S h' M' w') v u →
    ∃ M2 g, h.next ≤ (packSh sh x h).2.next ∧ (packSh sh x h).2.lk = h.lk ∧ (∀ i, i < h.next → M2 i = M i ∧ (packSh sh x h).2.e i = h.e i) ∧ ((∀ i, h.next ≤ i → h.e i = none) → ∀ i, (packSh sh x h).2.next ≤ i → (packSh sh x h).2.e i = none) ∧
      New h' M' h.next (packSh sh x h).2.next (packSh sh x h).2.e M2 g os ∧ ∀ c, Fin S h' M' w' c0 c ds h.next (packSh sh x h).2.next (packSh sh x h).2.e M2 → RepV c (packSh sh x h).1 u := by
  intro sh v x os ds h M u hu hr
  cases sh with
  | d t =>
    simp only [unSh] at hu
    split at hu
    case h_2 => cases hu
    rename_i x' hx
    injection hu with hu
    injection hu with h1 h2
    injection h2 with h2 h3
    subst h1; subst h2; subst h3
    refine ⟨M, fun _ => none, Nat.le_refl _, rfl, fun _ _ => ⟨rfl, rfl⟩, fun q => q, New.empty _ _ _ _ _ _ _, fun c f => ?_⟩
    simp only [packSh, RepV]
    have := toD_V H' f.Z f.ds hx hr
    rw [f.w]
    exact this
  | o e =>
    have hone : RepC (cx S h' M' w') v [u] := by
      simp only [unSh] at hu
      split at hu
      · simp only [RepV] at hr; simpa only [RepC] using hr
      · simp only [RepV] at hr; simpa only [RepC] using hr
      · simp only [RepV] at hr; simpa only [RepC] using hr
      · cases hu
    have hC := hone
    obtain ⟨M2, g, a1, a2, a3, a4, a5, a6⟩ := packSh_ok H' (c0 := c0) (.o e) v x os ds h M [u] hu hC
    refine ⟨M2, g, a1, a2, a3, a4, a5, fun c f => ?_⟩
    have := a6 c f
    simpa only [packSh, RepV, RepC] using this
  | p p q =>
    cases v with
    | pr y z => simp only [RepV] at hr
    | _ => simp [unSh] at hu
  | s p =>
    cases v with
    | st v =>
      simp only [RepV] at hr
      obtain ⟨cs, rfl, hr⟩ := hr
      obtain ⟨M2, g, a1, a2, a3, a4, a5, a6⟩ := packSh_ok H' (c0 := c0) (.s p) (.st v) x os ds h M cs.toList hu (by simpa only [RepC] using hr)
      refine ⟨M2, g, a1, a2, a3, a4, a5, fun c f => ?_⟩
      have := a6 c f
      simp only [packSh, RepC] at this
      simp only [packSh, RepV]
      exact ⟨cs, rfl, this⟩
    | _ => simp [unSh] at hu
end Go.PG
end
section
namespace Go.PG
open Go.RowKit
variable {Pg : Program} {G : World → Prop} {E : Env} {S : Nat → Prop} {B : Nat} {w0 w w' w'' : World} {h h' : Hp} {M0 M M' M'' : Nat → Bk} {ρ : Type} {r : ρ} {st st' st'' b s s2 s' : St} {a a' a'' : Act} {o : Oper}
def Seen (c : Cx) (v : AV) : Prop := (∃ u, RepV c v u) ∨ ∃ cs L, fitsT v L = true ∧ RepC c v cs
theorem follow_rep (H : HInv S B w0 h M w) : ∀ (p : List Nat) (v x : AV), follow h p v = some x → Seen (cx S h M w) v → Seen (cx S h M w) x := by
  intro p
  induction p with
  | nil => intro v x h hr; simp only [follow] at h; injection h with h; subst h; exact hr
  | cons j p ih =>
    intro v x hf hr
    cases v with
    | fn f cc =>
      simp only [follow] at hf
      split at hf
      case h_2 => cases hf
      rename_i y hy
      have : ∃ vs : List Value, RepT (cx S h M w) cc vs := by
        rcases hr with ⟨u, hr⟩ | ⟨cs, L, _, hr⟩
        · simp only [RepV] at hr; obtain ⟨vs, _, hT⟩ := hr; exact ⟨_, hT⟩
        · simp only [RepC] at hr; obtain ⟨vs, _, hT⟩ := hr; exact ⟨_, hT⟩
      obtain ⟨vs, hT⟩ := this
      obtain ⟨z, _, hz⟩ := tupP_rep cc j y _ hy hT
      exact ih y x hf (.inl ⟨z, hz⟩)
    | ptr id q =>
      cases q with
      | cons => simp [follow] at hf
      | nil =>
        simp only [follow] at hf
        split at hf
        case h_2 => cases hf
        rename_i v L he
        obtain ⟨b, cs, _, hfit, hrep⟩ := H.ent id _ he
        cases j with
        | zero => exact ih v x hf (.inr ⟨cs, L, hfit, hrep⟩)
        | succ j =>
          simp only at hf
          split at hf
          case h_2 => cases hf
          rename_i u hu
          obtain ⟨_, t, _, _, fu, _, d, _, _, _, hd⟩ := av_comp hu hfit hrep
          exact ih u x hf (.inr ⟨d, t, fu, hd⟩)
    | _ => simp [follow] at hf
structure Laid (S : Nat → Prop) (c0 : Cx) (n0 : Nat) (b : St) (a' : Act) (h' : Hp) (M' : Nat → Bk) (w' : World) (s : St) (M : Nat → Bk) (g : Nat → Option Nat) (os ds ks : List Nat) : Prop where
  le : n0 ≤ s.h.next
  lk : s.h.lk = b.h.lk
  ro : s.ro = b.ro
  n : s.n = b.n
  old : ∀ i, i < n0 → M i = M' i
  keep : ∀ i, i < n0 → i ∉ ks → s.h.e i = b.h.e i
  laid : ∀ i, i ∈ ks → i < n0 ∧ ((∃ t xs, s.h.e i = some (.row t xs) ∧ h'.e i = some (.row t xs)) ∨ (∃ v2 L v0 v1 L1 bl cs, s.h.e i = some (.box v2 L) ∧ b.h.e i = some (.box v0 L) ∧ h'.e i = some (.box v1 L1) ∧ Holds w' (M' i) bl L1 cs ∧ fitsT v2 L = true ∧
    ∀ c, Fin S h' M' w' c0 c ds n0 s.h.next s.h.e M → RepC c v2 cs))
  new : New h' M' n0 s.h.next s.h.e M g os
  fresh : ∀ i, s.h.next ≤ i → s.h.e i = none
  slot : ∀ t c, Fin S h' M' w' c0 c ds n0 s.h.next s.h.e M → RepV c (s.fr t) (a'.tmps.getD t undef)
theorem laid_start {c0 : Cx} {n0 : Nat} (hb : b.h.next = n0) (hfresh : ∀ i, n0 ≤ i → b.h.e i = none) (hs : ∀ t c, Tr c0 c → RepV c (b.fr t) (a'.tmps.getD t undef)) :
    Laid S c0 n0 b a' h' M' w' b M' (fun _ => none) [] [] [] :=
  ⟨by omega, rfl, rfl, rfl, fun _ _ => rfl, fun _ _ _ => rfl, fun i hi => absurd hi (by simp), by rw [hb]; exact New.empty _ _ _ _ _ _ _, by rw [hb]; exact hfresh, fun t c f => hs t c f.tr⟩
theorem seen_own {c : Cx} {id : Nat} (h : Seen c (.own id)) : id < c.nx := by
  rcases h with ⟨u, h⟩ | ⟨cs, _, _, h⟩
  · simp only [RepV, Rep1] at h; exact h.1
  · simp only [RepC, Rep1] at h; exact h.1
theorem kept_box {c0 : Cx} {fr0 : Nat → List Nat → Option AV} (h0 : ∀ t p x, fr0 t p = some x → Seen c0 x) {t : Nat} {p : List Nat} {id : Nat} (hf : (fr0 t p).bind boxId = some id) : id < c0.nx := by
  cases q : fr0 t p with
  | none => rw [q] at hf; cases hf
  | some x =>
    rw [q] at hf
    simp only [Option.bind_some] at hf
    have hx := h0 t p x q
    unfold boxId at hf
    split at hf
    · injection hf with hf
      subst hf
      rcases hx with ⟨u, h⟩ | ⟨cs, _, _, h⟩
      · simp only [RepV, Rep1] at h; exact h.1
      · simp only [RepC, Rep1] at h; exact h.1
    · injection hf with hf
      subst hf
      rcases hx with ⟨u, h⟩ | ⟨cs, _, _, h⟩
      · simp only [RepV, Rep1] at h; exact h.1
      · simp only [RepC, Rep1] at h; exact h.1
    · cases hf
theorem laid_item (H' : HInv S B w0 h' M' w') {c0 : Cx} {fr0 : Nat → List Nat → Option AV} (h0 : ∀ t p x, fr0 t p = some x → Seen c0 x) {n0 : Nat} (hn0 : c0.nx = n0) (hs' : s'.h = h') (F' : ∀ t, RepV (cx S h' M' w') (s'.fr t) (a'.tmps.getD t undef))
    {g : Nat → Option Nat} {os ds ks : List Nat} (L : Laid S c0 n0 b a' h' M' w' s M g os ds ks) (i : Item) {x : i.D} {o1 d1 k1 : List Nat}
    (hu : unItem fr0 s' i = some (x, o1, d1)) (hk : kept1 fr0 i = some k1) (hnd : ∀ j, j ∈ ks → j ∉ k1) (hp : packItem fr0 i x s = some s2) :
    ∃ M2 g2, Laid S c0 n0 b a' h' M' w' s2 M2 g2 (os ++ o1) (ds ++ d1) (ks ++ k1) := by
  cases i with
  | var t sh =>
    simp only [kept1] at hk
    injection hk with hk
    subst hk
    simp only [unItem, hs'] at hu
    simp only [packItem] at hp
    injection hp with hp
    subst hp
    obtain ⟨M2, g2, a1, a2, a3, a4, a5, a6⟩ := packSh_okV H' (c0 := c0) sh (s'.fr t) x o1 d1 s.h M _ hu (F' t)
    have sub1 : ∀ {c}, Fin S h' M' w' c0 c (ds ++ d1) n0 (packSh sh x s.h).2.next (packSh sh x s.h).2.e M2 → Fin S h' M' w' c0 c ds n0 s.h.next s.h.e M :=
      fun f => f.sub (fun i q => List.mem_append_left _ q) (Nat.le_refl _) a1 (fun i hi => (a3 i hi).2) (fun i hi => (a3 i hi).1)
    refine ⟨M2, _, ⟨Nat.le_trans L.le a1, a2.trans L.lk, L.ro, L.n, fun i hi => ?_, fun i hi hik => ?_, fun i hi => ?_, New.join L.new a5 L.le a1 (fun i hi => (a3 i hi).2) (fun i hi => (a3 i hi).1), a4 L.fresh, fun u c f => ?_⟩⟩
    · exact (a3 i (Nat.lt_of_lt_of_le hi L.le)).1.trans (L.old i hi)
    · simp only [List.append_nil] at hik
      exact (a3 i (Nat.lt_of_lt_of_le hi L.le)).2.trans (L.keep i hi hik)
    · simp only [List.append_nil] at hi
      obtain ⟨h1, h2⟩ := L.laid i hi
      refine ⟨h1, ?_⟩
      have e := (a3 i (Nat.lt_of_lt_of_le h1 L.le)).2
      rcases h2 with ⟨t, xs, q1, q2⟩ | ⟨v2, L', v0, v1, L1, bl, cs, q1, q2, q3, q4, q6, q7⟩
      · exact .inl ⟨t, xs, e.trans q1, q2⟩
      · exact .inr ⟨v2, L', v0, v1, L1, bl, cs, e.trans q1, q2, q3, q4, q6, fun c f => q7 c (sub1 f)⟩
    · simp only [set1]
      split
      · rename_i e
        have := Nat.eq_of_beq_eq_true e
        subst this
        exact a6 c (f.sub (fun i q => List.mem_append_right _ q) L.le (Nat.le_refl _) (fun _ _ => rfl) (fun _ _ => rfl))
      · exact L.slot u c (sub1 f)
  | cel t p e =>
    simp only [kept1] at hk
    simp only [unItem, hs'] at hu
    simp only [packItem] at hp
    split at hk
    case h_3 => cases hk
    case h_2 =>
      rename_i _ hid
      injection hk with hk
      subst hk
      simp only [hid] at hu hp
      injection hu with hu
      injection hu with h1 h2
      injection h2 with h2 h3
      subst h1; subst h2; subst h3
      injection hp with hp
      subst hp
      exact ⟨M, g, by simpa using L⟩
    rename_i id hid
    injection hk with hk
    subst hk
    simp only [hid] at hu hp
    split at hu
    case h_2 => cases hu
    rename_i e' xs hrow
    split at hu
    case isFalse => cases hu
    rename_i q
    subst q
    injection hu with hu
    injection hu with h1 h2
    injection h2 with h2 h3
    subst h1; subst h2; subst h3
    injection hp with hp
    subst hp
    have hlt : id < n0 := by rw [← hn0]; exact seen_own (h0 _ _ _ hid)
    have ne : ∀ j, j ≠ id → (s.h.put id (.row e' xs)).e j = s.h.e j := fun j q => by simp [Hp.put, set1, beq_false q]
    have at_ : (s.h.put id (.row e' xs)).e id = some (.row e' xs) := by simp [Hp.put, set1, Nat.beq_refl]
    have sub1 : ∀ {c}, Fin S h' M' w' c0 c (ds ++ []) n0 s.h.next (s.h.put id (.row e' xs)).e M → Fin S h' M' w' c0 c ds n0 s.h.next s.h.e M := by
      intro c f
      exact ⟨f.w, f.Z, fun i hi => f.ds i (by simpa using hi), fun i h1 h2 => by
        have := f.new i h1 h2
        rw [ne i (by omega)] at this
        exact this, f.nx, f.tr⟩
    refine ⟨M, g, ⟨L.le, L.lk, L.ro, L.n, L.old, fun i hi hik => ?_, fun i hi => ?_, ?_, fun i hi => ?_, fun u c f => L.slot u c (sub1 f)⟩⟩
    · have : i ≠ id := by rintro rfl; simp at hik
      show (s.h.put id (.row e' xs)).e i = _
      rw [ne i this]
      exact L.keep i hi (fun z => hik (List.mem_append_left _ z))
    · rcases List.mem_append.1 hi with hj | hi
      · have hne : i ≠ id := fun z => hnd i hj (by simp [z])
        obtain ⟨h1, h2⟩ := L.laid i hj
        refine ⟨h1, ?_⟩
        have e := ne i hne
        rcases h2 with ⟨t, xs, q1, q2⟩ | ⟨v2, L', v0, v1, L1, bl, cs, q1, q2, q3, q4, q6, q7⟩
        · exact .inl ⟨t, xs, e.trans q1, q2⟩
        · exact .inr ⟨v2, L', v0, v1, L1, bl, cs, e.trans q1, q2, q3, q4, q6, fun c f => q7 c (sub1 f)⟩
      · simp only [List.mem_singleton] at hi
        subst hi
        exact ⟨hlt, .inl ⟨e', xs, at_, hrow⟩⟩
    · refine ⟨fun i h1 h2 => ?_, fun nd => L.new.inj (by simpa using nd)⟩
      obtain ⟨t, ys, q1, q2⟩ := L.new.row i h1 h2
      refine ⟨t, ys, (ne i (by omega)).trans q1, ?_⟩
      simpa using q2
    · show (s.h.put id (.row e' xs)).e i = none
      have hi : s.h.next ≤ i := hi
      rw [ne i (by have := L.le; omega)]
      exact L.fresh i hi
  | box t p sh =>
    simp only [kept1] at hk
    simp only [unItem, hs'] at hu
    simp only [packItem] at hp
    split at hk
    case h_2 => cases hk
    rename_i id hid
    injection hk with hk
    subst hk
    simp only [hid] at hu hp
    split at hu
    case h_2 => cases hu
    rename_i v1 L1 hbox
    split at hp
    case h_2 => cases hp
    rename_i v3 L3 hs3
    split at hp
    case h_2 => cases hp
    rename_i hfit
    injection hp with hp
    subst hp
    have hlt : id < n0 := by rw [← hn0]; exact kept_box h0 hid
    have hnk : id ∉ ks := fun z => hnd id z (by simp)
    have hb3 := (L.keep id hlt hnk).symm.trans hs3
    obtain ⟨bl, cs, e1, e3, e4⟩ := H'.ent id _ hbox
    obtain ⟨M2, g2, a1, a2, a3, a4, a5, a6⟩ := packSh_ok H' (c0 := c0) sh v1 x o1 d1 s.h M cs hu e4
    have ne : ∀ j, j ≠ id → ((packSh sh x s.h).2.put id (.box (packSh sh x s.h).1 L3)).e j = (packSh sh x s.h).2.e j := fun j q => by simp [Hp.put, set1, beq_false q]
    have at_ : ((packSh sh x s.h).2.put id (.box (packSh sh x s.h).1 L3)).e id = some (.box (packSh sh x s.h).1 L3) := by simp [Hp.put, set1, Nat.beq_refl]
    have sub0 : ∀ {c}, Fin S h' M' w' c0 c (ds ++ d1) n0 (packSh sh x s.h).2.next ((packSh sh x s.h).2.put id (.box (packSh sh x s.h).1 L3)).e M2 → Fin S h' M' w' c0 c (ds ++ d1) n0 (packSh sh x s.h).2.next (packSh sh x s.h).2.e M2 := by
      intro c f
      exact ⟨f.w, f.Z, f.ds, fun i h1 h2 => by
        have := f.new i h1 h2
        rw [ne i (by omega)] at this
        exact this, f.nx, f.tr⟩
    have sub1 : ∀ {c}, Fin S h' M' w' c0 c (ds ++ d1) n0 (packSh sh x s.h).2.next ((packSh sh x s.h).2.put id (.box (packSh sh x s.h).1 L3)).e M2 → Fin S h' M' w' c0 c ds n0 s.h.next s.h.e M :=
      fun f => (sub0 f).sub (fun i q => List.mem_append_left _ q) (Nat.le_refl _) a1 (fun i hi => (a3 i hi).2) (fun i hi => (a3 i hi).1)
    have jn := New.join L.new a5 L.le a1 (fun i hi => (a3 i hi).2) (fun i hi => (a3 i hi).1)
    refine ⟨M2, _, ⟨Nat.le_trans L.le a1, a2.trans L.lk, L.ro, L.n, fun i hi => ?_, fun i hi hik => ?_, fun i hi => ?_, ⟨fun i h1 h2 => ?_, jn.inj⟩, fun i hi => ?_, fun u c f => L.slot u c (sub1 f)⟩⟩
    · exact (a3 i (Nat.lt_of_lt_of_le hi L.le)).1.trans (L.old i hi)
    · have : i ≠ id := by rintro rfl; simp at hik
      show ((packSh sh x s.h).2.put id (.box (packSh sh x s.h).1 L3)).e i = _
      rw [ne i this]
      exact (a3 i (Nat.lt_of_lt_of_le hi L.le)).2.trans (L.keep i hi (fun z => hik (List.mem_append_left _ z)))
    · rcases List.mem_append.1 hi with hj | hi
      · have hne : i ≠ id := fun z => hnk (z ▸ hj)
        obtain ⟨h1, h2⟩ := L.laid i hj
        refine ⟨h1, ?_⟩
        have e := (ne i hne).trans (a3 i (Nat.lt_of_lt_of_le h1 L.le)).2
        rcases h2 with ⟨t, xs, q1, q2⟩ | ⟨v2, L', v0, v1, L1, bl, cs, q1, q2, q3, q4, q6, q7⟩
        · exact .inl ⟨t, xs, e.trans q1, q2⟩
        · exact .inr ⟨v2, L', v0, v1, L1, bl, cs, e.trans q1, q2, q3, q4, q6, fun c f => q7 c (sub1 f)⟩
      · simp only [List.mem_singleton] at hi
        subst hi
        exact ⟨hlt, .inr ⟨_, L3, v3, v1, L1, bl, cs, at_, hb3, hbox, e1, hfit, fun c f => a6 c ((sub0 f).sub (fun i q => List.mem_append_right _ q) L.le (Nat.le_refl _) (fun _ _ => rfl) (fun _ _ => rfl))⟩⟩
    · obtain ⟨t, ys, q1, q2⟩ := jn.row i h1 h2
      exact ⟨t, ys, (ne i (by omega)).trans q1, q2⟩
    · have hi : (packSh sh x s.h).2.next ≤ i := hi
      show ((packSh sh x s.h).2.put id (.box (packSh sh x s.h).1 L3)).e i = none
      rw [ne i (by have := L.le; omega)]
      exact a4 L.fresh i hi
theorem laid_items (H' : HInv S B w0 h' M' w') {c0 : Cx} {fr0 : Nat → List Nat → Option AV} (h0 : ∀ t p x, fr0 t p = some x → Seen c0 x) {n0 : Nat} (hn0 : c0.nx = n0) (hs' : s'.h = h') (F' : ∀ t, RepV (cx S h' M' w') (s'.fr t) (a'.tmps.getD t undef)) :
    ∀ (l : List Item) (x : ItemsD l) (o1 d1 k1 : List Nat) (s s2 : St) (M : Nat → Bk) (g : Nat → Option Nat) (os ds ks : List Nat), Laid S c0 n0 b a' h' M' w' s M g os ds ks →
      unItems fr0 s' l = some (x, o1, d1) → kept fr0 l = some k1 → (ks ++ k1).Nodup → packItems fr0 l x s = some s2 →
      ∃ M2 g2, Laid S c0 n0 b a' h' M' w' s2 M2 g2 (os ++ o1) (ds ++ d1) (ks ++ k1) := by
  intro l
  induction l with
  | nil =>
    intro x o1 d1 k1 s s2 M g os ds ks L hu hk hnd hp
    simp only [unItems] at hu
    injection hu with hu
    injection hu with _ hu
    injection hu with h2 h3
    subst h2; subst h3
    simp only [kept] at hk
    injection hk with hk
    subst hk
    simp only [packItems] at hp
    injection hp with hp
    subst hp
    exact ⟨M, g, by simpa using L⟩
  | cons i l ih =>
    intro x o1 d1 k1 s s2 M g os ds ks L hu hk hnd hp
    simp only [kept] at hk
    split at hk
    case h_2 => cases hk
    rename_i ka hka
    split at hk
    case h_2 => cases hk
    rename_i kb hkb
    injection hk with hk
    subst hk
    have hdis : ∀ j, j ∈ ks → j ∉ ka := by
      intro j hj hj'
      obtain ⟨_, _, h3⟩ := List.nodup_append.1 hnd
      exact h3 j hj j (List.mem_append_left _ hj') rfl
    cases l with
    | nil =>
      simp only [kept] at hkb
      injection hkb with hkb
      subst hkb
      simp only [unItems] at hu
      simp only [packItems] at hp
      simp only [List.append_nil]
      exact laid_item H' h0 hn0 hs' F' L i hu hka hdis hp
    | cons j l =>
      simp only [unItems] at hu
      split at hu
      case h_2 => cases hu
      rename_i x1 oa da hx1
      split at hu
      case h_2 => cases hu
      rename_i x2 ob db hx2
      injection hu with hu
      injection hu with h1 h2
      injection h2 with h2 h3
      subst h1; subst h2; subst h3
      simp only [packItems] at hp
      split at hp
      case h_2 => cases hp
      rename_i s1 hs1
      obtain ⟨M1, g1, L1⟩ := laid_item H' h0 hn0 hs' F' L i hx1 hka hdis hs1
      obtain ⟨M2, g2, L2⟩ := ih x2 ob db kb s1 s2 M1 g1 _ _ _ L1 hx2 hkb (by simpa [List.append_assoc] using hnd) hp
      exact ⟨M2, g2, by simpa [List.append_assoc] using L2⟩
end Go.PG
end
section
namespace Go.PG
open Go.RowKit
variable {Pg : Program} {G : World → Prop} {E : Env} {S : Nat → Prop} {B : Nat} {w0 w w' w'' : World} {h h' : Hp} {M0 M M' M'' : Nat → Bk} {ρ : Type} {r : ρ} {st st' st'' b s s2 s' : St} {a a' a'' : Act} {o : Oper}
def Cx.low (c : Cx) (n : Nat) : Cx := { c with nx := n }
theorem Rep1.low {c d : Cx} {v : AV} {cs ds : List Value} (h : Rep1 c v cs) (k : Rep1 d v ds) : Rep1 (d.low c.nx) v ds := by
  cases v with
  | nilS e => exact k
  | own id => obtain ⟨_, k⟩ := k; exact ⟨h.1, k⟩
  | ptr id p => obtain ⟨_, k⟩ := k; exact ⟨h.1, k⟩
  | rptr t x => exact k
  | eptr id i p => obtain ⟨_, k⟩ := k; exact ⟨h.1, k⟩
  | view id a n => obtain ⟨_, k⟩ := k; exact ⟨h.1, k⟩
  | unkB => exact k
  | mref id => obtain ⟨_, k⟩ := k; exact ⟨h.1, k⟩
  | _ => exact h.elim
mutual
theorem RepC.low {c d : Cx} : ∀ (v : AV) (cs ds : List Value), RepC c v cs → RepC d v ds → RepC (d.low c.nx) v ds
  | .undef, _, _, _, k => by simp only [RepC] at k ⊢; exact k
  | .unit, _, _, _, k => by simp only [RepC] at k ⊢; exact k
  | .data t x, _, _, _, k => by simp only [RepC] at k ⊢; exact k
  | .fn f a, _, _, h, k => by
    simp only [RepC] at h k ⊢
    obtain ⟨vs, _, h⟩ := h
    obtain ⟨us, e, k⟩ := k
    exact ⟨us, e, RepT.low a _ _ h k⟩
  | .st b, _, _, h, k => by simp only [RepC] at h k ⊢; exact RepC.low b _ _ h k
  | .pr a r, _, _, h, k => by
    simp only [RepC] at h k ⊢
    obtain ⟨c1, c2, _, h1, h2⟩ := h
    obtain ⟨d1, d2, e, k1, k2⟩ := k
    exact ⟨d1, d2, e, RepC.low a _ _ h1 k1, RepC.low r _ _ h2 k2⟩
  | .tup _, _, _, h, _ => by simp only [RepC] at h
  | .nilS _, _, _, h, k => by simp only [RepC] at h k ⊢; exact h.low k
  | .own _, _, _, h, k => by simp only [RepC] at h k ⊢; exact h.low k
  | .ptr _ _, _, _, h, k => by simp only [RepC] at h k ⊢; exact h.low k
  | .rptr _ _, _, _, h, k => by simp only [RepC] at h k ⊢; exact h.low k
  | .eptr _ _ _, _, _, h, k => by simp only [RepC] at h k ⊢; exact h.low k
  | .view _ _ _, _, _, h, k => by simp only [RepC] at h k ⊢; exact h.low k
  | .unkB, _, _, h, k => by simp only [RepC] at h k ⊢; exact h.low k
  | .mref _, _, _, h, k => by simp only [RepC] at h k ⊢; exact h.low k
theorem RepV.low {c d : Cx} : ∀ (v : AV) (u z : Value), RepV c v u → RepV d v z → RepV (d.low c.nx) v z
  | .undef, _, _, _, _ => by simp only [RepV]
  | .unit, _, _, h, _ => by simp only [RepV] at h
  | .data t x, _, _, _, k => by simp only [RepV] at k ⊢; exact k
  | .fn f a, _, _, h, k => by
    simp only [RepV] at h k ⊢
    obtain ⟨vs, _, h⟩ := h
    obtain ⟨us, e, k⟩ := k
    exact ⟨us, e, RepT.low a _ _ h k⟩
  | .st b, _, _, h, k => by
    simp only [RepV] at h k ⊢
    obtain ⟨vs, _, h⟩ := h
    obtain ⟨us, e, k⟩ := k
    exact ⟨us, e, RepC.low b _ _ h k⟩
  | .pr _ _, _, _, h, _ => by simp only [RepV] at h
  | .tup b, _, _, h, k => by
    simp only [RepV] at h k ⊢
    obtain ⟨vs, _, h⟩ := h
    obtain ⟨us, e, k⟩ := k
    exact ⟨us, e, RepT.low b _ _ h k⟩
  | .nilS _, _, _, h, k => by simp only [RepV] at h k ⊢; exact h.low k
  | .own _, _, _, h, k => by simp only [RepV] at h k ⊢; exact h.low k
  | .ptr _ _, _, _, h, k => by simp only [RepV] at h k ⊢; exact h.low k
  | .rptr _ _, _, _, h, k => by simp only [RepV] at h k ⊢; exact h.low k
  | .eptr _ _ _, _, _, h, k => by simp only [RepV] at h k ⊢; exact h.low k
  | .view _ _ _, _, _, h, k => by simp only [RepV] at h k ⊢; exact h.low k
  | .unkB, _, _, h, k => by simp only [RepV] at h k ⊢; exact h.low k
  | .mref _, _, _, h, k => by simp only [RepV] at h k ⊢; exact h.low k
theorem RepT.low {c d : Cx} : ∀ (v : AV) (us zs : List Value), RepT c v us → RepT d v zs → RepT (d.low c.nx) v zs
  | .unit, _, _, _, k => by simp only [RepT] at k ⊢; exact k
  | .pr a r, _, _, h, k => by
    simp only [RepT] at h k ⊢
    obtain ⟨v, vs, _, h1, h2⟩ := h
    obtain ⟨u, us, e, k1, k2⟩ := k
    exact ⟨u, us, e, RepV.low a _ _ h1 k1, RepT.low r _ _ h2 k2⟩
  | .undef, _, _, _, k => by simp only [RepT] at k ⊢; exact k
  | .tup b, _, _, h, k => by
    simp only [RepT] at h k ⊢
    obtain ⟨vs, _, h⟩ := h
    obtain ⟨us, e, k⟩ := k
    exact ⟨us, e, RepT.low b _ _ h k⟩
  | .data t x, _, _, _, k => by simp only [RepT] at k ⊢; exact k
  | .st b, _, _, h, k => by
    simp only [RepT] at h k ⊢
    obtain ⟨vs, _, h⟩ := h
    obtain ⟨us, e, k⟩ := k
    exact ⟨us, e, RepC.low b _ _ h k⟩
  | .fn f a, _, _, h, k => by
    simp only [RepT] at h k ⊢
    obtain ⟨vs, _, h⟩ := h
    obtain ⟨us, e, k⟩ := k
    exact ⟨us, e, RepT.low a _ _ h k⟩
  | .nilS _, _, _, h, k => by simp only [RepT] at h k ⊢; obtain ⟨_, _, h⟩ := h; obtain ⟨u, e, k⟩ := k; exact ⟨u, e, h.low k⟩
  | .own _, _, _, h, k => by simp only [RepT] at h k ⊢; obtain ⟨_, _, h⟩ := h; obtain ⟨u, e, k⟩ := k; exact ⟨u, e, h.low k⟩
  | .ptr _ _, _, _, h, k => by simp only [RepT] at h k ⊢; obtain ⟨_, _, h⟩ := h; obtain ⟨u, e, k⟩ := k; exact ⟨u, e, h.low k⟩
  | .rptr _ _, _, _, h, k => by simp only [RepT] at h k ⊢; obtain ⟨_, _, h⟩ := h; obtain ⟨u, e, k⟩ := k; exact ⟨u, e, h.low k⟩
  | .eptr _ _ _, _, _, h, k => by simp only [RepT] at h k ⊢; obtain ⟨_, _, h⟩ := h; obtain ⟨u, e, k⟩ := k; exact ⟨u, e, h.low k⟩
  | .view _ _ _, _, _, h, k => by simp only [RepT] at h k ⊢; obtain ⟨_, _, h⟩ := h; obtain ⟨u, e, k⟩ := k; exact ⟨u, e, h.low k⟩
  | .unkB, _, _, h, k => by simp only [RepT] at h k ⊢; obtain ⟨_, _, h⟩ := h; obtain ⟨u, e, k⟩ := k; exact ⟨u, e, h.low k⟩
  | .mref _, _, _, h, k => by simp only [RepT] at h k ⊢; obtain ⟨_, _, h⟩ := h; obtain ⟨u, e, k⟩ := k; exact ⟨u, e, h.low k⟩
end
theorem undefOf_rep {c d : Cx} : ∀ (L : Ty) (v : AV) (cs : List Value), fitsT v L = true → RepC c v cs → RepC d (undefOf L) cs := by
  have leaf : ∀ (L : Ty) (v : AV) (cs : List Value), L.size = 1 → undefOf L = .undef → fitsT v L = true → RepC c v cs → RepC d (undefOf L) cs := by
    intro L v cs hs he f h
    have hl := fits_len v L cs f h
    rw [hs] at hl
    obtain ⟨u, rfl⟩ := List.length_eq_one_iff.1 hl
    rw [he]
    simp only [RepC]
    exact ⟨u, rfl, RepC.one v _ h u (by simp)⟩
  intro L
  induction L with
  | unit =>
    intro v cs f h
    cases v with
    | data t x =>
      simp only [fitsT, decide_eq_true_eq] at f
      subst f
      simp only [RepC, RepD] at h
      simp only [undefOf, RepC]; exact h
    | _ => simp [fitsT] at f
  | st b ih =>
    intro v cs f h
    simp only [undefOf, RepC]
    cases v with
    | data t x =>
      simp only [fitsT, decide_eq_true_eq] at f
      subst f
      simp only [RepC, RepD] at h
      exact ih (.data b x) cs (by simp [fitsT]) (by simp only [RepC]; exact h)
    | st u => simp only [fitsT] at f; simp only [RepC] at h; exact ih u cs f h
    | _ => simp [fitsT] at f
  | pair p q ihp ihq =>
    intro v cs f h
    simp only [undefOf, RepC]
    cases v with
    | data t x =>
      simp only [fitsT, decide_eq_true_eq] at f
      subst f
      simp only [RepC, RepD] at h
      obtain ⟨c1, c2, e, h1, h2⟩ := h
      exact ⟨c1, c2, e, ihp (.data p x.1) c1 (by simp [fitsT]) (by simp only [RepC]; exact h1), ihq (.data q x.2) c2 (by simp [fitsT]) (by simp only [RepC]; exact h2)⟩
    | pr u z =>
      simp only [fitsT] at f
      split at f
      case h_2 => cases f
      rename_i f1
      simp only [RepC] at h
      obtain ⟨c1, c2, e, h1, h2⟩ := h
      exact ⟨c1, c2, e, ihp u c1 f1 h1, ihq z c2 f h2⟩
    | _ => simp [fitsT] at f
  | bool => intro v cs; exact leaf _ v cs rfl rfl
  | str => intro v cs; exact leaf _ v cs rfl rfl
  | opq => intro v cs; exact leaf _ v cs rfl rfl
  | int k => intro v cs; exact leaf _ v cs rfl rfl
  | slice e => intro v cs; exact leaf _ v cs rfl rfl
  | map _ _ _ _ => intro v cs; exact leaf _ v cs rfl rfl
  | dmap _ _ _ _ => intro v cs; exact leaf _ v cs rfl rfl
  | bld _ _ => intro v cs; exact leaf _ v cs rfl rfl
structure Base (st b : St) (c : List Nat) : Prop where
  nx : b.h.next = st.h.next
  fresh : ∀ i, st.h.next ≤ i → b.h.e i = none
  inc : ∀ i, i ∈ c → b.h.e i = none ∨ ∃ v L, st.h.e i = some (.box v L) ∧ b.h.e i = some (.box (undefOf L) L) ∧ fitsT (undefOf L) L = true
  out : ∀ i, i ∉ c → b.h.e i = none ∨ b.h.e i = st.h.e i
theorem lay (g0 : Good S B w0 st a M0 w) {c : List Nat} (hb : Base st b c) (H' : HInv S B w0 s'.h M' w') (F' : ∀ t, RepV (cx S s'.h M' w') (s'.fr t) (a'.tmps.getD t undef)) (T : Tr (cx S st.h M0 w) (cx S s'.h M' w'))
    (U : ∀ i, i < st.h.next → i ∉ c → (b.h.e i ≠ none → s'.h.e i = b.h.e i) ∧ M' i = M0 i)
    (alv : ∀ i, i ∈ c → ∀ v L, b.h.e i = some (.box v L) → ∃ v' L', s'.h.e i = some (.box v' L'))
    (hfr : ∀ t, b.fr t = .undef ∨ b.fr t = st.fr t ∧ a'.tmps.getD t undef = a.tmps.getD t undef)
    {l : List Item} {x : ItemsD l} {os ds ks : List Nat} (hu : unItems (finder st) s' l = some (x, os, ds)) (hk : kept (finder st) l = some ks) (hnd : (ks ++ (os ++ ds)).Nodup) (hsub : ∀ i, i ∈ ks → i ∈ c)
    (hdead : ∀ i, i ∈ os ++ ds → b.h.e i = none) (hp : packItems (finder st) l x b = some s2) (hsz : b.n ≤ a'.tmps.size) (hdf : a'.defers = []) :
    ∃ M2, Good S B w0 s2 a' M2 w' ∧ Tr (cx S st.h M0 w) (cx S s2.h M2 w') ∧ (∀ i, i < st.h.next → i ∉ c → s2.h.e i = b.h.e i ∧ M2 i = M0 i) ∧ s2.h.lk = b.h.lk ∧ s2.ro = b.ro ∧ s2.n = b.n ∧ st.h.next ≤ s2.h.next := by
  obtain ⟨nk, nod, ndis⟩ := List.nodup_append.1 hnd
  have h0 : ∀ t p x, finder st t p = some x → Seen (cx S st.h M0 w) x := fun t p x hx => follow_rep g0.H p _ _ hx (.inl ⟨_, g0.F t⟩)
  obtain ⟨M2, g, L⟩ := laid_items (c0 := cx S st.h M0 w) (a' := a') (S := S) (b := b) (fr0 := finder st) H' h0 (n0 := st.h.next) rfl rfl F' l x os ds ks b s2 M' (fun _ => none) [] [] []
    (laid_start (h' := s'.h) (M' := M') (w' := w') hb.nx hb.fresh (fun t c tr => by
      rcases hfr t with e | ⟨e1, e2⟩
      · rw [e]; simp only [RepV]
      · rw [e1, e2]; exact RepV.tr tr _ _ (g0.F t))) hu hk (by simpa using nk) hp
  simp only [List.nil_append] at L
  have hold : ∀ i, i < st.h.next → M2 i = M' i := L.old
  -- where a live id comes from
  have live : ∀ i e, s2.h.e i = some e → (i < st.h.next ∧ s'.h.e i ≠ none ∧ (i ∈ ks ∨ b.h.e i ≠ none)) ∨ (st.h.next ≤ i ∧ i < s2.h.next) := by
    intro i e he
    rcases Nat.lt_or_ge i st.h.next with hi | hi
    · left
      by_cases hik : i ∈ ks
      · refine ⟨hi, ?_, .inl hik⟩
        obtain ⟨_, ⟨t, xs, _, q⟩ | ⟨v2, L', v0, v1, L1, bl, cs, _, _, q, _⟩⟩ := L.laid i hik <;> (rw [q]; simp)
      · have hbe : b.h.e i = some e := (L.keep i hi hik).symm.trans he
        refine ⟨hi, ?_, .inr (by rw [hbe]; simp)⟩
        by_cases hic : i ∈ c
        · rcases hb.inc i hic with q | ⟨v, L', q1, q2, q3⟩
          · rw [q] at hbe; cases hbe
          · obtain ⟨v', L'', q⟩ := alv i hic _ _ q2
            rw [q]; simp
        · rw [(U i hi hic).1 (by rw [hbe]; simp), hbe]; simp
    · right
      refine ⟨hi, ?_⟩
      rcases Nat.lt_or_ge i s2.h.next with q | q
      · exact q
      · rw [L.fresh i q] at he; cases he
  have from_ : ∀ i bb, s2.h.e i ≠ none → (M2 i).has bb → ∃ j, s'.h.e j ≠ none ∧ (M' j).has bb ∧ ((i < st.h.next ∧ j = i ∧ (i ∈ ks ∨ b.h.e i ≠ none)) ∨ (st.h.next ≤ i ∧ i < s2.h.next ∧ g i = some j ∧ j ∈ os)) := by
    intro i bb hne hbb
    cases he : s2.h.e i with
    | none => exact absurd he hne
    | some e =>
      rcases live i e he with ⟨h1, h2, h3⟩ | ⟨h1, h2⟩
      · exact ⟨i, h2, by rw [← hold i h1]; exact hbb, .inl ⟨h1, rfl, h3⟩⟩
      · obtain ⟨t, xs, q1, ⟨id, ys, m, q2, q3, q4⟩ | ⟨q2, q3, A, q4⟩⟩ := L.new.row i h1 h2
        · exact ⟨id, by rw [q3]; simp, q4.has hbb, .inr ⟨h1, h2, q2, m⟩⟩
        · rw [q4] at hbb; exact absurd rfl (has_some hbb).1
  have hZ : ∀ bb, (cx S s2.h M2 w').Z bb → (cx S s'.h M' w').Z bb := by
    rintro bb (z | ⟨i, e, q1, q2⟩)
    · exact .inl z
    · obtain ⟨j, h1, h2, _⟩ := from_ i bb (by rw [show s2.h.e i = some e from q1]; simp) q2
      cases q : s'.h.e j with
      | none => exact absurd q h1
      | some f => exact .inr ⟨j, f, q, h2⟩
  have hT : ∀ i, i < st.h.next → _ := T.ids
  have tr : Tr (cx S st.h M0 w) (cx S s2.h M2 w') := by
    refine ⟨T.held.trans (Held.of_le w' hZ), L.le, fun i hi => ?_⟩
    have hi : i < st.h.next := hi
    have hTi := T.ids i hi
    simp only [cx] at hTi ⊢
    by_cases hik : i ∈ ks
    · obtain ⟨_, ⟨t, xs, q1, q2⟩ | ⟨v2, L', v0, v1, L1, bl, cs, q1, q2, q3, q4, _⟩⟩ := L.laid i hik
      · rcases hTi with r | r | ⟨r1, r⟩
        · rw [q2] at r; cases r
        · exact .inr (.inl r)
        · refine .inr (.inr ⟨(by rw [hold i hi]; exact r1), ?_⟩)
          rcases r with ⟨_, _, _, _, r⟩ | ⟨t', ys, zs, r2, r3, r4⟩
          · rw [q2] at r; cases r
          · rw [q2] at r3
            injection r3 with r3
            injection r3 with e1 e2
            subst e1
            have e2 := eq_of_heq e2
            subst e2
            exact .inr ⟨t, ys, xs, r2, q1, r4⟩
      · have hbox : ∃ v, st.h.e i = some (.box v L') := by
          rcases hb.inc i (hsub i hik) with z | ⟨v, L2, z1, z2, _⟩
          · rw [q2] at z; cases z
          · rw [q2] at z2
            injection z2 with z2
            injection z2 with _ z2
            subst z2
            exact ⟨v, z1⟩
        obtain ⟨v, hv⟩ := hbox
        rcases hTi with r | ⟨r, _⟩ | ⟨r1, _⟩
        · rw [q3] at r; cases r
        · rw [hv] at r; cases r
        · exact .inr (.inr ⟨(by rw [hold i hi]; exact r1), .inl ⟨v, v2, L', hv, q1⟩⟩)
    · have hkp := L.keep i hi hik
      cases hbe : b.h.e i with
      | none => exact .inl (hkp.trans hbe)
      | some e =>
        by_cases hic : i ∈ c
        · rcases hb.inc i hic with z | ⟨v, L', z1, z2, _⟩
          · rw [z] at hbe; cases hbe
          · obtain ⟨v', L'', q⟩ := alv i hic _ _ z2
            rcases hTi with r | ⟨r, _⟩ | ⟨r1, _⟩
            · rw [q] at r; cases r
            · rw [z1] at r; cases r
            · exact .inr (.inr ⟨(by rw [hold i hi]; exact r1), .inl ⟨v, _, L', z1, hkp.trans z2⟩⟩)
        · obtain ⟨_, u2⟩ := U i hi hic
          have hst : b.h.e i = st.h.e i := by
            rcases hb.out i hic with z | z
            · rw [z] at hbe; cases hbe
            · exact z
          rw [hkp, hst, hold i hi, u2]
          exact ids_self g0.H i
  have fin : Fin S s'.h M' w' (cx S st.h M0 w) (cx S s2.h M2 w') ds st.h.next s2.h.next s2.h.e M2 := by
    refine ⟨rfl, hZ, fun id hid bb hl hbb z => ?_, fun i _ _ => ⟨rfl, rfl⟩, Nat.le_refl _, tr⟩
    rcases z with z | ⟨i, e, q1, q2⟩
    · have := H'.own id bb hl hbb
      have := H'.old bb z
      omega
    · obtain ⟨j, h1, h2, h3⟩ := from_ i bb (by rw [show s2.h.e i = some e from q1]; simp) q2
      have hij := H'.dist j id bb h1 hl h2 hbb
      subst hij
      rcases h3 with ⟨_, rfl, h4 | h4⟩ | ⟨_, _, _, h4⟩
      · exact ndis _ h4 _ (List.mem_append_right _ hid) rfl
      · exact h4 (hdead _ (List.mem_append_right _ hid))
      · exact (List.nodup_append.1 nod).2.2 _ h4 _ hid rfl
  have hid : ∀ i, i ∈ os → i ∈ os ++ ds := fun i q => List.mem_append_left _ q
  refine ⟨M2, ⟨⟨fun i e he => ?_, L.fresh, fun i j bb hi hj h1 h2 => ?_, fun i bb hi hbb => ?_, H'.bel, H'.bsz, H'.old, H'.bw⟩, fun t => L.slot t _ fin, by rw [L.n]; exact hsz, hdf⟩, tr, fun i hi hic => ?_, L.lk, L.ro, L.n, L.le⟩
  · -- entries
    have rowok : ∀ (id : Nat) (t : Ty) (ys xs : List t.D), RowPart (M' id) ys (M2 i) xs → s'.h.e id = some (.row t ys) → EntOk (cx S s2.h M2 w') i (.row t xs) := by
      intro id t ys xs e1 e2
      have h1 : RowIs (cx S s'.h M' w') (M' id) ys := H'.ent id _ e2
      obtain ⟨A, cap, q1, q2, q3⟩ := e1.is h1
      refine ⟨A, cap, q1, q2, ?_⟩
      rcases q3 with q3 | ⟨q3, bl, of, cs, el, q4, q5, q6, q7⟩
      · exact .inl q3
      · refine .inr ⟨q3, bl, of, cs, el, q4, q5, q6, fun j y hy => ?_⟩
        obtain ⟨d, q8, q9⟩ := q7 j y hy
        exact ⟨d, q8.held (Held.of_le w' hZ), q9⟩
    rcases live i e he with ⟨hi, hl, _⟩ | ⟨hi, hi2⟩
    · by_cases hik : i ∈ ks
      · obtain ⟨_, ⟨t, xs, q1, q2⟩ | ⟨v2, L', v0, v1, L1, bl, cs, q1, q2, q3, q4, q6, q7⟩⟩ := L.laid i hik
        · rw [q1] at he; injection he with he; subst he
          exact rowok i t xs xs (.inl ⟨hold i hi, rfl⟩) q2
        · rw [q1] at he; injection he with he; subst he
          have hLL : L1 = L' := by
            rcases hb.inc i (hsub i hik) with z | ⟨v, L2, z1, z2, _⟩
            · rw [q2] at z; cases z
            · rw [q2] at z2
              injection z2 with z2
              injection z2 with _ z2
              subst z2
              rcases T.ids i hi with r | ⟨r, _⟩ | ⟨_, ⟨u1, u2, L5, r1, r2⟩ | ⟨t, xs, ys, r1, r2, _⟩⟩
              · simp only [cx] at r; rw [q3] at r; cases r
              · simp only [cx] at r; rw [z1] at r; cases r
              · simp only [cx] at r1 r2
                rw [z1] at r1; rw [q3] at r2
                injection r1 with r1; injection r1 with _ r1
                injection r2 with r2; injection r2 with _ r2
                exact r2.trans r1.symm
              · simp only [cx] at r1; rw [z1] at r1; cases r1
          subst hLL
          exact ⟨bl, cs, by simp only [cx]; rw [hold i hi]; exact q4, q6, q7 _ fin⟩
      · have hbe : b.h.e i = some e := (L.keep i hi hik).symm.trans he
        by_cases hic : i ∈ c
        · rcases hb.inc i hic with z | ⟨v, L', z1, z2, z3⟩
          · rw [z] at hbe; cases hbe
          · obtain ⟨v', L'', q⟩ := alv i hic _ _ z2
            rw [z2] at hbe; injection hbe with hbe; subst hbe
            have hLL : L'' = L' := by
              rcases T.ids i hi with r | ⟨r, _⟩ | ⟨_, ⟨u1, u2, L3, r1, r2⟩ | ⟨t, xs, ys, r1, r2, _⟩⟩
              · simp only [cx] at r; rw [q] at r; cases r
              · simp only [cx] at r; rw [z1] at r; cases r
              · simp only [cx] at r1 r2
                rw [z1] at r1; rw [q] at r2
                injection r1 with r1; injection r1 with _ r1
                injection r2 with r2; injection r2 with _ r2
                exact r2.trans r1.symm
              · simp only [cx] at r1; rw [z1] at r1; cases r1
            subst hLL
            obtain ⟨bl, cs, e1, e3, e4⟩ := H'.ent i _ q
            exact ⟨bl, cs, by simp only [cx]; rw [hold i hi]; exact e1, z3, undefOf_rep L'' v' cs e3 e4⟩
        · have u1 := (U i hi hic).1 (by rw [hbe]; simp)
          have hse : s'.h.e i = some e := u1.trans hbe
          have hst : st.h.e i = some e := by
            rcases hb.out i hic with z | z
            · rw [z] at hbe; cases hbe
            · rw [← z]; exact hbe
          cases e with
          | row t xs => exact rowok i t xs xs (.inl ⟨hold i hi, rfl⟩) hse
          | rsv => exact (hold i hi).trans (H'.ent i _ hse)
          | box v L' =>
            obtain ⟨bl, cs, e1, e3, e4⟩ := H'.ent i _ hse
            obtain ⟨bl0, cs0, _, _, e40⟩ := g0.H.ent i _ hst
            have hlow := RepC.low v cs0 cs e40 e4
            have trl : Tr ((cx S s'.h M' w').low st.h.next) (cx S s2.h M2 w') := by
              refine ⟨Held.of_le w' hZ, L.le, fun j hj => ?_⟩
              have hj : j < st.h.next := hj
              show s2.h.e j = none ∨ (s'.h.e j = some .rsv ∧ M' j = .nil) ∨ _
              by_cases hjk : j ∈ ks
              · obtain ⟨_, ⟨t, xs, q1, q2⟩ | ⟨v2, L3, v0, v1, L1, bl, cs, q1, q2, q3, q4, _⟩⟩ := L.laid j hjk
                · exact .inr (.inr ⟨SameB.of (hold j hj), .inr ⟨t, xs, xs, q2, q1, rfl⟩⟩)
                · have hLL : L1 = L3 := by
                    rcases hb.inc j (hsub j hjk) with z | ⟨v, L2, z1, z2, _⟩
                    · rw [q2] at z; cases z
                    · rw [q2] at z2
                      injection z2 with z2
                      injection z2 with _ z2
                      subst z2
                      rcases T.ids j hj with r | ⟨r, _⟩ | ⟨_, ⟨u1, u2, L5, r1, r2⟩ | ⟨t, xs, ys, r1, r2, _⟩⟩
                      · simp only [cx] at r; rw [q3] at r; cases r
                      · simp only [cx] at r; rw [z1] at r; cases r
                      · simp only [cx] at r1 r2
                        rw [z1] at r1; rw [q3] at r2
                        injection r1 with r1; injection r1 with _ r1
                        injection r2 with r2; injection r2 with _ r2
                        exact r2.trans r1.symm
                      · simp only [cx] at r1; rw [z1] at r1; cases r1
                  subst hLL
                  exact .inr (.inr ⟨SameB.of (hold j hj), .inl ⟨v1, v2, L1, q3, q1⟩⟩)
              · have hkp := L.keep j hj hjk
                cases hbe2 : b.h.e j with
                | none => exact .inl (hkp.trans hbe2)
                | some f =>
                  by_cases hjc : j ∈ c
                  · rcases hb.inc j hjc with z | ⟨v5, L5, z1, z2, _⟩
                    · rw [z] at hbe2; cases hbe2
                    · obtain ⟨v6, L6, q⟩ := alv j hjc _ _ z2
                      have hLL : L6 = L5 := by
                        rcases T.ids j hj with r | ⟨r, _⟩ | ⟨_, ⟨u1, u2, L7, r1, r2⟩ | ⟨t, xs, ys, r1, r2, _⟩⟩
                        · simp only [cx] at r; rw [q] at r; cases r
                        · simp only [cx] at r; rw [z1] at r; cases r
                        · simp only [cx] at r1 r2
                          rw [z1] at r1; rw [q] at r2
                          injection r1 with r1; injection r1 with _ r1
                          injection r2 with r2; injection r2 with _ r2
                          exact r2.trans r1.symm
                        · simp only [cx] at r1; rw [z1] at r1; cases r1
                      subst hLL
                      exact .inr (.inr ⟨SameB.of (hold j hj), .inl ⟨v6, _, L6, q, hkp.trans z2⟩⟩)
                  · have y1 := (U j hj hjc).1 (by rw [hbe2]; simp)
                    have y2 : s'.h.e j = some f := y1.trans hbe2
                    have y3 : s2.h.e j = some f := hkp.trans hbe2
                    cases f with
                    | box v L => exact .inr (.inr ⟨SameB.of (hold j hj), .inl ⟨v, v, L, y2, y3⟩⟩)
                    | row t xs => exact .inr (.inr ⟨SameB.of (hold j hj), .inr ⟨t, xs, xs, y2, y3, rfl⟩⟩)
                    | rsv => exact .inr (.inl ⟨y2, H'.ent j _ y2⟩)
            exact ⟨bl, cs, by simp only [cx]; rw [hold i hi]; exact e1, e3, RepC.tr trl v _ hlow⟩
    · obtain ⟨t, xs, q1, ⟨id, ys, m, q2, q3, q4⟩ | ⟨q2, q3, A, q4⟩⟩ := L.new.row i hi hi2
      · rw [q1] at he; injection he with he; subst he
        exact rowok id t ys xs q4 q3
      · rw [q1] at he; injection he with he; subst he
        subst q3
        exact ⟨A, 0, q4, Nat.le_refl _, .inl rfl⟩
  · -- apart
    obtain ⟨i', a1, a2, a3⟩ := from_ i bb hi h1
    obtain ⟨j', b1, b2, b3⟩ := from_ j bb hj h2
    have hij := H'.dist i' j' bb a1 b1 a2 b2
    subst hij
    rcases a3 with ⟨_, rfl, a4⟩ | ⟨a4, a5, a6, a7⟩
    · rcases b3 with ⟨_, rfl, _⟩ | ⟨_, _, _, b4⟩
      · rfl
      · rcases a4 with a4 | a4
        · exact absurd rfl (ndis _ a4 _ (hid _ b4))
        · exact absurd (hdead _ (hid _ b4)) a4
    · rcases b3 with ⟨_, rfl, b4⟩ | ⟨b4, b5, b6, _⟩
      · rcases b4 with b4 | b4
        · exact absurd rfl (ndis _ b4 _ (hid _ a7))
        · exact absurd (hdead _ (hid _ a7)) b4
      · exact L.new.inj (List.nodup_append.1 nod).1 i j i' a4 a5 b4 b5 a6 b6
  · obtain ⟨j, h1, h2, _⟩ := from_ i bb hi hbb
    exact H'.own j bb h1 h2
  · have hik : i ∉ ks := fun z => hic (hsub i z)
    exact ⟨L.keep i hi hik, (hold i hi).trans (U i hi hic).2⟩
end Go.PG
end
section
namespace Go.PG
open Go.RowKit
variable {Pg : Program} {G : World → Prop} {E : Env} {S : Nat → Prop} {B : Nat} {w0 w w' w'' w1 : World} {h h' : Hp} {M0 M M' M'' M1 : Nat → Bk} {ρ : Type} {r : ρ} {st st' st'' b s s2 s' : St} {a a' a'' a1 : Act} {o : Oper}
theorem memb_mem {i : Nat} : ∀ {l : List Nat}, memb i l = true ↔ i ∈ l
  | [] => by simp [memb]
  | j :: l => by
    simp only [memb]
    split
    · rename_i e
      have := Nat.eq_of_beq_eq_true e
      subst this
      simp
    · rename_i e
      have hne : i ≠ j := by rintro rfl; simp [Nat.beq_refl] at e
      rw [memb_mem]
      simp [hne]
theorem memb_not {i : Nat} {l : List Nat} : memb i l = false ↔ i ∉ l := by
  rw [← memb_mem]; simp
theorem nodup_spec : ∀ {l : List Nat}, nodup l = true → l.Nodup
  | [], _ => List.nodup_nil
  | i :: l, h => by
    simp only [nodup] at h
    split at h
    · cases h
    · rename_i e
      exact List.nodup_cons.2 ⟨memb_not.1 e, nodup_spec h⟩
theorem subs_spec {m : List Nat} : ∀ {l : List Nat}, subs l m = true → ∀ i, i ∈ l → i ∈ m
  | [], _ => by simp
  | j :: l, h => by
    simp only [subs] at h
    split at h
    · rename_i e
      intro i hi
      rcases List.mem_cons.1 hi with rfl | hi
      · exact memb_mem.1 e
      · exact subs_spec h i hi
    · cases h
theorem above_spec {n : Nat} : ∀ {l : List Nat}, above n l = true → ∀ i, i ∈ l → n ≤ i
  | [], _ => by simp
  | j :: l, h => by
    simp only [above] at h
    split at h
    · rename_i e
      intro i hi
      rcases List.mem_cons.1 hi with rfl | hi
      · exact Nat.le_of_ble_eq_true e
      · exact above_spec h i hi
    · cases h
theorem alive_spec {h h' : Hp} : ∀ {l : List Nat}, alive h h' l = true → ∀ i, i ∈ l → ∀ v L, h.e i = some (.box v L) → ∃ v' L', h'.e i = some (.box v' L')
  | [], _ => by simp
  | j :: l, q => by
    simp only [alive] at q
    intro i hi v L he
    rcases List.mem_cons.1 hi with rfl | hi
    · split at q
      · split at q
        · rename_i v' L' e; exact ⟨v', L', e⟩
        · cases q
      · rename_i hno
        exact absurd he (hno v L)
    · split at q
      · split at q
        · exact alive_spec q i hi v L he
        · cases q
      · exact alive_spec q i hi v L he
def loopBase (asx : List Nat) (st : St) (ls c : List Nat) : St := inner asx { st with h := st.h.kills ls } c
theorem loopBase_ok (asx : List Nat) (st : St) (ls c : List Nat) (hf : ∀ i, st.h.next ≤ i → st.h.e i = none) (hu : unlocked st.h c = true) : Base st (loopBase asx st ls c) c := by
  have hk := kills_e ls st.h
  have hk0 : ∀ i, st.h.e i = none → (st.h.kills ls).e i = none := fun i q => by rw [hk]; split <;> first | rfl | exact q
  refine ⟨kills_next ls st.h, fun i hi => ?_, fun i hi => ?_, fun i hi => ?_⟩
  · simp only [loopBase, inner, clr]
    have := hk0 i (hf i hi)
    split
    · simp [this]
    · exact this
  · simp only [loopBase, inner, clr, memb_mem.2 hi]
    rw [hk]
    by_cases hl : i ∈ ls
    · simp [hl]
    · simp only [hl, if_false]
      split
      · rename_i v L e
        split
        · rename_i q
          exact .inr ⟨v, L, e, rfl, q⟩
        · exact .inl rfl
      · exact .inl rfl
  · simp only [loopBase, inner, clr, memb_not.2 hi]
    rw [hk]
    split
    · exact .inl rfl
    · exact .inr rfl
structure LoopRel (S : Nat → Prop) (st : St) (a : Act) (M0 : Nat → Bk) (w : World) (b : St) (c : List Nat) (s : St) (a1 : Act) (M1 : Nat → Bk) (w1 : World) : Prop where
  tr : Tr (cx S st.h M0 w) (cx S s.h M1 w1)
  same : ∀ i, i < st.h.next → i ∉ c → s.h.e i = b.h.e i ∧ M1 i = M0 i
  lk : s.h.lk = b.h.lk
  ro : s.ro = b.ro
  n : s.n = b.n
  le : st.h.next ≤ s.h.next
  keep : ∀ t, b.ro t = true → a1.tmps.getD t undef = a.tmps.getD t undef
theorem LoopRel.step {asx ls c : List Nat} (R : LoopRel S st a M0 w (loopBase asx st ls c) c s a1 M1 w1) (k : Stp S s a1 M1 w1 s' a' M' w') : LoopRel S st a M0 w (loopBase asx st ls c) c s' a' M' w' := by
  refine ⟨R.tr.trans k.k.tr, fun i hi hic => ?_, k.k.lk.trans R.lk, k.ro.trans R.ro, k.n.trans R.n, Nat.le_trans R.le k.k.tr.nx, fun t ht => (k.keep t (by rw [R.ro]; exact ht)).trans (R.keep t ht)⟩
  obtain ⟨e1, e2⟩ := R.same i hi hic
  obtain ⟨e3, e4⟩ := k.k.lock i (Nat.lt_of_lt_of_le hi R.le) (by
    rw [R.lk]
    simp only [loopBase, inner, clr, memb_not.2 hic]
    rw [kills_next]
    simpa [Nat.blt_eq] using hi)
  exact ⟨e3.trans e1, e4.trans e2⟩
theorem outer_ok {asx ls c : List Nat} (g : Good S B w0 s' a' M' w') (R : LoopRel S st a M0 w (loopBase asx st ls c) c s' a' M' w') (hc : unlocked st.h c = true) (hl : unlocked st.h ls = true) :
    Good S B w0 (outer st s') a' M' w' ∧ Stp S st a M0 w (outer st s') a' M' w' := by
  refine ⟨⟨⟨g.H.ent, g.H.fresh, g.H.dist, g.H.own, g.H.bel, g.H.bsz, g.H.old, g.H.bw⟩, g.F, g.n, g.d⟩, ⟨⟨R.tr, rfl, fun i hi hlk => ?_⟩, rfl, R.n, fun t ht => R.keep t ?_⟩⟩
  · have hic : i ∉ c := fun z => by have := unlocked_mem hc i z; rw [hlk] at this; cases this
    have hil : i ∉ ls := fun z => by have := unlocked_mem hl i z; rw [hlk] at this; cases this
    obtain ⟨e1, e2⟩ := R.same i hi hic
    refine ⟨?_, e2⟩
    show s'.h.e i = st.h.e i
    rw [e1]
    simp only [loopBase, inner, clr, memb_not.2 hic]
    rw [kills_e]
    simp [hil]
  · simp only [loopBase, inner]
    split
    · exact ht
    · rfl
theorem again_ok {asx ls c : List Nat} (g0 : Good S B w0 st a M0 w) (hc : unlocked st.h c = true) (g : Good S B w0 s' a' M' w') (R : LoopRel S st a M0 w (loopBase asx st ls c) c s' a' M' w') {l : List Item} {z : ItemsD l}
    (ha : again st (loopBase asx st ls c) c s' l = some z) (hp : packItems (finder st) l z (loopBase asx st ls c) = some s2) :
    ∃ M2, Good S B w0 s2 a' M2 w' ∧ LoopRel S st a M0 w (loopBase asx st ls c) c s2 a' M2 w' := by
  have hb := loopBase_ok asx st ls c g0.H.fresh hc
  unfold again at ha
  split at ha
  · cases ha
  rename_i hal
  split at ha
  case h_2 => cases ha
  rename_i z' os ds ks hu hk
  split at ha
  case h_2 => cases ha
  rename_i h1 h2 h3 h4
  injection ha with ha
  subst ha
  obtain ⟨M2, q1, q2, q3, q4, q5, q6, q7⟩ := lay g0 hb g.H g.F R.tr (fun i hi hic => ⟨fun _ => (R.same i hi hic).1, (R.same i hi hic).2⟩) (fun i hi v L e => alive_spec hal i hi v L e) (fun t => by
      simp only [loopBase, inner]
      split
      · exact .inl rfl
      · rename_i e
        exact .inr ⟨rfl, R.keep t (by simp only [loopBase, inner, e])⟩) hu hk (nodup_spec h1) (subs_spec h2) (fun i hi => hb.fresh i (above_spec h4 i hi)) hp (by rw [← R.n]; exact g.n) g.d
  exact ⟨M2, q1, ⟨q2, q3, q4, q5, q6, q7, R.keep⟩⟩
theorem start_ok {asx c : List Nat} (g0 : Good S B w0 st a M0 w) (hc : unlocked st.h c = true) {l : List Item} {z : ItemsD l} {os ds ks : List Nat} (hu : unItems (finder st) st l = some (z, os, ds)) (hk : kept (finder st) l = some ks)
    (hnd : nodup (ks ++ (os ++ ds)) = true) (hsub : ∀ i, i ∈ ks → i ∈ c) (hp : packItems (finder st) l z (loopBase asx st (os ++ ds) c) = some s2) :
    ∃ M2, Good S B w0 s2 a M2 w ∧ LoopRel S st a M0 w (loopBase asx st (os ++ ds) c) c s2 a M2 w := by
  have hb := loopBase_ok asx st (os ++ ds) c g0.H.fresh hc
  obtain ⟨M2, q1, q2, q3, q4, q5, q6, q7⟩ := lay (s' := st) g0 hb g0.H g0.F (HStp.refl g0.H).tr (fun i hi hic => ⟨fun hne => by
      rcases hb.out i hic with q | q
      · exact absurd q hne
      · exact q.symm, rfl⟩) (fun i hi v L e => by
      rcases hb.inc i hi with q | ⟨v', L', q1, _⟩
      · rw [q] at e; cases e
      · exact ⟨v', L', q1⟩) (fun t => by
      simp only [loopBase, inner]
      split
      · exact .inl rfl
      · exact .inr ⟨rfl, trivial⟩) hu hk (nodup_spec hnd) hsub (fun i hi => by
      simp only [loopBase, inner, clr]
      rw [kills_e]
      simp only [hi, if_true]
      split <;> rfl) hp g0.n g0.d
  exact ⟨M2, q1, ⟨q2, q3, q4, q5, q6, q7, fun _ _ => rfl⟩⟩
theorem iter_succ {τ ρ : Type} {k : Nat} {f : τ → Option (τ ⊕ ρ)} {x : τ} : P.iter (k + 1) f x = (match f x with
    | none => none
    | some (.inl y) => P.iter k f y
    | some (.inr r) => some r) := rfl
theorem map_some {α β : Type} {f : α → β} {x : Option α} {y : β} (h : P.map f x = some y) : ∃ z, x = some z ∧ f z = y := by
  cases x with
  | none => cases h
  | some z => injection h with h; exact ⟨z, rfl, h⟩
def CodeOk (Pg : Program) (E : Env) (S : Nat → Prop) (B : Nat) (w0 : World) (call : Handler) (hs : List (Nat × Hint)) (c : Code) : Prop :=
  ∀ {ρ : Type} (st : St) (kn : St → Option ρ) (ke : Nat → St → Option ρ) (kr : St → Option ρ) (r : ρ) (a : Act) (M : Nat → Bk) (w : World) (Q : Exit → Act → World → Prop),
    Good S B w0 st a M w → evC E call hs c st kn ke kr = some r → Then S B w0 st a M w kn r (Q .normal) → (∀ i, Then S B w0 st a M w (ke i) r (Q (.exit i))) → Then S B w0 st a M w kr r (Q .ret) → c.wp Pg Q a w
theorem rounds_ok {asx c : List Nat} {code : Code} {ls : List Nat} (g0 : Good S B w0 st a M0 w) (hc : unlocked st.h c = true) {hd : List Item} {σ : Type} {Q : Exit → Act → World → Prop} {R : σ} {k : Nat} {x : ItemsD hd}
    (body : ItemsD hd → St → Option (ItemsD hd ⊕ σ)) (hbody : ∀ y s q a1 M1 w1, Good S B w0 s a1 M1 w1 → LoopRel S st a M0 w (loopBase asx st ls c) c s a1 M1 w1 → body y s = some q →
      ∀ X : Act → World → Prop, (∀ z s' a' M' w', q = .inl z → again st (loopBase asx st ls c) c s' hd = some z → Good S B w0 s' a' M' w' → LoopRel S st a M0 w (loopBase asx st ls c) c s' a' M' w' → X a' w') → (∀ R', q = .inr R' → R' = R) → code.wp Pg (Exit.then X Q) a1 w1)
    (hit : P.iter k (fun y => match packItems (finder st) hd y (loopBase asx st ls c) with
        | none => none
        | some s => body y s) x = some R)
    (h0 : ∀ s, packItems (finder st) hd x (loopBase asx st ls c) = some s → ∃ M2, Good S B w0 s a M2 w ∧ LoopRel S st a M0 w (loopBase asx st ls c) c s a M2 w) : (Code.loop code).wp Pg Q a w := by
  let f : ItemsD hd → Option (ItemsD hd ⊕ σ) := fun y => match packItems (finder st) hd y (loopBase asx st ls c) with
        | none => none
        | some s => body y s
  have open_ : ∀ n y, P.iter n f y = some R → ∃ m s q, n = m + 1 ∧ packItems (finder st) hd y (loopBase asx st ls c) = some s ∧ body y s = some q ∧ (∀ z, q = .inl z → P.iter m f z = some R) ∧ (∀ R', q = .inr R' → R' = R) := by
    intro n y hn
    cases n with
    | zero => cases hn
    | succ m =>
      rw [iter_succ] at hn
      cases hs : packItems (finder st) hd y (loopBase asx st ls c) with
      | none => simp only [f, hs] at hn; cases hn
      | some s =>
        cases hq : body y s with
        | none => simp only [f, hs, hq] at hn; cases hn
        | some q =>
          refine ⟨m, s, q, rfl, rfl, hq, ?_, ?_⟩
          · rintro z rfl
            simpa only [f, hs, hq] using hn
          · rintro R' rfl
            simp only [f, hs, hq] at hn
            injection hn
  refine wp_loop_ghost (fun n a1 w1 => ∃ y s M1, packItems (finder st) hd y (loopBase asx st ls c) = some s ∧ P.iter n f y = some R ∧ Good S B w0 s a1 M1 w1 ∧ LoopRel S st a M0 w (loopBase asx st ls c) c s a1 M1 w1) k ?_ ?_
  · obtain ⟨m, s, q, _, hs, _⟩ := open_ k x hit
    obtain ⟨M2, q1, q2⟩ := h0 s hs
    exact ⟨x, s, M2, hs, hit, q1, q2⟩
  · rintro n a1 w1 ⟨y, s, M1, hs, hn, g1, R1⟩
    obtain ⟨m, s', q, rfl, hs', hq, hl, hr⟩ := open_ n y hn
    rw [hs] at hs'
    injection hs' with hs'
    subst hs'
    refine hbody y s q a1 M1 w1 g1 R1 hq _ ?_ hr
    intro z s2 a2 M2 w2 e ha g2 R2
    have hz := hl z e
    obtain ⟨m2, s3, q3, rfl, hs3, _⟩ := open_ m z hz
    obtain ⟨M3, q4, q5⟩ := again_ok g0 hc g2 R2 ha hs3
    exact ⟨m2 + 1, by omega, z, s3, M3, hs3, hz, q4, q5⟩
theorem evLoop_ok {E : Env} {call : Handler} {hs : List (Nat × Hint)} {code : Code} (hcode : CodeOk Pg E S B w0 call hs code) {k : Nat} {hint : Option Hint} {asx : List Nat} {ke : Nat → St → Option ρ} {kr : St → Option ρ} {Q : Exit → Act → World → Prop}
    (g0 : Good S B w0 st a M0 w) (hr : evLoop k hint asx st (fun s kn' ke' kr' => evC E call hs code s kn' ke' kr') ke kr = some r)
    (hke : ∀ i, Then S B w0 st a M0 w (ke i) r (Q (.exit i))) (hkr : Then S B w0 st a M0 w kr r (Q .ret)) : (Code.loop code).wp Pg Q a w := by
  unfold evLoop at hr
  split at hr
  · cases hr
  rename_i hd scr out
  split at hr
  case h_2 => cases hr
  rename_i sc ks x os ds hsc hks hun
  split at hr
  case h_2 => cases hr
  rename_i hc hls hnd
  have h0 : ∀ s, packItems (finder st) hd x (loopBase asx st (os ++ ds) (sc ++ ks)) = some s → ∃ M2, Good S B w0 s a M2 w ∧ LoopRel S st a M0 w (loopBase asx st (os ++ ds) (sc ++ ks)) (sc ++ ks) s a M2 w :=
    fun s hp => start_ok g0 hc hun hks hnd (fun i hi => List.mem_append_right _ hi) hp
  simp only at hr
  split at hr
  · -- no cut
    refine rounds_ok (R := r) g0 hc (fun y s => evC E call hs code s (fun s' => match again st (loopBase asx st (os ++ ds) (sc ++ ks)) (sc ++ ks) s' hd with
                | some z => some (Sum.inl z)
                | none => none) (fun i s' => P.map .inr (ke i (outer st s'))) (fun s' => P.map .inr (kr (outer st s')))) ?_ hr h0
    intro y s q a1 M1 w1 g1 R1 hq X hX hR
    refine hcode s _ _ _ q a1 M1 w1 _ g1 hq ?_ ?_ ?_
    · intro s' a' M' w' g' k' hk
      simp only at hk
      split at hk
      · rename_i z hz
        injection hk with hk
        exact hX z s' a' M' w' hk.symm hz g' (R1.step k')
      · cases hk
    · intro i s' a' M' w' g' k' hk
      obtain ⟨r', h1, h2⟩ := map_some hk
      have h3 := hR r' h2.symm
      subst h3
      obtain ⟨h4, h5⟩ := outer_ok g' (R1.step k') hc hls
      exact hke i _ _ _ _ h4 h5 h1
    · intro s' a' M' w' g' k' hk
      obtain ⟨r', h1, h2⟩ := map_some hk
      have h3 := hR r' h2.symm
      subst h3
      obtain ⟨h4, h5⟩ := outer_ok g' (R1.step k') hc hls
      exact hkr _ _ _ _ h4 h5 h1
  · rename_i i0 tl
    obtain ⟨R, hR1, hR2⟩ := bind_some hr
    refine rounds_ok (R := R) g0 hc (fun y s => evC E call hs code s (fun s' => match again st (loopBase asx st (os ++ ds) (sc ++ ks)) (sc ++ ks) s' hd with
                | some z => some (Sum.inl z)
                | none => none)
              (fun i s' => match Nat.beq i i0 with
                | true => match again st (loopBase asx st (os ++ ds) (sc ++ ks)) (sc ++ ks) s' tl with
                  | some z => some (Sum.inr (Sum.inl z))
                  | none => none
                | false => P.map (fun r => .inr (.inr r)) (ke i (outer st s')))
              (fun s' => P.map (fun r => .inr (.inr r)) (kr (outer st s')))) ?_ hR1 h0
    intro y s q a1 M1 w1 g1 R1 hq X hX hR
    have fin : ∀ r', q = .inr (.inr r') → r' = r := by
      intro r' e
      have := hR _ e
      subst this
      simp only [P.either] at hR2
      injection hR2
    refine hcode s _ _ _ q a1 M1 w1 _ g1 hq ?_ ?_ ?_
    · intro s' a' M' w' g' k' hk
      simp only at hk
      split at hk
      · rename_i z hz
        injection hk with hk
        exact hX z s' a' M' w' hk.symm hz g' (R1.step k')
      · cases hk
    · intro i s' a' M' w' g' k' hk
      simp only at hk
      split at hk
      · rename_i hi
        have := Nat.eq_of_beq_eq_true hi
        subst this
        split at hk
        · rename_i z hz
          injection hk with hk
          have := hR _ hk.symm
          subst this
          simp only [P.either] at hR2
          split at hR2
          · cases hR2
          · rename_i s3 hs3
            obtain ⟨M3, q4, q5⟩ := again_ok g0 hc g' (R1.step k') hz hs3
            obtain ⟨h4, h5⟩ := outer_ok q4 q5 hc hls
            exact hke i _ _ _ _ h4 h5 hR2
        · cases hk
      · obtain ⟨r', h1, h2⟩ := map_some hk
        have h3 := fin r' h2.symm
        subst h3
        obtain ⟨h4, h5⟩ := outer_ok g' (R1.step k') hc hls
        exact hke i _ _ _ _ h4 h5 h1
    · intro s' a' M' w' g' k' hk
      obtain ⟨r', h1, h2⟩ := map_some hk
      have h3 := fin r' h2.symm
      subst h3
      obtain ⟨h4, h5⟩ := outer_ok g' (R1.step k') hc hls
      exact hkr _ _ _ _ h4 h5 h1
end Go.PG
end
section
namespace Go.PG
open Go.RowKit
variable {Pg : Program} {G : World → Prop} {E : Env} {S : Nat → Prop} {B : Nat} {w0 w w' w'' : World} {h h' : Hp} {M M' M'' : Nat → Bk} {ρ : Type} {r : ρ} {st st' st'' : St} {a a' a'' : Act} {o : Oper}
def Closed (ops : List Oper) (L : Nat → Prop) : Prop := ∀ (j : Nat) (o : Oper), ops[j]? = some o → L j → ∀ e, e ∈ o.after → Region.binds .any e = true → L e.on
def Ahead (ops : List Oper) (j i : Nat) : Prop := ∀ L, Closed ops L → L j → L i
def keyOf (L : List Bool) (n i : Nat) : Nat := if lateB L i then n + i else i
structure DrawOk (E : Env) (ops : List Oper) (L : List Bool) : Prop where
  edge : ∀ (j : Nat) (o : Oper), ops[j]? = some o → ∀ e, e ∈ o.after → Region.binds .any e = true → e.on < j ∧ after L e.on j = false
  pair : ∀ (i j : Nat) (oi oj : Oper), ops[i]? = some oi → ops[j]? = some oj → i ≠ j → keyOf L ops.length i < keyOf L ops.length j → Ahead ops j i ∨ indep E ops oi oj = true
theorem after_spec {L : List Bool} {i j : Nat} : after L i j = (lateB L i && !lateB L j) := by
  unfold after
  cases lateB L i <;> cases lateB L j <;> rfl
theorem edgesOk_spec {L : List Bool} {j : Nat} : ∀ (l : List Edge), edgesOk L j l = true → ∀ e, e ∈ l → Region.binds .any e = true → after L e.on j = false := by
  intro l
  induction l with
  | nil => intro _ e he; cases he
  | cons x l ih =>
    intro h e he hb
    simp only [edgesOk] at h
    split at h
    · cases h
    · rename_i hno
      rcases List.mem_cons.1 he with rfl | he
      · cases q : after L e.on j
        · rfl
        · exact (hno hb q).elim
      · exact ih h e he hb
theorem edgeMask_spec {acc : List Nat} {j : Nat} : ∀ (l : List Edge) (m : Nat), edgeMask acc j l = some m →
    (∀ e, e ∈ l → Region.binds .any e = true → e.on < j) ∧ ∀ i, m.testBit i = true → ∃ e, e ∈ l ∧ Region.binds .any e = true ∧ (e.on = i ∨ (acc.getD e.on 0).testBit i = true) := by
  intro l
  induction l with
  | nil =>
    intro m h
    simp only [edgeMask] at h
    injection h with h
    subst h
    simp
  | cons e l ih =>
    intro m h
    simp only [edgeMask] at h
    split at h
    · rename_i hb
      obtain ⟨h1, h2⟩ := ih m h
      refine ⟨fun f hf hbf => ?_, fun i hi => ?_⟩
      · rcases List.mem_cons.1 hf with rfl | hf
        · rw [hb] at hbf; cases hbf
        · exact h1 f hf hbf
      · obtain ⟨f, hf, q⟩ := h2 i hi
        exact ⟨f, List.mem_cons_of_mem _ hf, q⟩
    · rename_i hb
      split at h
      case h_2 => cases h
      rename_i hlt
      split at h
      case h_2 => cases h
      rename_i m' hm'
      injection h with h
      subst h
      obtain ⟨h1, h2⟩ := ih m' hm'
      refine ⟨fun f hf hbf => ?_, fun i hi => ?_⟩
      · rcases List.mem_cons.1 hf with rfl | hf
        · simpa [Nat.blt_eq] using hlt
        · exact h1 f hf hbf
      · have hi : (((1 <<< e.on) ||| acc.getD e.on 0) ||| m').testBit i = true := hi
        rw [Nat.testBit_or, Nat.testBit_or, Nat.one_shiftLeft, Nat.testBit_two_pow, Bool.or_eq_true, Bool.or_eq_true, decide_eq_true_eq] at hi
        rcases hi with (hi | hi) | hi
        · exact ⟨e, by simp, hb, .inl hi⟩
        · exact ⟨e, by simp, hb, .inr hi⟩
        · obtain ⟨f, hf, q⟩ := h2 i hi
          exact ⟨f, List.mem_cons_of_mem _ hf, q⟩
theorem masks_spec {ops : List Oper} : ∀ (rest : List Oper) (acc : List Nat) (j : Nat) (ms : List Nat), ops.drop j = rest → acc.length = j →
    (∀ k m, acc[k]? = some m → ∀ i, m.testBit i = true → Ahead ops k i) → (∀ k o, k < j → ops[k]? = some o → ∀ e, e ∈ o.after → Region.binds .any e = true → e.on < k) → masks acc j rest = some ms →
    (∀ (k m : Nat), ms[k]? = some m → ∀ i, m.testBit i = true → Ahead ops k i) ∧ (∀ (k : Nat) (o : Oper), ops[k]? = some o → ∀ e, e ∈ o.after → Region.binds .any e = true → e.on < k) := by
  intro rest
  induction rest with
  | nil =>
    intro acc j ms hd hl ha he h
    simp only [masks] at h
    injection h with h
    subst h
    refine ⟨ha, fun k o hk => he k o ?_ hk⟩
    have := List.drop_eq_nil_iff.1 hd
    have hk' := (List.getElem?_eq_some_iff.1 hk).1
    omega
  | cons o rest ih =>
    intro acc j ms hd hl ha he h
    have ho : ops[j]? = some o := by
      have : (ops.drop j)[0]? = some o := by rw [hd]; rfl
      simpa using this
    have hd' : ops.drop (j + 1) = rest := by rw [← List.drop_drop, hd]; rfl
    simp only [masks] at h
    split at h
    case h_2 => cases h
    rename_i m hm
    obtain ⟨h1, h2⟩ := edgeMask_spec _ _ hm
    refine ih (acc ++ [m]) (j + 1) ms hd' (by simp [hl]) (fun k m' hk i hi => ?_) (fun k o' hk ho' => ?_) h
    · rcases Nat.lt_or_ge k acc.length with q | q
      · rw [List.getElem?_append_left q] at hk
        exact ha k m' hk i hi
      · rw [List.getElem?_append_right q] at hk
        have hkj : k = j := by
          have := (List.getElem?_eq_some_iff.1 hk).1
          simp at this
          omega
        subst hkj
        simp only [hl, Nat.sub_self, List.getElem?_cons_zero, Option.some.injEq] at hk
        subst hk
        obtain ⟨e, q1, q2, q3⟩ := h2 i hi
        intro L hL hk
        have hon : L e.on := hL k o ho hk e (by simpa using q1) q2
        rcases q3 with q3 | q3
        · rw [← q3]; exact hon
        · have hlt := h1 e q1 q2
          have : acc[e.on]? = some (acc.getD e.on 0) := by
            rw [List.getD_eq_getElem?_getD, List.getElem?_eq_getElem (by omega)]
            rfl
          exact ha e.on _ this i q3 L hL hon
    · rcases Nat.lt_or_ge k j with q | q
      · exact he k o' q ho'
      · have hkj : k = j := by omega
        subst hkj
        rw [ho] at ho'
        injection ho' with ho'
        subst ho'
        exact fun e q => h1 e (by simpa using q)
theorem rowOk_spec {all : List Oper} {L : List Bool} {j m : Nat} {oj : Oper} : ∀ (rest : List Oper) (i : Nat), all.drop i = rest → rowOk E all L j oj m i rest = true → ∀ (k : Nat) (ok : Oper), i ≤ k → k < j → all[k]? = some ok →
    (m.testBit k = true ∧ after L k j = false) ∨ (after L k j = false ∧ indep E all ok oj = true) ∨ (after L k j = true ∧ indep E all oj ok = true) := by
  intro rest
  induction rest with
  | nil =>
    intro i hd _ k ok hk _ hok
    have := List.drop_eq_nil_iff.1 hd
    have := (List.getElem?_eq_some_iff.1 hok).1
    omega
  | cons o rest ih =>
    intro i hd h k ok hk hkj hok
    have ho : all[i]? = some o := by
      have : (all.drop i)[0]? = some o := by rw [hd]; rfl
      simpa using this
    have hd' : all.drop (i + 1) = rest := by rw [← List.drop_drop, hd]; rfl
    simp only [rowOk] at h
    split at h
    · rename_i q
      have : ¬ i < j := by intro z; rw [← Nat.blt_eq] at z; rw [z] at q; cases q
      omega
    · have step : rowOk E all L j oj m (i + 1) rest = true ∧ ((m.testBit i = true ∧ after L i j = false) ∨ (after L i j = false ∧ indep E all o oj = true) ∨ (after L i j = true ∧ indep E all oj o = true)) := by
        split at h
        · rename_i q1 q2
          exact ⟨h, .inl ⟨q1, q2⟩⟩
        · cases h
        · rename_i q1 q2
          split at h
          · rename_i q3; exact ⟨h, .inr (.inl ⟨q2, q3⟩)⟩
          · cases h
        · rename_i q1 q2
          split at h
          · rename_i q3; exact ⟨h, .inr (.inr ⟨q2, q3⟩)⟩
          · cases h
      rcases Nat.lt_or_ge i k with q | q
      · exact ih (i + 1) hd' step.1 k ok q hkj hok
      · have : k = i := by omega
        subst this
        rw [ho] at hok
        injection hok with hok
        subst hok
        exact step.2
theorem rowsOk_spec {all : List Oper} {L : List Bool} : ∀ (rest : List Oper) (j : Nat) (ms : List Nat), all.drop j = rest → rowsOk E all L j rest ms = true → ∀ (k : Nat) (ok : Oper), j ≤ k → all[k]? = some ok → (∃ m, ms[k - j]? = some m ∧ rowOk E all L k ok m 0 all = true) ∧ edgesOk L k ok.after.toList = true := by
  intro rest
  induction rest with
  | nil =>
    intro j ms hd _ k ok hk hok
    have := List.drop_eq_nil_iff.1 hd
    have := (List.getElem?_eq_some_iff.1 hok).1
    omega
  | cons o rest ih =>
    intro j ms hd h k ok hk hok
    have ho : all[j]? = some o := by
      have : (all.drop j)[0]? = some o := by rw [hd]; rfl
      simpa using this
    have hd' : all.drop (j + 1) = rest := by rw [← List.drop_drop, hd]; rfl
    cases ms with
    | nil => simp [rowsOk] at h
    | cons m ms =>
      simp only [rowsOk] at h
      split at h
      case h_2 => cases h
      rename_i hr he
      rcases Nat.lt_or_ge j k with q | q
      · obtain ⟨⟨m', h1, h2⟩, h3⟩ := ih (j + 1) ms hd' h k ok q hok
        refine ⟨⟨m', ?_, h2⟩, h3⟩
        have : k - j = (k - (j + 1)) + 1 := by omega
        rw [this]
        exact h1
      · have : k = j := by omega
        subst this
        rw [ho] at hok
        injection hok with hok
        subst hok
        exact ⟨⟨m, by simp, hr⟩, he⟩
theorem drawOk_spec {ops : List Oper} (h : drawOk E ops = true) : ∃ ms, masks [] 0 ops = some ms ∧ DrawOk E ops (lates E ops ms) := by
  unfold drawOk at h
  split at h
  case h_2 => cases h
  rename_i ms hms
  refine ⟨ms, hms, ?_⟩
  generalize lates E ops ms = L at h
  obtain ⟨h1, h2⟩ := masks_spec (ops := ops) ops [] 0 ms (by simp) rfl (by simp) (fun k o hk => absurd hk (Nat.not_lt_zero k)) hms
  refine ⟨fun j o hj e he hb => ⟨h2 j o hj e he hb, ?_⟩, fun i j oi oj hi hj hij hk => ?_⟩
  · obtain ⟨_, h5⟩ := rowsOk_spec ops 0 ms (by simp) h j o (Nat.zero_le _) hj
    exact edgesOk_spec _ h5 e (by simpa using he) hb
  · have li := (List.getElem?_eq_some_iff.1 hi).1
    have lj := (List.getElem?_eq_some_iff.1 hj).1
    rcases Nat.lt_or_gt_of_ne hij with q | q
    · obtain ⟨⟨m, h3, h4⟩, _⟩ := rowsOk_spec ops 0 ms (by simp) h j oj (Nat.zero_le _) hj
      rcases rowOk_spec ops 0 (by simp) h4 i oi (Nat.zero_le _) q hi with ⟨q1, q2⟩ | ⟨q1, q2⟩ | ⟨q1, q2⟩
      · exact .inl (h1 j m (by simpa using h3) i q1)
      · exact .inr q2
      · exfalso
        rw [after_spec] at q1
        simp only [Bool.and_eq_true, Bool.not_eq_true'] at q1
        unfold keyOf at hk
        rw [if_pos q1.1, if_neg (by rw [q1.2]; simp)] at hk
        omega
    · obtain ⟨⟨m, h3, h4⟩, _⟩ := rowsOk_spec ops 0 ms (by simp) h i oi (Nat.zero_le _) hi
      have q' : after L j i = true := by
        rw [after_spec]
        unfold keyOf at hk
        cases qj : lateB L j
        · rw [qj] at hk
          simp only [Bool.false_eq_true, if_false] at hk
          split at hk <;> omega
        · cases qi : lateB L i
          · rfl
          · rw [qi, qj] at hk
            simp only [if_true] at hk
            omega
      rcases rowOk_spec ops 0 (by simp) h4 j oj (Nat.zero_le _) q hj with ⟨_, q2⟩ | ⟨q1, _⟩ | ⟨_, q2⟩
      · rw [q'] at q2; cases q2
      · rw [q'] at q1; cases q1
      · exact .inr q2
theorem ble_false {i j : Nat} (h : ¬ i ≤ j) : Nat.ble i j = false := by
  cases q : Nat.ble i j
  · rfl
  · exact absurd (Nat.le_of_ble_eq_true q) h
theorem ble_true {i j : Nat} (h : i ≤ j) : Nat.ble i j = true := Nat.ble_eq_true_of_le h
theorem reserve_e (h : Hp) (n id : Nat) : (reserve h n).e id = if h.next ≤ id ∧ id < h.next + n then some .rsv else h.e id := by
  simp only [reserve]
  by_cases h1 : h.next ≤ id
  · by_cases h2 : id < h.next + n
    · have q1 := ble_true h1
      have q2 : Nat.blt id (h.next + n) = true := ble_true h2
      simp [h1, h2, q1, q2]
    · have : Nat.blt id (h.next + n) = false := ble_false h2
      simp [this, h2]
  · have : Nat.ble h.next id = false := ble_false h1
    simp [this, h1]
theorem nil_has {b : Nat} : ¬ Bk.nil.has b := by rintro (q | q); cases q; exact q
theorem HInv.reserve (H : HInv S B w0 h M w) (n : Nat) : HInv S B w0 (reserve h n) (fun id => if h.next ≤ id then .nil else M id) w ∧ HStp S h M w (Go.PG.reserve h n) (fun id => if h.next ≤ id then .nil else M id) w := by
  have old : ∀ id, id < h.next → (Go.PG.reserve h n).e id = h.e id := fun id q => by rw [reserve_e]; simp [show ¬ h.next ≤ id by omega]
  have oldM : ∀ id, id < h.next → (if h.next ≤ id then Bk.nil else M id) = M id := fun id q => by simp [show ¬ h.next ≤ id by omega]
  have new : ∀ id e, h.next ≤ id → (Go.PG.reserve h n).e id = some e → e = .rsv := by
    intro id e q he
    rw [reserve_e, H.fresh id q] at he
    split at he
    · injection he with he; exact he.symm
    · cases he
  have hZ : ∀ b, (cx S (Go.PG.reserve h n) (fun id => if h.next ≤ id then .nil else M id) w).Z b → (cx S h M w).Z b := by
    rintro b (z | ⟨id, e, q1, q2⟩)
    · exact .inl z
    · rcases Nat.lt_or_ge id h.next with q | q
      · refine .inr ⟨id, e, (old id q).symm.trans q1, ?_⟩
        have := oldM id q
        simp only [cx] at q2
        rw [this] at q2
        exact q2
      · simp only [cx, if_pos q] at q2
        exact absurd q2 nil_has
  have k : Tr (cx S h M w) (cx S (Go.PG.reserve h n) (fun id => if h.next ≤ id then .nil else M id) w) := by
    refine ⟨Held.of_le w hZ, Nat.le_add_right _ _, fun id hid => ?_⟩
    have hid : id < h.next := hid
    simp only [cx]
    rw [old id hid, oldM id hid]
    exact ids_self H id
  refine ⟨⟨fun id e he => ?_, fun id hid => ?_, fun i j b hi hj h1 h2 => ?_, fun i b hi hb => ?_, H.bel, H.bsz, H.old, H.bw⟩, k, rfl, fun id hid _ => ⟨old id hid, oldM id hid⟩⟩
  · rcases Nat.lt_or_ge id h.next with q | q
    · rw [old id q] at he
      exact (H.ent id e he).tr k (oldM id q) (fun _ _ => rfl)
    · have := new id e q he
      subst this
      simp [EntOk, cx, q]
  · have hid : h.next + n ≤ id := hid
    rw [reserve_e, H.fresh id (by omega)]
    simp [show ¬ id < h.next + n by omega]
  · rcases Nat.lt_or_ge i h.next with q | q
    · rcases Nat.lt_or_ge j h.next with q' | q'
      · rw [oldM i q] at h1; rw [oldM j q'] at h2
        rw [old i q] at hi; rw [old j q'] at hj
        exact H.dist i j b hi hj h1 h2
      · simp only [if_pos q'] at h2; exact absurd h2 nil_has
    · simp only [if_pos q] at h1; exact absurd h1 nil_has
  · rcases Nat.lt_or_ge i h.next with q | q
    · rw [oldM i q] at hb; rw [old i q] at hi
      exact H.own i b hi hb
    · simp only [if_pos q] at hb; exact absurd hb nil_has
theorem HInv.fill (H : HInv S B w0 h M w) {id : Nat} (he : h.e id = some .rsv) (hl : h.lk id = false) (e : Ent) (bk : Bk) (hh : ∀ b, b < w.heap.size → w'.heap[b]? = w.heap[b]?) (hs : w.heap.size ≤ w'.heap.size) (bel : Below B w w')
    (hb : ∀ b, bk.has b → w.heap.size ≤ b)
    (q : Tr (cx S h M w) (cx S (h.put id e) (set1 M id bk) w') → EntOk (cx S (h.put id e) (set1 M id bk) w') id e) :
    HInv S B w0 (h.put id e) (set1 M id bk) w' ∧ HStp S h M w (h.put id e) (set1 M id bk) w' := by
  have ne : ∀ j, j ≠ id → (h.put id e).e j = h.e j ∧ set1 M id bk j = M j := fun j q => by simp [Hp.put, set1, beq_false q]
  have at_ : (h.put id e).e id = some e ∧ set1 M id bk id = bk := by simp [Hp.put, set1, Nat.beq_refl]
  have hnil : M id = .nil := H.ent id _ he
  have hid := H.lt he
  have hZ : ∀ b, (cx S (h.put id e) (set1 M id bk) w').Z b → (cx S h M w).Z b ∨ bk.has b := by
    rintro b (z | ⟨j, e', q1, q2⟩)
    · exact .inl (.inl z)
    · by_cases hj : j = id
      · subst hj
        simp only [cx] at q2
        rw [at_.2] at q2
        exact .inr q2
      · simp only [cx] at q1 q2
        rw [(ne j hj).1] at q1
        rw [(ne j hj).2] at q2
        exact .inl (.inr ⟨j, e', q1, q2⟩)
  have k : Tr (cx S h M w) (cx S (h.put id e) (set1 M id bk) w') := by
    refine ⟨fun b hlt hz => ⟨fun z => ?_, hh b hlt⟩, Nat.le_refl _, fun j hj => ?_⟩
    · rcases hZ b z with z | z
      · exact hz z
      · exact absurd (hb b z) (by simp only [cx] at hlt; omega)
    · simp only [cx]
      by_cases hji : j = id
      · subst hji
        exact .inr (.inl ⟨he, hnil⟩)
      · rw [(ne j hji).1, (ne j hji).2]
        exact ids_self H j
  refine ⟨⟨fun j e' hq => ?_, fun j hj => ?_, fun i j b hi hj => ?_, fun i b hi hib => ?_, H.bel.trans bel, Nat.le_trans H.bsz hs, H.old, H.bw⟩, k, rfl, fun j hj hlk => ?_⟩
  · by_cases hji : j = id
    · subst hji
      rw [at_.1] at hq
      injection hq with hq
      subst hq
      exact q k
    · rw [(ne j hji).1] at hq
      exact (H.ent j e' hq).tr k (ne j hji).2 (fun b hbb => hh b (blk_lt H (by rw [hq]; simp) hbb))
  · have hj : h.next ≤ j := hj
    rw [(ne j (by omega)).1]
    exact H.fresh j hj
  · by_cases hin : i = id
    · by_cases hjn : j = id
      · intro _ _; exact hin.trans hjn.symm
      · intro h1 h2
        subst hin
        rw [at_.2] at h1
        rw [(ne j hjn).1] at hj
        rw [(ne j hjn).2] at h2
        exact absurd (hb b h1) (by have := blk_lt H hj h2; omega)
    · by_cases hjn : j = id
      · intro h1 h2
        subst hjn
        rw [at_.2] at h2
        rw [(ne i hin).1] at hi
        rw [(ne i hin).2] at h1
        exact absurd (hb b h2) (by have := blk_lt H hi h1; omega)
      · rw [(ne i hin).1] at hi
        rw [(ne j hjn).1] at hj
        rw [(ne i hin).2, (ne j hjn).2]
        exact H.dist i j b hi hj
  · by_cases hin : i = id
    · subst hin
      rw [at_.2] at hib
      exact Nat.le_trans H.bsz (hb b hib)
    · rw [(ne i hin).1] at hi
      rw [(ne i hin).2] at hib
      exact H.own i b hi hib
  · have hji : j ≠ id := by rintro rfl; rw [hl] at hlk; cases hlk
    exact ne j hji
end Go.PG
end
section
namespace Go.PG
variable {E : Env} {ρ : Type} {K : AV → Hp → Option ρ} {st st2 : St} {o : Oper}
theorem buildParts_congr {fr fr2 : Nat → AV} {L : Ty} : ∀ (l : List (Nat × Operand)) (v : AV), (∀ p, p ∈ l → ∀ ty, opnd ty fr2 p.2 = opnd ty fr p.2) → buildParts fr2 L l v = buildParts fr L l v := by
  intro l
  induction l with
  | nil => intro v _; rfl
  | cons p l ih =>
    obtain ⟨j, x⟩ := p
    intro v h
    have hx := h (j, x) (by simp)
    simp only [buildParts, hx]
    split
    · split
      · split
        · exact ih _ (fun p hp => h p (List.mem_cons_of_mem _ hp))
        · rfl
      · rfl
    · rfl
theorem evOp_congr {call : Handler} (h : ∀ x, x ∈ o.op.operands.toList → ∀ ty, opnd ty st2.fr x = opnd ty st.fr x) (hh : st2.h = st.h) : evOp E call o st2 K = evOp E call o st K := by
  unfold evOp
  simp only [hh]
  cases ho : o.op with
  | build t ps =>
    simp only [ho, Op.operands] at h
    have hp : ∀ p, p ∈ ps.toList → ∀ ty, opnd ty st2.fr p.2 = opnd ty st.fr p.2 := fun p hp ty => h p.2 (by simp; exact ⟨p.1, by simpa using hp⟩) ty
    simp only
    split
    · rw [buildParts_congr _ _ hp]
    · rfl
  | buildSlice t n ps =>
    simp only [ho, Op.operands] at h
    have hp : ∀ p, p ∈ ps.toList → ∀ ty, opnd ty st2.fr p.2 = opnd ty st.fr p.2 := fun p hp ty => h p.2 (by simp; exact ⟨p.1, by simpa using hp⟩) ty
    simp only
    split
    · rename_i e _
      have e1 : (ps.toList.map fun p => (p.1, opnd (some e) st2.fr p.2)) = (ps.toList.map fun p => (p.1, opnd (some e) st.fr p.2)) := List.map_congr_left fun p q => by rw [hp p q]
      have e2 : (ps.toList.map fun p => (opnd (some e) st2.fr p.2).owns) = (ps.toList.map fun p => (opnd (some e) st.fr p.2).owns) := List.map_congr_left fun p q => by rw [hp p q]
      simp only [e1, List.flatMap_def, e2]
    · rfl
  | slice t x lo hi mx =>
    simp only [ho, Op.operands] at h
    have hx := h x (by simp)
    have h1 : lo.map (opnd none st2.fr) = lo.map (opnd none st.fr) := by
      cases lo with
      | none => rfl
      | some y => simp only [Option.map_some]; rw [h y (by simp)]
    have h2 : hi.map (opnd none st2.fr) = hi.map (opnd none st.fr) := by
      cases hi with
      | none => rfl
      | some y => simp only [Option.map_some]; rw [h y (by simp)]
    have h3 : mx.map (opnd none st2.fr) = mx.map (opnd none st.fr) := by
      cases mx with
      | none => rfl
      | some y => simp only [Option.map_some]; rw [h y (by simp)]
    simp only [hx, h1, h2, h3]
  | makeFunc f first caps =>
    simp only [ho, Op.operands] at h
    have hc : caps.toList.map (opnd none st2.fr) = caps.toList.map (opnd none st.fr) := List.map_congr_left fun x hx => h x (by simp; right; simpa using hx) none
    cases f <;> simp only [hc]
  | call c =>
    simp only [ho, Op.operands] at h
    have ha : ∀ x, x ∈ c.args.toList → ∀ ty, opnd ty st2.fr x = opnd ty st.fr x := fun x hx ty => h x (by
      simp only [Call.operands]
      cases c.callee <;> simp <;> first | exact .inr (by simpa using hx) | simpa using hx) ty
    have h1 : c.args.toList.map (opnd none st2.fr) = c.args.toList.map (opnd none st.fr) := List.map_congr_left fun x hx => ha x hx none
    have h2 : (c.args.toList.zip c.argTypes.toList).map (fun p => opnd (E.ty p.2) st2.fr p.1) = (c.args.toList.zip c.argTypes.toList).map (fun p => opnd (E.ty p.2) st.fr p.1) :=
      List.map_congr_left fun p hp => ha p.1 (List.of_mem_zip hp).1 _
    cases hc : c.callee with
    | builtin b => simp only [hc, h1]
    | value f =>
      have hf := h f (by simp [Call.operands, hc])
      simp only [hc, hf, h2]
    | invoke r m => simp only [hc]
  | _ => simp only [ho, Op.operands] at h; first | rfl | (simp [h]; done) | simp_all
end Go.PG
end
section
namespace Go.PG
open Go.RowKit
variable {Pg : Program} {G : World → Prop} {E : Env} {S : Nat → Prop} {B : Nat} {w0 w w' w'' : World} {h h' h2 : Hp} {M M' M'' : Nat → Bk} {ρ : Type} {r : ρ} {st st' st'' st2 : St} {a a' a'' : Act} {o : Oper}
structure Agree (l : List Operand) (st st2 : St) : Prop where
  op : ∀ x, x ∈ l → ∀ ty, opnd ty st2.fr x = opnd ty st.fr x
  row : ∀ id e xs, st.h.e id = some (.row e xs) → st2.h.e id = some (.row e xs)
  live : ∀ id, st.h.e id ≠ none → st2.h.e id ≠ none
  box : ∀ x, x ∈ l → ∀ id p v L, opnd none st.fr x = .ptr id p → st.h.e id = some (.box v L) → st2.h.e id = some (.box v L)
theorem toD_agree (hrow : ∀ id e xs, h.e id = some (.row e xs) → h2.e id = some (.row e xs)) : ∀ (v : AV) (t : Ty) (x : t.D), toD h v t = some x → toD h2 v t = some x := by
  intro v
  induction v with
  | own id =>
    intro t x hx
    cases t with
    | slice e =>
      simp only [toD] at hx ⊢
      split at hx
      · rename_i e' ys q
        rw [hrow id _ _ q]
        exact hx
      · cases hx
    | _ => simp [toD] at hx
  | view id a n =>
    intro t x hx
    cases t with
    | slice e =>
      simp only [toD] at hx ⊢
      split at hx
      · rename_i e' ys q
        rw [hrow id _ _ q]
        exact hx
      · cases hx
    | _ => simp [toD] at hx
  | st b ih =>
    intro t x hx
    cases t with
    | st tb => simp only [toD] at hx ⊢; exact ih tb x hx
    | _ => simp [toD] at hx
  | pr p q ihp ihq =>
    intro t x hx
    cases t with
    | pair ta tb =>
      simp only [toD] at hx ⊢
      split at hx
      case h_2 => cases hx
      rename_i y hy
      split at hx
      case h_2 => cases hx
      rename_i z hz
      rw [ihp ta y hy]
      simp only
      rw [ihq tb z hz]
      exact hx
    | _ => simp [toD] at hx
  | data t' y => intro t x hx; simp only [toD] at hx ⊢; exact hx
  | nilS e => intro t x hx; cases t <;> first | exact hx | simp [toD] at hx
  | unit => intro t x hx; cases t <;> first | exact hx | simp [toD] at hx
  | _ => intro t x hx; simp [toD] at hx
theorem argsD_any : ∀ (args : List AV) (t : Ty), argsD h args t = argsD h2 args t := by
  intro args
  induction args with
  | nil => intro t; rfl
  | cons x args ih =>
    intro t
    cases args with
    | nil => cases t <;> rfl
    | cons y args =>
      cases t with
      | pair p q => simp only [argsD]; rw [ih q]
      | _ => rfl
theorem sliceLen_agree (hrow : ∀ id e xs, h.e id = some (.row e xs) → h2.e id = some (.row e xs)) {v : AV} {n : Int} (hn : sliceLen h v = some n) : sliceLen h2 v = some n := by
  cases v with
  | own id =>
    simp only [sliceLen] at hn ⊢
    split at hn
    · rename_i e xs q
      rw [hrow id _ _ q]
      exact hn
    · cases hn
  | view id a m =>
    simp only [sliceLen] at hn ⊢
    split at hn
    · rename_i e xs q
      rw [hrow id _ _ q]
      exact hn
    · cases hn
  | data t x => cases t <;> first | exact hn | simp [sliceLen] at hn
  | nilS e => exact hn
  | _ => simp [sliceLen] at hn
theorem len_agree {ts : Array TypeId} {args : List AV} {K : AV → Hp → Option ρ} (hr : evBuiltin E .len ts args h K = some r) :
    ∃ v, K v h = some r ∧ ∀ {σ : Type} (h2 : Hp) (K' : AV → Hp → Option σ), (∀ id e xs, h.e id = some (.row e xs) → h2.e id = some (.row e xs)) → evBuiltin E .len ts args h2 K' = K' v h2 := by
  unfold evBuiltin at hr
  split at hr
  · rename_i x _
    split at hr
    case h_2 => cases hr
    rename_i t l ht
    split at hr
    · rename_i s hty
      exact ⟨_, hr, fun h2 K' hrow => by simp only [evBuiltin, ht, hty]⟩
    · cases hr
    · rename_i x _ _ e hty hno
      split at hr
      case h_2 => cases hr
      rename_i n hn
      refine ⟨_, hr, fun h2 K' hrow => ?_⟩
      have hn2 := sliceLen_agree hrow hn
      cases x with
      | data t' y => cases t' with
        | str => exact (hno y rfl).elim
        | _ => simp only [evBuiltin, ht, hty, hn2]
      | _ => simp only [evBuiltin, ht, hty, hn2]
    · cases hr
  · rename_i hb; cases hb
  · rename_i hb; cases hb
  · rename_i hb; cases hb
  · rename_i hb; cases hb
  · cases hr
theorem fillParts_agree (hrow : ∀ id e xs, h.e id = some (.row e xs) → h2.e id = some (.row e xs)) {e : Ty} : ∀ (l : List (Nat × AV)) (xs ys : List e.D), fillParts e h l xs = some ys → fillParts e h2 l xs = some ys := by
  intro l
  induction l with
  | nil => intro xs ys q; exact q
  | cons p l ih =>
    obtain ⟨i, v⟩ := p
    intro xs ys q
    simp only [fillParts] at q ⊢
    split at q
    · rename_i x h1 h3
      rw [toD_agree hrow v e x h1, h3]
      exact ih _ _ q
    · cases q
theorem light_agree {K : AV → Hp → Option ρ} (hl : isLight E o.op = true) (hr : evLight E o st K = some r) :
    ∃ v, K v st.h = some r ∧ ∀ {σ : Type} (st2 : St) (K' : AV → Hp → Option σ), Agree o.op.operands.toList st st2 → evLight E o st2 K' = K' v st2.h := by
  unfold evLight at hr
  split at hr
  · -- buildSlice
    rename_i t n ps ho
    have hp : ∀ (st2 : St), Agree o.op.operands.toList st st2 → ∀ p, p ∈ ps.toList → ∀ ty, opnd ty st2.fr p.2 = opnd ty st.fr p.2 := fun st2 ag p hp ty => ag.op p.2 (by simp [ho, Op.operands]; exact ⟨p.1, by simpa using hp⟩) ty
    unfold evLbs at hr
    split at hr
    case h_2 => cases hr
    rename_i e hty
    split at hr
    case h_2 => cases hr
    rename_i xs hf hd hs
    split at hr
    case h_2 => cases hr
    rename_i hnb
    refine ⟨_, hr, fun st2 K' ag => ?_⟩
    have e1 : (ps.toList.map fun p => (p.1, opnd (some e) st2.fr p.2)) = (ps.toList.map fun p => (p.1, opnd (some e) st.fr p.2)) := List.map_congr_left fun p q => by rw [hp st2 ag p q]
    have e2 : (ps.toList.map fun p => (opnd (some e) st2.fr p.2).owns) = (ps.toList.map fun p => (opnd (some e) st.fr p.2).owns) := List.map_congr_left fun p q => by rw [hp st2 ag p q]
    have hnb2 : nobody (ps.toList.flatMap fun p => (opnd (some e) st2.fr p.2).owns) = true := by rw [List.flatMap_def, e2, ← List.flatMap_def]; exact hnb
    simp only [evLight, ho, evLbs, hty, e1, fillParts_agree ag.row _ _ _ hf, hd, hs, hnb2]
  · -- call
    rename_i c ho
    unfold evLcall at hr
    split at hr
    · rename_i hc
      obtain ⟨v, h1, h2⟩ := len_agree hr
      refine ⟨v, h1, fun st2 K' ag => ?_⟩
      have hargs : c.args.toList.map (opnd none st2.fr) = c.args.toList.map (opnd none st.fr) := List.map_congr_left fun x hx => ag.op x (by simp [ho, Op.operands, Call.operands, hc]; simpa using hx) none
      simp only [evLight, ho, evLcall, hc, hargs]
      exact h2 st2.h K' ag.row
    · rename_i g hc
      split at hr
      case h_2 => cases hr
      rename_i s hlen hs
      split at hr
      case h_2 => cases hr
      rename_i v hv
      split at hr
      case h_2 => cases hr
      rename_i x hx hb
      obtain ⟨res, hres, hk⟩ := bind_some hr
      refine ⟨_, hk, fun st2 K' ag => ?_⟩
      have hargs : (c.args.toList.zip c.argTypes.toList).map (fun p => opnd (E.ty p.2) st2.fr p.1) = (c.args.toList.zip c.argTypes.toList).map (fun p => opnd (E.ty p.2) st.fr p.1) :=
        List.map_congr_left fun p hp => ag.op p.1 (by
          have := (List.of_mem_zip hp).1
          simp [ho, Op.operands, Call.operands, hc]
          right; simpa using this) _
      simp only [evLight, ho, evLcall, hc, hlen, hs, hargs]
      rw [argsD_any (h := st2.h) (h2 := st.h), hv]
      simp only [toD_agree ag.row v s.a x hx, hb, hres, P.bind]
    · cases hr
  · -- slice
    rename_i t x lo hi mx ho
    have hops : ∀ y, y = x ∨ some y = lo ∨ some y = hi ∨ some y = mx → y ∈ o.op.operands.toList := by
      intro y hy
      simp only [ho, Op.operands]
      rcases hy with rfl | hy | hy | hy
      · simp
      · subst hy; simp
      · subst hy; simp
      · subst hy; simp
    have key : ∀ (st2 : St), Agree o.op.operands.toList st st2 → opnd none st2.fr x = opnd none st.fr x ∧ lo.map (opnd none st2.fr) = lo.map (opnd none st.fr) ∧ hi.map (opnd none st2.fr) = hi.map (opnd none st.fr) ∧ mx.map (opnd none st2.fr) = mx.map (opnd none st.fr) := by
      intro st2 ag
      refine ⟨ag.op x (hops x (.inl rfl)) none, ?_, ?_, ?_⟩
      · cases lo with
        | none => rfl
        | some y => simp only [Option.map_some]; rw [ag.op y (hops y (by simp)) none]
      · cases hi with
        | none => rfl
        | some y => simp only [Option.map_some]; rw [ag.op y (hops y (by simp)) none]
      · cases mx with
        | none => rfl
        | some y => simp only [Option.map_some]; rw [ag.op y (hops y (by simp)) none]
    have fin : ∀ v, K v st.h = some r → (∀ {σ : Type} (h2 : Hp) (K' : AV → Hp → Option σ), (∀ id e xs, st.h.e id = some (.row e xs) → h2.e id = some (.row e xs)) → evLslice (E.ty t) (opnd none st.fr x) (lo.map (opnd none st.fr)) (hi.map (opnd none st.fr)) (mx.map (opnd none st.fr)) h2 K' = K' v h2) →
        ∃ v, K v st.h = some r ∧ ∀ {σ : Type} (st2 : St) (K' : AV → Hp → Option σ), Agree o.op.operands.toList st st2 → evLight E o st2 K' = K' v st2.h := by
      intro v h1 h2
      refine ⟨v, h1, fun st2 K' ag => ?_⟩
      obtain ⟨q1, q2, q3, q4⟩ := key st2 ag
      simp only [evLight, ho, q1, q2, q3, q4]
      exact h2 st2.h K' ag.row
    unfold evLslice at hr
    generalize opnd none st.fr x = X at hr fin
    generalize lo.map (opnd none st.fr) = LO at hr fin
    generalize hi.map (opnd none st.fr) = HI at hr fin
    generalize mx.map (opnd none st.fr) = MX at hr fin
    generalize E.ty t = TY at hr fin
    have vcase : ∀ (X : AV) (id : Nat), (∃ a n, X = .view id a n) ∨ (X = .own id ∧ LO ≠ none) → (∀ {σ : Type} (h' : Hp) (K' : AV → Hp → Option σ), evLslice TY X LO HI none h' K' = evSlice TY X LO HI none h' K') → evSlice TY X LO HI none st.h K = some r →
        ∃ v, K v st.h = some r ∧ ∀ {σ : Type} (h2 : Hp) (K' : AV → Hp → Option σ), (∀ id e xs, st.h.e id = some (.row e xs) → h2.e id = some (.row e xs)) → evLslice TY X LO HI none h2 K' = K' v h2 := by
      intro X id hX hL hr
      unfold evSlice at hr
      simp only at hr
      split at hr
      · cases hr
      rename_i n hn
      split at hr
      case h_2 => cases hr
      rename_i l u hl' hu'
      obtain ⟨ht, hr2⟩ := test_some hr
      clear hr
      rcases hX with ⟨a, k, rfl⟩ | ⟨rfl, hlo⟩
      · split at hr2
        · rename_i e e' xs q; cases q
        · rename_i s q; cases q
        · rename_i q; cases q
        · rename_i q; cases q
        · rename_i e id' a' k' q
          injection q with q1 q2 q3
          subst q1; subst q2; subst q3
          split at hr2
          case h_2 => cases hr2
          rename_i e2 xs he
          split at hr2
          case h_2 => cases hr2
          rename_i hd
          refine ⟨_, hr2, fun h2' K' hrow => ?_⟩
          have hn2 : sliceLen h2' (.view id a k) = some n := sliceLen_agree hrow hn
          rw [hL]
          simp only [evSlice, hn2, hl', hu', ht, test, P.cond, hrow _ _ _ he, hd]
        · cases hr2
      · split at hr2
        · rename_i e e' xs q; cases q
        · rename_i s q; cases q
        · rename_i e id' q
          injection q with q1
          subst q1
          cases LO with
          | none => exact absurd rfl hlo
          | some l0 =>
            simp only at hr2
            split at hr2
            case h_2 => cases hr2
            rename_i e2 xs he
            split at hr2
            case h_2 => cases hr2
            rename_i hd
            refine ⟨_, hr2, fun h2' K' hrow => ?_⟩
            have hn2 : sliceLen h2' (.own id) = some n := sliceLen_agree hrow hn
            rw [hL]
            simp only [evSlice, hn2, hl', hu', ht, test, P.cond, hrow _ _ _ he, hd]
        · rename_i q; cases q
        · rename_i q; cases q
        · cases hr2
    split at hr
    · rename_i id
      split at hr
      case h_2 => cases hr
      rename_i l0
      obtain ⟨v, h1, h2⟩ := vcase (.own id) id (.inr ⟨rfl, by simp⟩) (fun _ _ => rfl) hr
      exact fin v h1 h2
    · rename_i id a n
      split at hr
      case h_2 => cases hr
      obtain ⟨v, h1, h2⟩ := vcase (.view id a n) id (.inl ⟨a, n, rfl⟩) (fun _ _ => rfl) hr
      exact fin v h1 h2
    rename_i hno hnv
    unfold evSlice at hr
    split at hr
    · rename_i m
      split at hr
      case h_2 => cases hr
      rename_i e h1 h2 h3
      split at hr
      · rename_i e' xs
        exact fin _ hr (fun h2' K' _ => by simp only [evLslice, evSlice, h1, h2, h3])
      · exact fin _ hr (fun h2' K' _ => by simp only [evLslice, evSlice, h1, h2, h3])
      · rename_i id; exact (hno id rfl).elim
      · rename_i id a n; exact (hnv id a n rfl).elim
      · cases hr
    · split at hr
      · cases hr
      rename_i n hn
      split at hr
      case h_2 => cases hr
      rename_i l u hl' hu'
      obtain ⟨ht, hr2⟩ := test_some hr
      clear hr
      split at hr2
      · rename_i e e' xs
        split at hr2
        case h_2 => cases hr2
        rename_i hd
        have hr := hr2
        refine fin _ hr (fun h2' K' hrow => ?_)
        have hn2 : sliceLen h2' (.data (.slice e') xs) = some n := sliceLen_agree hrow hn
        simp only [evLslice, evSlice, hn2, hl', hu', ht, test, P.cond, hd]
      · rename_i s
        have hr := hr2
        refine fin _ hr (fun h2' K' hrow => ?_)
        have hn2 : sliceLen h2' (.data .str s) = some n := sliceLen_agree hrow hn
        simp only [evLslice, evSlice, hn2, hl', hu', ht, test, P.cond]
      · rename_i id; exact (hno id rfl).elim
      · rename_i e e'
        split at hr2
        case h_2 => cases hr2
        rename_i hd
        have hr := hr2
        refine fin _ hr (fun h2' K' hrow => ?_)
        have hn2 : sliceLen h2' (.nilS e') = some n := sliceLen_agree hrow hn
        simp only [evLslice, evSlice, hn2, hl', hu', ht, test, P.cond, hd]
      · rename_i id a n; exact (hnv id a n rfl).elim
      · cases hr2
  · rename_i hnb hnc hns
    have rest : ∀ (st2 : St) {σ : Type} (K' : AV → Hp → Option σ), evLight E o st2 K' = evOp E noCall o st2 K' := by
      intro st2 σ K'
      unfold evLight
      split
      · rename_i t n ps q; exact (hnb t n ps q).elim
      · rename_i c q; exact (hnc c q).elim
      · rename_i t x lo hi mx q; exact (hns t x lo hi mx q).elim
      · rfl
    suffices ∃ v, K v st.h = some r ∧ ∀ {σ : Type} (st2 : St) (K' : AV → Hp → Option σ), Agree o.op.operands.toList st st2 → evOp E noCall o st2 K' = K' v st2.h by
      obtain ⟨v, h1, h2⟩ := this
      exact ⟨v, h1, fun st2 K' ag => (rest st2 K').trans (h2 st2 K' ag)⟩
    clear rest
    unfold evOp at hr
    simp only at hr
    split at hr
    · rename_i x ho
      exact ⟨_, hr, fun st2 K' ag => by simp only [evOp, ho, ag.op x (by simp [ho, Op.operands])]⟩
    · rename_i x ho
      exact ⟨_, hr, fun st2 K' ag => by simp only [evOp, ho, ag.op x (by simp [ho, Op.operands])]⟩
    · rename_i c x y ho
      split at hr
      case h_2 => cases hr
      rename_i t e
      have hr := cond_some hr
      cases t with
      | true =>
        refine ⟨opnd (E.ty o.type) st.fr x, by simpa using hr, fun st2 K' ag => ?_⟩
        have e2 := (ag.op c (by simp [ho, Op.operands]) none).trans e
        simp only [evOp, ho, e2, P.cond, ag.op x (by simp [ho, Op.operands])]
      | false =>
        refine ⟨opnd (E.ty o.type) st.fr y, by simpa using hr, fun st2 K' ag => ?_⟩
        have e2 := (ag.op c (by simp [ho, Op.operands]) none).trans e
        simp only [evOp, ho, e2, P.cond, ag.op y (by simp [ho, Op.operands])]
    · rename_i t ho; simp [ho, isLight] at hl
    · rename_i t n ho; simp [ho, isLight] at hl
    · rename_i t m k ok ho; simp [ho, isLight] at hl
    · rename_i t m k v ho; simp [ho, isLight] at hl
    · rename_i t m k v ho; simp [ho, isLight] at hl
    · rename_i t x ho; simp [ho, isLight] at hl
    · -- build
      rename_i t ps ho
      split at hr
      case h_2 => cases hr
      rename_i b hty
      split at hr
      case h_2 => cases hr
      rename_i v hv
      refine ⟨_, hr, fun st2 K' ag => ?_⟩
      have hp : ∀ p, p ∈ ps.toList → ∀ ty, opnd ty st2.fr p.2 = opnd ty st.fr p.2 := fun p hp ty => ag.op p.2 (by simp [ho, Op.operands]; exact ⟨p.1, by simpa using hp⟩) ty
      simp only [evOp, ho, hty, buildParts_congr _ _ hp, hv]
    · rename_i t n x ho; exact (hnb t n x ho).elim
    · -- load
      rename_i t x ho
      have hm : x ∈ o.op.operands.toList := by simp [ho, Op.operands]
      split at hr
      · rename_i u y e
        split at hr
        case h_2 => cases hr
        rename_i hd
        exact ⟨_, hr, fun st2 K' ag => by simp only [evOp, ho, (ag.op x hm none).trans e, hd]⟩
      · rename_i id p e
        split at hr
        case h_2 => cases hr
        rename_i v L he
        split at hr
        case h_2 => cases hr
        rename_i off u hoff
        split at hr
        case h_2 => cases hr
        rename_i y hd hy
        exact ⟨_, hr, fun st2 K' ag => by simp only [evOp, ho, (ag.op x hm none).trans e, ag.box x hm id p v L e he, hoff, hd, hy]⟩
      · rename_i id i p e
        split at hr
        case h_2 => cases hr
        rename_i et xs he
        split at hr
        case h_2 => cases hr
        rename_i off u hoff
        split at hr
        case h_2 => cases hr
        rename_i y hd hy
        exact ⟨_, hr, fun st2 K' ag => by simp only [evOp, ho, (ag.op x hm none).trans e, ag.row id et xs he, hoff, hd, hy]⟩
      · cases hr
    · rename_i t x y ho; simp [ho, isLight] at hl
    · -- nilCheck
      rename_i x ho
      have hm : x ∈ o.op.operands.toList := by simp [ho, Op.operands]
      split at hr
      · rename_i id p e
        split at hr
        case h_2 => cases hr
        rename_i en he
        refine ⟨_, hr, fun st2 K' ag => ?_⟩
        have hne := ag.live id (by rw [he]; simp)
        simp only [evOp, ho, (ag.op x hm none).trans e]
        split
        · rfl
        · rename_i q; exact absurd q hne
      · rename_i t y e
        exact ⟨_, hr, fun st2 K' ag => by simp only [evOp, ho, (ag.op x hm none).trans e]⟩
      · rename_i id i p e
        split at hr
        case h_2 => cases hr
        rename_i en he
        refine ⟨_, hr, fun st2 K' ag => ?_⟩
        have hne := ag.live id (by rw [he]; simp)
        simp only [evOp, ho, (ag.op x hm none).trans e]
        split
        · rfl
        · rename_i q; exact absurd q hne
      · rename_i f c e
        exact ⟨_, hr, fun st2 K' ag => by simp only [evOp, ho, (ag.op x hm none).trans e]⟩
      · cases hr
    · -- binOp
      rename_i op t x y u ho
      have hm : x ∈ o.op.operands.toList := by simp [ho, Op.operands]
      have hm2 : y ∈ o.op.operands.toList := by simp [ho, Op.operands]
      split at hr
      · rename_i b e h1 h2 h3
        split at hr
        case h_2 => cases hr
        rename_i n hn
        have hn2 : ∀ st2 : St, (∀ id e xs, st.h.e id = some (.row e xs) → st2.h.e id = some (.row e xs)) → rowLen st2.h (opnd (E.ty t) st.fr x) = some n := by
          intro st2 hrow
          unfold rowLen at hn ⊢
          split at hn
          · cases hn
          · rename_i hno
            have := sliceLen_agree hrow hn
            exact this
        have hr := cond_some hr
        by_cases hp : P.ilt 0 n = true
        · rw [if_pos hp] at hr
          exact ⟨_, hr, fun st2 K' ag => by
            have hn2' := hn2 st2 ag.row
            rw [h3] at hn2'
            simp only [evOp, ho, ag.op x hm, h1, h2, h3, hn2', hp, P.cond]⟩
        · rw [if_neg hp] at hr
          exact ⟨_, hr, fun st2 K' ag => by
            have hn2' := hn2 st2 ag.row
            rw [h3] at hn2'
            simp only [evOp, ho, ag.op x hm, h1, h2, h3, hn2', Bool.eq_false_iff.2 hp, P.cond]⟩
      split at hr
      · rename_i b v hh
        obtain ⟨ht, hr⟩ := test_some hr
        exact ⟨_, hr, fun st2 K' ag => by simp only [evOp, ho, ag.op x hm, ag.op y hm2, hh, ht, test, P.cond]⟩
      rename_i hh
      split at hr
      case h_2 => cases hr
      rename_i he
      split at hr
      case h_2 => cases hr
      rename_i v hv
      exact ⟨_, hr, fun st2 K' ag => by simp only [evOp, ho, ag.op x hm, ag.op y hm2, hh, he, hv]⟩
    · -- unOp
      rename_i op t x ho
      have hm : x ∈ o.op.operands.toList := by simp [ho, Op.operands]
      cases op with
      | not =>
        split at hr
        · rename_i b _ e
          exact ⟨_, hr, fun st2 K' ag => by simp only [evOp, ho, (ag.op x hm none).trans e]⟩
        · rename_i q _; cases q
        · cases hr
      | neg =>
        split at hr
        · rename_i q _; cases q
        · rename_i k n _ e
          exact ⟨_, hr, fun st2 K' ag => by simp only [evOp, ho, (ag.op x hm none).trans e]⟩
        · cases hr
      | _ =>
        split at hr
        · rename_i q _; cases q
        · rename_i q _; cases q
        · cases hr
    · -- convert
      rename_i s t x ho
      have hm : x ∈ o.op.operands.toList := by simp [ho, Op.operands]
      split at hr
      · rename_i k k' k'' n h1 h2 h3
        exact ⟨_, hr, fun st2 K' ag => by simp only [evOp, ho, (ag.op x hm none).trans h3, h1, h2]⟩
      · rename_i z h1 h2 h3
        exact ⟨_, hr, fun st2 K' ag => by simp only [evOp, ho, (ag.op x hm none).trans h3, h1, h2]⟩
      · cases hr
    · -- fieldAddr
      rename_i s x j ho
      have hm : x ∈ o.op.operands.toList := by simp [ho, Op.operands]
      split at hr
      · cases hr
      rename_i har
      split at hr
      · rename_i b y e
        split at hr
        case h_2 => cases hr
        rename_i q hd hq
        exact ⟨_, hr, fun st2 K' ag => by simp only [evOp, ho, har, (ag.op x hm none).trans e, hd, hq]⟩
      · rename_i id p e
        split at hr
        case h_2 => cases hr
        rename_i v L he
        split at hr
        case h_2 => cases hr
        rename_i hp
        exact ⟨_, hr, fun st2 K' ag => by simp only [evOp, ho, har, (ag.op x hm none).trans e, ag.box x hm id p v L e he, hp]⟩
      · rename_i id i p e
        split at hr
        case h_2 => cases hr
        rename_i et xs he
        split at hr
        case h_2 => cases hr
        rename_i hp
        exact ⟨_, hr, fun st2 K' ag => by simp only [evOp, ho, har, (ag.op x hm none).trans e, ag.row id et xs he, hp]⟩
      · cases hr
    · -- field
      rename_i s x j ho
      have hm : x ∈ o.op.operands.toList := by simp [ho, Op.operands]
      split at hr
      · cases hr
      rename_i har
      split at hr
      case h_2 => cases hr
      rename_i L hL
      split at hr
      case h_2 => cases hr
      rename_i u h1 h2
      exact ⟨_, hr, fun st2 K' ag => by simp only [evOp, ho, har, hL, ag.op x hm, h1, h2]⟩
    · -- index
      rename_i t x i ho
      have hm : x ∈ o.op.operands.toList := by simp [ho, Op.operands]
      have hm2 : i ∈ o.op.operands.toList := by simp [ho, Op.operands]
      split at hr
      · cases hr
      rename_i har
      split at hr
      case h_2 => cases hr
      rename_i b hL
      split at hr
      case h_2 => cases hr
      rename_i k n hfit hn
      obtain ⟨j, u, _, _, hr, hall⟩ := evIdx_spec _ _ hr
      exact ⟨u, hr, fun st2 K' ag => by simp only [evOp, ho, har, hL, ag.op x hm, (ag.op i hm2 none).trans hn, hfit]; exact hall st2.h K'⟩
    · -- indexAddr
      rename_i t x i ho
      have hm : x ∈ o.op.operands.toList := by simp [ho, Op.operands]
      have hm2 : i ∈ o.op.operands.toList := by simp [ho, Op.operands]
      split at hr
      · rename_i har
        split at hr
        · rename_i e xs k n e1 e2
          split at hr
          case h_2 => cases hr
          rename_i hd
          obtain ⟨ht, hr⟩ := test_some hr
          exact ⟨_, hr, fun st2 K' ag => by simp only [evOp, ho, har, (ag.op x hm none).trans e1, (ag.op i hm2 none).trans e2, hd, ht, test, P.cond]⟩
        · rename_i id k n e1 e2
          split at hr
          case h_2 => cases hr
          rename_i e xs he
          split at hr
          case h_2 => cases hr
          rename_i hd
          obtain ⟨ht, hr⟩ := test_some hr
          exact ⟨_, hr, fun st2 K' ag => by simp only [evOp, ho, har, (ag.op x hm none).trans e1, (ag.op i hm2 none).trans e2, ag.row id e xs he, hd, ht, test, P.cond]⟩
        · rename_i id av m k n e1 e2
          split at hr
          case h_2 => cases hr
          rename_i e xs he
          split at hr
          case h_2 => cases hr
          rename_i hd
          obtain ⟨ht, hr⟩ := test_some hr
          exact ⟨_, hr, fun st2 K' ag => by simp only [evOp, ho, har, (ag.op x hm none).trans e1, (ag.op i hm2 none).trans e2, ag.row id e xs he, hd, ht, test, P.cond]⟩
        · cases hr
      · rename_i har
        split at hr
        · rename_i id p k n e1 e2
          split at hr
          case h_2 => cases hr
          rename_i v L he
          obtain ⟨j, _, _, hr, hall⟩ := evPick_spec _ _ hr
          exact ⟨_, hr, fun st2 K' ag => by simp only [evOp, ho, har, (ag.op x hm none).trans e1, (ag.op i hm2 none).trans e2, ag.box x hm id p v L e1 he]; exact hall st2.h K'⟩
        · rename_i b y k n e1 e2
          split at hr
          case h_2 => cases hr
          rename_i q hd hq
          exact ⟨_, hr, fun st2 K' ag => by simp only [evOp, ho, har, (ag.op x hm none).trans e1, (ag.op i hm2 none).trans e2, hd, hq]⟩
        · cases hr
    · rename_i t x lo hi mx ho; exact (hns t x lo hi mx ho).elim
    · -- makeFunc
      rename_i f first caps ho
      split at hr
      case h_2 => cases hr
      rename_i hf
      refine ⟨_, hr, fun st2 K' ag => ?_⟩
      have hc : caps.toList.map (opnd none st2.fr) = caps.toList.map (opnd none st.fr) := List.map_congr_left fun x hx => ag.op x (by simp [ho, Op.operands]; right; simpa using hx) none
      simp only [evOp, ho, hf, hc]
    · -- extract
      rename_i t j ho
      have hm : t ∈ o.op.operands.toList := by simp [ho, Op.operands]
      split at hr
      case h_2 => cases hr
      rename_i b e
      split at hr
      case h_2 => cases hr
      rename_i u hu
      exact ⟨_, hr, fun st2 K' ag => by simp only [evOp, ho, (ag.op t hm none).trans e, hu]⟩
    · rename_i c ho; exact (hnc c ho).elim
    · cases hr
end Go.PG
end
section
namespace Go.PG
open Go.RowKit
variable {Pg : Program} {G : World → Prop} {E : Env} {S : Nat → Prop} {B : Nat} {w0 w w' w'' : World} {h h' h2 : Hp} {M M' M'' : Nat → Bk} {ρ : Type} {r : ρ} {K : AV → Hp → Option ρ} {st st' st'' st1 st2 st3 : St} {a a' a'' : Act} {o : Oper}
theorem noCall_ok : HandlerOk Pg G S B w0 noCall := fun f args h K r M w vals hr => by simp [noCall] at hr
theorem evLight_ok (HE : EnvOk Pg G E) (hG : G w0) (F : ∀ t, RepV (cx S st.h M w) (st.fr t) (a.tmps.getD t undef)) (H : HInv S B w0 st.h M w) (hr : evLight E o st K = some r) : Does Pg o a w (Post K r S B w0 st.h M w) := by
  unfold evLight at hr
  split at hr
  · rename_i t n ps ho
    unfold evLbs at hr
    split at hr
    case h_2 => cases hr
    rename_i e hty
    split at hr
    case h_2 => cases hr
    rename_i xs hf hd hs
    split at hr
    case h_2 => cases hr
    rename_i hnb
    refine buildSliceD_ok HE F H ho hty hf hd hs ?_ hr
    cases q : ps.toList.flatMap (fun p => (opnd (some e) st.fr p.2).owns) with
    | nil => rfl
    | cons i l => rw [q] at hnb; simp [nobody] at hnb
  · rename_i c ho
    unfold evLcall at hr
    split at hr
    · rename_i hc
      exact evBuiltin_ok HE F H ho hc hr
    · rename_i g hc
      split at hr
      case h_2 => cases hr
      rename_i s hlen hs
      split at hr
      case h_2 => cases hr
      rename_i v hv
      split at hr
      case h_2 => cases hr
      rename_i x hx hb
      refine call_ok HE hG noCall_ok F H ho hc (g := g) (caps := .unit) rfl hlen ?_
      rw [hs]
      simp only [callSpec, hv]
      cases hf : s.r.flat with
      | true => simp only [hx]; exact hr
      | false =>
        rw [hf] at hb
        simp only at hb
        have hn : v.owns = [] := by
          cases q : v.owns with
          | nil => rfl
          | cons i l => rw [q] at hb; simp [nobody] at hb
        simp only [freeze, hx, hn, unlocked, Hp.kills]
        exact hr
    · cases hr
  · rename_i t x lo hi mx ho
    refine slice_ok HE F H ho ?_
    unfold evLslice at hr
    split at hr
    · rename_i id e
      rw [e]
      split at hr
      · rename_i h1 h2 h3
        rw [h2, h3]
        exact hr
      · cases hr
    · rename_i id a n e
      rw [e]
      split at hr
      · rename_i h1 h2
        rw [h2]
        exact hr
      · cases hr
    · exact hr
  · exact evOp_ok HE hG noCall_ok F H hr
theorem alloc_at (HE : EnvOk Pg G E) (H : HInv S B w0 st.h M w) {t : TypeId} (ho : o.op = .alloc t) {L : Ty} (hL : E.ty t = some L) {id : Nat} (he : st.h.e id = some .rsv) (hl : st.h.lk id = false)
    (hr : K (.ptr id []) (st.h.put id (.box (zeroAV L) L)) = some r) : Does Pg o a w (Post K r S B w0 st.h M w) := by
  obtain ⟨z, hz, hrep, hfit⟩ := ok_zero (c := cx S st.h M w) (HE.ty t _ hL) w
  refine Does.value (v := .pointer (some ⟨w.heap.size, 0, none⟩)) (w' := w.alloc (.cells z.cells t (0, 0))) (by simp [execOp, ho, Instr.alloc, hz, newVar, newRow]) ?_
  obtain ⟨H', k⟩ := H.fill he hl (.box (zeroAV L) L) (.box w.heap.size) (w' := w.alloc (.cells z.cells t (0, 0))) (fun b hb => alloc_old w _ b hb) (by rw [alloc_size]; omega) (below_alloc' H _)
    (fun b hb => by rw [box_has hb]; exact Nat.le_refl _)
    (fun k => ⟨w.heap.size, _, Holds.of (plain_of_ok (HE.ty t _ hL)) (el := t) (by simp [cx, set1, Nat.beq_refl]) (alloc_get w _), hfit, RepC.tr k _ _ hrep⟩)
  refine ⟨.ptr id [], _, _, hr, H', k, ?_⟩
  simp only [RepV, Rep1]
  exact ⟨H.lt he, _, rfl, .inr ⟨w.heap.size, zeroAV L, L, 0, L, by simp [cx, set1, Nat.beq_refl, Bk.at], by simp [cx, Hp.put, set1, Nat.beq_refl], rfl, rfl⟩⟩
theorem makes_spec {op : Op} {m : Maker} (h : makes E op = some m) : ∃ c g, op = .call c ∧ c.callee = .value (.func g) ∧ c.args.toList = [] ∧ look E.lays g = some m := by
  unfold makes at h
  split at h
  · rename_i c
    split at h
    · rename_i g h1 h2
      exact ⟨c, g, rfl, h1, h2, h⟩
    · cases h
  · cases h
theorem maker_at (HE : EnvOk Pg G E) (hG : G w0) (H : HInv S B w0 st.h M w) {m : Maker} (ho : makes E o.op = some m) {id : Nat} (he : st.h.e id = some .rsv) (hl : st.h.lk id = false)
    (hr : K (m.f id) (st.h.put id (.box m.v m.L)) = some r) : Does Pg o a w (Post K r S B w0 st.h M w) := by
  obtain ⟨c, g, h1, h2, h3, h4⟩ := makes_spec ho
  obtain ⟨⟨hpl, hm⟩, hany⟩ := HE.lays g m h4
  have hGw : G w := HE.G w0 w hG (by rw [H.bw]; exact H.bel)
  have h3' : c.args = #[] := Array.toList_inj.1 (by simpa using h3)
  refine Does.enter (f := g) (args := #[]) ?_ ((hm w hGw).mono fun e w' ⟨v, b, z, t, q1, bel, q2, q3, q4, q5, q6⟩ => ⟨v, q1, ?_⟩)
  · simp [execOp, h1, resolve, h2, h3', Act.eval, Deferred.ofValue, invoke, run_callFunc hany]
  · obtain ⟨H', k⟩ := H.fill he hl (.box m.v m.L) (.box b) (w' := w') (fun c hc => bel.block c hc) bel.size (bel.mono H.bsz)
      (fun c hc => by rw [box_has hc]; exact q2)
      (fun k => ⟨b, z.toList, Holds.of hpl (el := t) (by simp [cx, set1, Nat.beq_refl]) (by simpa [cx] using q3), q5, q4 _⟩)
    refine ⟨m.f id, _, _, hr, H', k, q6 _ id (H.lt he) (by simp [cx, set1, Nat.beq_refl]) (by simp [cx, Hp.put, set1, Nat.beq_refl])⟩
theorem HInv.like {g : Hp} (H : HInv S B w0 h M w) (e : g.e = h.e) (n : g.next = h.next) : HInv S B w0 g M w := by
  have c : cx S g M w = cx S h M w := by unfold cx; rw [e, n]
  refine ⟨?_, ?_, ?_, ?_, H.bel, H.bsz, H.old, H.bw⟩
  · rw [c, e]; exact H.ent
  · rw [e, n]; exact H.fresh
  · rw [e]; exact H.dist
  · rw [e]; exact H.own
theorem stilled (H : HInv S B w0 h' M' w') (k : HStp S (quiet h) M w h' M' w') : HInv S B w0 (still h h') M' w' ∧ HStp S h M w (still h h') M' w' ∧ ∀ av v, RepV (cx S h' M' w') av v → RepV (cx S (still h h') M' w') av v := by
  have lock : ∀ id, id < h.next → h'.e id = h.e id ∧ M' id = M id := fun id q => k.lock id q (by
    have : Nat.blt id h.next = true := by rw [Nat.blt_eq]; exact q
    simp [quiet, this])
  have e : (still h h').e = h'.e := by
    funext id
    simp only [still]
    split
    · rename_i q
      exact (lock id (by rw [Nat.blt_eq] at q; exact q)).1.symm
    · rfl
  have c : cx S (still h h') M' w' = cx S h' M' w' := by unfold cx; rw [e]; rfl
  refine ⟨H.like e rfl, ⟨?_, rfl, fun id q _ => ?_⟩, fun av v q => by rw [c]; exact q⟩
  · rw [c]; exact k.tr
  · rw [e]; exact lock id q
theorem evDop_ok (HE : EnvOk Pg G E) (hG : G w0) {call : Handler} (HC : HandlerOk Pg G S B w0 call) (F : ∀ t, RepV (cx S st.h M w) (st.fr t) (a.tmps.getD t undef)) (H : HInv S B w0 st.h M w) {n0 i : Nat} (hr : evDop E call n0 i o st K = some r) :
    Does Pg o a w (Post K r S B w0 st.h M w) := by
  unfold evDop at hr
  split at hr
  · split at hr
    · split at hr
      · exact evLight_ok HE hG F H hr
      · cases hr
    · exact evLight_ok HE hG F H hr
  · split at hr
    · split at hr
      · exact evOp_ok HE hG HC F H hr
      have := evOp_ok (o := o) (a := a) (st := { st with h := quiet st.h }) HE hG HC F (H.like (g := quiet st.h) rfl rfl) hr
      intro next Q hX
      refine this next Q fun v w' ⟨av, h', M', q1, q2, q3, q4⟩ => hX v w' ?_
      obtain ⟨z1, z2, z3⟩ := stilled q2 q3
      exact ⟨av, _, M', q1, z1, z2, z3 _ _ q4⟩
    · split at hr
      · rename_i t ho
        split at hr
        case h_2 => cases hr
        rename_i L hL he hl
        exact alloc_at HE H ho hL he hl hr
      · split at hr
        · rename_i m hm
          split at hr
          case h_2 => cases hr
          rename_i he hl
          exact maker_at HE hG H hm he hl hr
        · exact evOp_ok HE hG HC F H hr
theorem evDstep_ok (HE : EnvOk Pg G E) (hG : G w0) {call : Handler} (HC : HandlerOk Pg G S B w0 call) {ops : Array Oper} {n0 i : Nat} (ho : ops[i]? = some o) (g : Good S B w0 st a M w) {K : St → Option ρ} (hr : evDstep E call n0 ops.toList i o st K = some r)
    {X : Act → World → Prop} {Q : Exit → Act → World → Prop} (hX : Then S B w0 st a M w K r X) : wpOp Pg ops Q i X a w := by
  have hdo : Region.wanted o (yielded ops a.tmps) = true → evDop E call n0 i o st (putK o st K) = some r → wpOp Pg ops Q i X a w := by
    intro hw hk
    simp only [wpOp, ho, hw, if_true]
    refine .inl (evDop_ok HE hG HC g.F g.H hk X Q fun v w' ⟨av, h', M', hk, H', k, hv⟩ => ?_)
    unfold putK at hk
    split at hk
    · rename_i st' hp
      obtain ⟨g', s'⟩ := put_ok g H' k hv hp
      exact hX _ _ _ _ g' s' hk
    · cases hk
  have hsk : Region.wanted o (yielded ops a.tmps) = false → skipOp o st K = some r → wpOp Pg ops Q i X a w := by
    intro hw hk
    simp only [wpOp, ho, hw, Bool.false_eq_true, if_false]
    exact skipOp_ok (o := o) g hk hX
  unfold evDstep at hr
  split at hr
  · rename_i hg
    exact hdo (by simp [Region.wanted, hg]) hr
  · rename_i j want hg
    split at hr
    case h_2 => cases hr
    rename_i oj hoj
    split at hr
    case h_2 => cases hr
    rename_i t ht
    have hoj' : ops[j]? = some oj := by rw [← Array.getElem?_toList]; exact hoj
    split at hr
    · rename_i b hb
      have hF := g.F t
      rw [hb] at hF
      have hF := getD_bool (repV_bool hF)
      have hy : yielded ops a.tmps j = some b := by simp [yielded, hoj', ht, hF]
      have hr := cond_some hr
      cases b with
      | true =>
        simp only [if_true] at hr
        rw [refine1_eq hb] at hr
        cases want with
        | true => exact hdo (by simp [Region.wanted, hg, hy]) hr
        | false => exact hsk (by simp [Region.wanted, hg, hy]) hr
      | false =>
        simp only [Bool.false_eq_true, if_false] at hr
        rw [refine1_eq hb] at hr
        cases want with
        | true => exact hsk (by simp [Region.wanted, hg, hy]) hr
        | false => exact hdo (by simp [Region.wanted, hg, hy]) hr
    · rename_i hb
      have hF := g.F t
      rw [hb] at hF
      simp only [RepV, RepT] at hF
      obtain ⟨vs, hv, hvs⟩ := hF
      have hy : yielded ops a.tmps j = none := by
        simp only [yielded, hoj', ht, Option.bind_some]
        rw [Array.getD_eq_getD_getElem?] at hv
        cases q : a.tmps[t]? with
        | none => rfl
        | some u => rw [q] at hv; simp only [Option.getD_some] at hv; rw [hv]
      exact hsk (by simp [Region.wanted, hg, hy]) hr
    · cases hr
def Boxy (h : Hp) (id : Nat) : Prop := h.e id = some .rsv ∨ ∃ v L, h.e id = some (.box v L)
structure AgreeS (l : List Nat) (st st2 : St) : Prop where
  fr : ∀ t, t ∈ l → st2.fr t = st.fr t
  row : ∀ id e xs, st.h.e id = some (.row e xs) → st2.h.e id = some (.row e xs)
  live : ∀ id, st.h.e id ≠ none → st2.h.e id ≠ none
  box : ∀ t, t ∈ l → ∀ id p v L, st.fr t = .ptr id p → st.h.e id = some (.box v L) → st2.h.e id = some (.box v L)
  boxy : ∀ id, Boxy st.h id → Boxy st2.h id
theorem AgreeS.trans {l : List Nat} (h1 : AgreeS l st st1) (h2 : AgreeS l st1 st2) : AgreeS l st st2 :=
  ⟨fun t ht => (h2.fr t ht).trans (h1.fr t ht), fun id e xs q => h2.row id e xs (h1.row id e xs q), fun id q => h2.live id (h1.live id q), fun t ht id p v L q1 q2 => h2.box t ht id p v L ((h1.fr t ht).trans q1) (h1.box t ht id p v L q1 q2), fun id q => h2.boxy id (h1.boxy id q)⟩
theorem AgreeS.refl (l : List Nat) (st : St) : AgreeS l st st := ⟨fun _ _ => rfl, fun _ _ _ q => q, fun _ q => q, fun _ _ _ _ _ _ _ q => q, fun _ q => q⟩
theorem veil_box {h : Hp} {id : Nat} {v : AV} {L : Ty} : (veil h).e id = some (.box v L) ↔ h.e id = some (.box v L) ∧ L.plain = true := by
  simp only [veil]
  cases q : h.e id with
  | none => simp
  | some e => cases e with
    | box v' L' =>
      cases hp : L'.plain with
      | true =>
        simp only [hp, Option.some.injEq, Ent.box.injEq]
        exact ⟨fun z => ⟨z, z.2 ▸ hp⟩, fun z => z.1⟩
      | false =>
        simp only [hp, Option.some.injEq, Ent.box.injEq]
        constructor
        · intro z; cases z
        · rintro ⟨⟨_, rfl⟩, z⟩; rw [hp] at z; cases z
    | row e xs => simp
    | rsv => simp
theorem veil_row {h : Hp} {id : Nat} {e : Ty} {xs : List e.D} (q : (veil h).e id = some (.row e xs)) : False := by
  simp only [veil] at q
  split at q
  · split at q <;> cases q
  · cases q
  · cases q
theorem veil_boxy {h : Hp} {id : Nat} : (veil h).e id ≠ none ↔ Boxy h id := by
  simp only [veil, Boxy]
  cases q : h.e id with
  | none => simp
  | some e => cases e with
    | box v' L' => cases hp : L'.plain <;> simp [hp]
    | row e xs => simp
    | rsv => simp
theorem boxy_veil {h : Hp} {id : Nat} : Boxy (veil h) id ↔ Boxy h id := by
  rw [← veil_boxy (h := h)]
  constructor
  · rintro (q | ⟨v, L, q⟩) <;> rw [q] <;> simp
  · intro q
    cases z : (veil h).e id with
    | none => exact absurd z q
    | some e => cases e with
      | box v L => exact .inr ⟨v, L, z⟩
      | rsv => exact .inl z
      | row e xs => exact (veil_row z).elim
def veilIf (E : Env) (st : St) : St := match veiled E with
  | true => { st with h := veil st.h }
  | false => st
theorem veilIf_fr (E : Env) (st : St) : (veilIf E st).fr = st.fr := by unfold veilIf; split <;> rfl
theorem AgreeS.veil {l : List Nat} (ag : AgreeS l st st2) : AgreeS l (veilIf E st) (veilIf E st2) := by
  unfold veilIf
  cases veiled E with
  | false => exact ag
  | true =>
    refine ⟨ag.fr, fun id e xs q => (veil_row q).elim, fun id q => ?_, fun t ht id p v L q1 q2 => ?_, fun id q => ?_⟩
    · exact veil_boxy.2 (ag.boxy id (veil_boxy.1 q))
    · obtain ⟨g1, g2⟩ := veil_box.1 q2
      exact veil_box.2 ⟨ag.box t ht id p v L q1 g1, g2⟩
    · exact boxy_veil.2 (ag.boxy id (boxy_veil.1 q))
theorem AgreeS.fr' {l : List Nat} (ag : AgreeS l (veilIf E st) (veilIf E st2)) {t : Nat} (ht : t ∈ l) : st2.fr t = st.fr t := by
  have := ag.fr t ht
  rwa [veilIf_fr, veilIf_fr] at this
theorem Agree.trans {st3 : St} {l : List Operand} (h1 : Agree l st st2) (h2 : Agree l st2 st3) : Agree l st st3 :=
  ⟨fun x hx ty => (h2.op x hx ty).trans (h1.op x hx ty), fun id e xs q => h2.row id e xs (h1.row id e xs q), fun id q => h2.live id (h1.live id q), fun x hx id p v L q1 q2 => h2.box x hx id p v L ((h1.op x hx none).trans q1) (h1.box x hx id p v L q1 q2)⟩
theorem Agree.unveil (l : List Operand) (st : St) : Agree l { st with h := veil st.h } st :=
  ⟨fun _ _ _ => rfl, fun id e xs q => (veil_row q).elim, fun id q => by
    rcases veil_boxy.1 q with z | ⟨v, L, z⟩ <;> rw [z] <;> simp, fun x hx id p v L _ q => (veil_box.1 q).1⟩
theorem tmpsOf_mem {t : Nat} : ∀ {l : List Operand}, Operand.tmp t ∈ l → t ∈ tmpsOf l
  | [], h => by simp at h
  | x :: l, h => by
    rcases List.mem_cons.1 h with rfl | hm
    · simp [tmpsOf]
    · cases x with
      | tmp u => simp only [tmpsOf]; exact List.mem_cons_of_mem _ (tmpsOf_mem hm)
      | _ => simp only [tmpsOf]; exact tmpsOf_mem hm
theorem opnd_ptr {fr : Nat → AV} {x : Operand} {id : Nat} {p : List Nat} (h : opnd none fr x = .ptr id p) : ∃ t, x = .tmp t ∧ fr t = .ptr id p := by
  cases x with
  | tmp t => exact ⟨t, rfl, h⟩
  | const v => cases v <;> simp [opnd, constAV] at h
  | global g => simp [opnd] at h
  | func f => simp [opnd] at h
theorem AgreeS.ops {all : List Oper} (h : AgreeS (looks all o) st st2) : Agree o.op.operands.toList st st2 := by
  refine ⟨fun x hx ty => ?_, h.row, h.live, fun x hx id p v L q1 q2 => ?_⟩
  · cases x with
    | tmp t => exact h.fr t (List.mem_append_right _ (tmpsOf_mem hx))
    | _ => rfl
  · obtain ⟨t, rfl, q⟩ := opnd_ptr q1
    exact h.box t (List.mem_append_right _ (tmpsOf_mem hx)) id p v L q q2
def upd1 (h : Hp) (id : Nat) : Option Ent → Hp
  | none => h
  | some e => h.put id e
structure Step (E : Env) (n0 : Nat) (all : List Oper) (i : Nat) (o : Oper) (v : AV) (e : Option Ent) (st : St) : Prop where
  cond : e = none ∨ (st.h.e (n0 + i) = some .rsv ∧ st.h.lk (n0 + i) = false ∧ ∃ u L, e = some (.box u L))
  run : ∀ {σ : Type} (call2 : Handler) (st2 : St) (K' : St → Option σ), AgreeS (looks all o) (veilIf E st) (veilIf E st2) → (e ≠ none → st2.h.e (n0 + i) = some .rsv ∧ st2.h.lk (n0 + i) = false) → evDstep E call2 n0 all i o st2 K' = putK o st2 K' v (upd1 st2.h (n0 + i) e)
theorem dop_agree {call : Handler} {n0 i : Nat} (hf : free E o = true) (hr : evDop E call n0 i o st K = some r) :
    ∃ v e, (isLight E o.op = true → e = none) ∧ K v (upd1 st.h (n0 + i) e) = some r ∧ (e = none ∨ (st.h.e (n0 + i) = some .rsv ∧ st.h.lk (n0 + i) = false ∧ ∃ u L, e = some (.box u L))) ∧
      ∀ {σ : Type} (call2 : Handler) (st2 : St) (K' : AV → Hp → Option σ), Agree o.op.operands.toList (veilIf E st) (veilIf E st2) → (e ≠ none → st2.h.e (n0 + i) = some .rsv ∧ st2.h.lk (n0 + i) = false) → evDop E call2 n0 i o st2 K' = K' v (upd1 st2.h (n0 + i) e) := by
  unfold evDop at hr
  split at hr
  · rename_i hl
    split at hr
    · rename_i hv
      split at hr
      case h_2 => cases hr
      rename_i u hu
      obtain ⟨v, _, h2⟩ := light_agree hl hu
      have h1 := h2 st K (Agree.unveil _ st)
      rw [h1] at hr
      refine ⟨v, none, fun _ => rfl, hr, .inl rfl, fun call2 st2 K' ag _ => ?_⟩
      simp only [veilIf, hv] at ag
      have g1 := h2 _ (fun _ _ => some ()) ag
      have g2 := h2 st2 K' (ag.trans (Agree.unveil _ st2))
      simp only [evDop, hl, hv, g1, g2]
      rfl
    · rename_i hv
      obtain ⟨v, h1, h2⟩ := light_agree hl hr
      refine ⟨v, none, fun _ => rfl, h1, .inl rfl, fun call2 st2 K' ag _ => ?_⟩
      simp only [veilIf, hv] at ag
      simp only [evDop, hl, hv]
      exact h2 st2 K' ag
  · rename_i hl
    have hcalm : isCalm E o = false := by simp only [isCalm, hf]
    have hlne : isLight E o.op = true → ∀ P : Prop, P := fun q => by rw [hl] at q; cases q
    rw [hcalm] at hr
    simp only at hr
    simp only [free, hl] at hf
    split at hr
    · rename_i t ho
      split at hr
      case h_2 => cases hr
      rename_i L hL he hlk
      refine ⟨_, some (.box (zeroAV L) L), fun q => hlne q _, hr, .inr ⟨he, hlk, _, _, rfl⟩, fun call2 st2 K' ag q => ?_⟩
      obtain ⟨q1, q2⟩ := q (by simp)
      have hl2 : isLight E (.alloc t) = false := rfl
      simp only [evDop, ho, hl2, hcalm, hL, q1, q2, upd1]
    · rename_i hno
      split at hr
      · rename_i m hm
        split at hr
        case h_2 => cases hr
        rename_i he hlk
        refine ⟨_, some (.box m.v m.L), fun q => hlne q _, hr, .inr ⟨he, hlk, _, _, rfl⟩, fun call2 st2 K' ag q => ?_⟩
        obtain ⟨q1, q2⟩ := q (by simp)
        obtain ⟨c, g, ho, _⟩ := makes_spec hm
        rw [ho] at hl hm
        simp only [evDop, ho, hl, hcalm, hm, q1, q2, upd1]
      · rename_i hm
        exfalso
        unfold isAlloc at hf
        split at hf
        · rename_i t q; exact hno t q
        · rw [hm] at hf; cases hf
theorem looks_guard {all : List Oper} {j : Nat} {want : Bool} {oj : Oper} {t : Nat} (hg : o.guard = some (j, want)) (hoj : all[j]? = some oj) (ht : oj.dst = some t) : t ∈ looks all o := by
  simp only [looks, hg, hoj, ht]
  simp
theorem step_agree {call : Handler} {n0 i : Nat} {all : List Oper} {K : St → Option ρ} (hf : free E o = true) (hr : evDstep E call n0 all i o st K = some r) : ∃ v e, (isLight E o.op = true → e = none) ∧ Step E n0 all i o v e st ∧ putK o st K v (upd1 st.h (n0 + i) e) = some r := by
  unfold evDstep at hr
  split at hr
  · rename_i hg
    obtain ⟨v, e, h0, h1, h2, h3⟩ := dop_agree hf hr
    refine ⟨v, e, h0, ⟨h2, fun call2 st2 K' ag q => ?_⟩, h1⟩
    simp only [evDstep, hg]
    exact h3 call2 st2 _ ag.ops q
  · rename_i j want hg
    split at hr
    case h_2 => cases hr
    rename_i oj hoj
    split at hr
    case h_2 => cases hr
    rename_i t ht
    have hmem := looks_guard hg hoj ht
    have skip : ∀ (b : AV), st.fr t = b → (∀ {σ : Type} (call2 : Handler) (st2 : St) (K' : St → Option σ), st2.fr t = b → evDstep E call2 n0 all i o st2 K' = skipOp o st2 K') → skipOp o st K = some r →
        ∃ v e, (isLight E o.op = true → e = none) ∧ Step E n0 all i o v e st ∧ putK o st K v (upd1 st.h (n0 + i) e) = some r := by
      intro b hb hrun hk
      refine ⟨.tup .unit, none, fun _ => rfl, ⟨.inl rfl, fun call2 st2 K' ag _ => ?_⟩, hk⟩
      rw [hrun call2 st2 K' ((ag.fr' hmem).trans hb)]
      rfl
    split at hr
    · rename_i b hb
      have hr := cond_some hr
      have hdo : (∀ {σ : Type} (call2 : Handler) (st2 : St) (K' : St → Option σ), st2.fr t = .data .bool b → evDstep E call2 n0 all i o st2 K' = evDop E call2 n0 i o st2 (putK o st2 K')) → evDop E call n0 i o st (putK o st K) = some r →
          ∃ v e, (isLight E o.op = true → e = none) ∧ Step E n0 all i o v e st ∧ putK o st K v (upd1 st.h (n0 + i) e) = some r := by
        intro hrun hk
        obtain ⟨v, e, h0, h1, h2, h3⟩ := dop_agree hf hk
        refine ⟨v, e, h0, ⟨h2, fun call2 st2 K' ag q => ?_⟩, h1⟩
        rw [hrun call2 st2 K' ((ag.fr' hmem).trans hb)]
        exact h3 call2 st2 _ ag.ops q
      cases b with
      | true =>
        simp only [if_true] at hr
        rw [refine1_eq hb] at hr
        cases want with
        | true => exact hdo (fun call2 st2 K' q => by simp only [evDstep, hg, hoj, ht, q, P.cond, refine1_eq q]) hr
        | false => exact skip _ hb (fun call2 st2 K' q => by simp only [evDstep, hg, hoj, ht, q, P.cond, refine1_eq q]) hr
      | false =>
        simp only [Bool.false_eq_true, if_false] at hr
        rw [refine1_eq hb] at hr
        cases want with
        | true => exact skip _ hb (fun call2 st2 K' q => by simp only [evDstep, hg, hoj, ht, q, P.cond, refine1_eq q]) hr
        | false => exact hdo (fun call2 st2 K' q => by simp only [evDstep, hg, hoj, ht, q, P.cond, refine1_eq q]) hr
    · rename_i hb
      exact skip _ hb (fun call2 st2 K' q => by simp only [evDstep, hg, hoj, ht, q]) hr
    · cases hr
def NoRsv (l : List Nat) (st : St) : Prop := ∀ t, t ∈ l → ∀ id p, st.fr t = .ptr id p → st.h.e id ≠ some .rsv
theorem putK_some {K : St → Option ρ} {v : AV} (h : putK o st K v h2 = some r) : ∃ st', ({ st with h := h2 } : St).put o.dst v = some st' ∧ K st' = some r := by
  unfold putK at h
  split at h
  · rename_i st' q; exact ⟨st', q, h⟩
  · cases h
theorem put_facts {d : Option Tmp} {v : AV} (h : ({ st with h := h2 } : St).put d v = some st') : st'.n = st.n ∧ st'.ro = st.ro ∧ st'.h = h2 ∧ (∀ t, d ≠ some t → st'.fr t = st.fr t) ∧ (∀ t, d = some t → st.ro t = false ∧ t < st.n ∧ st'.fr = set1 st.fr t v) ∧ (d = none → st'.fr = st.fr) := by
  cases d with
  | none => have := put_none h; subst this; exact ⟨rfl, rfl, rfl, fun _ _ => rfl, fun t q => by simp at q, fun _ => rfl⟩
  | some t =>
    obtain ⟨h1, h2', rfl⟩ := put_some h
    refine ⟨rfl, rfl, rfl, fun u hu => ?_, fun u hu => ?_, fun q => by simp at q⟩
    · have : u ≠ t := fun q => hu (by rw [q])
      simp [set1, beq_false this]
    · injection hu with hu
      subst hu
      exact ⟨h1, h2', rfl⟩
theorem upd1_e {id j : Nat} {e : Option Ent} (h : Hp) (hj : j ≠ id) : (upd1 h id e).e j = h.e j := by
  cases e with
  | none => rfl
  | some e => simp [upd1, Hp.put, set1, beq_false hj]
theorem upd1_lk {id : Nat} {e : Option Ent} (h : Hp) : (upd1 h id e).lk = h.lk := by cases e <;> rfl
theorem upd1_at {id : Nat} {e : Ent} (h : Hp) : (upd1 h id (some e)).e id = some e := by simp [upd1, Hp.put, set1, Nat.beq_refl]
theorem clear_spec {d : Option Tmp} {l : List Nat} (h : clear d l = true) : ∀ t, t ∈ l → d ≠ some t := by
  rintro t ht rfl
  simp only [clear] at h
  split at h
  · cases h
  · rename_i q; exact memb_not.1 q ht
theorem past {v : AV} {e : Option Ent} {id : Nat} {d : Option Tmp} {l : List Nat} (hc : e = none ∨ (st.h.e id = some .rsv ∧ st.h.lk id = false ∧ ∃ u L, e = some (.box u L))) (hp : ({ st with h := upd1 st.h id e } : St).put d v = some st1) (hd : ∀ t, t ∈ l → d ≠ some t) :
    AgreeS l st st1 ∧ (NoRsv l st → AgreeS l st1 st ∧ NoRsv l st1) := by
  obtain ⟨p1, p2, p3, p4, p5, p6⟩ := put_facts hp
  have fr : ∀ t, t ∈ l → st1.fr t = st.fr t := fun t ht => p4 t (hd t ht)
  have he : ∀ j, st1.h.e j = st.h.e j ∨ (st.h.e j = some .rsv ∧ ∃ u L, st1.h.e j = some (.box u L)) := by
    intro j
    rw [p3]
    by_cases hj : j = id
    · subst hj
      rcases hc with rfl | ⟨q1, _, u, L, rfl⟩
      · exact .inl rfl
      · exact .inr ⟨q1, u, L, upd1_at _⟩
    · exact .inl (upd1_e _ hj)
  have bx : ∀ j, Boxy st.h j ↔ Boxy st1.h j := by
    intro j
    unfold Boxy
    rcases he j with z | ⟨z, u, L, z2⟩
    · rw [z]
    · rw [z, z2]; simp
  refine ⟨⟨fr, fun j t xs q => ?_, fun j q => ?_, fun t ht j p u L q1 q2 => ?_, fun j q => (bx j).1 q⟩, fun nr => ⟨⟨fun t ht => (fr t ht).symm, fun j t xs q => ?_, fun j q => ?_, fun t ht j p u L q1 q2 => ?_, fun j q => (bx j).2 q⟩, fun t ht j p q1 => ?_⟩⟩
  · rcases he j with z | ⟨z, _⟩
    · rw [z]; exact q
    · rw [z] at q; cases q
  · rcases he j with z | ⟨_, u, L, z⟩
    · rw [z]; exact q
    · rw [z]; simp
  · rcases he j with z | ⟨z, _⟩
    · rw [z]; exact q2
    · rw [z] at q2; cases q2
  · rcases he j with z | ⟨_, u, L, z⟩
    · rw [← z]; exact q
    · rw [z] at q; cases q
  · rcases he j with z | ⟨z, _⟩
    · rw [← z]; exact q
    · rw [z]; simp
  · rcases he j with z | ⟨z, _⟩
    · rw [← z]; exact q2
    · exact absurd z (nr t ht j p ((fr t ht).symm.trans q1))
  · rcases he j with z | ⟨_, u, L, z⟩
    · rw [z]; exact nr t ht j p ((fr t ht).symm.trans q1)
    · rw [z]; simp
theorem put_of {d : Option Tmp} {v : AV} (hn : st1.n = st.n) (hro : st1.ro = st.ro) {h3 : Hp} (h : ({ st with h := h2 } : St).put d v = some st') : ∃ s, ({ st1 with h := h3 } : St).put d v = some s := by
  cases d with
  | none => exact ⟨_, rfl⟩
  | some t =>
    simp only [St.put] at h ⊢
    rw [hn, hro]
    split at h
    · exact ⟨_, rfl⟩
    · cases h
theorem st_ext {s t : St} (h1 : s.n = t.n) (h2 : s.fr = t.fr) (h3 : s.ro = t.ro) (h4 : s.h = t.h) : s = t := by
  cases s; cases t; simp only at h1 h2 h3 h4; subst h1; subst h2; subst h3; subst h4; rfl
theorem set1_comm {α : Type} (f : Nat → α) {i j : Nat} (h : i ≠ j) (x y : α) : set1 (set1 f i x) j y = set1 (set1 f j y) i x := by
  funext k
  simp only [set1]
  by_cases hj : k = j
  · subst hj
    simp [Nat.beq_refl, beq_false (Ne.symm h)]
  · simp only [beq_false hj]
theorem upd1_comm {h : Hp} {i j : Nat} (hij : i ≠ j) (e f : Option Ent) : upd1 (upd1 h i e) j f = upd1 (upd1 h j f) i e := by
  cases e with
  | none => rfl
  | some e => cases f with
    | none => rfl
    | some f => simp only [upd1, Hp.put]; rw [set1_comm _ hij]
theorem shy_congr {fr fr2 : Nat → AV} {P : List Nat} : ∀ (l : List Nat), (∀ t, t ∈ l → fr2 t = fr t) → shy fr2 P l = shy fr P l := by
  intro l
  induction l with
  | nil => intro _; rfl
  | cons t l ih =>
    intro h
    simp only [shy, h t (by simp)]
    split
    · split
      · rfl
      · exact ih fun u hu => h u (List.mem_cons_of_mem _ hu)
    · exact ih fun u hu => h u (List.mem_cons_of_mem _ hu)
theorem shy_spec {fr : Nat → AV} {P : List Nat} : ∀ (l : List Nat), shy fr P l = true → ∀ t, t ∈ l → ∀ id p, fr t = .ptr id p → memb id P = false := by
  intro l
  induction l with
  | nil => intro _ t h; cases h
  | cons u l ih =>
    intro h t ht id p he
    simp only [shy] at h
    split at h
    · rename_i id' p' q
      split at h
      · cases h
      · rename_i hm
        rcases List.mem_cons.1 ht with rfl | ht
        · rw [q] at he; injection he with h1 h2; subst h1; exact hm
        · exact ih h t ht id p he
    · rename_i q
      rcases List.mem_cons.1 ht with rfl | ht
      · exact (q id p he).elim
      · exact ih h t ht id p he
theorem chk_congr {P : List Nat} {all : List Oper} {fr fr2 : Nat → AV} (h : ∀ t, t ∈ looks all o → fr2 t = fr t) : chk E P all o fr2 = chk E P all o fr := by
  unfold chk
  split
  · exact shy_congr _ h
  · split
    · unfold aims
      split
      · rename_i t p x ho
        rw [h p (by simp [looks, ho, Op.operands, tmpsOf])]
      · rfl
    · rfl
theorem evD_cons {call : Handler} {n0 i : Nat} {P : List Nat} {all : List Oper} {l : List (Nat × Oper)} {K : St → Option ρ} (h : evD E call n0 P all ((i, o) :: l) st K = some r) :
    chk E P all o st.fr = true ∧ evDstep E call n0 all i o st (fun st' => evD E call n0 P all l st' K) = some r := by
  simp only [evD] at h
  split at h
  · rename_i q; exact ⟨q, h⟩
  · cases h
theorem evD_step {call : Handler} {n0 i : Nat} {P : List Nat} {all : List Oper} {l : List (Nat × Oper)} {K : St → Option ρ} (h : chk E P all o st.fr = true) :
    evD E call n0 P all ((i, o) :: l) st K = evDstep E call n0 all i o st (fun st' => evD E call n0 P all l st' K) := by
  simp only [evD, h]
theorem front {call : Handler} {n0 : Nat} {P : List Nat} {all : List Oper} {K : St → Option ρ} {j : Nat} {oy : Oper} {post : List (Nat × Oper)} : ∀ (pre : List (Nat × Oper)) (st : St), (pre ≠ [] → free E oy = true) → (∀ p, p ∈ pre → p.1 ≠ j ∧ free E p.2 = true ∧ apart all p.2 oy = true) →
    NoRsv (looks all oy) st → evD E call n0 P all (pre ++ (j, oy) :: post) st K = some r → chk E P all oy st.fr = true ∧ evDstep E call n0 all j oy st (fun st' => evD E call n0 P all (pre ++ post) st' K) = some r := by
  intro pre
  induction pre with
  | nil => intro st _ _ _ h; exact evD_cons h
  | cons x pre ih =>
    obtain ⟨i, ox⟩ := x
    intro st hfree hind hnr h
    obtain ⟨hij, hfx, hx⟩ := hind (i, ox) (by simp)
    simp only at hij hx hfx
    have hfy := hfree (by simp)
    unfold apart at hx
    split at hx
    case h_2 => cases hx
    rename_i c1 c2 c3
    have c1 := clear_spec c1
    have c2 := clear_spec c2
    have c3 := clear_spec c3
    obtain ⟨chx, h⟩ := evD_cons h
    obtain ⟨vx, ex, _, sx, hk⟩ := step_agree hfx h
    obtain ⟨st1, hp1, hk1⟩ := putK_some hk
    obtain ⟨ag1, back1⟩ := past sx.cond hp1 c1
    obtain ⟨ag1', hnr1⟩ := back1 hnr
    obtain ⟨chy, h1⟩ := ih st1 (fun _ => hfy) (fun p hp => hind p (List.mem_cons_of_mem _ hp)) hnr1 hk1
    obtain ⟨vy, ey, _, sy, hk2⟩ := step_agree hfy h1
    obtain ⟨st2, hp2, hk2⟩ := putK_some hk2
    obtain ⟨p1, p2, p3, p4, p5, p6⟩ := put_facts hp1
    obtain ⟨q1, q2, q3, q4, q5, q6⟩ := put_facts hp2
    have hne : n0 + i ≠ n0 + j := by omega
    have cy : ey ≠ none → st.h.e (n0 + j) = some .rsv ∧ st.h.lk (n0 + j) = false := by
      intro hne'
      rcases sy.cond with z | ⟨z1, z2, _⟩
      · exact absurd z hne'
      · rw [p3] at z1 z2
        rw [upd1_e _ (Ne.symm hne)] at z1
        rw [upd1_lk] at z2
        exact ⟨z1, z2⟩
    refine ⟨by rw [← chk_congr (fun t ht => ag1'.fr t ht)] at chy; exact chy, ?_⟩
    rw [sy.run call st _ ag1'.veil cy]
    obtain ⟨s, hs⟩ := put_of (st1 := st) (st := st1) p1.symm p2.symm (h3 := upd1 st.h (n0 + j) ey) hp2
    unfold putK
    rw [hs]
    simp only
    rw [List.cons_append, evD_step (chk_congr (fun t ht => (put_facts hs).2.2.2.1 t (c2 t ht)) |>.trans chx)]
    have condy : ey = none ∨ (st.h.e (n0 + j) = some .rsv ∧ st.h.lk (n0 + j) = false ∧ ∃ u L, ey = some (.box u L)) := by
      rcases sy.cond with z | ⟨_, _, u, L, z⟩
      · exact .inl z
      · have := cy (by rw [z]; simp)
        exact .inr ⟨this.1, this.2, u, L, z⟩
    obtain ⟨ag2, _⟩ := past (l := looks all ox) condy hs c2
    obtain ⟨r1, r2, r3, r4, r5, r6⟩ := put_facts hs
    have cx' : ex ≠ none → s.h.e (n0 + i) = some .rsv ∧ s.h.lk (n0 + i) = false := by
      intro hne'
      rcases sx.cond with z | ⟨z1, z2, _⟩
      · exact absurd z hne'
      · rw [r3, upd1_e _ hne, upd1_lk]
        exact ⟨z1, z2⟩
    rw [sx.run call s _ ag2.veil cx']
    obtain ⟨s2, hs2⟩ := put_of (st1 := s) (st := st) r1 r2 (h3 := upd1 s.h (n0 + i) ex) hp1
    unfold putK
    rw [hs2]
    simp only
    obtain ⟨t1, t2, t3, t4, t5, t6⟩ := put_facts hs2
    have : s2 = st2 := by
      refine st_ext ?_ ?_ ?_ ?_
      · rw [t1, r1, q1, p1]
      · cases hdx : ox.dst with
        | none =>
          rw [t6 hdx]
          cases hdy : oy.dst with
          | none => rw [r6 hdy, q6 hdy, p6 hdx]
          | some u => rw [(r5 u hdy).2.2, (q5 u hdy).2.2, p6 hdx]
        | some t =>
          rw [(t5 t hdx).2.2]
          cases hdy : oy.dst with
          | none => rw [r6 hdy, q6 hdy, (p5 t hdx).2.2]
          | some u =>
            have hut : u ≠ t := by
              rintro rfl
              exact c3 u (by simp [hdy]) hdx
            rw [(r5 u hdy).2.2, (q5 u hdy).2.2, (p5 t hdx).2.2, set1_comm _ hut]
      · rw [t2, r2, q2, p2]
      · rw [t3, r3, q3, p3, upd1_comm hne]
    rw [this]
    exact hk2
theorem calm_spec (h : isCalm E o = true) : free E o = false ∧ isLight E o.op = false ∧ o.guard = none := by
  unfold isCalm at h
  split at h
  · rename_i h1 h2
    refine ⟨h1, ?_, h2⟩
    unfold free at h1
    split at h1
    · cases h1
    · rename_i q; exact q
  · cases h
theorem frontC0 {call : Handler} {n0 : Nat} {P : List Nat} {all : List Oper} {K : St → Option ρ} {j : Nat} {oy : Oper} {post : List (Nat × Oper)} (hc : isCalm E oy = true) (hnt : isTame E oy = false) : ∀ (pre : List (Nat × Oper)) (st : St), (∀ p, p ∈ pre → isLight E p.2.op = true ∧ apart all p.2 oy = true) →
    (∀ id, st.h.next ≤ id → st.h.e id = none) → evD E call n0 P all (pre ++ (j, oy) :: post) st K = some r → chk E P all oy st.fr = true ∧ evDstep E call n0 all j oy st (fun st' => evD E call n0 P all (pre ++ post) st' K) = some r := by
  obtain ⟨c1, c2, c3⟩ := calm_spec hc
  intro pre
  induction pre with
  | nil => intro st _ _ h; exact evD_cons h
  | cons x pre ih =>
    obtain ⟨i, ox⟩ := x
    intro st hind hfr h
    obtain ⟨hlx, hx⟩ := hind (i, ox) (by simp)
    simp only at hlx hx
    have hfx : free E ox = true := by simp only [free, hlx]
    unfold apart at hx
    split at hx
    case h_2 => cases hx
    rename_i d1 d2 d3
    have d1 := clear_spec d1
    have d2 := clear_spec d2
    have d3 := clear_spec d3
    obtain ⟨chx, h⟩ := evD_cons h
    obtain ⟨vx, ex, h0, sx, hk⟩ := step_agree hfx h
    have hex := h0 hlx
    subst hex
    simp only [upd1] at hk
    obtain ⟨st1, hp1, hk1⟩ := putK_some hk
    obtain ⟨p1, p2, p3, p4, p5, p6⟩ := put_facts hp1
    obtain ⟨chy, h1⟩ := ih st1 (fun p hp => hind p (List.mem_cons_of_mem _ hp)) (by rw [p3]; exact hfr) hk1
    have expand : ∀ (s : St) {σ : Type} (F : St → Option σ), evDstep E call n0 all j oy s F = evOp E call oy { s with h := quiet s.h } fun v h' => putK oy s F v (still s.h h') := by
      intro s σ F
      simp only [evDstep, c3, evDop, c2, hc, hnt]
    refine ⟨by rw [chk_congr (fun t ht => p4 t (d1 t ht))] at chy; exact chy, ?_⟩
    rw [expand] at h1
    rw [expand]
    have key : (fun v h' => putK oy st (fun st' => evD E call n0 P all ((i, ox) :: pre ++ post) st' K) v (still st.h h')) = (fun v h' => putK oy st1 (fun st' => evD E call n0 P all (pre ++ post) st' K) v (still st1.h h')) := by
      funext v h'
      rw [p3]
      unfold putK
      cases hs : ({ st with h := still st.h h' } : St).put oy.dst v with
      | none =>
        cases hs1 : ({ st1 with h := still st.h h' } : St).put oy.dst v with
        | none => rfl
        | some s1 =>
          obtain ⟨s, hs'⟩ := put_of (st1 := st) (st := st1) p1.symm p2.symm (h3 := still st.h h') hs1
          rw [hs] at hs'
          cases hs'
      | some s =>
        obtain ⟨s1, hs1⟩ := put_of (st1 := st1) (st := st) p1 p2 (h3 := still st.h h') hs
        rw [hs1]
        simp only
        rw [List.cons_append, evD_step (chk_congr (fun t ht => (put_facts hs).2.2.2.1 t (d2 t ht)) |>.trans chx)]
        obtain ⟨r1, r2, r3, r4, r5, r6⟩ := put_facts hs
        obtain ⟨q1, q2, q3, q4, q5, q6⟩ := put_facts hs1
        have he : ∀ id, st.h.e id ≠ none → s.h.e id = st.h.e id := by
          intro id hne
          rw [r3]
          have hlt : id < st.h.next := by
            rcases Nat.lt_or_ge id st.h.next with z | z
            · exact z
            · exact absurd (hfr id z) hne
          have : Nat.blt id st.h.next = true := by rw [Nat.blt_eq]; exact hlt
          simp only [still, this]
        have ag : AgreeS (looks all ox) st s := by
          refine ⟨fun t ht => r4 t (d2 t ht), fun id e xs q => ?_, fun id q => ?_, fun t _ id p u L _ q => ?_, fun id q => ?_⟩
          · rw [he id (by rw [q]; simp)]; exact q
          · rw [he id q]; exact q
          · rw [he id (by rw [q]; simp)]; exact q
          · unfold Boxy
            rw [he id (by rcases q with q | ⟨_, _, q⟩ <;> rw [q] <;> simp)]
            exact q
        rw [sx.run call s _ ag.veil (fun z => absurd rfl z)]
        obtain ⟨s2, hs2⟩ := put_of (st1 := s) (st := st) r1 r2 (h3 := s.h) hp1
        unfold putK
        simp only [upd1]
        rw [hs2]
        simp only
        obtain ⟨t1, t2, t3, t4, t5, t6⟩ := put_facts hs2
        have : s2 = s1 := by
          refine st_ext ?_ ?_ ?_ ?_
          · rw [t1, r1, q1, p1]
          · cases hdx : ox.dst with
            | none =>
              rw [t6 hdx]
              cases hdy : oy.dst with
              | none => rw [r6 hdy, q6 hdy, p6 hdx]
              | some u => rw [(r5 u hdy).2.2, (q5 u hdy).2.2, p6 hdx]
            | some t =>
              rw [(t5 t hdx).2.2]
              cases hdy : oy.dst with
              | none => rw [r6 hdy, q6 hdy, (p5 t hdx).2.2]
              | some u =>
                have hut : u ≠ t := by
                  rintro rfl
                  exact d3 u (by simp [hdy]) hdx
                rw [(r5 u hdy).2.2, (q5 u hdy).2.2, (p5 t hdx).2.2, set1_comm _ hut]
          · rw [t2, r2, q2, p2]
          · rw [t3, r3, q3]
        rw [this]
    rw [key]
    refine (evOp_congr (fun x hx ty => ?_) ?_).trans h1
    · cases x with
      | tmp t => exact (p4 t (d1 t (List.mem_append_right _ (tmpsOf_mem hx)))).symm
      | _ => rfl
    · show quiet st.h = quiet st1.h
      rw [p3]
def Kept (h h' : Hp) : Prop := ∀ id, (h.e id = some .rsv → h'.e id = some .rsv) ∧ ∀ v L, h.e id = some (.box v L) → ∃ v' L', h'.e id = some (.box v' L') ∧ (L.plain = true → v' = v ∧ L' = L)
theorem Kept.refl (h : Hp) : Kept h h := fun _ => ⟨fun q => q, fun v L q => ⟨v, L, q, fun _ => ⟨rfl, rfl⟩⟩⟩
theorem Kept.trans {h h' h2 : Hp} (k : Kept h h') (l : Kept h' h2) : Kept h h2 := fun id => ⟨fun q => (l id).1 ((k id).1 q), fun v L q => by
  obtain ⟨v', L', q1, q2⟩ := (k id).2 v L q
  obtain ⟨v2, L2, q3, q4⟩ := (l id).2 v' L' q1
  refine ⟨v2, L2, q3, fun hp => ?_⟩
  obtain ⟨e1, e2⟩ := q2 hp
  subst e1; subst e2
  exact q4 hp⟩
theorem Kept.new {h : Hp} (hn : h.e h.next = none) (e : Ent) : Kept h (h.new e) := fun id => by
  by_cases q : id = h.next
  · subst q; rw [hn]; exact ⟨fun z => (by cases z), fun _ _ z => (by cases z)⟩
  · have : (h.new e).e id = h.e id := by simp [Hp.new, set1, beq_false q]
    rw [this]
    exact Kept.refl h id
theorem Kept.put {h : Hp} {id : Nat} {v : AV} {L : Ty} (he : h.e id = some (.box v L)) (hL : L.plain = false) (v' : AV) (L' : Ty) : Kept h (h.put id (.box v' L')) := fun j => by
  by_cases q : j = id
  · subst q
    rw [he]
    refine ⟨fun z => (by cases z), fun u U z => ?_⟩
    injection z with z
    injection z with z1 z2
    subst z1; subst z2
    exact ⟨v', L', by simp [Hp.put, set1, Nat.beq_refl], fun hp => by rw [hL] at hp; cases hp⟩
  · have : (h.put id (.box v' L')).e j = h.e j := by simp [Hp.put, set1, beq_false q]
    rw [this]
    exact Kept.refl h j
theorem Kept.kills {h : Hp} {l : List Nat} (hl : ∀ i ∈ l, ∃ e xs, h.e i = some (.row e xs)) : Kept h (h.kills l) := fun j => by
  have : (∃ e xs, h.e j = some (.row e xs)) ∨ (h.kills l).e j = h.e j := by
    rw [kills_e]
    by_cases q : j ∈ l
    · exact .inl (hl j q)
    · exact .inr (by simp [q])
  rcases this with ⟨e, xs, q⟩ | q
  · rw [q]; exact ⟨fun z => (by cases z), fun _ _ z => (by cases z)⟩
  · rw [q]; exact Kept.refl h j
theorem owns_rows {h : Hp} {v : AV} {e : Ty} {xs : List e.D} (hx : toD h v (.slice e) = some xs) : ∀ i ∈ v.owns, ∃ e xs, h.e i = some (.row e xs) := by
  intro i hi
  cases v with
  | own id =>
    simp only [AV.owns, List.mem_singleton] at hi
    subst hi
    simp only [toD] at hx
    split at hx
    · rename_i e' ys q; exact ⟨e', ys, q⟩
    · cases hx
  | view id a n =>
    simp only [AV.owns, List.mem_singleton] at hi
    subst hi
    simp only [toD] at hx
    split at hx
    · rename_i e' ys q; exact ⟨e', ys, q⟩
    · cases hx
  | st b => simp [toD] at hx
  | pr a b => simp [toD] at hx
  | _ => simp [AV.owns] at hi
theorem evMap_run {kt vt : Ty} {m k : AV} {h : Hp} {KK : Nat → (kt.D → kt.D → Bool) → List (kt.D × vt.D) → kt.D → Option ρ} (hr : evMap kt vt m k h KK = some r) :
    ∃ id f xs x c, h.e id = some (.box c (.map kt vt)) ∧ KK id f xs x = some r ∧ ∀ {σ : Type} (KK' : Nat → (kt.D → kt.D → Bool) → List (kt.D × vt.D) → kt.D → Option σ), evMap kt vt m k h KK' = KK' id f xs x := by
  unfold evMap at hr
  split at hr
  case h_2 => cases hr
  rename_i id
  split at hr
  case h_2 => cases hr
  rename_i c kt' vt' he
  split at hr
  case h_2 => cases hr
  rename_i xs f x q1 q2 q3 q4 q5
  have e1 := of_decide_eq_true q1
  have e2 := of_decide_eq_true q2
  subst e1; subst e2
  exact ⟨id, f, xs, x, c, he, hr, fun KK' => by simp [evMap, he, q3, q4, q5]⟩
theorem evDmap_run {kt et : Ty} {m k : AV} {h : Hp} {KK : Nat → (kt.D → kt.D → Bool) → List (kt.D × Option (List et.D)) → kt.D → Option ρ} (hr : evDmap kt et m k h KK = some r) :
    ∃ id f xs x c, h.e id = some (.box c (.dmap kt et)) ∧ KK id f xs x = some r ∧ ∀ {σ : Type} (KK' : Nat → (kt.D → kt.D → Bool) → List (kt.D × Option (List et.D)) → kt.D → Option σ), evDmap kt et m k h KK' = KK' id f xs x := by
  unfold evDmap at hr
  split at hr
  case h_2 => cases hr
  rename_i id
  split at hr
  case h_2 => cases hr
  rename_i c kt' vt' he
  split at hr
  case h_2 => cases hr
  rename_i xs f x q1 q2 q3 q4 q5
  split at hr
  case h_2 => cases hr
  rename_i hl
  have e1 := of_decide_eq_true q1
  have e2 := of_decide_eq_true q2
  subst e1; subst e2
  exact ⟨id, f, xs, x, c, he, hr, fun KK' => by simp [evDmap, he, q3, q4, q5, hl]⟩
theorem plain_map (k v : Ty) : (Ty.map k v).plain = false := rfl
theorem plain_dmap (k v : Ty) : (Ty.dmap k v).plain = false := rfl
theorem append_run {ts : Array TypeId} {args : List AV} {h : Hp} {K : AV → Hp → Option ρ} (hnx : h.e h.next = none) (hr : evBuiltin E .append ts args h K = some r) :
    ∃ v h', K v h' = some r ∧ Kept h h' ∧ ∀ {σ : Type} (K' : AV → Hp → Option σ), evBuiltin E .append ts args h K' = K' v h' := by
  match args, hr with
  | [], hr => simp [evBuiltin] at hr
  | [_], hr => simp [evBuiltin] at hr
  | _ :: _ :: _ :: _, hr => simp [evBuiltin] at hr
  | [s, x], hr =>
    simp only [evBuiltin] at hr
    split at hr
    case h_2 => cases hr
    rename_i t u hts
    split at hr
    · rename_i e' hu
      split at hr
      case h_2 => cases hr
      rename_i row ht
      split at hr
      case h_2 => cases hr
      rename_i e hty
      unfold evAppend at hr
      have fin : ∀ (xs ys : List e.D), toD h s (.slice e) = some xs → toD h x (.slice e) = some ys → unlocked h (s.owns ++ x.owns) = true → test (P.room (P.add (P.len xs) (P.len ys)) row.bytes) (K (.own h.next) (((h.kills (s.owns ++ x.owns))).new (.row e (P.app xs ys)))) = some r →
          (∀ {σ : Type} (K' : AV → Hp → Option σ), evAppend row.bytes e s x h K' = test (P.room (P.add (P.len xs) (P.len ys)) row.bytes) (K' (.own h.next) (((h.kills (s.owns ++ x.owns))).new (.row e (P.app xs ys))))) →
          ∃ v h', K v h' = some r ∧ Kept h h' ∧ ∀ {σ : Type} (K' : AV → Hp → Option σ), evBuiltin E .append ts [s, x] h K' = K' v h' := by
        intro xs ys h1 h2 h3 h4 h5
        obtain ⟨hroom, hK⟩ := test_some h4
        refine ⟨_, _, hK, (Kept.kills fun i hi => ?_).trans (Kept.new ?_ _), fun K' => ?_⟩
        · rcases List.mem_append.1 hi with q | q
          · exact owns_rows h1 i q
          · exact owns_rows h2 i q
        · rw [kills_next, kills_e, hnx]; simp
        · simp only [evBuiltin, hts, hu, ht, hty]
          rw [h5 K', hroom]
          simp only [test, P.cond, kills_next]
      split at hr
      · rename_i xs id hx
        split at hr
        case h_2 => cases hr
        rename_i ys hy
        split at hr
        case h_2 => cases hr
        rename_i hl
        exact fin xs ys hx hy hl hr fun K' => by simp only [evAppend, hx, hy, hl]
      · rename_i xs e0 hx
        split at hr
        case h_2 => cases hr
        rename_i ys hy
        split at hr
        case h_2 => cases hr
        rename_i hl
        exact fin xs ys hx hy hl hr fun K' => by simp only [evAppend, hx, hy, hl]
      · rename_i xs id a n hx
        split at hr
        case h_2 => cases hr
        rename_i ys hy
        split at hr
        case h_2 => cases hr
        rename_i hl
        exact fin xs ys hx hy hl hr fun K' => by simp only [evAppend, hx, hy, hl]
      · cases hr
    · rename_i k hu
      split at hr
      case h_2 => cases hr
      rename_i row ht
      split at hr
      case h_2 => cases hr
      rename_i e hty
      unfold evZeros at hr
      split at hr
      case h_2 => cases hr
      rename_i e0 k0 n
      split at hr
      case h_2 => cases hr
      rename_i hd
      obtain ⟨t1, hr⟩ := test_some hr
      obtain ⟨t2, hr⟩ := test_some hr
      refine ⟨_, _, hr, Kept.new hnx _, fun K' => ?_⟩
      simp only [evBuiltin, hts, hu, ht, hty, evZeros, hd, t1, t2, test, P.cond]
    · cases hr
theorem delete_run {ts : Array TypeId} {args : List AV} {h : Hp} {K : AV → Hp → Option ρ} (hr : evBuiltin E .delete ts args h K = some r) :
    ∃ v h', K v h' = some r ∧ Kept h h' ∧ ∀ {σ : Type} (K' : AV → Hp → Option σ), evBuiltin E .delete ts args h K' = K' v h' := by
  match args, hr with
  | [], hr => simp [evBuiltin] at hr
  | [_], hr => simp [evBuiltin] at hr
  | _ :: _ :: _ :: _, hr => simp [evBuiltin] at hr
  | [m, k], hr =>
    simp only [evBuiltin] at hr
    split at hr
    case h_2 => cases hr
    rename_i t tl hts
    split at hr
    · rename_i kt vt hm
      obtain ⟨id, f, xs, x, c, he, hK, hall⟩ := evMap_run hr
      split at hK
      case h_2 => cases hK
      rename_i hl
      exact ⟨_, _, hK, Kept.put he (plain_map _ _) _ _, fun K' => by simp only [evBuiltin, hts, hm]; rw [hall]; simp only [hl]⟩
    · rename_i hm
      split at hr
      case h_2 => cases hr
      rename_i kt et hd
      obtain ⟨id, f, xs, x, c, he, hK, hall⟩ := evDmap_run hr
      exact ⟨_, _, hK, Kept.put he (plain_dmap _ _) _ _, fun K' => by simp only [evBuiltin, hts, hm, hd]; rw [hall]⟩
theorem tame_keeps {call : Handler} {K : AV → Hp → Option ρ} (ht : isTame E o = true) (hfr : ∀ id, st.h.next ≤ id → st.h.e id = none) (hr : evOp E call o st K = some r) :
    ∃ v h', K v h' = some r ∧ Kept st.h h' ∧ ∀ {σ : Type} (K' : AV → Hp → Option σ), evOp E call o st K' = K' v h' := by
  have hnx := hfr st.h.next (Nat.le_refl _)
  unfold isTame at ht
  split at ht
  case h_2 => cases ht
  split at ht
  · -- lookup
    rename_i t m k ok ho
    simp only [evOp, ho] at hr
    split at hr
    · rename_i kt vt hm
      obtain ⟨id, f, xs, x, c, he, hK, hall⟩ := evMap_run hr
      cases ok with
      | false => exact ⟨_, _, by simpa only [evLookup] using hK, Kept.refl _, fun K' => by simp only [evOp, ho, hm]; rw [hall]; rfl⟩
      | true => exact ⟨_, _, by simpa only [evLookup] using hK, Kept.refl _, fun K' => by simp only [evOp, ho, hm]; rw [hall]; rfl⟩
    · rename_i hm
      split at hr
      case h_2 => cases hr
      rename_i kt et hd
      obtain ⟨id, f, xs, x, c, he, hK, hall⟩ := evDmap_run hr
      obtain ⟨ys, hg, hK⟩ := bind_some hK
      have hlt : id ≠ st.h.next := fun q => by rw [q, hnx] at he; cases he
      refine ⟨_, _, hK, (Kept.put he (plain_dmap _ _) _ _).trans (Kept.new ?_ _), fun K' => ?_⟩
      · show (st.h.put id _).e st.h.next = none
        simp [Hp.put, set1, beq_false (Ne.symm hlt), hnx]
      · simp only [evOp, ho, hm, hd]
        rw [hall, hg]
        rfl
  · -- mapUpdate
    rename_i t m k v ho
    simp only [evOp, ho] at hr
    split at hr
    · rename_i kt vt hm
      obtain ⟨id, f, xs, x, c, he, hK, hall⟩ := evMap_run hr
      split at hK
      case h_2 => cases hK
      rename_i y q1 q2 q3
      exact ⟨_, _, hK, Kept.put he (plain_map _ _) _ _, fun K' => by simp only [evOp, ho, hm]; rw [hall]; simp only [q1, q2, q3]⟩
    · rename_i hm
      split at hr
      case h_2 => cases hr
      rename_i kt et hd
      obtain ⟨id, f, xs, x, c, he, hK, hall⟩ := evDmap_run hr
      split at hK
      case h_2 => cases hK
      rename_i ys hy
      have hrows : ∀ i ∈ (opnd (some (.slice et)) st.fr v).owns, ∃ e xs, st.h.e i = some (.row e xs) := by
        unfold rowOf at hy
        split at hy
        · rename_i zs id' hz _; exact owns_rows hz
        · rename_i zs e' hz _; exact owns_rows hz
        · cases hy
      have hnot : id ∉ (opnd (some (.slice et)) st.fr v).owns := fun q => by
        obtain ⟨e, zs, z⟩ := hrows id q
        rw [he] at z; cases z
      refine ⟨_, _, hK, (Kept.kills hrows).trans (Kept.put (id := id) (v := c) (L := .dmap kt et) ?_ (plain_dmap _ _) _ _), fun K' => by simp only [evOp, ho, hm, hd]; rw [hall]; simp only [hy]⟩
      rw [kills_e, if_neg hnot]
      exact he
  · -- builtins
    rename_i c ho
    split at ht
    · rename_i hc
      simp only [evOp, ho, hc] at hr
      obtain ⟨v, h', h1, h2, h3⟩ := append_run hnx hr
      exact ⟨v, h', h1, h2, fun K' => by simp only [evOp, ho, hc]; exact h3 K'⟩
    · rename_i hc
      simp only [evOp, ho, hc] at hr
      obtain ⟨v, h', h1, h2, h3⟩ := delete_run hr
      exact ⟨v, h', h1, h2, fun K' => by simp only [evOp, ho, hc]; exact h3 K'⟩
    · cases ht
  · cases ht
theorem frontT {call : Handler} {n0 : Nat} {P : List Nat} {all : List Oper} {K : St → Option ρ} {j : Nat} {oy : Oper} {post : List (Nat × Oper)} (hc : isCalm E oy = true) (htm : isTame E oy = true) : ∀ (pre : List (Nat × Oper)) (st : St), (∀ p, p ∈ pre → isLight E p.2.op = true ∧ apart all p.2 oy = true) →
    (∀ id, st.h.next ≤ id → st.h.e id = none) → evD E call n0 P all (pre ++ (j, oy) :: post) st K = some r → chk E P all oy st.fr = true ∧ evDstep E call n0 all j oy st (fun st' => evD E call n0 P all (pre ++ post) st' K) = some r := by
  obtain ⟨c1, c2, c3⟩ := calm_spec hc
  have hve : veiled E = true := by
    unfold isTame at htm
    split at htm
    · rename_i q; exact q
    · cases htm
  intro pre
  induction pre with
  | nil => intro st _ _ h; exact evD_cons h
  | cons x pre ih =>
    obtain ⟨i, ox⟩ := x
    intro st hind hfr h
    obtain ⟨hlx, hx⟩ := hind (i, ox) (by simp)
    simp only at hlx hx
    have hfx : free E ox = true := by simp only [free, hlx]
    unfold apart at hx
    split at hx
    case h_2 => cases hx
    rename_i d1 d2 d3
    have d1 := clear_spec d1
    have d2 := clear_spec d2
    have d3 := clear_spec d3
    obtain ⟨chx, h⟩ := evD_cons h
    obtain ⟨vx, ex, h0, sx, hk⟩ := step_agree hfx h
    have hex := h0 hlx
    subst hex
    simp only [upd1] at hk
    obtain ⟨st1, hp1, hk1⟩ := putK_some hk
    obtain ⟨p1, p2, p3, p4, p5, p6⟩ := put_facts hp1
    obtain ⟨chy, h1⟩ := ih st1 (fun p hp => hind p (List.mem_cons_of_mem _ hp)) (by rw [p3]; exact hfr) hk1
    have expand : ∀ (s : St) {σ : Type} (F : St → Option σ), evDstep E call n0 all j oy s F = evOp E call oy s (putK oy s F) := by
      intro s σ F
      simp only [evDstep, c3, evDop, c2, hc, htm]
    refine ⟨by rw [chk_congr (fun t ht => p4 t (d1 t ht))] at chy; exact chy, ?_⟩
    rw [expand] at h1
    rw [expand]
    obtain ⟨v, h', hv, kept, hall⟩ := tame_keeps htm (by rw [p3]; exact hfr) h1
    have same : ∀ {σ : Type} (K' : AV → Hp → Option σ), evOp E call oy st K' = K' v h' := fun K' => by
      rw [← hall K']
      refine evOp_congr (fun x hx ty => ?_) p3.symm
      cases x with
      | tmp t => exact (p4 t (d1 t (List.mem_append_right _ (tmpsOf_mem hx)))).symm
      | _ => rfl
    rw [same]
    unfold putK at hv ⊢
    cases hs : ({ st with h := h' } : St).put oy.dst v with
    | none =>
      cases hs1 : ({ st1 with h := h' } : St).put oy.dst v with
      | none => rw [hs1] at hv; cases hv
      | some s1 =>
        obtain ⟨s, hs'⟩ := put_of (st1 := st) (st := st1) p1.symm p2.symm (h3 := h') hs1
        rw [hs] at hs'
        cases hs'
    | some s =>
      obtain ⟨s1, hs1⟩ := put_of (st1 := st1) (st := st) p1 p2 (h3 := h') hs
      rw [hs1] at hv
      simp only at hv ⊢
      rw [List.cons_append, evD_step (chk_congr (fun t ht => (put_facts hs).2.2.2.1 t (d2 t ht)) |>.trans chx)]
      obtain ⟨r1, r2, r3, r4, r5, r6⟩ := put_facts hs
      obtain ⟨q1, q2, q3, q4, q5, q6⟩ := put_facts hs1
      have boxy : ∀ id, Boxy st.h id → Boxy s.h id := by
        intro id q
        rw [r3]
        have kp := kept id
        rw [p3] at kp
        rcases q with q | ⟨u, L, q⟩
        · exact .inl (kp.1 q)
        · obtain ⟨u', L', z, _⟩ := kp.2 u L q
          exact .inr ⟨u', L', z⟩
      have ag : AgreeS (looks all ox) (veilIf E st) (veilIf E s) := by
        simp only [veilIf, hve]
        refine ⟨fun t ht => r4 t (d2 t ht), fun id e xs q => (veil_row q).elim, fun id q => veil_boxy.2 (boxy id (veil_boxy.1 q)), fun t _ id p u L _ q => ?_, fun id q => boxy_veil.2 (boxy id (boxy_veil.1 q))⟩
        obtain ⟨z1, z2⟩ := veil_box.1 q
        have kp := kept id
        rw [p3] at kp
        obtain ⟨u', L', z3, z4⟩ := kp.2 u L z1
        obtain ⟨e1, e2⟩ := z4 z2
        subst e1; subst e2
        exact veil_box.2 ⟨by show s.h.e id = _; rw [r3]; exact z3, z2⟩
      rw [sx.run call s _ ag (fun z => absurd rfl z)]
      obtain ⟨s2, hs2⟩ := put_of (st1 := s) (st := st) r1 r2 (h3 := s.h) hp1
      unfold putK
      simp only [upd1]
      rw [hs2]
      simp only
      obtain ⟨t1, t2, t3, t4, t5, t6⟩ := put_facts hs2
      have : s2 = s1 := by
        refine st_ext ?_ ?_ ?_ ?_
        · rw [t1, r1, q1, p1]
        · cases hdx : ox.dst with
          | none =>
            rw [t6 hdx]
            cases hdy : oy.dst with
            | none => rw [r6 hdy, q6 hdy, p6 hdx]
            | some u => rw [(r5 u hdy).2.2, (q5 u hdy).2.2, p6 hdx]
          | some t =>
            rw [(t5 t hdx).2.2]
            cases hdy : oy.dst with
            | none => rw [r6 hdy, q6 hdy, (p5 t hdx).2.2]
            | some u =>
              have hut : u ≠ t := by
                rintro rfl
                exact d3 u (by simp [hdy]) hdx
              rw [(r5 u hdy).2.2, (q5 u hdy).2.2, (p5 t hdx).2.2, set1_comm _ hut]
        · rw [t2, r2, q2, p2]
        · rw [t3, r3, q3]
      rw [this]
      exact hv
theorem frontC {call : Handler} {n0 : Nat} {P : List Nat} {all : List Oper} {K : St → Option ρ} {j : Nat} {oy : Oper} {post : List (Nat × Oper)} (hc : isCalm E oy = true) (pre : List (Nat × Oper)) (st : St) (h1 : ∀ p, p ∈ pre → isLight E p.2.op = true ∧ apart all p.2 oy = true)
    (h2 : ∀ id, st.h.next ≤ id → st.h.e id = none) (h3 : evD E call n0 P all (pre ++ (j, oy) :: post) st K = some r) : chk E P all oy st.fr = true ∧ evDstep E call n0 all j oy st (fun st' => evD E call n0 P all (pre ++ post) st' K) = some r := by
  cases ht : isTame E oy with
  | true => exact frontT hc ht pre st h1 h2 h3
  | false => exact frontC0 hc ht pre st h1 h2 h3
theorem lst_spec {all : List Oper} (h : isLst all o = true) : o.guard = none ∧ o.dst = none ∧ ∃ t p x, o.op = .store t (.tmp p) x := by
  unfold isLst at h
  split at h
  · rename_i t p x h1 h2 h3
    exact ⟨h1, h2, t, p, x, h3⟩
  · cases h
theorem lst_run {call : Handler} {n0 j : Nat} {all : List Oper} {F : St → Option ρ} {k : Nat} (h : isLst all o = true) (hk : ∀ t p x, o.op = .store t (.tmp p) x → st.fr p = .ptr k []) (hr : evDstep E call n0 all j o st F = some r) :
    ∃ v L u, st.h.e k = some (.box v L) ∧ st.h.lk k = false ∧ F { st with h := st.h.put k (.box u L) } = some r ∧
      ∀ {σ : Type} (call2 : Handler) (st2 : St) (F2 : St → Option σ), (∀ t, t ∈ looks all o → st2.fr t = st.fr t) → st2.h.e k = some (.box v L) → st2.h.lk k = false → evDstep E call2 n0 all j o st2 F2 = F2 { st2 with h := st2.h.put k (.box u L) } := by
  obtain ⟨hg, hd, t, p, x, ho⟩ := lst_spec h
  have hp := hk t p x ho
  have hl : isLight E o.op = false := by rw [ho]; rfl
  have hl' : isLight E (.store t (.tmp p) x) = false := rfl
  have ha : isAlloc E (.store t (.tmp p) x) = false := rfl
  have hf : free E o = false := by unfold free; rw [hl, ho]; exact ha
  have htm : isTame E o = false := by unfold isTame; rw [ho]; cases veiled E <;> rfl
  have hc : isCalm E o = false := by unfold isCalm; rw [hf, hg, htm, ho]
  have hm : makes E (.store t (.tmp p) x) = none := rfl
  have hop : ∀ fr : Nat → AV, opnd none fr (.tmp p) = fr p := fun _ => rfl
  simp only [evDstep, hg, evDop, hl, hc, ho, hm, evOp, hop, hp, hl'] at hr
  split at hr
  case h_2 => cases hr
  rename_i v L he hlk
  split at hr
  case h_2 => cases hr
  rename_i off u hoff
  have hoff' : off = 0 ∧ u = L := by
    simp only [offs] at hoff
    injection hoff with hoff
    injection hoff with h1 h2
    exact ⟨h1.symm, h2.symm⟩
  obtain ⟨rfl, rfl⟩ := hoff'
  split at hr
  case h_2 => cases hr
  rename_i hty hs hft
  simp only [AV.set] at hr
  have hput : ∀ {σ : Type} (st2 : St) (F2 : St → Option σ) (av : AV) (h2 : Hp), putK o st2 F2 av h2 = F2 { st2 with h := h2 } := by
    intro σ st2 F2 av h2
    unfold putK
    rw [hd]
    rfl
  rw [hput] at hr
  refine ⟨v, u, _, he, hlk, hr, fun call2 st2 F2 hfr he2 hlk2 => ?_⟩
  have hx : opnd (E.ty t) st2.fr x = opnd (E.ty t) st.fr x := by
    cases x with
    | tmp y => exact hfr y (by simp [looks, ho, Op.operands, tmpsOf])
    | _ => rfl
  have hp2 : st2.fr p = .ptr k [] := (hfr p (by simp [looks, ho, Op.operands, tmpsOf])).trans hp
  simp only [evDstep, hg, evDop, hl, hc, ho, hm, evOp, hop, hp2, he2, hlk2, hoff, hx, hty, hs, hft, AV.set, hl']
  rw [hput]
theorem frontS {call : Handler} {n0 : Nat} {P : List Nat} {all : List Oper} {K : St → Option ρ} {j : Nat} {oy : Oper} {post : List (Nat × Oper)} (hl : isLst all oy = true) (hfy : free E oy = false) : ∀ (pre : List (Nat × Oper)) (st : St), (∀ p, p ∈ pre → free E p.2 = true ∧ apart all p.2 oy = true) →
    NoRsv (looks all oy) st → evD E call n0 P all (pre ++ (j, oy) :: post) st K = some r → chk E P all oy st.fr = true ∧ evDstep E call n0 all j oy st (fun st' => evD E call n0 P all (pre ++ post) st' K) = some r := by
  obtain ⟨hg, hd, ty, pt, x0, ho⟩ := lst_spec hl
  intro pre
  induction pre with
  | nil => intro st _ _ h; exact evD_cons h
  | cons x pre ih =>
    obtain ⟨i, ox⟩ := x
    intro st hind hnr h
    obtain ⟨hfx, hx⟩ := hind (i, ox) (by simp)
    simp only at hfx hx
    unfold apart at hx
    split at hx
    case h_2 => cases hx
    rename_i d1 d2 d3
    have d1 := clear_spec d1
    have d2 := clear_spec d2
    obtain ⟨chx, h⟩ := evD_cons h
    obtain ⟨vx, ex, _, sx, hk⟩ := step_agree hfx h
    obtain ⟨st1, hp1, hk1⟩ := putK_some hk
    obtain ⟨ag1, back1⟩ := past sx.cond hp1 d1
    obtain ⟨ag1', hnr1⟩ := back1 hnr
    obtain ⟨chy, h1⟩ := ih st1 (fun p hp => hind p (List.mem_cons_of_mem _ hp)) hnr1 hk1
    obtain ⟨p1, p2, p3, p4, p5, p6⟩ := put_facts hp1
    -- the box
    have hmem : pt ∈ looks all oy := by simp [looks, ho, Op.operands, tmpsOf]
    obtain ⟨k, hkp, hkP⟩ : ∃ k, st1.fr pt = .ptr k [] ∧ memb k P = true := by
      simp only [chk, hfy, hl, ho, aims] at chy
      split at chy
      · rename_i id q; exact ⟨id, q, chy⟩
      · cases chy
    obtain ⟨v, L, u, he1, hlk1, hF, hall⟩ := lst_run hl (fun t p x q => by rw [ho] at q; injection q with q1 q2 q3; injection q2 with q2; subst q2; exact hkp) h1
    have hkst : st.fr pt = .ptr k [] := (ag1.fr pt hmem).symm.trans hkp
    have hnk : st.h.e k ≠ some .rsv := hnr pt hmem k [] hkst
    have hik : ex ≠ none → n0 + i ≠ k := by
      intro hne q
      rcases sx.cond with z | ⟨z, _⟩
      · exact hne z
      · rw [q] at z; exact hnk z
    have hek : st.h.e k = some (.box v L) := by
      rw [p3] at he1
      cases ex with
      | none => exact he1
      | some e => rwa [upd1_e _ (Ne.symm (hik (by simp)))] at he1
    have hlk : st.h.lk k = false := by rw [p3, upd1_lk] at hlk1; exact hlk1
    refine ⟨by rw [chk_congr (fun t ht => ag1.fr t ht)] at chy; exact chy, ?_⟩
    rw [hall call st _ (fun t ht => (ag1.fr t ht).symm) hek hlk]
    have hchs : chk E P all ox ({ st with h := st.h.put k (.box u L) } : St).fr = true := chx
    rw [List.cons_append, evD_step hchs]
    have hshy : shy st.fr P (looks all ox) = true := by simpa only [chk, hfx] using chx
    have ag2 : AgreeS (looks all ox) st { st with h := st.h.put k (.box u L) } := by
      have oth : ∀ id, id ≠ k → (st.h.put k (.box u L)).e id = st.h.e id := fun id q => by simp [Hp.put, set1, beq_false q]
      refine ⟨fun _ _ => rfl, fun id e xs q => ?_, fun id q => ?_, fun t ht id p v' L' q1 q2 => ?_, fun id q => ?_⟩
      · have : id ≠ k := by rintro rfl; rw [hek] at q; cases q
        exact (oth id this).trans q
      · by_cases q' : id = k
        · subst q'; simp [Hp.put, set1, Nat.beq_refl]
        · show (st.h.put k (.box u L)).e id ≠ none
          rw [oth id q']; exact q
      · have : id ≠ k := by
          rintro rfl
          have := shy_spec _ hshy t ht id p q1
          rw [hkP] at this; cases this
        exact (oth id this).trans q2
      · by_cases q' : id = k
        · subst q'; exact .inr ⟨u, L, by simp [Hp.put, set1, Nat.beq_refl]⟩
        · show Boxy (st.h.put k (.box u L)) id
          unfold Boxy
          rw [oth id q']; exact q
    have cx' : ex ≠ none → (st.h.put k (.box u L)).e (n0 + i) = some .rsv ∧ (st.h.put k (.box u L)).lk (n0 + i) = false := by
      intro hne
      rcases sx.cond with z | ⟨z1, z2, _⟩
      · exact absurd z hne
      · refine ⟨?_, z2⟩
        have := hik hne
        simp only [Hp.put, set1, beq_false this]
        exact z1
    rw [sx.run call _ _ ag2.veil cx']
    obtain ⟨s2, hs2⟩ := put_of (st1 := ({ st with h := st.h.put k (.box u L) } : St)) (st := st) rfl rfl (h3 := upd1 (st.h.put k (.box u L)) (n0 + i) ex) hp1
    unfold putK
    rw [hs2]
    simp only
    obtain ⟨t1, t2, t3, t4, t5, t6⟩ := put_facts hs2
    have : s2 = { st1 with h := st1.h.put k (.box u L) } := by
      refine st_ext (t1.trans p1.symm) ?_ (t2.trans p2.symm) ?_
      · cases hdx : ox.dst with
        | none => rw [t6 hdx]; exact (p6 hdx).symm
        | some t => rw [(t5 t hdx).2.2]; exact ((p5 t hdx).2.2).symm
      · rw [t3]
        show upd1 (st.h.put k (.box u L)) (n0 + i) ex = st1.h.put k (.box u L)
        rw [p3]
        cases ex with
        | none => rfl
        | some e =>
          have := hik (by simp)
          simp only [upd1, Hp.put]
          rw [set1_comm _ this]
    rw [this]
    exact hF
end Go.PG
end
section
namespace Go.PG
open Go.RowKit
variable {Pg : Program} {G : World → Prop} {E : Env} {S : Nat → Prop} {B : Nat} {w0 w w' w'' : World} {h h' h2 : Hp} {M M' M'' : Nat → Bk} {ρ : Type} {r : ρ} {st st' st'' st1 st2 st3 : St} {a a' a'' : Act} {o : Oper}
structure Rem (L : List Bool) (ops : Array Oper) (listed : Array Bool) (rem : List (Nat × Oper)) : Prop where
  at_ : ∀ p, p ∈ rem → ops[p.1]? = some p.2
  sorted : rem.Pairwise (fun p q => keyOf L ops.size p.1 < keyOf L ops.size q.1)
  left : ∀ i, i < ops.size → (listed.getD i true = false ↔ ∃ o, (i, o) ∈ rem)
  closed : Closed ops.toList (fun i => listed.getD i false = true)
  size : listed.size = ops.size
theorem keyOf_lt {L : List Bool} {n i j : Nat} (h : i < j) (hj : j < n) (ha : Go.PG.after L i j = false) : keyOf L n i < keyOf L n j := by
  rw [after_spec] at ha
  unfold keyOf
  cases qi : lateB L i <;> cases qj : lateB L j <;> simp_all <;> omega
theorem getD_lt {l : Array Bool} {i : Nat} (h : i < l.size) (d : Bool) : l.getD i d = l[i] := by simp [Array.getD_eq_getD_getElem?, h]
theorem Rem.listed {L : List Bool} {ops : Array Oper} {listed : Array Bool} {rem : List (Nat × Oper)} (R : Rem L ops listed rem) {i : Nat} (hi : i < ops.size) : listed.getD i false = true ↔ ¬ ∃ o, (i, o) ∈ rem := by
  rw [← R.left i hi, getD_lt (by rw [R.size]; exact hi), getD_lt (by rw [R.size]; exact hi)]
  cases listed[i]'(by rw [R.size]; exact hi) <;> simp
theorem Rem.lt {L : List Bool} {ops : Array Oper} {listed : Array Bool} {rem : List (Nat × Oper)} (R : Rem L ops listed rem) {p : Nat × Oper} (hp : p ∈ rem) : p.1 < ops.size := (Array.getElem?_eq_some_iff.1 (R.at_ p hp)).1
theorem Rem.next {L : List Bool} {ops : Array Oper} {listed : Array Bool} {pre post : List (Nat × Oper)} {j : Nat} {oj : Oper} (R : Rem L ops listed (pre ++ (j, oj) :: post)) (hr : j ∈ Region.ready .any ops listed) : Rem L ops (listed.setIfInBounds j true) (pre ++ post) := by
  have hj : j < ops.size := R.lt (p := (j, oj)) (by simp)
  have hjo : ops[j]? = some oj := R.at_ (j, oj) (by simp)
  have hne : ∀ p, p ∈ pre ++ post → p.1 ≠ j := by
    intro p hp q
    have hs := R.sorted
    rw [List.pairwise_append] at hs
    obtain ⟨h1, h2, h3⟩ := hs
    rw [List.pairwise_cons] at h2
    rcases List.mem_append.1 hp with hp | hp
    · have := h3 p hp (j, oj) (by simp)
      simp only at this
      rw [q] at this
      omega
    · have := h2.1 p hp
      simp only at this
      rw [q] at this
      omega
  refine ⟨fun p hp => R.at_ p ?_, ?_, fun i hi => ?_, fun k ok hk hl e he hb => ?_, by rw [Array.size_setIfInBounds]; exact R.size⟩
  · rcases List.mem_append.1 hp with hp | hp
    · exact List.mem_append_left _ hp
    · exact List.mem_append_right _ (List.mem_cons_of_mem _ hp)
  · refine R.sorted.sublist ?_
    exact List.Sublist.append_left (List.sublist_cons_self _ _) _
  · by_cases hij : i = j
    · subst hij
      constructor
      · intro q
        rw [getD_lt (by rw [Array.size_setIfInBounds, R.size]; exact hi)] at q
        simp at q
      · rintro ⟨o, ho⟩
        exact absurd rfl (hne (i, o) ho)
    · rw [getD_set_ne true (Ne.symm hij), R.left i hi]
      constructor
      · rintro ⟨o, ho⟩
        refine ⟨o, ?_⟩
        rcases List.mem_append.1 ho with ho | ho
        · exact List.mem_append_left _ ho
        · rcases List.mem_cons.1 ho with q | ho
          · injection q with q; exact absurd q hij
          · exact List.mem_append_right _ ho
      · rintro ⟨o, ho⟩
        refine ⟨o, ?_⟩
        rcases List.mem_append.1 ho with ho | ho
        · exact List.mem_append_left _ ho
        · exact List.mem_append_right _ (List.mem_cons_of_mem _ ho)
  · by_cases hkj : k = j
    · subst hkj
      rw [mem_ready] at hr
      obtain ⟨_, o', ho', hall⟩ := hr
      rw [Array.getElem?_toList] at hk
      rw [hk] at ho'
      injection ho' with ho'
      subst ho'
      exact getD_set_true (hall e he hb)
    · have hl : (listed.setIfInBounds j true).getD k false = true := hl
      rw [getD_set_ne false (Ne.symm hkj)] at hl
      exact getD_set_true (R.closed k ok hk hl e he hb)
theorem anyOrder (HE : EnvOk Pg G E) (hG : G w0) {call : Handler} (HC : HandlerOk Pg G S B w0 call) {ops : Array Oper} {L : List Bool} (D : DrawOk E ops.toList L) {n0 : Nat} {P : List Nat} {K : St → Option ρ} {Q : Exit → Act → World → Prop} : ∀ (fuel : Nat) (listed : Array Bool) (rem : List (Nat × Oper)) (st : St) (a : Act) (M : Nat → Bk) (w : World),
    Rem L ops listed rem → rem.length ≤ fuel → Good S B w0 st a M w → evD E call n0 P ops.toList rem st K = some r → Then S B w0 st a M w K r (Q .normal) → wpAny Pg .any ops Q fuel listed a w := by
  have fin : ∀ (listed : Array Bool) (rem : List (Nat × Oper)) (st : St) (a : Act) (M : Nat → Bk) (w : World), Rem L ops listed rem → Good S B w0 st a M w → evD E call n0 P ops.toList rem st K = some r → Then S B w0 st a M w K r (Q .normal) → Region.ready .any ops listed = [] → Q .normal a w := by
    intro listed rem st a M w R g hr hX he
    cases rem with
    | nil => exact hX st a M w g (Stp.refl g) hr
    | cons p rem =>
      exfalso
      have hp := R.at_ p (by simp)
      have hmem : p.1 ∈ Region.ready .any ops listed := by
        rw [mem_ready]
        refine ⟨(R.left p.1 (R.lt (by simp))).2 ⟨p.2, by simp⟩, p.2, hp, fun e hem hb => ?_⟩
        obtain ⟨hlt, haf⟩ := D.edge p.1 p.2 (by rw [Array.getElem?_toList]; exact hp) e hem hb
        rw [R.listed (Nat.lt_trans hlt (R.lt (p := p) (by simp)))]
        rintro ⟨o, ho⟩
        rcases List.mem_cons.1 ho with q | q
        · have : e.on = p.1 := by rw [← q]
          omega
        · have := (List.pairwise_cons.1 R.sorted).1 _ q
          simp only at this
          have hk := keyOf_lt (n := ops.size) hlt (R.lt (p := p) (by simp)) haf
          omega
      rw [he] at hmem
      cases hmem
  intro fuel
  induction fuel with
  | zero =>
    intro listed rem st a M w R hl g hr hX
    have hnil : rem = [] := List.eq_nil_of_length_eq_zero (by omega)
    subst hnil
    have hready : Region.ready .any ops listed = [] := by
      cases q : Region.ready .any ops listed with
      | nil => rfl
      | cons j l =>
        have hj : j ∈ Region.ready .any ops listed := by rw [q]; simp
        rw [mem_ready] at hj
        obtain ⟨h1, o, h2, _⟩ := hj
        have := (R.left j (Array.getElem?_eq_some_iff.1 h2).1).1 h1
        simp at this
    exact ⟨hready, fin listed [] st a M w R g hr hX hready⟩
  | succ fuel ih =>
    intro listed rem st a M w R hl g hr hX
    refine ⟨fun he => fin listed rem st a M w R g hr hX he, fun j hj => ?_⟩
    have hj0 := hj
    rw [mem_ready] at hj
    obtain ⟨h1, oj, h2, h3⟩ := hj
    have hjlt := (Array.getElem?_eq_some_iff.1 h2).1
    obtain ⟨oj', hmem⟩ := (R.left j hjlt).1 h1
    have e : oj' = oj := by
      have := R.at_ (j, oj') hmem
      simp only at this
      rw [h2] at this
      injection this with this
      exact this.symm
    subst e
    obtain ⟨pre, post, rfl⟩ := List.append_of_mem hmem
    have hs := R.sorted
    rw [List.pairwise_append] at hs
    have hpre : ∀ p, p ∈ pre → p.1 ≠ j ∧ indep E ops.toList p.2 oj' = true := by
      intro p hp
      have hlt := hs.2.2 p hp (j, oj') (by simp)
      simp only at hlt
      have hpj : p.1 ≠ j := by intro q; rw [q] at hlt; omega
      have hps : p.1 < ops.size := R.lt (p := p) (List.mem_append_left _ hp)
      refine ⟨hpj, ?_⟩
      rcases D.pair p.1 j p.2 oj' (by rw [Array.getElem?_toList]; exact R.at_ p (List.mem_append_left _ hp)) (by rw [Array.getElem?_toList]; exact h2) hpj (by simpa using hlt) with q | q
      · exfalso
        have := q (fun i => listed.getD i false = true ∨ i = j) (by
          intro k ok hk hL e he hb
          rcases hL with hL | rfl
          · exact .inl (R.closed k ok hk hL e he hb)
          · rw [Array.getElem?_toList, h2] at hk
            injection hk with hk
            subst hk
            exact .inl (h3 e he hb)) (.inr rfl)
        rcases this with z | z
        · rw [R.listed hps] at z
          exact z ⟨p.2, List.mem_append_left _ hp⟩
        · exact hpj z
      · exact q
    have hstep : evDstep E call n0 ops.toList j oj' st (fun st' => evD E call n0 P ops.toList (pre ++ post) st' K) = some r := by
      cases hcalm : isCalm E oj' with
      | true =>
        refine (frontC hcalm pre st (fun p hp => ?_) g.H.fresh hr).2
        have := (hpre p hp).2
        unfold indep at this
        rw [hcalm] at this
        have hfj := (calm_spec hcalm).1
        split at this
        · rename_i q _; exact ⟨q, this⟩
        · rw [hfj] at this
          split at this
          · rename_i q1 q2
            obtain ⟨_, _, tt, pp, xx, ho⟩ := lst_spec (o := oj') (all := ops.toList) q2
            have htm : isTame E oj' = false := by unfold isTame; rw [ho]; cases veiled E <;> rfl
            unfold isCalm at hcalm
            rw [htm, ho] at hcalm
            split at hcalm
            · cases hcalm
            · cases hcalm
          · cases this
      | false =>
        have hfr : ∀ p, p ∈ pre → free E p.2 = true ∧ (free E oj' = true ∨ isLst ops.toList oj' = true) ∧ apart ops.toList p.2 oj' = true := by
          intro p hp
          have := (hpre p hp).2
          unfold indep at this
          rw [hcalm] at this
          split at this
          · rename_i q; cases q
          · split at this
            · rename_i q1 q2
              refine ⟨q1, ?_, this⟩
              split at q2
              · rename_i q; exact .inl q
              · exact .inr q2
            · cases this
        have hnr : NoRsv (looks ops.toList oj') st := by
          intro t _ id p hp he
          have := g.F t
          rw [hp] at this
          simp only [RepV, Rep1] at this
          obtain ⟨_, q, _, z⟩ := this
          rcases z with z | ⟨b, v, L, of, u, _, z, _⟩
          · simp only [cx] at z; rw [he] at z; cases z
          · simp only [cx] at z; rw [he] at z; cases z
        cases hfo : free E oj' with
        | true => exact (front pre st (fun _ => hfo) (fun p hp => ⟨(hpre p hp).1, (hfr p hp).1, (hfr p hp).2.2⟩) hnr hr).2
        | false =>
          cases pre with
          | nil => exact (evD_cons hr).2
          | cons p0 pre =>
            have hl : isLst ops.toList oj' = true := by
              rcases (hfr p0 (by simp)).2.1 with q | q
              · rw [hfo] at q; cases q
              · exact q
            exact (frontS hl hfo (p0 :: pre) st (fun p hp => ⟨(hfr p hp).1, (hfr p hp).2.2⟩) hnr hr).2
    refine evDstep_ok HE hG HC h2 g hstep ?_
    intro st' a' M' w' g' k' hk
    refine ih _ (pre ++ post) st' a' M' w' (R.next hj0) ?_ g' hk (hX.after k')
    simp at hl ⊢
    omega
theorem enum_mem {α : Type} : ∀ (l : List α) (i : Nat) (p : Nat × α), p ∈ enum i l → i ≤ p.1 ∧ l[p.1 - i]? = some p.2 := by
  intro l
  induction l with
  | nil => intro i p h; simp [enum] at h
  | cons x l ih =>
    intro i p h
    simp only [enum] at h
    rcases List.mem_cons.1 h with rfl | h
    · simp
    · obtain ⟨h1, h2⟩ := ih (i + 1) p h
      refine ⟨by omega, ?_⟩
      have : p.1 - i = (p.1 - (i + 1)) + 1 := by omega
      rw [this]
      exact h2
theorem mem_enum {α : Type} : ∀ (l : List α) (i j : Nat) (x : α), l[j]? = some x → (i + j, x) ∈ enum i l := by
  intro l
  induction l with
  | nil => intro i j x h; simp at h
  | cons y l ih =>
    intro i j x h
    simp only [enum]
    cases j with
    | zero => simp at h; subst h; simp
    | succ j =>
      have := ih (i + 1) j x (by simpa using h)
      have e : i + 1 + j = i + (j + 1) := by omega
      rw [e] at this
      exact List.mem_cons_of_mem _ this
theorem enum_sorted {α : Type} : ∀ (l : List α) (i : Nat), (enum i l).Pairwise (fun p q => p.1 < q.1) := by
  intro l
  induction l with
  | nil => intro i; exact List.Pairwise.nil
  | cons x l ih =>
    intro i
    simp only [enum]
    refine List.pairwise_cons.2 ⟨fun p hp => ?_, ih (i + 1)⟩
    have := (enum_mem l (i + 1) p hp).1
    simp only
    omega
theorem enum_length {α : Type} : ∀ (l : List α) (i : Nat), (enum i l).length = l.length := by
  intro l
  induction l with
  | nil => intro i; rfl
  | cons x l ih => intro i; simp [enum, ih]
theorem pickLate_mem {α : Type} {L : List Bool} {b : Bool} : ∀ (l : List (Nat × α)) (p : Nat × α), p ∈ pickLate L b l ↔ p ∈ l ∧ lateB L p.1 = b := by
  intro l
  induction l with
  | nil => intro p; simp [pickLate]
  | cons x l ih =>
    intro p
    simp only [pickLate]
    split
    · rename_i q
      simp only [List.mem_cons, ih]
      constructor
      · rintro (rfl | h)
        · exact ⟨.inl rfl, q⟩
        · exact ⟨.inr h.1, h.2⟩
      · rintro ⟨rfl | h, z⟩
        · exact .inl rfl
        · exact .inr ⟨h, z⟩
    · rename_i q
      simp only [List.mem_cons, ih]
      constructor
      · rintro (rfl | h)
        · exact ⟨.inl rfl, q⟩
        · exact ⟨.inr h.1, h.2⟩
      · rintro ⟨rfl | h, z⟩
        · exact .inl rfl
        · exact .inr ⟨h, z⟩
    · rename_i q1 q2
      rw [ih]
      constructor
      · rintro ⟨h, z⟩
        exact ⟨List.mem_cons_of_mem _ h, z⟩
      · rintro ⟨h, z⟩
        rcases List.mem_cons.1 h with rfl | h
        · exfalso
          cases hq : lateB L p.1
          · exact q2 hq (z.symm.trans hq)
          · exact q1 hq (z.symm.trans hq)
        · exact ⟨h, z⟩
theorem pickLate_sub {α : Type} {L : List Bool} {b : Bool} : ∀ (l : List (Nat × α)), (pickLate L b l).Sublist l := by
  intro l
  induction l with
  | nil => exact List.Sublist.refl _
  | cons x l ih =>
    simp only [pickLate]
    split
    · exact ih.cons_cons _
    · exact ih.cons_cons _
    · exact ih.cons _
theorem arrange_mem {α : Type} {L : List Bool} {l : List (Nat × α)} {p : Nat × α} : p ∈ arrange L l ↔ p ∈ l := by
  unfold arrange
  rw [List.mem_append, pickLate_mem, pickLate_mem]
  cases lateB L p.1 <;> simp
theorem arrange_length {α : Type} {L : List Bool} : ∀ (l : List (Nat × α)), (arrange L l).length = l.length := by
  intro l
  induction l with
  | nil => rfl
  | cons x l ih =>
    unfold arrange at ih ⊢
    simp only [pickLate]
    simp only [List.length_append, List.length_cons] at ih ⊢
    cases lateB L x.1 <;> simp <;> omega
theorem arrange_sorted {α : Type} {L : List Bool} {l : List α} : (arrange L (enum 0 l)).Pairwise (fun p q => keyOf L l.length p.1 < keyOf L l.length q.1) := by
  unfold arrange
  rw [List.pairwise_append]
  refine ⟨?_, ?_, fun p hp q hq => ?_⟩
  · refine (((enum_sorted l 0).sublist (pickLate_sub _)).imp_of_mem ?_)
    intro p q hp hq h
    unfold keyOf
    rw [((pickLate_mem _ _).1 hp).2, ((pickLate_mem _ _).1 hq).2]
    simpa using h
  · refine (((enum_sorted l 0).sublist (pickLate_sub _)).imp_of_mem ?_)
    intro p q hp hq h
    unfold keyOf
    rw [((pickLate_mem _ _).1 hp).2, ((pickLate_mem _ _).1 hq).2]
    simpa using h
  · obtain ⟨p1, p2⟩ := (pickLate_mem _ _).1 hp
    obtain ⟨q1, q2⟩ := (pickLate_mem _ _).1 hq
    have := (enum_mem l 0 p p1).2
    have := (List.getElem?_eq_some_iff.1 this).1
    unfold keyOf
    rw [p2, q2]
    simp
    omega
theorem settle_ok {h : Hp} (H : HInv S B w0 h M w) (id : Nat) : HInv S B w0 (settle h id) M w ∧ HStp S h M w (settle h id) M w := by
  unfold settle
  split
  case h_2 => exact ⟨H, HStp.refl H⟩
  rename_i v L he hl
  split
  case h_2 => exact ⟨H, HStp.refl H⟩
  rename_i x hx hul hm
  obtain ⟨H1, k1⟩ := H.kills hul
  obtain ⟨b, cs, hh, hfit, hrep⟩ := H.ent id _ he
  have he1 : (h.kills v.owns).e id = some (.box v L) := by rw [kills_e, if_neg (memb_false hm)]; exact he
  have hl1 : (h.kills v.owns).lk id = false := by rw [kills_lk]; exact hl
  have hd := freeze_rep H hx hrep
  obtain ⟨H2, k2⟩ := H1.upd (w' := w) he1 hl1 (e' := .box (.data L x) L) (.inl ⟨v, .data L x, L, rfl, rfl⟩) (fun _ _ _ => rfl) (Nat.le_refl _) (Below.refl _ _)
    (fun k => ⟨b, cs, hh, by simp [fitsT], by simp only [RepC]; exact hd.held k.held⟩)
  exact ⟨H2, k1.trans k2⟩
theorem settles_ok (fr : Nat → AV) : ∀ (ops : List Oper) {h : Hp}, HInv S B w0 h M w → HInv S B w0 (settles fr ops h) M w ∧ HStp S h M w (settles fr ops h) M w := by
  intro ops
  induction ops with
  | nil => intro h H; exact ⟨H, HStp.refl H⟩
  | cons o r ih =>
    intro h H
    simp only [settles]
    split
    · split
      · obtain ⟨H1, k1⟩ := settle_ok H _
        obtain ⟨H2, k2⟩ := ih H1
        exact ⟨H2, k1.trans k2⟩
      · exact ih H
    · exact ih H
theorem draw_ok0 (HE : EnvOk Pg G E) (hG : G w0) {call : Handler} (HC : HandlerOk Pg G S B w0 call) {ops : Array Oper} {Q : Exit → Act → World → Prop} {id : Nat} {K : St → Option ρ} (hd : drawOk E ops.toList = true)
    (g : Good S B w0 st a M w) (hr : evDraw0 E call ops.toList st K = some r) (hX : Then S B w0 st a M w K r (Q .normal)) : (Code.region id ops true).wp Pg Q a w := by
  apply wp_region_any HE.mixed
  have hb : Below B w { w with drawn := w.drawn + 1 } := ?_
  obtain ⟨H1, k1⟩ := g.H.world (w' := { w with drawn := w.drawn + 1 }) rfl hb
  obtain ⟨H2, k2⟩ := H1.reserve ops.toList.length
  obtain ⟨ms, hms, D⟩ := drawOk_spec hd
  unfold evDraw0 at hr
  rw [hms] at hr
  simp only at hr
  have k := k1.trans k2
  have g2 : Good S B w0 { st with h := reserve st.h ops.toList.length } a (fun id => if st.h.next ≤ id then .nil else M id) { w with drawn := w.drawn + 1 } :=
    ⟨H2, fun t => RepV.tr k.tr _ _ (g.F t), g.n, g.d⟩
  have s2 : Stp S st a M w { st with h := reserve st.h ops.toList.length } a (fun id => if st.h.next ≤ id then .nil else M id) { w with drawn := w.drawn + 1 } := ⟨k, rfl, rfl, fun _ _ => rfl⟩
  refine anyOrder HE hG HC D ops.size _ (arrange _ (enum 0 ops.toList)) _ a _ _ ⟨fun p hp => ?_, by have := arrange_sorted (L := lates E ops.toList ms) (l := ops.toList); simpa using this, fun i hi => ?_, fun j o hj hl => ?_, by simp⟩ (by rw [arrange_length, enum_length]; simp) g2 hr (hX.after s2)
  · have := (enum_mem _ _ p (arrange_mem.1 hp)).2
    simpa using this
  · constructor
    · intro _
      exact ⟨ops[i], arrange_mem.2 <| by have := mem_enum ops.toList 0 i ops[i] (by simp [hi]); simpa using this⟩
    · intro _
      simp [Array.getD_eq_getD_getElem?, hi]
  · exfalso
    have hl : (Array.replicate ops.size false).getD j false = true := hl
    rw [Array.getD_eq_getD_getElem?, Array.getElem?_replicate] at hl
    split at hl <;> simp at hl
  · exact ⟨rfl, rfl, rfl, Nat.le_refl _, fun _ _ => rfl⟩
theorem draw_ok (HE : EnvOk Pg G E) (hG : G w0) {call : Handler} (HC : HandlerOk Pg G S B w0 call) {ops : Array Oper} {Q : Exit → Act → World → Prop} {id : Nat} {K : St → Option ρ} (hd : drawOk E ops.toList = true)
    (g : Good S B w0 st a M w) (hr : evDraw E call ops.toList st K = some r) (hX : Then S B w0 st a M w K r (Q .normal)) : (Code.region id ops true).wp Pg Q a w := by
  unfold evDraw at hr
  split at hr
  · obtain ⟨H1, k1⟩ := settles_ok st.fr ops.toList g.H
    have g1 : Good S B w0 { st with h := settles st.fr ops.toList st.h } a M w := ⟨H1, fun t => RepV.tr k1.tr _ _ (g.F t), g.n, g.d⟩
    have s1 : Stp S st a M w { st with h := settles st.fr ops.toList st.h } a M w := ⟨k1, rfl, rfl, fun _ _ => rfl⟩
    exact draw_ok0 HE hG HC hd g1 hr (hX.after s1)
  · exact draw_ok0 HE hG HC hd g hr hX
end Go.PG
end
section
namespace Go.PG
open Go.RowKit
variable {Pg : Program} {G : World → Prop} {E : Env} {S : Nat → Prop} {B : Nat} {w0 w w' w'' w1 : World} {h h' : Hp} {M0 M M' M'' M1 : Nat → Bk} {ρ : Type} {r : ρ} {st st' st'' b s s2 s' : St} {a a' a'' a1 : Act} {o : Oper}
theorem amb_some {α : Type} {x y : Option α} {r : α} (h : P.amb x y = some r) : x = some r ∧ y = some r := by
  unfold P.amb at h
  split at h
  · rename_i e; exact ⟨h, by rw [← e]; exact h⟩
  · cases h
theorem evC_ok (HE : EnvOk Pg G E) (hG : G w0) {call : Handler} (HC : HandlerOk Pg G S B w0 call) {hs : List (Nat × Hint)} : ∀ (c : Code), CodeOk Pg E S B w0 call hs c := by
  intro c
  induction c with
  | skip =>
    intro ρ st kn ke kr r a M w Q g hr hn he hk
    simp only [evC] at hr
    exact wp_skip (hn st a M w g (Stp.refl g) hr)
  | region id ops draw =>
    intro ρ st kn ke kr r a M w Q g hr hn he hk
    simp only [evC] at hr
    split at hr
    · exact region_ok HE hG HC g hr hn
    · split at hr
      · rename_i hd; exact draw_ok HE hG HC hd g hr hn
      · split at hr
        · rename_i hd; exact draw_ok HE.veil hG HC hd g hr hn
        · cases hr
  | seq x y ihx ihy =>
    intro ρ st kn ke kr r a M w Q g hr hn he hk
    simp only [evC] at hr
    apply wp_seq
    refine ihx st _ ke kr r a M w _ g hr ?_ he hk
    intro st' a' M' w' g' k' hr'
    exact ihy st' kn ke kr r a' M' w' Q g' hr' (hn.after k') (fun i => (he i).after k') (hk.after k')
  | cond c x y ihx ihy =>
    intro ρ st kn ke kr r a M w Q g hr hn he hk
    cases c with
    | tmp t =>
      simp only [evC] at hr
      split at hr
      · rename_i v hv
        have hF := g.F t
        rw [hv] at hF
        have hF := repV_bool hF
        have hr := cond_some hr
        cases v with
        | true =>
          simp only [if_true] at hr
          rw [refine1_eq hv] at hr
          exact wp_cond_true (c := .tmp t) hF (ihx st kn ke kr r a M w Q g hr hn he hk)
        | false =>
          simp only [Bool.false_eq_true, if_false] at hr
          rw [refine1_eq hv] at hr
          exact wp_cond_false (c := .tmp t) hF (ihy st kn ke kr r a M w Q g hr hn he hk)
      · rename_i hb
        have hF := g.F t
        rw [hb] at hF
        simp only [RepV, Rep1] at hF
        obtain ⟨b, hF⟩ := hF
        injection hF with hF
        obtain ⟨h1, h2⟩ := amb_some hr
        cases b with
        | true => exact wp_cond_true (c := .tmp t) hF (ihx st kn ke kr r a M w Q g h1 hn he hk)
        | false => exact wp_cond_false (c := .tmp t) hF (ihy st kn ke kr r a M w Q g h2 hn he hk)
      · cases hr
    | const v =>
      cases v with
      | bool b =>
        simp only [evC] at hr
        have hr := cond_some hr
        cases b with
        | true => exact wp_cond_true (c := .const (.bool true)) rfl (ihx st kn ke kr r a M w Q g (by simpa using hr) hn he hk)
        | false => exact wp_cond_false (c := .const (.bool false)) rfl (ihy st kn ke kr r a M w Q g (by simpa using hr) hn he hk)
      | _ => simp [evC] at hr
    | _ => simp [evC] at hr
  | block id c ih =>
    intro ρ st kn ke kr r a M w Q g hr hn he hk
    simp only [evC] at hr
    apply wp_block
    refine ih st kn _ kr r a M w _ g hr hn ?_ hk
    intro i st' a' M' w' g' k' hr'
    simp only at hr'
    show Exit.inBlock id Q (.exit i) a' w'
    simp only [Exit.inBlock]
    split at hr'
    · rename_i e
      have := Nat.eq_of_beq_eq_true e
      subst this
      simp only [if_true]
      exact hn st' a' M' w' g' k' hr'
    · rename_i e
      have : i ≠ id := by rintro rfl; simp [Nat.beq_refl] at e
      simp only [this, if_false]
      exact he i st' a' M' w' g' k' hr'
  | loop c ih =>
    intro ρ st kn ke kr r a M w Q g hr hn he hk
    simp only [evC] at hr
    exact evLoop_ok ih g hr he hk
  | exit id =>
    intro ρ st kn ke kr r a M w Q g hr hn he hk
    simp only [evC] at hr
    exact wp_exit (he id st a M w g (Stp.refl g) hr)
  | ret =>
    intro ρ st kn ke kr r a M w Q g hr hn he hk
    simp only [evC] at hr
    exact wp_ret (hk st a M w g (Stp.refl g) hr)
  | _ =>
    intro ρ st kn ke kr r a M w Q g hr hn he hk
    simp [evC] at hr
theorem run_loadVar_ok {t : Ty} {id : TypeId} (h : Ok Pg t (.typ id)) {b o : Nat} {cs : List Value} (hm : Mem w b o cs) (hl : cs.length = t.size) :
    ∃ v, (loadVar id ⟨b, o, none⟩).run Pg w = .ok v w ∧ valOf t cs v := by
  have ha := ok_agg h w
  have hs := run_sizeOf_ok h w
  cases e : isSt t with
  | true =>
    rw [e] at ha
    refine ⟨.agg cs.toArray, ?_, .inl ⟨e, rfl⟩⟩
    have hc := run_loadCells_list (P := Pg) w ⟨b, o, none⟩ cs (fun j v hv => by rw [Addr.add_mid]; exact hm j v hv)
    rw [hl] at hc
    simp [loadVar, ha, hs, hc]
  | false =>
    rw [e] at ha
    have h1 : t.size = 1 := by
      cases t <;> first | rfl | exact h.elim | cases e
    obtain ⟨v, rfl⟩ : ∃ v, cs = [v] := List.length_eq_one_iff.1 (by omega)
    refine ⟨v, ?_, .inr ⟨e, rfl⟩⟩
    have := hm 0 v rfl
    simp at this
    simp [loadVar, ha, this]
def resRun (tmps : Array Value) : ResultVar → Sem Value
  | .tmp t => pure (tmps.getD t undef)
  | .cell a t => do loadVar t (← asAddr (tmps.getD a undef))
theorem resOf_ok (HE : EnvOk Pg G E) (g : Good S B w0 st a M w) {rv : ResultVar} {v : AV} (hr : resOf E st.h st.fr rv = some v) : ∃ u, (resRun a.tmps rv).run Pg w = .ok u w ∧ RepV (cx S st.h M w) v u := by
  cases rv with
  | tmp t =>
    simp only [resOf] at hr
    injection hr with hr
    subst hr
    exact ⟨_, by simp [resRun], g.F t⟩
  | cell x t =>
    simp only [resOf] at hr
    split at hr
    case h_2 => cases hr
    rename_i id p e
    split at hr
    case h_2 => cases hr
    rename_i v0 L he
    split at hr
    case h_2 => cases hr
    rename_i off u hoff
    split at hr
    case h_2 => cases hr
    rename_i hd
    have hty : E.ty t = some u := by simpa using hd
    have hx := g.F x
    rw [e] at hx
    simp only [RepV, Rep1] at hx
    obtain ⟨_, q, hv, hx⟩ := hx
    injection hv with hv
    rcases hx with hx | ⟨b, v1, L1, o1, u1, h1, h2, h3, h4⟩
    · simp only [cx] at hx; rw [he] at hx; cases hx
    · simp only [cx] at h2
      rw [he] at h2
      injection h2 with h2
      injection h2 with e1 e2
      subst e1; subst e2
      rw [hoff] at h3
      injection h3 with h3
      injection h3 with e3 e4
      subst e3; subst e4
      subst h4
      obtain ⟨b2, cs, el, k1, k2, k3, k4⟩ := ent_box g.H he (plain_of_offs hoff (HE.ty t u hty))
      simp only [cx] at h1
      rw [k1] at h1
      injection h1 with h1
      have h1 := h1.symm
      subst h1
      obtain ⟨f1, c1, d, c2, ec, hl, hd⟩ := av_get p v0 L v cs.toList off u hr hoff k3 k4
      have hm : Mem w b off d := by
        have := mem_of_heap k2
        rw [ec] at this
        have := mem_part this
        rw [hl] at this
        simpa using this
      obtain ⟨z, q1, q2⟩ := run_loadVar_ok (HE.ty t u hty) hm (fits_len v u d f1 hd)
      exact ⟨z, by simp [resRun, hv, asAddr, q1], repC_repV f1 (fun a b q => HE.noPair t a b (by rw [hty, q])) hd q2⟩
theorem ressOf_ok (HE : EnvOk Pg G E) (g : Good S B w0 st a M w) : ∀ (l : List ResultVar) (v : AV), ressOf E st.h st.fr l = some v → ∃ us, (l.mapM (resRun a.tmps)).run Pg w = .ok us w ∧ us.length = l.length ∧ RepT (cx S st.h M w) v us := by
  intro l
  induction l with
  | nil =>
    intro v hr
    simp only [ressOf] at hr
    injection hr with hr
    subst hr
    exact ⟨[], by simp, rfl, by simp only [RepT]⟩
  | cons rv l ih =>
    intro v hr
    simp only [ressOf] at hr
    split at hr
    case h_2 => cases hr
    rename_i v1 h1
    split at hr
    case h_2 => cases hr
    rename_i v2 h2
    injection hr with hr
    subst hr
    obtain ⟨u, k1, k2⟩ := resOf_ok HE g h1
    obtain ⟨us, k3, k4, k5⟩ := ih v2 h2
    exact ⟨u :: us, by simp [List.mapM_cons, k1, k3], by simp [k4], by simp only [RepT]; exact ⟨u, us, rfl, k2, k5⟩⟩
theorem results_run (fn : Func) (tmps : Array Value) : results fn tmps = (do let vs ← fn.results.mapM (resRun tmps); pure (if h : vs.size = 1 then vs[0] else .tuple vs)) := by
  unfold results
  congr 1
theorem resultAV_ok (HE : EnvOk Pg G E) (g : Good S B w0 st a M w) {fn : Func} {v : AV} (hr : resultAV E st.h st.fr fn.results.toList = some v) : ∃ u, (results fn a.tmps).run Pg w = .ok u w ∧ RepV (cx S st.h M w) v u := by
  rw [results_run]
  have hrs : fn.results = fn.results.toList.toArray := by simp
  rw [hrs, List.mapM_toArray]
  generalize fn.results.toList = l at hr
  match l, hr with
  | [rv], hr =>
    simp only [resultAV] at hr
    obtain ⟨u, k1, k2⟩ := resOf_ok HE g hr
    exact ⟨u, by simp [List.mapM_cons, k1], k2⟩
  | [], hr =>
    simp only [resultAV] at hr
    split at hr
    case h_2 => cases hr
    rename_i v1 h1
    injection hr with hr
    subst hr
    obtain ⟨us, k3, k4, k5⟩ := ressOf_ok HE g _ v1 h1
    refine ⟨.tuple us.toArray, ?_, by simp only [RepV]; exact ⟨us.toArray, rfl, by simpa using k5⟩⟩
    have : us = [] := List.eq_nil_of_length_eq_zero k4
    subst this
    simp
  | x :: y :: l, hr =>
    simp only [resultAV] at hr
    split at hr
    case h_2 => cases hr
    rename_i v1 h1
    injection hr with hr
    subst hr
    obtain ⟨us, k3, k4, k5⟩ := ressOf_ok HE g _ v1 h1
    refine ⟨.tuple us.toArray, ?_, by simp only [RepV]; exact ⟨us.toArray, rfl, by simpa using k5⟩⟩
    have hne : us.length ≠ 1 := by simp at k4; omega
    simp only [Sem.run_bind, Sem.run_map, k3]
    simp [hne]
theorem argsFr_rep {c : Cx} : ∀ (args : List AV) (vals : List Value), Reps c args vals → ∀ t u, vals[t]? = some u → RepV c (argsFr args t) u := by
  intro args
  induction args with
  | nil => intro vals h t u hu; simp only [argsFr, RepV]
  | cons x args ih =>
    intro vals h t u hu
    obtain ⟨v, vs, rfl, h1, h2⟩ := reps_cons h
    cases t with
    | zero => simp at hu; subst hu; exact h1
    | succ t => exact ih vs h2 t u (by simpa using hu)
theorem argsFr_none : ∀ (args : List AV) (t : Nat), args.length ≤ t → argsFr args t = .undef := by
  intro args
  induction args with
  | nil => intro t _; rfl
  | cons x args ih =>
    intro t ht
    cases t with
    | zero => simp at ht
    | succ t => exact ih t (by simpa using ht)
theorem evBody_ok (HE : EnvOk Pg G E) (hG : G w0) {call : Handler} (HC : HandlerOk Pg G S B w0 call) {fn : Func} {f : FuncId} (hf : Pg.funcs[f]? = some fn) {hs : List (Nat × Hint)} {args : List AV} {vals : Array Value} {K : AV → Hp → Option ρ}
    (H : HInv S B w0 h M w) (ha : Reps (cx S h M w) args vals.toList) (hr : evBody E call fn hs args h K = some r) : Calls Pg f vals w fun e w' => ∃ v, e = .returned v ∧ Post K r S B w0 h M w v w' := by
  unfold evBody at hr
  split at hr
  · cases hr
  rename_i c hc
  simp only at hr
  refine calls_of_wp hf hc ?_
  have hlen : args.length = vals.size := by simpa using ha.1
  have g : Good S B w0 { n := fn.ntmps, fr := argsFr args, ro := fun _ => false, h := h } { tmps := vals ++ Array.replicate (fn.ntmps - vals.size) undef, defers := [] } M w := by
    refine ⟨H, fun t => ?_, by simp only [Array.size_append, Array.size_replicate]; omega, rfl⟩
    rcases Nat.lt_or_ge t vals.size with q | q
    · have e1 : (vals ++ Array.replicate (fn.ntmps - vals.size) undef).getD t undef = vals[t] := by
        rw [Array.getD_eq_getD_getElem?, Array.getElem?_append_left q]
        simp [q]
      simp only [e1]
      exact argsFr_rep args vals.toList ha t _ (by simp [q])
    · simp only [argsFr_none args t (by omega), RepV]
  refine evC_ok HE hG HC c _ _ _ _ r _ M w _ g hr ?_ ?_ ?_
  · intro st' a' M' w' g' k' hk
    simp only at hk
    split at hk
    · rename_i v hv
      obtain ⟨u, q1, q2⟩ := resultAV_ok HE g' hv
      exact ⟨g'.d, u, q1, u, rfl, v, st'.h, M', hk, g'.H, k'.k, q2⟩
    · cases hk
  · intro i st' a' M' w' g' k' hk
    cases hk
  · intro st' a' M' w' g' k' hk
    simp only at hk
    split at hk
    · rename_i v hv
      obtain ⟨u, q1, q2⟩ := resultAV_ok HE g' hv
      exact ⟨g'.d, u, q1, u, rfl, v, st'.h, M', hk, g'.H, k'.k, q2⟩
    · cases hk
theorem evCall_ok (HE : EnvOk Pg G E) (hG : G w0) : ∀ n, HandlerOk Pg G S B w0 (evCall E n) := by
  intro n
  induction n with
  | zero => intro ρ f args h K r M w vals hr; simp [evCall] at hr
  | succ n ih =>
    intro ρ f args h K r M w vals hr H _ ha
    simp only [evCall] at hr
    split at hr
    case h_2 => cases hr
    rename_i fn hs hl
    obtain ⟨h1, h2⟩ := HE.codes f fn hs hl
    refine ⟨by rw [h1]; simpa using h2, ?_⟩
    exact evBody_ok HE hG ih h1 H ⟨by simpa using ha.1, fun i x v hx hv => ha.2 i x v hx (by simpa using hv)⟩ hr
theorem argRep_reps {Z : Nat → Prop} {c : Cx} {w : World} (hZ : ∀ b, b < w.heap.size → ¬ Z b → ¬ c.Z b) (hw : c.w = w) : ∀ (t : Ty) (x : t.D) (vals : List Value), RepT (cz Z w) (argAV t x) vals → Reps c (argList t x) vals := by
  have one : ∀ (t : Ty) (x : t.D) (vals : List Value), RepT (cz Z w) (.data t x) vals → Reps c [.data t x] vals := by
    intro t x vals h
    rw [repT_data] at h
    obtain ⟨v, rfl, h⟩ := h
    refine ⟨rfl, fun i a u ha hu => ?_⟩
    cases i with
    | succ i => simp at ha
    | zero =>
      simp at ha hu
      subst ha; subst hu
      simp only [RepV]
      have hk : Held (cz Z w).Z c.Z (cz Z w).w c.w := by
        rw [hw]
        exact fun b hb hz => ⟨hZ b hb (fun z => hz ((cz_Z Z w b).2 z)), rfl⟩
      rcases h with ⟨e, cs, rfl, h⟩ | ⟨e, h⟩
      · exact .inl ⟨e, cs, rfl, h.held hk⟩
      · exact .inr ⟨e, h.held hk⟩
  intro t
  induction t with
  | unit => intro x vals h; simp only [argAV, RepT] at h; subst h; exact ⟨rfl, by simp [argList]⟩
  | pair p q ihp ihq =>
    intro x vals h
    simp only [argAV, RepT] at h
    obtain ⟨v, vs, rfl, h1, h2⟩ := h
    have k1 := one p x.1 [v] (by rw [repT_data]; exact ⟨v, rfl, repV_data h1⟩)
    have k2 := ihq x.2 vs h2
    have := reps_append k1 k2
    simpa [argList] using this
  | bool => intro x vals h; exact one _ x vals h
  | str => intro x vals h; exact one _ x vals h
  | opq => intro x vals h; exact one _ x vals h
  | int k => intro x vals h; exact one _ x vals h
  | slice e ih => intro x vals h; exact one _ x vals h
  | map _ _ _ _ => intro x vals h; exact one _ x vals h
  | dmap _ _ _ _ => intro x vals h; exact one _ x vals h
  | bld _ _ => intro x vals h; exact one _ x vals h
  | st b ih => intro x vals h; exact one _ x vals h
theorem chain_rep (H : HInv S B w0 h M w) {Z : Nat → Prop} (hZ : ∀ b, Z b → (cx S h M w).Z b) (hown : ∀ id b, h.e id ≠ none → (M id).has b → ¬ Z b) : ∀ (v : AV) (t : Ty) (x : t.D) (vs : List Value), toChain h v t = some x → RepT (cx S h M w) v vs → RepT (cz Z w) (spread t x) vs := by
  intro v
  induction v with
  | pr p q _ ihq =>
    intro t x vs hx hr
    simp only [RepT] at hr
    obtain ⟨u, us, rfl, h1, h2⟩ := hr
    have leaf : ∀ (t : Ty) (x : t.D), q = .unit → toD h p t = some x → RepT (cz Z w) (.data t x) (u :: us) := by
      rintro t x rfl hx
      simp only [RepT] at h2
      subst h2
      rw [repT_data]
      refine ⟨u, rfl, ?_⟩
      rw [cz_Zeq]
      exact toD_V H hZ (fun id _ b => hown id b) hx h1
    cases t with
    | pair ta tr =>
      simp only [toChain] at hx
      split at hx
      case h_2 => cases hx
      rename_i x1 hx1
      split at hx
      case h_2 => cases hx
      rename_i x2 hx2
      injection hx with hx
      subst hx
      simp only [spread, RepT, RepV]
      rw [cz_Zeq]
      exact ⟨u, us, rfl, toD_V H hZ (fun id _ b => hown id b) hx1 h1, ihq tr x2 us hx2 h2⟩
    | unit => simp [toChain] at hx
    | _ =>
      cases q with
      | unit => exact leaf _ x rfl (by simpa [toChain] using hx)
      | _ => simp [toChain] at hx
  | _ => intro t x vs hx hr; cases t <;> simp [toChain] at hx
theorem fn_spec (HE : EnvOk Pg G E) {n : Nat} {fn : Func} {f : FuncId} {hs : List (Nat × Hint)} {t u : Ty} (hf : Pg.funcs[f]? = some fn) {F : t.D → Option u.D} (hF : ∀ x, F x = evFn E n fn hs t u x) : SpecOk Pg G f ⟨t, u, F⟩ := by
  intro Z w vals x res hG hlt hx hargs
  simp only at x res hx hargs
  rw [hF] at hx
  have H : HInv Z w.heap.size w h0 (fun _ => .nil) w := by
    refine ⟨fun id e he => ?_, fun _ _ => rfl, fun i j b hi => ?_, fun i b hi => ?_, Below.refl _ _, Nat.le_refl _, hlt, rfl⟩
    · simp [h0] at he
    · simp [h0] at hi
    · simp [h0] at hi
  have hcZ : ∀ b, (cx Z h0 (fun _ => .nil) w).Z b → Z b := by
    rintro b (z | ⟨id, e, q1, _⟩)
    · exact z
    · simp [cx, h0] at q1
  have ha : Reps (cx Z h0 (fun _ => .nil) w) (argList t x) vals.toList := argRep_reps (Z := Z) (w := w) (fun b _ hz z => hz (hcZ b z)) rfl t x vals.toList hargs
  refine (evBody_ok HE hG (evCall_ok HE hG n) hf H ha hx).mono fun e w' ⟨v, he, av, h', M', hk, H', k', hv⟩ => ⟨v, he, H'.bel, ?_⟩
  have hZ : ∀ b, Z b → (cx Z h' M' w').Z b := fun b z => .inl z
  have hown : ∀ id b, h'.e id ≠ none → (M' id).has b → ¬ Z b := fun id b hl hb z => by
    have := H'.own id b hl hb
    have := hlt b z
    omega
  have leaf : ∀ (t : Ty) (y : t.D), toD h' av t = some y → (∀ p q, t ≠ .pair p q) → t ≠ .unit → RepV (cz Z w') (resAV t y) v := by
    intro t y hy hp hu
    have := toD_V H' hZ (fun id _ b => hown id b) hy hv
    have e : resAV t y = .data t y := by
      cases t with
      | pair p q => exact absurd rfl (hp p q)
      | unit => exact absurd rfl hu
      | _ => rfl
    rw [e]
    simp only [RepV]
    rw [cz_Zeq]
    exact this
  cases u with
  | pair p q =>
    cases av with
    | tup b =>
      simp only [toRes] at hk
      simp only [RepV] at hv
      obtain ⟨vs, rfl, hT⟩ := hv
      simp only [resAV, RepV]
      exact ⟨vs, rfl, chain_rep H' hZ hown b (.pair p q) res vs.toList hk hT⟩
    | _ => simp [toRes] at hk
  | unit =>
    cases av with
    | tup b =>
      cases b with
      | unit =>
        simp only [RepV, RepT] at hv
        simp only [resAV, RepV, RepT]
        exact hv
      | _ => simp [toRes] at hk
    | _ => simp [toRes] at hk
  | _ => exact leaf _ res (by simpa only [toRes] using hk) (by simp) (by simp)
theorem fn_ospec (HE : EnvOk Pg G E) {n : Nat} {fn : Func} {f : FuncId} {hs : List (Nat × Hint)} {t u : Ty} (hf : Pg.funcs[f]? = some fn) {F : t.D → Option (List u.D)} (hF : ∀ x, F x = evFnO E n fn hs t u x) : OSpecOk Pg G f ⟨t, u, F⟩ := by
  intro Z w vals x res hG hlt hx hargs
  simp only at x res hx hargs
  rw [hF] at hx
  have H : HInv Z w.heap.size w h0 (fun _ => .nil) w := by
    refine ⟨fun id e he => ?_, fun _ _ => rfl, fun i j b hi => ?_, fun i b hi => ?_, Below.refl _ _, Nat.le_refl _, hlt, rfl⟩
    · simp [h0] at he
    · simp [h0] at hi
    · simp [h0] at hi
  have hcZ : ∀ b, (cx Z h0 (fun _ => .nil) w).Z b → Z b := by
    rintro b (z | ⟨id, e, q1, _⟩)
    · exact z
    · simp [cx, h0] at q1
  have ha : Reps (cx Z h0 (fun _ => .nil) w) (argList t x) vals.toList := argRep_reps (Z := Z) (w := w) (fun b _ hz z => hz (hcZ b z)) rfl t x vals.toList hargs
  refine (evBody_ok HE hG (evCall_ok HE hG n) hf H ha hx).mono fun e w' ⟨v, he, av, h', M', hk, H', k', hv⟩ => ?_
  have hin : ∀ id b, h'.e id ≠ none → (M' id).has b → ∀ k, (Z k ∨ k = b) → (cx Z h' M' w').Z k := by
    rintro id b hl hb k (z | rfl)
    · exact .inl z
    · cases q : h'.e id with
      | none => exact absurd q hl
      | some e => exact .inr ⟨id, e, q, hb⟩
  replace hk : toOwn h' av u = some res := hk
  unfold toOwn at hk
  split at hk
  · rename_i id
    simp only [toD] at hk
    split at hk
    case h_2 => cases hk
    rename_i e2 xs hrow
    split at hk
    case isFalse => cases hk
    rename_i q; subst q
    injection hk with hk
    have hk : xs = res := hk
    subst hk
    simp only [RepV, Rep1] at hv
    obtain ⟨_, A, n, cap, hv, hM⟩ := hv
    injection hv with hv
    rcases hM with hM | hM
    · simp only [cx] at hM; rw [hrow] at hM; cases hM
    obtain ⟨A', cap', h1, h2, h3⟩ := H'.ent id _ hrow
    simp only [cx] at hM h1
    rw [hM] at h1
    injection h1 with q1 q2 q3
    subst q1; subst q2; subst q3
    refine ⟨A, cap, by rw [he, hv], h2, H'.bel, h3.imp (fun z => z) ?_⟩
    rintro ⟨hc, b, o, cs, el, rfl, g1, g2, g3⟩
    have hbk : (M' id).has b := by rw [hM]; exact row_has hc
    refine ⟨hc, b, o, cs, el, rfl, H'.own id b (by rw [hrow]; simp) hbk, g1, g2, fun i y hy => ?_⟩
    obtain ⟨d, d1, d2⟩ := g3 i y hy
    exact ⟨d, d1.held (Held.of_le w' (hin id b (by rw [hrow]; simp) hbk)), d2⟩
  · rename_i id va vn
    simp only [toD] at hk
    split at hk
    case h_2 => cases hk
    rename_i e2 xs hrow
    split at hk
    case isFalse => cases hk
    rename_i q; subst q
    injection hk with hk
    have hk : P.sub_ xs va (P.add va vn) = res := hk
    subst hk
    simp only [RepV] at hv
    obtain ⟨z, m, cap', hv, hn, ha', hm, hle, h3⟩ := view_cells H' hrow hv
    injection hv with hv
    have hlen := sub_len hn ha' hle
    refine ⟨z, cap', by rw [he, hv, hlen], by rw [hlen]; exact hm, H'.bel, h3.imp (fun z => z) ?_⟩
    rintro ⟨hc, b, o, cs, el, rfl, hbk, g1, g2, g3⟩
    refine ⟨hc, b, o, cs, el, rfl, H'.own id b (by rw [hrow]; simp) hbk, g1, g2, fun i y hy => ?_⟩
    obtain ⟨d, d1, d2⟩ := g3 i y (sub_get hn ha' hy).2
    exact ⟨d, d1.held (Held.of_le w' (hin id b (by rw [hrow]; simp) hbk)), d2⟩
  · injection hk with hk
    subst hk
    simp only [RepV, Rep1] at hv
    obtain ⟨A, hv⟩ := hv
    injection hv with hv
    exact ⟨A, 0, by rw [he, hv]; rfl, Nat.le_refl _, H'.bel, .inl rfl⟩
  · cases hk
end Go.PG
end
section
namespace Go.PG
open Go.RowKit
variable {P : Program}
def infoB (P : Program) (t : TypeId) (n : Nat) (z : Value → Bool) : Bool := match P.info? t with
  | some i => match Nat.beq i.size n with
    | true => match i.zero with
      | some v => z v
      | none => false
    | false => false
  | none => false
theorem infoB_spec {t : TypeId} {n : Nat} {z : Value → Bool} (h : infoB P t n z = true) : ∃ v, Info P t n v ∧ z v = true := by
  unfold infoB at h
  split at h
  case h_2 => cases h
  rename_i i hi
  split at h
  case h_2 => cases h
  rename_i hs
  split at h
  case h_2 => cases h
  rename_i v hv
  exact ⟨v, ⟨i, hi, Nat.eq_of_beq_eq_true hs, hv⟩, h⟩
def liftB (q : TypeId → Bool) : Mode → Bool
  | .typ t => q t
  | .flds [f] o => match Nat.beq f.offset o with
    | true => match decide (f.name = "_") with
      | true => false
      | false => q f.type
    | false => false
  | .arr 1 e => q e
  | _ => false
theorem liftB_spec {q : TypeId → Bool} {Q : TypeId → Prop} (hq : ∀ t, q t = true → Q t) : ∀ {m : Mode}, liftB q m = true → lift Q m
  | .typ t, h => hq t h
  | .flds [f] o, h => by
    simp only [liftB] at h
    split at h
    case h_2 => cases h
    rename_i h1
    split at h
    · cases h
    · rename_i h2
      exact ⟨Nat.eq_of_beq_eq_true h1, by simpa using h2, hq _ h⟩
  | .flds [] o, h => by simp [liftB] at h
  | .flds (f :: g :: l) o, h => by simp [liftB] at h
  | .arr 0 e, h => by simp [liftB] at h
  | .arr 1 e, h => hq e h
  | .arr (n + 2) e, h => by simp [liftB] at h
def okB (P : Program) : Ty → Mode → Bool
  | .unit, _ => false
  | .map _ _, _ => false
  | .dmap _ _, _ => false
  | .bld _ _, _ => false
  | .bool, m => liftB (fun t => match P.underlying t with
    | some .bool => infoB P t 1 fun v => match v with
      | .bool false => true
      | _ => false
    | _ => false) m
  | .int k, m => liftB (fun t => match P.underlying t with
    | some (.int k') => match decide (k' = k) with
      | true => infoB P t 1 fun v => match v with
        | .int k2 n => match decide (k2 = k) with
          | true => decide (n = 0)
          | false => false
        | _ => false
      | false => false
    | _ => false) m
  | .str, m => liftB (fun t => match P.underlying t with
    | some .string => infoB P t 1 fun v => match v with
      | .string s => Nat.beq s.data.size 0
      | _ => false
    | _ => false) m
  | .slice e, m => liftB (fun t => match P.underlying t with
    | some (.slice e') => match okB P e (.typ e') with
      | true => infoB P t 1 fun v => match v with
        | .slice none 0 0 => true
        | _ => false
      | false => false
    | _ => false) m
  | .opq, m => liftB (fun t => match P.underlying t with
    | some d => match d.isRow with
      | false => infoB P t 1 fun v => v.oneCell'
      | true => false
    | none => false) m
  | .st b, m => liftB (fun t => match (match P.underlying t with
      | some (.struct fs) => okB P b (.flds fs.toList 0)
      | some (.array n e) => okB P b (.arr n e)
      | _ => false) with
    | true => infoB P t b.size fun v => match v with
      | .agg zs => match zeroRun b zs.toList with
        | some [] => true
        | _ => false
      | _ => false
    | false => false) m
  | .pair a r, m => match m with
    | .flds (f :: l) o => match Nat.beq f.offset o with
      | true => match decide (f.name = "_") with
        | true => false
        | false => match okB P a (.typ f.type) with
          | true => okB P r (.flds l (o + a.size))
          | false => false
      | false => false
    | .arr (n + 1) e => match okB P a (.typ e) with
      | true => okB P r (.arr n e)
      | false => false
    | _ => false
theorem okB_spec : ∀ {t : Ty} {m : Mode}, okB P t m = true → Ok P t m := by
  intro t
  induction t with
  | unit => intro m h; simp [okB] at h
  | map _ _ _ _ => intro m h; simp [okB] at h
  | dmap _ _ _ _ => intro m h; simp [okB] at h
  | bld _ _ => intro m h; simp [okB] at h
  | bool =>
    intro m h
    refine liftB_spec (fun t h => ?_) h
    split at h
    · rename_i hu
      obtain ⟨v, hv, hz⟩ := infoB_spec h
      split at hz
      · exact ⟨hu, hv⟩
      · cases hz
    · cases h
  | int k =>
    intro m h
    refine liftB_spec (fun t h => ?_) h
    split at h
    · rename_i k' hu
      split at h
      · rename_i hk
        have hk := of_decide_eq_true hk
        subst hk
        obtain ⟨v, hv, hz⟩ := infoB_spec h
        split at hz
        · rename_i k2 n
          split at hz
          · rename_i hk2
            have hk2 := of_decide_eq_true hk2
            have hn := of_decide_eq_true hz
            subst hk2; subst hn
            exact ⟨hu, hv⟩
          · cases hz
        · cases hz
      · cases h
    · cases h
  | str =>
    intro m h
    refine liftB_spec (fun t h => ?_) h
    split at h
    · rename_i hu
      obtain ⟨v, hv, hz⟩ := infoB_spec h
      split at hz
      · rename_i s
        exact ⟨hu, s, hv, Nat.eq_of_beq_eq_true hz⟩
      · cases hz
    · cases h
  | slice e ih =>
    intro m h
    refine liftB_spec (fun t h => ?_) h
    split at h
    · rename_i e' hu
      split at h
      · rename_i he
        obtain ⟨v, hv, hz⟩ := infoB_spec h
        split at hz
        · exact ⟨⟨e', hu, ih he⟩, hv⟩
        · cases hz
      · cases h
    · cases h
  | opq =>
    intro m h
    refine liftB_spec (fun t h => ?_) h
    split at h
    · rename_i d hu
      split at h
      · rename_i hd
        obtain ⟨v, hv, hz⟩ := infoB_spec h
        exact ⟨⟨d, hu, hd⟩, v, hv, hz⟩
      · cases h
    · cases h
  | st b ih =>
    intro m h
    refine liftB_spec (fun t h => ?_) h
    split at h
    · rename_i hb
      obtain ⟨v, hv, hz⟩ := infoB_spec h
      split at hz
      · rename_i zs
        split at hz
        · rename_i hzr
          refine ⟨?_, zs, hv, hzr⟩
          split at hb
          · rename_i fs hu; exact .inl ⟨fs, hu, ih hb⟩
          · rename_i n e hu; exact .inr ⟨n, e, hu, ih hb⟩
          · cases hb
        · cases hz
      · cases hz
    · cases h
  | pair a r iha ihr =>
    intro m h
    simp only [okB] at h
    split at h
    · rename_i f l o
      split at h
      · rename_i h1
        split at h
        · cases h
        · rename_i h2
          split at h
          · rename_i h3
            exact ⟨Nat.eq_of_beq_eq_true h1, by simpa using h2, iha h3, ihr h⟩
          · cases h
      · cases h
    · rename_i n e
      split at h
      · rename_i h3
        exact ⟨iha h3, ihr h⟩
      · cases h
    · cases h
def eqsB (P : Program) : Ty → Mode → Bool
  | .bool, m => liftB (fun t => match P.underlying t with
    | some .bool => true
    | _ => false) m
  | .int k, m => liftB (fun t => match P.underlying t with
    | some (.int k') => decide (k' = k)
    | _ => false) m
  | .str, m => liftB (fun t => match P.underlying t with
    | some .string => true
    | _ => false) m
  | .st b, m => liftB (fun t => match P.underlying t with
    | some (.struct fs) => match eqsB P b (.flds fs.toList 0), P.stoodInHeld t, P.eqGuardType P.depth t, P.info? t with
      | true, false, false, some i => Nat.beq i.size b.size
      | _, _, _, _ => false
    | _ => false) m
  | .pair a r, m => match m with
    | .flds (f :: l) o => match Nat.beq f.offset o with
      | true => match decide (f.name = "_") with
        | true => false
        | false => match eqsB P a (.typ f.type) with
          | true => eqsB P r (.flds l (o + a.size))
          | false => false
      | false => false
    | _ => false
  | _, _ => false
theorem eqsB_spec : ∀ {t : Ty} {m : Mode}, eqsB P t m = true → Eqs P t m := by
  intro t
  induction t with
  | bool =>
    intro m h
    refine liftB_spec (fun t h => ?_) h
    split at h
    · rename_i hu; exact hu
    · cases h
  | int k =>
    intro m h
    refine liftB_spec (fun t h => ?_) h
    split at h
    · rename_i k' hu
      have := of_decide_eq_true h
      subst this
      exact hu
    · cases h
  | str =>
    intro m h
    refine liftB_spec (fun t h => ?_) h
    split at h
    · rename_i hu; exact hu
    · cases h
  | st b ih =>
    intro m h
    refine liftB_spec (fun t h => ?_) h
    split at h
    · rename_i fs hu
      split at h
      · rename_i i h1 h2 h3 h4
        exact ⟨⟨fs, hu, ih h1⟩, h2, h3, by rw [h4]; simp [Nat.eq_of_beq_eq_true h]⟩
      · cases h
    · cases h
  | pair a r iha ihr =>
    intro m h
    simp only [eqsB] at h
    split at h
    · rename_i f l o
      split at h
      · rename_i h1
        split at h
        · cases h
        · rename_i h2
          split at h
          · rename_i h3
            exact ⟨Nat.eq_of_beq_eq_true h1, by simpa using h2, iha h3, ihr h⟩
          · cases h
      · cases h
    · cases h
  | _ => intro m h; simp [eqsB] at h
def tyB (P : Program) (t : TypeId) (r : TyRow) : Bool := match okB P r.ty (.typ t) with
  | false => false
  | true => match (match r.ty with
      | .slice _ => match P.underlying t with
        | some (.slice e') => match P.info? e' with
          | some i => match Nat.beq i.bytes r.bytes with
            | true => Nat.blt 0 r.bytes
            | false => false
          | none => false
        | _ => false
      | .st _ => match P.underlying t with
        | some (.array _ _) => r.arr
        | some (.struct _) => match r.arr with
          | true => false
          | false => true
        | _ => false
      | _ => true) with
    | false => false
    | true => match r.eq with
      | false => true
      | true => match eqsB P r.ty (.typ t) with
        | true => Nat.ble (nest r.ty) 9000
        | false => false
def tysB (P : Program) : List (Nat × TyRow) → Bool
  | [] => true
  | (t, r) :: l => match tyB P t r with
    | true => tysB P l
    | false => false
theorem look_mem {α : Type} {i : Nat} {a : α} : ∀ {l : List (Nat × α)}, look l i = some a → (i, a) ∈ l
  | [], h => by simp [look] at h
  | (j, b) :: l, h => by
    simp only [look] at h
    split at h
    · rename_i e
      have := Nat.eq_of_beq_eq_true e
      subst this
      injection h with h
      subst h
      simp
    · exact List.mem_cons_of_mem _ (look_mem h)
theorem tysB_mem : ∀ {l : List (Nat × TyRow)}, tysB P l = true → ∀ p, p ∈ l → tyB P p.1 p.2 = true
  | [], _, p, h => by simp at h
  | (t, r) :: l, h, p, hp => by
    simp only [tysB] at h
    split at h
    · rename_i ht
      rcases List.mem_cons.1 hp with rfl | hp
      · exact ht
      · exact tysB_mem h p hp
    · cases h
def SpecsOk (P : Program) (G : World → Prop) (l : List (Nat × Spec)) : Prop := ∀ f s, look l f = some s → SpecOk P G f s ∧ (P.funcs[f]?).any (fun fn => fn.name != "runtime.NumGoroutine" && fn.body.isSome) = true
def CodesOk (P : Program) (l : List (Nat × Func × List (Nat × Hint))) : Prop := ∀ f fn hs, look l f = some (fn, hs) → P.funcs[f]? = some fn ∧ (fn.name != "runtime.NumGoroutine" && fn.body.isSome) = true
theorem SpecsOk.nil {G : World → Prop} : SpecsOk P G [] := fun f s h => by simp [look] at h
theorem SpecsOk.cons {G : World → Prop} {f : FuncId} {s : Spec} {fn : Func} {l : List (Nat × Spec)} (h : SpecOk P G f s) (hf : P.funcs[f]? = some fn) (hb : (fn.name != "runtime.NumGoroutine" && fn.body.isSome) = true) (hl : SpecsOk P G l) : SpecsOk P G ((f, s) :: l) := by
  intro g u hu
  simp only [look] at hu
  split at hu
  · rename_i e
    have := Nat.eq_of_beq_eq_true e
    subst this
    injection hu with hu
    subst hu
    exact ⟨h, by rw [hf]; simpa using hb⟩
  · exact hl g u hu
theorem CodesOk.nil : CodesOk P [] := fun f fn hs h => by simp [look] at h
theorem CodesOk.cons {f : FuncId} {fn : Func} {hs : List (Nat × Hint)} {l : List (Nat × Func × List (Nat × Hint))} (hf : P.funcs[f]? = some fn) (hb : (fn.name != "runtime.NumGoroutine" && fn.body.isSome) = true) (hl : CodesOk P l) : CodesOk P ((f, fn, hs) :: l) := by
  intro g u us hu
  simp only [look] at hu
  split at hu
  · rename_i e
    have := Nat.eq_of_beq_eq_true e
    subst this
    injection hu with hu
    injection hu with h1 h2
    subst h1
    exact ⟨hf, hb⟩
  · exact hl g u us hu
def MakersOk (P : Program) (G : World → Prop) (l : List (Nat × Maker)) : Prop := ∀ f m, look l f = some m → MakerOk P G f m ∧ (P.funcs[f]?).any (fun fn => fn.name != "runtime.NumGoroutine" && fn.body.isSome) = true
theorem MakersOk.nil {P : Program} {G : World → Prop} : MakersOk P G [] := fun f m h => by cases h
theorem MakersOk.cons {P : Program} {G : World → Prop} {f : Nat} {m : Maker} {l : List (Nat × Maker)} {fn : Func} (h : MakerOk P G f m) (hf : P.funcs[f]? = some fn) (hb : (fn.name != "runtime.NumGoroutine" && fn.body.isSome) = true) (hl : MakersOk P G l) : MakersOk P G ((f, m) :: l) := by
  intro g u hu
  simp only [look] at hu
  split at hu
  · rename_i e
    have e := Nat.eq_of_beq_eq_true e
    injection hu with hu
    subst hu; subst e
    exact ⟨h, by rw [hf]; exact hb⟩
  · exact hl g u hu
def InplsOk (P : Program) (G : World → Prop) (l : List (Nat × Inpl)) : Prop := ∀ f p, look l f = some p → InplOk P G f p ∧ (P.funcs[f]?).any (fun fn => fn.name != "runtime.NumGoroutine" && fn.body.isSome) = true
theorem InplsOk.nil {P : Program} {G : World → Prop} : InplsOk P G [] := fun f m h => by cases h
theorem InplsOk.cons {P : Program} {G : World → Prop} {f : Nat} {m : Inpl} {l : List (Nat × Inpl)} {fn : Func} (h : InplOk P G f m) (hf : P.funcs[f]? = some fn) (hb : (fn.name != "runtime.NumGoroutine" && fn.body.isSome) = true) (hl : InplsOk P G l) : InplsOk P G ((f, m) :: l) := by
  intro g u hu
  simp only [look] at hu
  split at hu
  · rename_i e
    have e := Nat.eq_of_beq_eq_true e
    injection hu with hu
    subst hu; subst e
    exact ⟨h, by rw [hf]; exact hb⟩
  · exact hl g u hu
def InssOk (P : Program) (G : World → Prop) (l : List (Nat × Ty × Nat)) : Prop := ∀ f p, look l f = some p → InsOk P G f p.1 p.2 ∧ (∃ t, Ok P p.1 (.typ t)) ∧ (P.funcs[f]?).any (fun fn => fn.name != "runtime.NumGoroutine" && fn.body.isSome) = true
theorem InssOk.nil {P : Program} {G : World → Prop} : InssOk P G [] := fun f m h => by cases h
theorem InssOk.cons {P : Program} {G : World → Prop} {f : Nat} {m : Ty × Nat} {l : List (Nat × Ty × Nat)} {fn : Func} (h : InsOk P G f m.1 m.2) (ho : ∃ t, Ok P m.1 (.typ t)) (hf : P.funcs[f]? = some fn) (hb : (fn.name != "runtime.NumGoroutine" && fn.body.isSome) = true) (hl : InssOk P G l) : InssOk P G ((f, m) :: l) := by
  intro g u hu
  simp only [look] at hu
  split at hu
  · rename_i e
    have e := Nat.eq_of_beq_eq_true e
    injection hu with hu
    subst hu; subst e
    exact ⟨h, ho, by rw [hf]; exact hb⟩
  · exact hl g u hu
def notPair : Ty → Bool
  | .pair _ _ => false
  | _ => true
def mapB (P : Program) (t : TypeId) (kt vt : Ty) : Bool := match P.underlying t with
  | some (.map k e) => match eqsB P kt (.typ k), Nat.ble (nest kt) 9000, notPair kt, okB P vt (.typ e), dataTy vt with
    | true, true, true, true, true => true
    | _, _, _, _, _ => false
  | _ => false
def mapsB (P : Program) : List (Nat × Ty × Ty) → Bool
  | [] => true
  | (t, kt, vt) :: l => match mapB P t kt vt with
    | true => mapsB P l
    | false => false
theorem mapsB_spec {P : Program} : ∀ {l : List (Nat × Ty × Ty)}, mapsB P l = true → ∀ t kt vt, look l t = some (kt, vt) → ∃ k e, P.underlying t = some (.map k e) ∧ Eqs P kt (.typ k) ∧ nest kt ≤ 9000 ∧ (∀ a b, kt ≠ .pair a b) ∧ Ok P vt (.typ e) ∧ dataTy vt = true
  | [], _, t, kt, vt, h => by cases h
  | (t0, k0, v0) :: l, hb, t, kt, vt, h => by
    simp only [mapsB] at hb
    split at hb
    case h_2 => cases hb
    rename_i h0
    simp only [look] at h
    split at h
    · rename_i e
      have e := Nat.eq_of_beq_eq_true e
      injection h with h
      injection h with h1 h2
      subst h1; subst h2; subst e
      unfold mapB at h0
      split at h0
      · rename_i k e hu
        split at h0
        · rename_i q1 q2 q3 q4 q5
          refine ⟨k, e, hu, eqsB_spec q1, Nat.le_of_ble_eq_true q2, ?_, okB_spec q4, q5⟩
          intro a b z
          rw [z] at q3
          cases q3
        · cases h0
      · cases h0
    · exact mapsB_spec hb t kt vt h
def dmapsB (P : Program) (l : List (Nat × Ty × Ty)) : Bool := mapsB P (l.map fun p => (p.1, p.2.1, .slice p.2.2))
theorem look_map {α β : Type} (g : α → β) : ∀ {l : List (Nat × α)} {i : Nat} {a : α}, look l i = some a → look (l.map fun p => (p.1, g p.2)) i = some (g a)
  | [], i, a, h => by cases h
  | (j, b) :: l, i, a, h => by
    simp only [look, List.map_cons] at h ⊢
    split at h
    · rename_i e
      injection h with h
      subst h
      rfl
    · rename_i e
      exact look_map g h
theorem dmapsB_spec {P : Program} {l : List (Nat × Ty × Ty)} (h : dmapsB P l = true) (t : TypeId) (kt et : Ty) (hl : look l t = some (kt, et)) : ∃ k e, P.underlying t = some (.map k e) ∧ Eqs P kt (.typ k) ∧ nest kt ≤ 9000 ∧ (∀ a b, kt ≠ .pair a b) ∧ Ok P (.slice et) (.typ e) := by
  have := look_map (fun p : Ty × Ty => (p.1, Ty.slice p.2)) hl
  obtain ⟨k, e, h1, h2, h3, h4, h5, _⟩ := mapsB_spec h t kt (.slice et) this
  exact ⟨k, e, h1, h2, h3, h4, h5⟩
def bldB (P : Program) (t : TypeId) : Bool := match P.info? t with
  | some i => match i.zero with
    | some (.agg cs) => match cs.toList with
      | [.pointer none, .slice none 0 0] => true
      | _ => false
    | _ => false
  | none => false
def bldsB (P : Program) : List (Nat × Nat) → Bool
  | [] => true
  | (t, _) :: l => match bldB P t with
    | true => bldsB P l
    | false => false
theorem bldsB_spec {P : Program} : ∀ {l : List (Nat × Nat)}, bldsB P l = true → ∀ t e, look l t = some e → ∃ i, P.info? t = some i ∧ i.zero = some (.agg #[.pointer none, .slice none 0 0])
  | [], _, t, e, h => by cases h
  | (t0, e0) :: l, hb, t, e, h => by
    simp only [bldsB] at hb
    split at hb
    case h_2 => cases hb
    rename_i h0
    simp only [look] at h
    split at h
    · rename_i q
      have q := Nat.eq_of_beq_eq_true q
      subst q
      unfold bldB at h0
      split at h0
      · rename_i i hi
        split at h0
        · rename_i cs hz
          split at h0
          · rename_i hc
            refine ⟨i, hi, ?_⟩
            rw [hz]
            congr 2
            exact Array.toList_inj.1 hc
          · cases h0
        · cases h0
      · cases h0
    · exact bldsB_spec hb t e h
def BwsOk (P : Program) (G : World → Prop) (bl : List (Nat × Nat)) (l : List (Nat × Nat)) : Prop := ∀ f k, look l f = some k → (∀ T e, look bl T = some e → BwOk P G f T e k) ∧ (P.funcs[f]?).any (fun fn => fn.name != "runtime.NumGoroutine" && fn.body.isSome) = true
theorem BwsOk.nil {P : Program} {G : World → Prop} {bl : List (Nat × Nat)} : BwsOk P G bl [] := fun f m h => by cases h
theorem BwsOk.cons {P : Program} {G : World → Prop} {T e f k : Nat} {l : List (Nat × Nat)} {fn : Func} (h : BwOk P G f T e k) (hf : P.funcs[f]? = some fn) (hb : (fn.name != "runtime.NumGoroutine" && fn.body.isSome) = true) (hl : BwsOk P G [(T, e)] l) : BwsOk P G [(T, e)] ((f, k) :: l) := by
  intro g u hu
  simp only [look] at hu
  split at hu
  · rename_i q
    have q := Nat.eq_of_beq_eq_true q
    injection hu with hu
    subst hu; subst q
    refine ⟨fun T' e' h' => ?_, by rw [hf]; exact hb⟩
    simp only [look] at h'
    split at h'
    · rename_i q
      have q := Nat.eq_of_beq_eq_true q
      injection h' with h'
      subst h'; subst q
      exact h
    · cases h'
  · exact hl g u hu
def OSpecsOk (P : Program) (G : World → Prop) (l : List (Nat × OSpec)) : Prop := ∀ f s, look l f = some s → OSpecOk P G f s ∧ (P.funcs[f]?).any (fun fn => fn.name != "runtime.NumGoroutine" && fn.body.isSome) = true
theorem OSpecsOk.nil {P : Program} {G : World → Prop} : OSpecsOk P G [] := fun f m h => by cases h
theorem OSpecsOk.cons {P : Program} {G : World → Prop} {f : Nat} {s : OSpec} {l : List (Nat × OSpec)} {fn : Func} (h : OSpecOk P G f s) (hf : P.funcs[f]? = some fn) (hb : (fn.name != "runtime.NumGoroutine" && fn.body.isSome) = true) (hl : OSpecsOk P G l) : OSpecsOk P G ((f, s) :: l) := by
  intro g u hu
  simp only [look] at hu
  split at hu
  · rename_i e
    have e := Nat.eq_of_beq_eq_true e
    injection hu with hu
    subst hu; subst e
    exact ⟨h, by rw [hf]; exact hb⟩
  · exact hl g u hu
theorem envOk {G : World → Prop} {E : Env} (hT : tysB P E.T = true) (hs : SpecsOk P G E.specs) (hc : CodesOk P E.codes) (hm : P.follows .mixedOrders = true) (hG : ∀ w w', G w → Below w.heap.size w w' → G w') (hk : MakersOk P G E.lays := by exact MakersOk.nil) (hi : InplsOk P G E.inpl := by exact InplsOk.nil) (hj : InssOk P G E.ins := by exact InssOk.nil) (hmp : mapsB P E.maps = true := by rfl) (hdm : dmapsB P E.dmaps = true := by rfl) (hbl : bldsB P E.blds = true := by rfl) (hbw : BwsOk P G E.blds E.bw := by exact BwsOk.nil) (ho : OSpecsOk P G E.ospecs := by exact OSpecsOk.nil) : EnvOk P G E := by
  have row : ∀ t r, look E.T t = some r → tyB P t r = true := fun t r h => tysB_mem hT (t, r) (look_mem h)
  have row1 : ∀ t r, look E.T t = some r → Ok P r.ty (.typ t) := by
    intro t r h
    have := row t r h
    unfold tyB at this
    split at this
    · cases this
    · rename_i h; exact okB_spec h
  refine ⟨fun t ty h => ?_, fun t r e h he => ?_, fun t r h he => ?_, hs, hc, fun t r b h hb => ?_, hk, hi, hj, mapsB_spec hmp, dmapsB_spec hdm, bldsB_spec hbl, hbw, ho, hm, hG⟩
  · obtain ⟨r, h1, h2⟩ := EnvOk.row h
    rw [← h2]
    exact row1 t r h1
  · have h1 := row t r h
    have h2 := row1 t r h
    unfold tyB at h1
    split at h1
    · cases h1
    split at h1
    · cases h1
    rename_i h3
    rw [he] at h3
    simp only at h3
    split at h3
    · rename_i e' hu
      split at h3
      · rename_i i hi
        split at h3
        · rename_i hb
          rw [he] at h2
          obtain ⟨⟨e'', q1, q2⟩, _⟩ := h2
          rw [hu] at q1
          injection q1 with q1
          injection q1 with q1
          subst q1
          exact ⟨e', i, hu, hi, Nat.eq_of_beq_eq_true hb, q2, by simpa [Nat.blt_eq] using h3⟩
        · cases h3
      · cases h3
    · cases h3
  · have h1 := row t r h
    unfold tyB at h1
    split at h1
    · cases h1
    split at h1
    · cases h1
    rw [he] at h1
    simp only at h1
    split at h1
    · rename_i q
      exact ⟨eqsB_spec q, Nat.le_of_ble_eq_true h1⟩
    · cases h1
  · have h1 := row t r h
    unfold tyB at h1
    split at h1
    · cases h1
    split at h1
    · cases h1
    rename_i h3
    rw [hb] at h3
    simp only at h3
    split at h3
    · rename_i n e hu
      exact ⟨fun _ => ⟨n, e, hu⟩, fun q => by rw [q] at h3; cases h3⟩
    · rename_i fs hu
      refine ⟨fun q => ?_, fun _ => ⟨fs, hu⟩⟩
      rw [q] at h3
      cases h3
    · cases h3
end Go.PG
end
section
namespace Go.PG
open Go.RowKit
variable {N : Nat} {P : Program} {w : World} {H : Type} {enc : TypeId × Value → H} {base : Nat} {spare : Nat → Bool} {held : Bool}
def Wf : (t : Ty) → t.D → Prop
  | .int k, n => (Lit.int k n).wf = true
  | .str, s => ByteArray.size s ≤ maxLen
  | .slice e, xs => List.length xs ≤ maxLen ∧ ∀ x ∈ xs, Wf e x
  | .st b, x => Wf b x
  | .pair a b, x => Wf a x.1 ∧ Wf b x.2
  | _, _ => True
def WbN (N : Nat) (B : Ty → Nat) : (t : Ty) → t.D → Prop
  | .str, s => ByteArray.size s ≤ N
  | .slice e, xs => List.length xs * B e ≤ N ∧ ∀ x ∈ xs, WbN N B e x
  | .st b, x => WbN N B b x
  | .pair a b, x => WbN N B a x.1 ∧ WbN N B b x.2
  | _, _ => True
def InrN (N : Nat) (l : List Nat) : Prop := ∀ n, n ∈ l → n ≤ N
theorem InrN.left {l m : List Nat} (h : InrN N (l ++ m)) : InrN N l := fun n hn => h n (List.mem_append_left _ hn)
theorem InrN.right {l m : List Nat} (h : InrN N (l ++ m)) : InrN N m := fun n hn => h n (List.mem_append_right _ hn)
theorem InrN.all {e : TypeId} : ∀ {ds : List (DataW H)} {i : Nat} {d : DataW H}, InrN N (DataW.weightsAll P e ds) → ds[i]? = some d → InrN N (d.weights P e)
  | [], i, d, _, h => by simp at h
  | d0 :: r, 0, d, hw, h => by
    simp only [List.getElem?_cons_zero, Option.some.injEq] at h
    subst h
    simp only [DataW.weightsAll] at hw
    exact hw.left
  | d0 :: r, i + 1, d, hw, h => by
    simp only [List.getElem?_cons_succ] at h
    simp only [DataW.weightsAll] at hw
    exact InrN.all hw.right h
theorem InrN.each : ∀ {ts : List TypeId} {ds : List (DataW H)} {i : Nat} {t : TypeId} {d : DataW H}, InrN N (DataW.weightsEach P ts ds) → ts[i]? = some t → ds[i]? = some d → InrN N (d.weights P t)
  | [], ds, i, t, d, _, h, _ => by simp at h
  | _ :: _, [], i, t, d, _, _, h => by simp at h
  | t0 :: ts, d0 :: r, 0, t, d, hw, h1, h2 => by
    simp only [List.getElem?_cons_zero, Option.some.injEq] at h1 h2
    subst h1; subst h2
    simp only [DataW.weightsEach] at hw
    exact hw.left
  | t0 :: ts, d0 :: r, i + 1, t, d, hw, h1, h2 => by
    simp only [List.getElem?_cons_succ] at h1 h2
    simp only [DataW.weightsEach] at hw
    exact InrN.each hw.right h1 h2
def readTy : Ty → Bool
  | .unit | .opq => false
  | .slice e => readTy e
  | .st b => readTy b
  | .pair a b => match readTy a with
    | true => readTy b
    | false => false
  | _ => true
inductive Tells {H : Type} : (t : Ty) → t.D → DataW H → Prop where
  | bool (b : Bool) : Tells .bool b (.lit (.bool b))
  | int (k : IntKind) (n : Int) : Tells (.int k) n (.lit (.int k n))
  | str (s : ByteArray) : Tells .str s (.lit (.string s.data.toList))
  | nil (e : Ty) : Tells (.slice e) ([] : List e.D) .nil
  | row (e : Ty) (xs : List e.D) (ds rest : List (DataW H)) (hl : ds.length = xs.length) (h : ∀ (i : Nat) (x : e.D) (d : DataW H), xs[i]? = some x → ds[i]? = some d → Tells e x d) : Tells (.slice e) xs (.slice ds rest)
theorem cells_mem {a : Addr} {n : Nat} {cs : List Value} (h : w.cells? base a n = some cs) : cs.length = n ∧ ∀ (j : Nat) (v : Value), cs[j]? = some v → w.cell? (a.add j) = some v := by
  unfold World.cells? at h
  split at h
  · have hl := mapM_some_length h
    refine ⟨by simpa using hl, fun j v hv => ?_⟩
    have hj : j < n := by
      have := (List.getElem?_eq_some_iff.1 hv).1
      simp at hl
      omega
    have := mapM_some_get h j j (by simp [hj])
    rw [this, hv]
  · cases h
theorem spot_none {a : Addr} {v : Value} (h : w.cell? (a.add 0) = some v) : a.spot = none := by
  unfold World.cell? at h
  simp only [Addr.add, if_true] at h
  split at h
  · split at h
    · cases h
    · rename_i q; simpa using q
  · cases h
theorem list_of {α : Type} {Q : Nat → α → Prop} : ∀ (n : Nat), (∀ i, i < n → ∃ y, Q i y) → ∃ ys : List α, ys.length = n ∧ ∀ i y, ys[i]? = some y → Q i y
  | 0, _ => ⟨[], rfl, by simp⟩
  | n + 1, h => by
    obtain ⟨ys, h1, h2⟩ := list_of n (fun i hi => h i (by omega))
    obtain ⟨y, hy⟩ := h n (by omega)
    refine ⟨ys ++ [y], by simp [h1], fun i z hz => ?_⟩
    rcases Nat.lt_or_ge i ys.length with q | q
    · rw [List.getElem?_append_left q] at hz
      exact h2 i z hz
    · rw [List.getElem?_append_right q] at hz
      have : i = n := by
        have := (List.getElem?_eq_some_iff.1 hz).1
        simp at this
        omega
      subst this
      rw [h1, Nat.sub_self] at hz
      simp at hz
      subst hz
      exact hy
structure BytesOk (P : Program) (B : Ty → Nat) (Gd : TypeId → Prop) : Prop where
  sl : ∀ (id e' : TypeId), Gd id → P.underlying id = some (.slice e') → Gd e' ∧ ∀ e : Ty, Ok P e (.typ e') → B e ≤ P.bytesOf e'
  st : ∀ (id : TypeId) (fs : Array Field), Gd id → P.underlying id = some (.struct fs) → ∀ f, f ∈ fs.toList → Gd f.type
  ar : ∀ (id : TypeId) (n : Nat) (e : TypeId), Gd id → P.underlying id = some (.array n e) → Gd e
theorem read_all {B : Ty → Nat} {Gd : TypeId → Prop} (HB : BytesOk P B Gd) : ∀ (t : Ty),
    (∀ (id : TypeId) (fuel : Nat) (cs : List Value) (x : DataW H × List MemPlace), Gd id → Ok P t (.typ id) → readTy t = true → DataW.trod enc P w base spare held fuel id cs = some x → ∃ y : t.D, RepD (fun _ => False) w t y cs ∧ Wf t y ∧ (InrN N (x.1.weights P id) → WbN N B t y)) ∧
    (∀ (l : List Field) (o : Nat) (cs : List Value) (n : Nat) (zs : List (DataW H × List MemPlace)), (∀ f, f ∈ l → Gd f.type) → Ok P t (.flds l o) → readTy t = true → o + t.size ≤ cs.length → zs.length = l.length → (∀ (i : Nat) (f : Field), l[i]? = some f → DataW.trod enc P w base spare held n f.type ((cs.drop f.offset).take (P.cellsOf f.type)) = zs[i]?) →
      ∃ y : t.D, RepD (fun _ => False) w t y ((cs.drop o).take t.size) ∧ Wf t y ∧ (InrN N (DataW.weightsEach P (l.map (·.type)) (zs.map (·.1))) → WbN N B t y)) ∧
    (∀ (m : Nat) (e : TypeId) (cs : List Value) (n j : Nat) (zs : List (DataW H × List MemPlace)), Gd e → Ok P t (.arr m e) → readTy t = true → j * P.cellsOf e + t.size ≤ cs.length → zs.length = m → (∀ i, i < m → DataW.trod enc P w base spare held n e ((cs.drop ((j + i) * P.cellsOf e)).take (P.cellsOf e)) = zs[i]?) →
      ∃ y : t.D, RepD (fun _ => False) w t y ((cs.drop (j * P.cellsOf e)).take t.size) ∧ Wf t y ∧ (InrN N (DataW.weightsAll P e (zs.map (·.1))) → WbN N B t y)) := by
  -- out of the claim at a type: those at fields and elements
  have leaf : ∀ (t : Ty), (∀ p q, t ≠ .pair p q) → (∀ (id : TypeId) (fuel : Nat) (cs : List Value) (x : DataW H × List MemPlace), Gd id → Ok P t (.typ id) → readTy t = true → DataW.trod enc P w base spare held fuel id cs = some x → ∃ y : t.D, RepD (fun _ => False) w t y cs ∧ Wf t y ∧ (InrN N (x.1.weights P id) → WbN N B t y)) →
      (∀ (l : List Field) (o : Nat) (cs : List Value) (n : Nat) (zs : List (DataW H × List MemPlace)), (∀ f, f ∈ l → Gd f.type) → Ok P t (.flds l o) → readTy t = true → o + t.size ≤ cs.length → zs.length = l.length → (∀ (i : Nat) (f : Field), l[i]? = some f → DataW.trod enc P w base spare held n f.type ((cs.drop f.offset).take (P.cellsOf f.type)) = zs[i]?) →
        ∃ y : t.D, RepD (fun _ => False) w t y ((cs.drop o).take t.size) ∧ Wf t y ∧ (InrN N (DataW.weightsEach P (l.map (·.type)) (zs.map (·.1))) → WbN N B t y)) ∧
      (∀ (m : Nat) (e : TypeId) (cs : List Value) (n j : Nat) (zs : List (DataW H × List MemPlace)), Gd e → Ok P t (.arr m e) → readTy t = true → j * P.cellsOf e + t.size ≤ cs.length → zs.length = m → (∀ i, i < m → DataW.trod enc P w base spare held n e ((cs.drop ((j + i) * P.cellsOf e)).take (P.cellsOf e)) = zs[i]?) →
        ∃ y : t.D, RepD (fun _ => False) w t y ((cs.drop (j * P.cellsOf e)).take t.size) ∧ Wf t y ∧ (InrN N (DataW.weightsAll P e (zs.map (·.1))) → WbN N B t y)) := by
    intro t hp h
    refine ⟨fun l o cs n zs hg hok hd hl hz ht => ?_, fun m e cs n j zs hg hok hd hl hz ht => ?_⟩
    · obtain ⟨f, rfl, hf, _, hok'⟩ := ok_leaf_flds hp hok
      obtain ⟨z, rfl⟩ : ∃ z, zs = [z] := List.length_eq_one_iff.1 hz
      have hz := ht 0 f rfl
      obtain ⟨i, hi, hs⟩ := ok_size hok'
      have hc : P.cellsOf f.type = t.size := by simp [Program.cellsOf, hi, hs]
      rw [hc, hf] at hz
      obtain ⟨y, h1, h2, h3⟩ := h f.type n _ z (hg f (by simp)) hok' hd hz
      refine ⟨y, h1, h2, fun hw => h3 ?_⟩
      simp only [List.map_cons, DataW.weightsEach] at hw
      exact hw.left
    · obtain ⟨rfl, hok'⟩ := ok_leaf_arr hp hok
      obtain ⟨z, rfl⟩ : ∃ z, zs = [z] := List.length_eq_one_iff.1 hz
      have hz := ht 0 (by omega)
      rw [Nat.add_zero] at hz
      obtain ⟨i, hi, hs⟩ := ok_size hok'
      have hc : P.cellsOf e = t.size := by simp [Program.cellsOf, hi, hs]
      rw [hc] at hz ⊢
      obtain ⟨y, h1, h2, h3⟩ := h e n _ z hg hok' hd hz
      refine ⟨y, h1, h2, fun hw => h3 ?_⟩
      simp only [List.map_cons, DataW.weightsAll] at hw
      exact hw.left
  intro t
  induction t with
  | unit => exact ⟨fun _ _ _ _ _ h => h.elim, fun _ _ _ _ _ _ h => h.elim, fun _ _ _ _ _ _ _ h => h.elim⟩
  | map _ _ _ _ => exact ⟨fun _ _ _ _ _ h => h.elim, fun _ _ _ _ _ _ h => h.elim, fun _ _ _ _ _ _ _ h => h.elim⟩
  | dmap _ _ _ _ => exact ⟨fun _ _ _ _ _ h => h.elim, fun _ _ _ _ _ _ h => h.elim, fun _ _ _ _ _ _ _ h => h.elim⟩
  | bld _ _ => exact ⟨fun _ _ _ _ _ h => h.elim, fun _ _ _ _ _ _ h => h.elim, fun _ _ _ _ _ _ _ h => h.elim⟩
  | opq => exact ⟨fun _ _ _ _ _ _ h => by simp [readTy] at h, fun _ _ _ _ _ _ _ h => by simp [readTy] at h, fun _ _ _ _ _ _ _ _ h => by simp [readTy] at h⟩
  | bool =>
    have h : ∀ (id : TypeId) (fuel : Nat) (cs : List Value) (x : DataW H × List MemPlace), Gd id → Ok P .bool (.typ id) → readTy .bool = true → DataW.trod enc P w base spare held fuel id cs = some x → ∃ y : Ty.bool.D, RepD (fun _ => False) w .bool y cs ∧ Wf .bool y ∧ (InrN N (x.1.weights P id) → WbN N B .bool y) := by
      intro id fuel cs x hg hok _ hx
      obtain ⟨b, rfl, _⟩ := DataW.trod_bool hok.1 hx
      exact ⟨b, by simp [RepD], trivial, fun _ => trivial⟩
    exact ⟨h, leaf _ (by simp) h⟩
  | int k =>
    have h : ∀ (id : TypeId) (fuel : Nat) (cs : List Value) (x : DataW H × List MemPlace), Gd id → Ok P (.int k) (.typ id) → readTy (.int k) = true → DataW.trod enc P w base spare held fuel id cs = some x → ∃ y : (Ty.int k).D, RepD (fun _ => False) w (.int k) y cs ∧ Wf (.int k) y ∧ (InrN N (x.1.weights P id) → WbN N B (.int k) y) := by
      intro id fuel cs x hg hok _ hx
      obtain ⟨n, rfl, _, hw⟩ := DataW.trod_int hok.1 hx
      exact ⟨n, by simp [RepD], hw, fun _ => trivial⟩
    exact ⟨h, leaf _ (by simp) h⟩
  | str =>
    have h : ∀ (id : TypeId) (fuel : Nat) (cs : List Value) (x : DataW H × List MemPlace), Gd id → Ok P .str (.typ id) → readTy .str = true → DataW.trod enc P w base spare held fuel id cs = some x → ∃ y : Ty.str.D, RepD (fun _ => False) w .str y cs ∧ Wf .str y ∧ (InrN N (x.1.weights P id) → WbN N B .str y) := by
      intro id fuel cs x hg hok _ hx
      obtain ⟨s, rfl, hx2, hs⟩ := DataW.trod_string hok.1 hx
      refine ⟨s, by simp [RepD], hs, fun hw => ?_⟩
      subst hx2
      have := hw s.data.toList.length (by simp [DataW.weights])
      simpa [WbN] using this
    exact ⟨h, leaf _ (by simp) h⟩
  | slice e ih =>
    have h : ∀ (id : TypeId) (fuel : Nat) (cs : List Value) (x : DataW H × List MemPlace), Gd id → Ok P (.slice e) (.typ id) → readTy (.slice e) = true → DataW.trod enc P w base spare held fuel id cs = some x → ∃ y : (Ty.slice e).D, RepD (fun _ => False) w (.slice e) y cs ∧ Wf (.slice e) y ∧ (InrN N (x.1.weights P id) → WbN N B (.slice e) y) := by
      intro id fuel cs x hg hok hd hx
      obtain ⟨⟨e', hu, hok'⟩, _⟩ := hok
      rcases DataW.trod_slice hu hx with ⟨rfl, _⟩ | ⟨a, len, cap, elems, rest, n, _, rfl, hx2, hb, hl, hm, hlen, hel, _, _⟩
      · exact ⟨[], by simp only [RepD]; exact ⟨none, 0, rfl, Nat.le_refl _, .inl trivial⟩, by simp [Wf], fun _ => by simp [WbN]⟩
      · obtain ⟨inf, hi, hs⟩ := ok_size hok'
        have hc : P.cellsOf e' = e.size := by simp [Program.cellsOf, hi, hs]
        have hpos := ok_pos e _ hok'
        have each : ∀ i, i < len → ∃ y : e.D, ∃ c, w.cells? base (a.add (i * e.size)) e.size = some c ∧ RepD (fun _ => False) w e y c ∧ Wf e y ∧ (InrN N (x.1.weights P id) → WbN N B e y) := by
          intro i hi
          have he := hel i hi
          rw [List.getElem?_eq_getElem (by omega)] at he
          rw [hc] at he
          cases q : w.cells? base (a.add (i * e.size)) e.size with
          | none => rw [q] at he; cases he
          | some c =>
            rw [q] at he
            obtain ⟨y, h1, h2, h3⟩ := ih.1 e' n c _ (HB.sl id e' hg hu).1 hok' hd he
            refine ⟨y, c, rfl, h1, h2, fun hw => h3 ?_⟩
            subst hx2
            simp only [DataW.weights, hu] at hw
            have hw' : InrN N (DataW.weightsAll P e' (elems.map (·.1))) := fun k hk => hw k (List.mem_cons_of_mem _ (List.mem_append_left _ hk))
            exact hw'.all (i := i) (by rw [List.getElem?_map, List.getElem?_eq_getElem (by omega)]; rfl)
        obtain ⟨ys, hys, hall⟩ := list_of len each
        refine ⟨ys, ?_, ?_, fun hw => ?_⟩
        · simp only [RepD]
          refine ⟨some a, cap, by rw [hys], by omega, ?_⟩
          rcases Nat.eq_zero_or_pos len with h0 | h0
          · left; exact List.eq_nil_of_length_eq_zero (by omega)
          · right
            obtain ⟨y, c, q1, q2, q3⟩ := each 0 h0
            obtain ⟨q4, q5⟩ := cells_mem q1
            obtain ⟨v, hv⟩ : ∃ v, c[0]? = some v := ⟨c[0]'(by omega), by simp⟩
            have q6 := q5 0 v hv
            have hsp : a.spot = none := by
              have := spot_none q6
              simpa [Addr.add] using this
            obtain ⟨b, o, sp⟩ := a
            simp only at hsp
            subst hsp
            refine ⟨b, o, rfl, ?_, not_false, fun i x hx => ?_⟩
            · unfold World.cell? at q6
              simp only [Addr.add, Nat.zero_mul, if_true] at q6
              split at q6
              · rename_i qq; exact (Array.getElem?_eq_some_iff.1 qq).1
              · cases q6
            · obtain ⟨c', r1, r2, _⟩ := hall i x hx
              refine ⟨c', r2, fun j v hv => ?_⟩
              have := (cells_mem r1).2 j v hv
              rw [Addr.add_mid, Addr.add_mid] at this
              exact this
        · simp only [Wf]
          refine ⟨by omega, fun x hx => ?_⟩
          obtain ⟨i, hi⟩ := List.getElem?_of_mem hx
          obtain ⟨_, _, _, r, _⟩ := hall i x hi
          exact r
        · simp only [WbN]
          refine ⟨?_, fun x hx => ?_⟩
          · have hw2 := hw
            subst hx2
            simp only [DataW.weights, hu] at hw2
            have h1 := hw2 _ (List.mem_cons_self ..)
            simp only [List.length_map] at h1
            have h2 := (HB.sl id e' hg hu).2 e hok'
            have h3 : List.length ys * B e ≤ (elems.length + rest.length) * P.bytesOf e' := Nat.mul_le_mul (by omega) h2
            omega
          · obtain ⟨i, hi⟩ := List.getElem?_of_mem hx
            obtain ⟨_, _, _, _, r⟩ := hall i x hi
            exact r hw
    exact ⟨h, leaf _ (by simp) h⟩
  | st b ih =>
    have h : ∀ (id : TypeId) (fuel : Nat) (cs : List Value) (x : DataW H × List MemPlace), Gd id → Ok P (.st b) (.typ id) → readTy (.st b) = true → DataW.trod enc P w base spare held fuel id cs = some x → ∃ y : (Ty.st b).D, RepD (fun _ => False) w (.st b) y cs ∧ Wf (.st b) y ∧ (InrN N (x.1.weights P id) → WbN N B (.st b) y) := by
      intro id fuel cs x hg hok hd hx
      obtain ⟨hk, zs, ⟨i, hi1, hi2, _⟩, _⟩ := hok
      have hc : P.cellsOf id = b.size := by simp [Program.cellsOf, hi1, hi2]
      rcases hk with ⟨fs, hu, hb⟩ | ⟨n, e, hu, hb⟩
      · obtain ⟨xs, n, _, hx2, hl, hxl, hall⟩ := DataW.trod_struct hu hx
        obtain ⟨y, h1, h2, h3⟩ := ih.2.1 fs.toList 0 cs n xs (HB.st id fs hg hu) hb hd (by omega) (by simpa using hxl) (fun i f hf => by
          have hf' : fs[i]? = some f := by rw [← Array.getElem?_toList]; exact hf
          exact hall i f hf')
        rw [List.drop_zero, List.take_of_length_le (by omega)] at h1
        refine ⟨y, by simp only [RepD]; exact h1, by simp only [Wf]; exact h2, fun hw => ?_⟩
        simp only [WbN]
        subst hx2
        simp only [DataW.weights, hu] at hw
        exact h3 hw
      · obtain ⟨xs, m, _, hx2, hl, hxl, hall⟩ := DataW.trod_array hu hx
        obtain ⟨y, h1, h2, h3⟩ := ih.2.2 n e cs m 0 xs (HB.ar id n e hg hu) hb hd (by omega) hxl (fun i hi => by
          rw [Nat.zero_add]
          exact hall i (by omega))
        rw [Nat.zero_mul, List.drop_zero, List.take_of_length_le (by omega)] at h1
        refine ⟨y, by simp only [RepD]; exact h1, by simp only [Wf]; exact h2, fun hw => ?_⟩
        simp only [WbN]
        subst hx2
        simp only [DataW.weights, hu] at hw
        exact h3 hw
    exact ⟨h, leaf _ (by simp) h⟩
  | pair p q ihp ihq =>
    have both : ∀ {hd : readTy (.pair p q) = true}, readTy p = true ∧ readTy q = true := by
      intro hd
      simp only [readTy] at hd
      split at hd
      · rename_i h; exact ⟨h, hd⟩
      · cases hd
    have join : ∀ (cs : List Value) (o : Nat) (y1 : p.D) (y2 : q.D), RepD (fun _ => False) w p y1 ((cs.drop o).take p.size) → RepD (fun _ => False) w q y2 ((cs.drop (o + p.size)).take q.size) → RepD (fun _ => False) w (.pair p q) (y1, y2) ((cs.drop o).take (p.size + q.size)) := by
      intro cs o y1 y2 h1 h2
      simp only [RepD]
      refine ⟨_, _, ?_, h1, h2⟩
      rw [List.take_add, List.drop_drop]
    refine ⟨fun _ _ _ _ _ h => h.elim, fun l o cs n zs hg hok hd hl hz ht => ?_, fun m e cs n j zs hg hok hd hl hz ht => ?_⟩
    · cases l with
      | nil => exact hok.elim
      | cons f l =>
        cases zs with
        | nil => simp at hz
        | cons z zs =>
          obtain ⟨hf, _, hok1, hok2⟩ := hok
          obtain ⟨d1, d2⟩ := both (hd := hd)
          simp only [Ty.size] at hl ⊢
          have hz0 := ht 0 f rfl
          obtain ⟨i, hi, hs⟩ := ok_size hok1
          have hc : P.cellsOf f.type = p.size := by simp [Program.cellsOf, hi, hs]
          rw [hc, hf] at hz0
          obtain ⟨y1, r1, r2, r5⟩ := ihp.1 f.type n _ z (hg f (by simp)) hok1 d1 hz0
          obtain ⟨y2, r3, r4, r6⟩ := ihq.2.1 l (o + p.size) cs n zs (fun g hg' => hg g (List.mem_cons_of_mem _ hg')) hok2 d2 (by omega) (by simpa using hz) (fun i g hg => by have := ht (i + 1) g (by simpa using hg); simpa using this)
          refine ⟨(y1, y2), join cs o y1 y2 r1 r3, ⟨r2, r4⟩, fun hw => ?_⟩
          simp only [List.map_cons, DataW.weightsEach] at hw
          exact ⟨r5 hw.left, r6 hw.right⟩
    · cases m with
      | zero => exact hok.elim
      | succ m =>
        cases zs with
        | nil => simp at hz
        | cons z zs =>
          obtain ⟨hok1, hok2⟩ := hok
          obtain ⟨d1, d2⟩ := both (hd := hd)
          simp only [Ty.size] at hl ⊢
          have hz0 := ht 0 (by omega)
          rw [Nat.add_zero] at hz0
          obtain ⟨i, hi, hs⟩ := ok_size hok1
          have hc : P.cellsOf e = p.size := by simp [Program.cellsOf, hi, hs]
          have hj : (j + 1) * P.cellsOf e = j * P.cellsOf e + p.size := by rw [Nat.add_mul, Nat.one_mul, hc]
          rw [hc] at hz0
          obtain ⟨y1, r1, r2, r5⟩ := ihp.1 e n _ z hg hok1 d1 hz0
          obtain ⟨y2, r3, r4, r6⟩ := ihq.2.2 m e cs n (j + 1) zs hg hok2 d2 (by omega) (by simpa using hz) (fun i hi => by have := ht (i + 1) (by omega); rw [show j + 1 + i = j + (i + 1) by omega]; simpa using this)
          rw [hj] at r3
          refine ⟨(y1, y2), join cs _ y1 y2 ?_ r3, ⟨r2, r4⟩, fun hw => ?_⟩
          · rw [hc]
            exact r1
          · simp only [List.map_cons, DataW.weightsAll] at hw
            exact ⟨r5 hw.left, r6 hw.right⟩
end Go.PG
end

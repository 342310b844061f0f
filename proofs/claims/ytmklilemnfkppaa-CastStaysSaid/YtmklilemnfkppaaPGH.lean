/- The evaluator's soundness: the heap. -/
import Derived.Test.YtmklilemnfkppaaPGS
set_option linter.all false
namespace Go.PG
open Go.RowKit

def EntOk (c : Cx) (id : Nat) : Ent → Prop
  | .box v L => ∃ b cs el, c.M id = .box b ∧ c.w.heap[b]? = some (.cells cs el (0, 0)) ∧ fitsT v L = true ∧ RepC c v cs.toList
  | .row e xs => ∃ A cap, c.M id = .row A (List.length xs) cap ∧ List.length xs ≤ cap ∧ (cap = 0 ∨
      cap ≠ 0 ∧ ∃ b o cs el, A = some ⟨b, o, none⟩ ∧ c.w.heap[b]? = some (.cells cs el (0, 0)) ∧ o + cap * e.size ≤ cs.size ∧
        ∀ i x, xs[i]? = some x → ∃ d, RepD c.Z c.w e x d ∧ Mem c.w b (o + i * e.size) d)
  | .rsv => c.M id = .nil

def cx (S : Nat → Prop) (h : Hp) (M : Nat → Bk) (w : World) : Cx := ⟨S, w, h.e, M, h.next⟩

structure HInv (S : Nat → Prop) (B : Nat) (w0 : World) (h : Hp) (M : Nat → Bk) (w : World) : Prop where
  ent : ∀ id e, h.e id = some e → EntOk (cx S h M w) id e
  fresh : ∀ id, h.next ≤ id → h.e id = none
  dist : ∀ i j b, h.e i ≠ none → h.e j ≠ none → (M i).blk = some b → (M j).blk = some b → i = j
  own : ∀ i b, h.e i ≠ none → (M i).blk = some b → B ≤ b
  bel : Below B w0 w
  bsz : B ≤ w.heap.size
  old : ∀ b, S b → b < B
  bw : w0.heap.size = B

structure HStp (S : Nat → Prop) (h : Hp) (M : Nat → Bk) (w : World) (h' : Hp) (M' : Nat → Bk) (w' : World) : Prop where
  tr : Tr (cx S h M w) (cx S h' M' w')
  lk : h'.lk = h.lk
  lock : ∀ id, id < h.next → h.lk id = true → h'.e id = h.e id ∧ M' id = M id

variable {S : Nat → Prop} {B : Nat} {w0 w w' w'' : World} {h h' h'' : Hp} {M M' M'' : Nat → Bk}

theorem HInv.lt (H : HInv S B w0 h M w) {id : Nat} {e : Ent} (he : h.e id = some e) : id < h.next := by
  rcases Nat.lt_or_ge id h.next with q | q
  · exact q
  · rw [H.fresh id q] at he; cases he

theorem ids_self (H : HInv S B w0 h M w) (id : Nat) : h.e id = none ∨ (h.e id = some .rsv ∧ M id = .nil) ∨ (M id = M id ∧ ((∃ v v' L, h.e id = some (.box v L) ∧ h.e id = some (.box v' L)) ∨
    (∃ e xs ys, h.e id = some (.row e xs) ∧ h.e id = some (.row e ys) ∧ List.length ys = List.length xs))) := by
  cases he : h.e id with
  | none => exact .inl rfl
  | some e => cases e with
    | box v L => exact .inr (.inr ⟨rfl, .inl ⟨v, v, L, rfl, rfl⟩⟩)
    | row e xs => exact .inr (.inr ⟨rfl, .inr ⟨e, xs, xs, rfl, rfl, rfl⟩⟩)
    | rsv => exact .inr (.inl ⟨rfl, H.ent id _ he⟩)

theorem HStp.refl (H : HInv S B w0 h M w) : HStp S h M w h M w :=
  ⟨⟨Held.refl _ _, Nat.le_refl _, fun id _ => ids_self H id⟩, rfl, fun _ _ _ => ⟨rfl, rfl⟩⟩
theorem HStp.trans (k : HStp S h M w h' M' w') (l : HStp S h' M' w' h'' M'' w'') : HStp S h M w h'' M'' w'' :=
  ⟨k.tr.trans l.tr, l.lk.trans k.lk, fun id hid hl => by
    obtain ⟨e1, e2⟩ := k.lock id hid hl
    obtain ⟨e3, e4⟩ := l.lock id (Nat.lt_of_lt_of_le hid k.tr.nx) (by rw [k.lk]; exact hl)
    exact ⟨e3.trans e1, e4.trans e2⟩⟩

/-- Entries that stay, in a later state. -/
theorem EntOk.tr {c d : Cx} (k : Tr c d) {id : Nat} {e : Ent} (hM : d.M id = c.M id) (hb : ∀ b, (c.M id).blk = some b → d.w.heap[b]? = c.w.heap[b]?) (q : EntOk c id e) : EntOk d id e := by
  cases e with
  | box v L =>
    obtain ⟨b, cs, el, h1, h2, h3, h4⟩ := q
    exact ⟨b, cs, el, hM.trans h1, (hb b (by rw [h1]; rfl)).trans h2, h3, RepC.tr k v _ h4⟩
  | row e xs =>
    obtain ⟨A, cap, h1, h2, h3⟩ := q
    refine ⟨A, cap, hM.trans h1, h2, ?_⟩
    rcases h3 with h3 | ⟨hc, b, o, cs, el, rfl, h5, h6, h7⟩
    · exact .inl h3
    · have e2 := hb b (by rw [h1]; exact blk_row hc)
      refine .inr ⟨hc, b, o, cs, el, rfl, e2.trans h5, h6, fun i x hx => ?_⟩
      obtain ⟨dd, h8, h9⟩ := h7 i x hx
      exact ⟨dd, h8.held k.held, fun j v hv => (cell_of_heap e2).trans (h9 j v hv)⟩
  | rsv => exact hM.trans q

/-- A world in which some orders have been drawn. -/
theorem HInv.world (H : HInv S B w0 h M w) (e : w'.heap = w.heap) (b : Below B w w') : HInv S B w0 h M w' ∧ HStp S h M w h M w' := by
  have k : Tr (cx S h M w) (cx S h M w') := ⟨fun b _ hz => ⟨hz, by simp [cx, e]⟩, Nat.le_refl _, fun id _ => ids_self H id⟩
  exact ⟨⟨fun id q hq => (H.ent id q hq).tr k rfl (fun b _ => by simp [cx, e]), H.fresh, H.dist, H.own, H.bel.trans b, by rw [e]; exact H.bsz, H.old, H.bw⟩, k, rfl, fun _ _ _ => ⟨rfl, rfl⟩⟩

theorem blk_lt (H : HInv S B w0 h M w) {id b : Nat} (he : h.e id ≠ none) (hb : (M id).blk = some b) : b < w.heap.size := by
  cases q : h.e id with
  | none => exact absurd q he
  | some e =>
    have hE := H.ent id e q
    cases e with
    | box v L =>
      obtain ⟨b', cs, el, h1, h2, _⟩ := hE
      simp only [cx] at h1 h2
      rw [h1] at hb
      injection hb with hb
      subst hb
      exact (Array.getElem?_eq_some_iff.1 h2).1
    | row e xs =>
      obtain ⟨A, cap, h1, _, h3⟩ := hE
      simp only [cx] at h1 h3
      rw [h1] at hb
      rcases h3 with h3 | ⟨hc, b', o, cs, el, rfl, h5, _⟩
      · subst h3; cases hb
      · rw [blk_row hc] at hb
        injection hb with hb
        subst hb
        exact (Array.getElem?_eq_some_iff.1 h5).1
    | rsv =>
      have hE : M id = .nil := hE
      rw [hE] at hb
      cases hb

/-! ### giving up rows -/
theorem beq_false {i j : Nat} (h : i ≠ j) : Nat.beq i j = false := by
  cases q : Nat.beq i j
  · rfl
  · exact absurd (Nat.eq_of_beq_eq_true q) h

theorem kills_e (l : List Nat) : ∀ (h : Hp) (id : Nat), (h.kills l).e id = if id ∈ l then none else h.e id := by
  induction l with
  | nil => intro h id; simp [Hp.kills]
  | cons i l ih =>
    intro h id
    simp only [Hp.kills, ih, Hp.kill, set1]
    by_cases hi : id ∈ l
    · simp [hi]
    · by_cases hj : id = i
      · subst hj; simp [Nat.beq_refl]
      · have : Nat.beq id i = false := beq_false hj
        simp [hi, hj, this]
theorem kills_lk (l : List Nat) : ∀ (h : Hp), (h.kills l).lk = h.lk := by
  induction l with
  | nil => intro h; rfl
  | cons i l ih => intro h; simp only [Hp.kills, ih]; rfl
theorem kills_next (l : List Nat) : ∀ (h : Hp), (h.kills l).next = h.next := by
  induction l with
  | nil => intro h; rfl
  | cons i l ih => intro h; simp only [Hp.kills, ih]; rfl
theorem unlocked_mem {h : Hp} {l : List Nat} (u : unlocked h l = true) : ∀ i ∈ l, h.lk i = false := by
  induction l with
  | nil => simp
  | cons i l ih =>
    simp only [unlocked] at u
    split at u
    · cases u
    · rename_i hl
      intro j hj
      rcases List.mem_cons.1 hj with rfl | hj
      · exact hl
      · exact ih u j hj

theorem HInv.kills (H : HInv S B w0 h M w) {l : List Nat} (u : unlocked h l = true) : HInv S B w0 (h.kills l) M w ∧ HStp S h M w (h.kills l) M w := by
  have he := kills_e l h
  have hk : ∀ id e, (h.kills l).e id = some e → h.e id = some e := fun id e q => by rw [he] at q; split at q <;> first | cases q | exact q
  have k : Tr (cx S h M w) (cx S (h.kills l) M w) := by
    refine ⟨fun b _ hz => ⟨fun z => hz ?_, rfl⟩, Nat.le_of_eq (kills_next l h).symm, fun id hid => ?_⟩
    · rcases z with z | ⟨id, e, q, hb⟩
      · exact .inl z
      · exact .inr ⟨id, e, hk id e q, hb⟩
    · show (h.kills l).e id = none ∨ _
      rw [he]
      by_cases hi : id ∈ l
      · simp [hi]
      · simp only [hi, if_false]
        rcases ids_self H id with q | q | ⟨_, q⟩
        · exact .inl q
        · exact .inr (.inl q)
        · refine .inr (.inr ⟨rfl, ?_⟩)
          rcases q with ⟨v, v', L, q1, q2⟩ | ⟨e, xs, ys, q1, q2, q3⟩
          · exact .inl ⟨v, v', L, q1, by show (h.kills l).e id = _; rw [he]; simp [hi, q2]⟩
          · exact .inr ⟨e, xs, ys, q1, by show (h.kills l).e id = _; rw [he]; simp [hi, q2], q3⟩
  refine ⟨⟨fun id e q => (H.ent id e (hk id e q)).tr k rfl (fun _ _ => rfl), fun id hid => ?_, fun i j b hi hj => H.dist i j b (fun z => hi ?_) (fun z => hj ?_), fun i b hi => H.own i b (fun z => hi ?_), H.bel, H.bsz, H.old, H.bw⟩, k, kills_lk l h, fun id hid hl => ⟨?_, rfl⟩⟩
  · rw [he]; rw [kills_next] at hid; split <;> first | rfl | exact H.fresh id hid
  · rw [he]; split <;> first | rfl | exact z
  · rw [he]; split <;> first | rfl | exact z
  · rw [he]; split <;> first | rfl | exact z
  · rw [he]
    by_cases hi : id ∈ l
    · have := unlocked_mem u id hi; rw [hl] at this; cases this
    · simp [hi]

/-! ### a new entry -/
/-- The world grows; what isn't written stays; a new entry is laid at the next id. q: the entry in the new state. -/
theorem HInv.new (H : HInv S B w0 h M w) (e : Ent) (bk : Bk) (hh : ∀ b, b < w.heap.size → w'.heap[b]? = w.heap[b]?) (hs : w.heap.size ≤ w'.heap.size) (bel : Below B w w')
    (hb : ∀ b, bk.blk = some b → w.heap.size ≤ b)
    (q : (∀ b, (cx S (h.new e) (set1 M h.next bk) w').Z b ↔ (cx S h M w).Z b ∨ bk.blk = some b) → Tr (cx S h M w) (cx S (h.new e) (set1 M h.next bk) w') → EntOk (cx S (h.new e) (set1 M h.next bk) w') h.next e) :
    HInv S B w0 (h.new e) (set1 M h.next bk) w' ∧ HStp S h M w (h.new e) (set1 M h.next bk) w' := by
  have ne : ∀ id, id ≠ h.next → (h.new e).e id = h.e id ∧ set1 M h.next bk id = M id := fun id q => by simp [Hp.new, set1, beq_false q]
  have ne' : ∀ id, h.e id ≠ none → id ≠ h.next := fun id q z => q (by rw [z]; exact H.fresh _ (Nat.le_refl _))
  have at_ : (h.new e).e h.next = some e ∧ set1 M h.next bk h.next = bk := by simp [Hp.new, set1, Nat.beq_refl]
  have hZ : ∀ b, (cx S (h.new e) (set1 M h.next bk) w').Z b ↔ (cx S h M w).Z b ∨ bk.blk = some b := by
    intro b
    constructor
    · rintro (z | ⟨id, e', q1, q2⟩)
      · exact .inl (.inl z)
      · by_cases hid : id = h.next
        · subst hid
          simp only [cx] at q2
          rw [at_.2] at q2
          exact .inr q2
        · simp only [cx] at q1 q2
          rw [(ne id hid).1] at q1
          rw [(ne id hid).2] at q2
          exact .inl (.inr ⟨id, e', q1, q2⟩)
    · rintro ((z | ⟨id, e', q1, q2⟩) | q2)
      · exact .inl z
      · have hid := ne' id (by rw [show h.e id = some e' from q1]; simp)
        refine .inr ⟨id, e', ?_, ?_⟩
        · show (h.new e).e id = _; rw [(ne id hid).1]; exact q1
        · show (set1 M h.next bk id).blk = _; rw [(ne id hid).2]; exact q2
      · exact .inr ⟨h.next, e, at_.1, by show (set1 M h.next bk h.next).blk = _; rw [at_.2]; exact q2⟩
  have k : Tr (cx S h M w) (cx S (h.new e) (set1 M h.next bk) w') := by
    refine ⟨fun b hlt hz => ⟨fun z => ?_, hh b hlt⟩, Nat.le_succ _, fun id hid => ?_⟩
    · rcases (hZ b).1 z with z | z
      · exact hz z
      · exact absurd (hb b z) (by simp only [cx] at hlt; omega)
    · have hid' : id ≠ h.next := by simp only [cx] at hid; omega
      show (h.new e).e id = none ∨ (h.e id = some .rsv ∧ M id = .nil) ∨ (set1 M h.next bk id = M id ∧ _)
      have := ids_self H id
      simp only [cx]
      rw [(ne id hid').1, (ne id hid').2]
      exact this
  refine ⟨⟨fun id e' hq => ?_, fun id hid => ?_, fun i j b hi hj => ?_, fun i b hi hib => ?_, H.bel.trans bel, Nat.le_trans H.bsz hs, H.old, H.bw⟩, k, rfl, fun id hid _ => ?_⟩
  · by_cases hid : id = h.next
    · subst hid
      rw [at_.1] at hq
      injection hq with hq
      subst hq
      exact q hZ k
    · rw [(ne id hid).1] at hq
      exact (H.ent id e' hq).tr k (ne id hid).2 (fun b hbb => hh b (blk_lt H (by rw [hq]; simp) hbb))
  · rw [(ne id (by simp only [Hp.new] at hid; omega)).1]
    exact H.fresh id (by simp only [Hp.new] at hid; omega)
  · by_cases hin : i = h.next
    · by_cases hjn : j = h.next
      · intro _ _; exact hin.trans hjn.symm
      · intro h1 h2
        subst hin
        rw [at_.2] at h1
        rw [(ne j hjn).1] at hj
        rw [(ne j hjn).2] at h2
        exact absurd (hb b h1) (by have := blk_lt H hj h2; omega)
    · by_cases hjn : j = h.next
      · intro h1 h2
        subst hjn
        rw [at_.2] at h2
        rw [(ne i hin).1] at hi
        rw [(ne i hin).2] at h1
        exact absurd (hb b h2) (by have := blk_lt H hi h1; omega)
      · rw [(ne i hin).1] at hi
        rw [(ne j hjn).1] at hj
        rw [(ne i hin).2, (ne j hjn).2]
        exact H.dist i j b hi hj
  · by_cases hin : i = h.next
    · subst hin
      rw [at_.2] at hib
      exact Nat.le_trans H.bsz (hb b hib)
    · rw [(ne i hin).1] at hi
      rw [(ne i hin).2] at hib
      exact H.own i b hi hib
  · exact ne id (by omega)

/-! ### an entry written -/
theorem HInv.upd (H : HInv S B w0 h M w) {id : Nat} {e e' : Ent} (he : h.e id = some e) (hl : h.lk id = false)
    (kind : (∃ v v' L, e = .box v L ∧ e' = .box v' L) ∨ (∃ t xs ys, e = .row t xs ∧ e' = .row t ys ∧ List.length ys = List.length xs))
    (hh : ∀ b, (M id).blk ≠ some b → w'.heap[b]? = w.heap[b]?) (hs : w.heap.size ≤ w'.heap.size) (bel : Below B w w')
    (q : Tr (cx S h M w) (cx S (h.put id e') M w') → EntOk (cx S (h.put id e') M w') id e') :
    HInv S B w0 (h.put id e') M w' ∧ HStp S h M w (h.put id e') M w' := by
  have ne : ∀ j, j ≠ id → (h.put id e').e j = h.e j := fun j q => by simp [Hp.put, set1, beq_false q]
  have at_ : (h.put id e').e id = some e' := by simp [Hp.put, set1, Nat.beq_refl]
  have live : ∀ j, (h.put id e').e j ≠ none → h.e j ≠ none := fun j q => by
    by_cases hj : j = id
    · subst hj; rw [he]; simp
    · rw [ne j hj] at q; exact q
  have hZ : ∀ b, (cx S (h.put id e') M w').Z b → (cx S h M w).Z b := by
    rintro b (z | ⟨j, f, q1, q2⟩)
    · exact .inl z
    · have := live j (by show (h.put id e').e j ≠ none; rw [show (h.put id e').e j = some f from q1]; simp)
      cases hj : h.e j with
      | none => exact absurd hj this
      | some g => exact .inr ⟨j, g, hj, q2⟩
  have k : Tr (cx S h M w) (cx S (h.put id e') M w') := by
    refine ⟨fun b hlt hz => ⟨fun z => hz (hZ b z), hh b (fun z => hz (.inr ⟨id, e, he, z⟩))⟩, Nat.le_refl _, fun j hj => ?_⟩
    show (h.put id e').e j = none ∨ (h.e j = some .rsv ∧ M j = .nil) ∨ (M j = M j ∧ _)
    by_cases hji : j = id
    · subst hji
      refine .inr (.inr ⟨rfl, ?_⟩)
      rcases kind with ⟨v, v', L, rfl, rfl⟩ | ⟨t, xs, ys, rfl, rfl, hlen⟩
      · exact .inl ⟨v, v', L, he, at_⟩
      · exact .inr ⟨t, xs, ys, he, at_, hlen⟩
    · rcases ids_self H j with q | q | ⟨_, q⟩
      · exact .inl (by rw [ne j hji]; exact q)
      · exact .inr (.inl q)
      · refine .inr (.inr ⟨rfl, ?_⟩)
        simp only [cx]
        rw [ne j hji]
        exact q
  refine ⟨⟨fun j f hq => ?_, fun j hj => ?_, fun i j b hi hj => H.dist i j b (live i hi) (live j hj), fun i b hi => H.own i b (live i hi), H.bel.trans bel, Nat.le_trans H.bsz hs, H.old, H.bw⟩, k, rfl, fun j hj hlk => ?_⟩
  · by_cases hji : j = id
    · subst hji
      rw [at_] at hq
      injection hq with hq
      subst hq
      exact q k
    · rw [ne j hji] at hq
      refine (H.ent j f hq).tr k rfl (fun b hb => hh b (fun z => hji ?_))
      exact H.dist j id b (by rw [hq]; simp) (by rw [he]; simp) hb z
  · have hji : j ≠ id := by rintro rfl; have := H.lt he; simp only [Hp.put] at hj; omega
    rw [ne j hji]
    exact H.fresh j hj
  · have hji : j ≠ id := by rintro rfl; rw [hl] at hlk; cases hlk
    exact ⟨ne j hji, rfl⟩

/-! ### a value as data -/
theorem Held.of_le {Z Z' : Nat → Prop} (w : World) (h : ∀ b, Z' b → Z b) : Held Z Z' w w := fun _ _ hz => ⟨fun z => hz (h _ z), rfl⟩

theorem toD_rep (H : HInv S B w0 h M w) {Z' : Nat → Prop} (hZ : ∀ b, Z' b → (cx S h M w).Z b) : ∀ (v : AV) (t : Ty) (x : t.D) (cs : List Value),
    (∀ id ∈ v.owns, ∀ b, h.e id ≠ none → (M id).blk = some b → ¬ Z' b) → toD h v t = some x → RepC (cx S h M w) v cs → RepD Z' w t x cs := by
  intro v
  induction v with
  | data t' x' =>
    intro t x cs _ hx hr
    simp only [toD] at hx
    split at hx
    · rename_i e; subst e
      injection hx with hx
      subst hx
      simp only [RepC] at hr
      exact hr.held (Held.of_le w hZ)
    · cases hx
  | nilS e =>
    intro t x cs _ hx hr
    cases t with
    | slice e' =>
      simp only [toD] at hx
      injection hx with hx
      subst hx
      simp only [RepC, Rep1] at hr
      obtain ⟨A, rfl⟩ := hr
      simp only [RepD]
      refine ⟨A, 0, rfl, Nat.le_refl _, ?_⟩
      simp
    | _ => simp [toD] at hx
  | own id =>
    intro t x cs hown hx hr
    cases t with
    | slice e' =>
      simp only [toD] at hx
      split at hx
      · rename_i e xs he
        split at hx
        · rename_i q; subst q
          injection hx with hx
          subst hx
          simp only [RepC, Rep1] at hr
          obtain ⟨hn, A, n, cap, rfl, hr⟩ := hr
          rcases hr with hr | hM
          · simp only [cx] at hr; rw [he] at hr; cases hr
          · obtain ⟨A', cap', h1, h2, h3⟩ := H.ent id _ he
            simp only [cx] at hM h1
            rw [hM] at h1
            injection h1 with h1 h1' h1''
            subst h1; subst h1'; subst h1''
            simp only [RepD]
            refine ⟨A, cap, rfl, h2, ?_⟩
            rcases h3 with h4 | ⟨hc, b, o, cs', el, rfl, h5, h6, h7⟩
            · left
              rw [h4] at h2
              exact List.eq_nil_of_length_eq_zero (by omega)
            · right
              refine ⟨b, o, rfl, (Array.getElem?_eq_some_iff.1 h5).1, hown id (by simp [AV.owns]) b (by rw [he]; simp) (by rw [hM]; exact blk_row hc), fun i y hy => ?_⟩
              obtain ⟨d, h8, h9⟩ := h7 i y hy
              exact ⟨d, h8.held (Held.of_le w hZ), h9⟩
        · cases hx
      · cases hx
    | _ => simp [toD] at hx
  | st b ih =>
    intro t x cs hown hx hr
    cases t with
    | st tb =>
      simp only [toD] at hx
      simp only [RepC] at hr
      simp only [RepD]
      exact ih tb x cs hown hx hr
    | _ => simp [toD] at hx
  | pr a r iha ihr =>
    intro t x cs hown hx hr
    cases t with
    | pair ta tr =>
      simp only [toD] at hx
      split at hx
      · rename_i y hy
        split at hx
        · rename_i z hz
          injection hx with hx
          subst hx
          simp only [RepC] at hr
          obtain ⟨c1, c2, rfl, h1, h2⟩ := hr
          simp only [RepD]
          exact ⟨c1, c2, rfl, iha ta y c1 (fun id hid => hown id (by simp [AV.owns, hid])) hy h1, ihr tr z c2 (fun id hid => hown id (by simp [AV.owns, hid])) hz h2⟩
        · cases hx
      · cases hx
    | _ => simp [toD] at hx
  | unit =>
    intro t x cs _ hx hr
    cases t with
    | unit => simp only [RepC] at hr; simpa [RepD] using hr
    | _ => simp [toD] at hx
  | undef => intro t x cs _ hx hr; simp [toD] at hx
  | ptr id p => intro t x cs _ hx hr; simp [toD] at hx
  | rptr t' x' => intro t x cs _ hx hr; simp [toD] at hx
  | eptr id i p => intro t x cs _ hx hr; simp [toD] at hx
  | fn f d => intro t x cs _ hx hr; simp [toD] at hx
  | tup b => intro t x cs _ hx hr; simp [toD] at hx

/-- What freezing gives: data that nobody may write any more. -/
theorem freeze_rep (H : HInv S B w0 h M w) {v : AV} {t : Ty} {x : t.D} {cs : List Value} (hx : toD h v t = some x) (hr : RepC (cx S h M w) v cs) :
    RepD (cx S (h.kills v.owns) M w).Z w t x cs := by
  refine toD_rep H (fun b z => ?_) v t x cs (fun id hid b hl hb z => ?_) hx hr
  · rcases z with z | ⟨i, e, q1, q2⟩
    · exact .inl z
    · simp only [cx] at q1
      rw [kills_e] at q1
      split at q1
      · cases q1
      · exact .inr ⟨i, e, q1, q2⟩
  · rcases z with z | ⟨i, e, q1, q2⟩
    · have := H.own id b hl hb
      have := H.old b z
      omega
    · simp only [cx] at q1 q2
      rw [kills_e] at q1
      split at q1
      · cases q1
      · rename_i hni
        have := H.dist id i b hl (by rw [q1]; simp) hb q2
        subst this
        exact hni hid

/-- The same of a slot's value. -/
theorem toD_solid {h : Hp} : ∀ (v : AV) (t : Ty) (x : t.D), toD h v t = some x → v ≠ .unit → v.solid = true := by
  intro v
  induction v with
  | pr a r iha ihr =>
    intro t x hx hu
    cases t with
    | pair ta tr =>
      simp only [toD] at hx
      split at hx
      · rename_i y hy
        split at hx
        · rename_i z hz
          have h1 : a.solid = true := by cases a with
            | unit => rfl
            | _ => exact iha ta y hy (by simp)
          have h2 : r.solid = true := by cases r with
            | unit => rfl
            | _ => exact ihr tr z hz (by simp)
          simp [AV.solid, h1, h2]
        · cases hx
      · cases hx
    | _ => simp [toD] at hx
  | st b ih =>
    intro t x hx hu
    cases t with
    | st tb =>
      simp only [toD] at hx
      simp only [AV.solid]
      cases b with
      | unit => rfl
      | _ => exact ih tb x hx (by simp)
    | _ => simp [toD] at hx
  | undef => intro t x hx; simp [toD] at hx
  | tup b => intro t x hx; simp [toD] at hx
  | _ => intros; rfl
end Go.PG

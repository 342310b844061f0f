/- The evaluator's soundness: what its values stand for. -/
import Derived.Test.YtmklilemnfkppaaPG
import Derived.Laws.CopyRow
import Derived.Deep.MidRow
import Derived.Laws.AppendOwn
import Derived.Below
import Derived.Deep.LoopGhost
set_option linter.all false
namespace Go.PG
open Go.RowKit

/-! ### what a value stands for -/
inductive Bk where
  | box (b : Nat)
  | row (A : Option Addr) (n cap : Nat)
  | nil
def Bk.blk : Bk → Option Nat
  | .box b => some b
  | .row _ _ 0 => none
  | .nil => none
  | .row A _ (_ + 1) => A.map (·.block)
theorem blk_row {b o n cap : Nat} (h : cap ≠ 0) : (Bk.row (some ⟨b, o, none⟩) n cap).blk = some b := by
  cases cap with
  | zero => exact absurd rfl h
  | succ c => rfl
theorem blk_some {A : Option Addr} {n cap b : Nat} (h : (Bk.row A n cap).blk = some b) : cap ≠ 0 ∧ ∃ a, A = some a ∧ a.block = b := by
  cases cap with
  | zero => cases h
  | succ c => cases A with
    | none => cases h
    | some a => exact ⟨by omega, a, rfl, by simpa [Bk.blk] using h⟩

structure Cx where
  S : Nat → Prop
  w : World
  h : Nat → Option Ent
  M : Nat → Bk
  nx : Nat

/-- A block that somebody may write. -/
def Cx.Z (c : Cx) (b : Nat) : Prop := c.S b ∨ ∃ id e, c.h id = some e ∧ (c.M id).blk = some b

/-- Cells from a place on. -/
def Mem (w : World) (b o : Nat) (cs : List Value) : Prop := ∀ j v, cs[j]? = some v → w.cell? ⟨b, o + j, none⟩ = some v

def RepD (Z : Nat → Prop) (w : World) : (t : Ty) → t.D → List Value → Prop
  | .unit, _, cs => cs = []
  | .opq, _, _ => False
  | .bool, x, cs => cs = [.bool x]
  | .int k, x, cs => cs = [.int k x]
  | .str, x, cs => cs = [.string x]
  | .slice e, xs, cs => ∃ A cap, cs = [.slice A (List.length xs) cap] ∧ List.length xs ≤ cap ∧
      (xs = [] ∨ ∃ b o, A = some ⟨b, o, none⟩ ∧ b < w.heap.size ∧ ¬ Z b ∧
        ∀ i x, xs[i]? = some x → ∃ c, RepD Z w e x c ∧ Mem w b (o + i * e.size) c)
  | .st b, x, cs => RepD Z w b x cs
  | .pair a b, x, cs => ∃ c1 c2, cs = c1 ++ c2 ∧ RepD Z w a x.1 c1 ∧ RepD Z w b x.2 c2

theorem RepD.len {Z : Nat → Prop} {w : World} : ∀ {t : Ty} {x : t.D} {cs : List Value}, RepD Z w t x cs → cs.length = t.size := by
  intro t
  induction t with
  | unit => intro x cs h; simp only [RepD] at h; subst h; rfl
  | bool => intro x cs h; simp only [RepD] at h; subst h; rfl
  | str => intro x cs h; simp only [RepD] at h; subst h; rfl
  | opq => intro x cs h; exact h.elim
  | int k => intro x cs h; simp only [RepD] at h; subst h; rfl
  | slice e ih => intro x cs h; simp only [RepD] at h; obtain ⟨A, cap, rfl, _⟩ := h; rfl
  | st b ih => intro x cs h; simp only [RepD] at h; exact ih h
  | pair a b iha ihb =>
    intro x cs h
    simp only [RepD] at h
    obtain ⟨c1, c2, rfl, h1, h2⟩ := h
    simp [Ty.size, iha h1, ihb h2]

/-- Where one may not write nothing has turned. -/
def Held (Z Z' : Nat → Prop) (w w' : World) : Prop := ∀ b, b < w.heap.size → ¬ Z b → ¬ Z' b ∧ w'.heap[b]? = w.heap[b]?

theorem cell_of_heap {w w' : World} {b o : Nat} (h : w'.heap[b]? = w.heap[b]?) : w'.cell? ⟨b, o, none⟩ = w.cell? ⟨b, o, none⟩ := by
  unfold World.cell?; rw [h]

theorem lt_of_get {w w' : World} {b : Nat} (hb : b < w.heap.size) (h : w'.heap[b]? = w.heap[b]?) : b < w'.heap.size := by
  rw [Array.getElem?_eq_getElem hb] at h
  exact (Array.getElem?_eq_some_iff.1 h).1

theorem RepD.held {Z Z' : Nat → Prop} {w w' : World} (hk : Held Z Z' w w') : ∀ {t : Ty} {x : t.D} {cs : List Value}, RepD Z w t x cs → RepD Z' w' t x cs := by
  intro t
  induction t with
  | unit => exact id
  | bool => exact id
  | str => exact id
  | opq => exact id
  | int k => exact id
  | st b ih => intro x cs h; simp only [RepD] at h ⊢; exact ih h
  | pair a b iha ihb =>
    intro x cs h
    simp only [RepD] at h ⊢
    obtain ⟨c1, c2, rfl, h1, h2⟩ := h
    exact ⟨c1, c2, rfl, iha h1, ihb h2⟩
  | slice e ih =>
    intro xs cs h
    simp only [RepD] at h ⊢
    obtain ⟨A, cap, rfl, hle, h⟩ := h
    refine ⟨A, cap, rfl, hle, ?_⟩
    rcases h with h | ⟨b, o, rfl, hb, hz, h⟩
    · exact .inl h
    · obtain ⟨hz', hw⟩ := hk b hb hz
      refine .inr ⟨b, o, rfl, lt_of_get hb hw, hz', fun i x hx => ?_⟩
      obtain ⟨c, hc, hm⟩ := h i x hx
      exact ⟨c, ih hc, fun j v hv => (cell_of_heap hw).trans (hm j v hv)⟩

/-- Values of one cell that bear no parts. -/
def Rep1 (c : Cx) : AV → List Value → Prop
  | .nilS _, cs => ∃ A, cs = [.slice A 0 0]
  | .own id, cs => id < c.nx ∧ ∃ A n cap, cs = [.slice A n cap] ∧ (c.h id = none ∨ c.M id = .row A n cap)
  | .ptr id p, cs => id < c.nx ∧ ∃ q, cs = [.pointer q] ∧ (c.h id = none ∨ ∃ b v L o u, c.M id = .box b ∧ c.h id = some (.box v L) ∧ offs L p = some (o, u) ∧ q = some ⟨b, o, none⟩)
  | .rptr t x, cs => ∃ b o d, cs = [.pointer (some ⟨b, o, none⟩)] ∧ b < c.w.heap.size ∧ ¬ c.Z b ∧ RepD c.Z c.w t x d ∧ Mem c.w b o d
  | .eptr id i p, cs => id < c.nx ∧ ∃ z, cs = [.pointer z] ∧ (c.h id = none ∨ ∃ b o n cap e xs q u, c.M id = .row (some ⟨b, o, none⟩) n cap ∧ c.h id = some (.row e xs) ∧ 0 ≤ i ∧
      i.toNat < List.length xs ∧ offs e p = some (q, u) ∧ z = some ⟨b, o + i.toNat * e.size + q, none⟩)
  | _, _ => False

mutual
def RepC (c : Cx) : AV → List Value → Prop
  | .undef, cs => ∃ v, cs = [v] ∧ v.oneCell' = true
  | .unit, cs => cs = []
  | .data t x, cs => RepD c.Z c.w t x cs
  | .fn f d, cs => ∃ vs, cs = [.func (.func f) #[] vs] ∧ RepT c d vs.toList
  | .st b, cs => RepC c b cs
  | .pr a r, cs => ∃ c1 c2, cs = c1 ++ c2 ∧ RepC c a c1 ∧ RepC c r c2
  | .tup _, _ => False
  | v, cs => Rep1 c v cs
def RepV (c : Cx) : AV → Value → Prop
  | .undef, _ => True
  | .tup b, v => ∃ vs, v = .tuple vs ∧ RepT c b vs.toList
  | .data t x, v => (isSt t = true ∧ ∃ cs, v = .agg cs ∧ RepD c.Z c.w t x cs.toList) ∨ (isSt t = false ∧ RepD c.Z c.w t x [v])
  | .st b, v => ∃ cs, v = .agg cs ∧ RepC c b cs.toList
  | .unit, _ => False
  | .pr _ _, _ => False
  | .fn f d, v => ∃ vs, v = .func (.func f) #[] vs ∧ RepT c d vs.toList
  | u, v => Rep1 c u [v]
def RepT (c : Cx) : AV → List Value → Prop
  | .unit, vs => vs = []
  | .pr a r, vs => ∃ v vs', vs = v :: vs' ∧ RepV c a v ∧ RepT c r vs'
  | .undef, vs => ∃ v, vs = [v]
  | .tup b, vs => ∃ us, vs = [.tuple us] ∧ RepT c b us.toList
  | .data t x, vs => ∃ v, vs = [v] ∧ ((isSt t = true ∧ ∃ cs, v = .agg cs ∧ RepD c.Z c.w t x cs.toList) ∨ (isSt t = false ∧ RepD c.Z c.w t x [v]))
  | .st b, vs => ∃ cs, vs = [.agg cs] ∧ RepC c b cs.toList
  | .fn f d, vs => ∃ ws, vs = [.func (.func f) #[] ws] ∧ RepT c d ws.toList
  | u, vs => ∃ v, vs = [v] ∧ Rep1 c u [v]
end

/-! ### from one state to a later one -/
/-- What values need of a later state. -/
structure Tr (c d : Cx) : Prop where
  held : Held c.Z d.Z c.w d.w
  nx : c.nx ≤ d.nx
  ids : ∀ id, id < c.nx → d.h id = none ∨ (c.h id = some .rsv ∧ c.M id = .nil) ∨ (d.M id = c.M id ∧ ((∃ v v' L, c.h id = some (.box v L) ∧ d.h id = some (.box v' L)) ∨
    (∃ e xs ys, c.h id = some (.row e xs) ∧ d.h id = some (.row e ys) ∧ List.length ys = List.length xs)))

theorem Rep1.tr {c d : Cx} (k : Tr c d) {v : AV} {cs : List Value} (h : Rep1 c v cs) : Rep1 d v cs := by
  cases v with
  | nilS e => exact h
  | own id =>
    obtain ⟨hn, A, n, cap, hc, h⟩ := h
    refine ⟨Nat.lt_of_lt_of_le hn k.nx, A, n, cap, hc, ?_⟩
    rcases k.ids id hn with e | ⟨e, eM⟩ | ⟨hM, e⟩
    · exact .inl e
    · rcases h with h | h1
      · rw [e] at h; cases h
      · rw [eM] at h1; cases h1
    · rcases h with h | h1
      · rcases e with ⟨_, _, _, e, _⟩ | ⟨_, _, _, e, _⟩ <;> simp [h] at e
      · exact .inr (hM.trans h1)
  | ptr id p =>
    obtain ⟨hn, z, hc, h⟩ := h
    refine ⟨Nat.lt_of_lt_of_le hn k.nx, z, hc, ?_⟩
    rcases k.ids id hn with e | ⟨e, eM⟩ | ⟨hM, e⟩
    · exact .inl e
    · rcases h with h | ⟨_, _, _, _, _, _, h2, _⟩
      · rw [e] at h; cases h
      · rw [e] at h2; cases h2
    · rcases h with h | ⟨b, v, L, o, u, h1, h2, h3, h4⟩
      · rcases e with ⟨_, _, _, e, _⟩ | ⟨_, _, _, e, _⟩ <;> simp [h] at e
      · rcases e with ⟨_, v', _, e1, e2⟩ | ⟨_, _, _, e, _⟩
        · rw [h2] at e1
          injection e1 with e1
          injection e1 with e0 e1
          subst e1
          exact .inr ⟨b, v', L, o, u, hM.trans h1, e2, h3, h4⟩
        · simp [h2] at e
  | rptr t x =>
    obtain ⟨b, o, cs', rfl, hb, hz, hr, hm⟩ := h
    obtain ⟨hz', hw⟩ := k.held b hb hz
    exact ⟨b, o, cs', rfl, lt_of_get hb hw, hz', hr.held k.held, fun j v hv => (cell_of_heap hw).trans (hm j v hv)⟩
  | eptr id i p =>
    obtain ⟨hn, z, hc, h⟩ := h
    refine ⟨Nat.lt_of_lt_of_le hn k.nx, z, hc, ?_⟩
    rcases k.ids id hn with e | ⟨e, eM⟩ | ⟨hM, e⟩
    · exact .inl e
    · rcases h with h | ⟨_, _, _, _, _, _, _, _, _, h2, _⟩
      · rw [e] at h; cases h
      · rw [e] at h2; cases h2
    · rcases h with h | ⟨b, o, n, cap, t, xs, q, u, h1, h2, h3, h4, h5, h6⟩
      · rcases e with ⟨_, _, _, e, _⟩ | ⟨_, _, _, e, _⟩ <;> simp [h] at e
      · rcases e with ⟨_, _, _, e, _⟩ | ⟨t', ys, zs, e1, e2, e3⟩
        · simp [h2] at e
        · rw [h2] at e1
          injection e1 with e1
          injection e1 with e0 e1
          subst e0
          have e1 := eq_of_heq e1
          subst e1
          exact .inr ⟨b, o, n, cap, t, zs, q, u, hM.trans h1, e2, h3, by omega, h5, h6⟩
  | _ => exact h.elim

mutual
theorem RepC.tr {c d : Cx} (k : Tr c d) : ∀ (v : AV) (cs : List Value), RepC c v cs → RepC d v cs
  | .undef, _, h => by simp only [RepC] at h ⊢; exact h
  | .unit, _, h => by simp only [RepC] at h ⊢; exact h
  | .data t x, _, h => by simp only [RepC] at h ⊢; exact h.held k.held
  | .fn f a, _, h => by
    simp only [RepC] at h ⊢
    obtain ⟨vs, e, h⟩ := h
    exact ⟨vs, e, RepT.tr k a _ h⟩
  | .st b, cs, h => by simp only [RepC] at h ⊢; exact RepC.tr k b cs h
  | .pr a r, _, h => by
    simp only [RepC] at h ⊢
    obtain ⟨c1, c2, e, h1, h2⟩ := h
    exact ⟨c1, c2, e, RepC.tr k a c1 h1, RepC.tr k r c2 h2⟩
  | .tup _, _, h => by simp only [RepC] at h
  | .nilS _, _, h => by simp only [RepC] at h ⊢; exact h.tr k
  | .own _, _, h => by simp only [RepC] at h ⊢; exact h.tr k
  | .ptr _ _, _, h => by simp only [RepC] at h ⊢; exact h.tr k
  | .rptr _ _, _, h => by simp only [RepC] at h ⊢; exact h.tr k
  | .eptr _ _ _, _, h => by simp only [RepC] at h ⊢; exact h.tr k
theorem RepV.tr {c d : Cx} (k : Tr c d) : ∀ (v : AV) (u : Value), RepV c v u → RepV d v u
  | .undef, _, _ => by simp only [RepV]
  | .unit, _, h => by simp only [RepV] at h
  | .data t x, _, h => by
    simp only [RepV] at h ⊢
    rcases h with ⟨e, cs, rfl, h⟩ | ⟨e, h⟩
    · exact .inl ⟨e, cs, rfl, h.held k.held⟩
    · exact .inr ⟨e, h.held k.held⟩
  | .fn f a, _, h => by
    simp only [RepV] at h ⊢
    obtain ⟨vs, e, h⟩ := h
    exact ⟨vs, e, RepT.tr k a _ h⟩
  | .st b, _, h => by
    simp only [RepV] at h ⊢
    obtain ⟨cs, e, h⟩ := h
    exact ⟨cs, e, RepC.tr k b _ h⟩
  | .pr _ _, _, h => by simp only [RepV] at h
  | .tup b, _, h => by
    simp only [RepV] at h ⊢
    obtain ⟨vs, e, h⟩ := h
    exact ⟨vs, e, RepT.tr k b _ h⟩
  | .nilS _, _, h => by simp only [RepV] at h ⊢; exact h.tr k
  | .own _, _, h => by simp only [RepV] at h ⊢; exact h.tr k
  | .ptr _ _, _, h => by simp only [RepV] at h ⊢; exact h.tr k
  | .rptr _ _, _, h => by simp only [RepV] at h ⊢; exact h.tr k
  | .eptr _ _ _, _, h => by simp only [RepV] at h ⊢; exact h.tr k
theorem RepT.tr {c d : Cx} (k : Tr c d) : ∀ (v : AV) (us : List Value), RepT c v us → RepT d v us
  | .unit, _, h => by simp only [RepT] at h ⊢; exact h
  | .pr a r, _, h => by
    simp only [RepT] at h ⊢
    obtain ⟨v, vs, e, h1, h2⟩ := h
    exact ⟨v, vs, e, RepV.tr k a v h1, RepT.tr k r vs h2⟩
  | .undef, _, h => by simp only [RepT] at h ⊢; exact h
  | .tup b, _, h => by
    simp only [RepT] at h ⊢
    obtain ⟨vs, e, h⟩ := h
    exact ⟨vs, e, RepT.tr k b _ h⟩
  | .data t x, _, h => by
    simp only [RepT] at h ⊢
    obtain ⟨v, rfl, h⟩ := h
    refine ⟨v, rfl, ?_⟩
    rcases h with ⟨e, cs, rfl, h⟩ | ⟨e, h⟩
    · exact .inl ⟨e, cs, rfl, h.held k.held⟩
    · exact .inr ⟨e, h.held k.held⟩
  | .st b, _, h => by
    simp only [RepT] at h ⊢
    obtain ⟨cs, e, h⟩ := h
    exact ⟨cs, e, RepC.tr k b _ h⟩
  | .fn f a, _, h => by
    simp only [RepT] at h ⊢
    obtain ⟨vs, e, h⟩ := h
    exact ⟨vs, e, RepT.tr k a _ h⟩
  | .nilS _, _, h => by simp only [RepT] at h ⊢; obtain ⟨v, e, h⟩ := h; exact ⟨v, e, h.tr k⟩
  | .own _, _, h => by simp only [RepT] at h ⊢; obtain ⟨v, e, h⟩ := h; exact ⟨v, e, h.tr k⟩
  | .ptr _ _, _, h => by simp only [RepT] at h ⊢; obtain ⟨v, e, h⟩ := h; exact ⟨v, e, h.tr k⟩
  | .rptr _ _, _, h => by simp only [RepT] at h ⊢; obtain ⟨v, e, h⟩ := h; exact ⟨v, e, h.tr k⟩
  | .eptr _ _ _, _, h => by simp only [RepT] at h ⊢; obtain ⟨v, e, h⟩ := h; exact ⟨v, e, h.tr k⟩
end

theorem Held.refl (Z : Nat → Prop) (w : World) : Held Z Z w w := fun _ _ hz => ⟨hz, rfl⟩
theorem Held.trans {Z1 Z2 Z3 : Nat → Prop} {w1 w2 w3 : World} (h : Held Z1 Z2 w1 w2) (k : Held Z2 Z3 w2 w3) : Held Z1 Z3 w1 w3 := fun b hb hz => by
  obtain ⟨hz2, e⟩ := h b hb hz
  obtain ⟨hz3, e'⟩ := k b (lt_of_get hb e) hz2
  exact ⟨hz3, e'.trans e⟩
theorem Tr.trans {c d e : Cx} (h : Tr c d) (k : Tr d e) : Tr c e := by
  refine ⟨h.held.trans k.held, Nat.le_trans h.nx k.nx, fun id hid => ?_⟩
  rcases k.ids id (Nat.lt_of_lt_of_le hid h.nx) with q | ⟨q, _⟩ | ⟨qM, q⟩
  · exact .inl q
  · rcases h.ids id hid with r | r | ⟨_, r⟩
    · rw [q] at r; cases r
    · exact .inr (.inl r)
    · rcases r with ⟨_, _, _, _, r⟩ | ⟨_, _, _, _, r, _⟩ <;> (rw [q] at r; cases r)
  · rcases h.ids id hid with r | r | ⟨rM, r⟩
    · rcases q with ⟨_, _, _, q, _⟩ | ⟨_, _, _, q, _⟩ <;> simp [r] at q
    · exact .inr (.inl r)
    · refine .inr (.inr ⟨qM.trans rM, ?_⟩)
      rcases q with ⟨v, v', L, q1, q2⟩ | ⟨t, xs, ys, q1, q2, q3⟩
      · rcases r with ⟨u, u', L', r1, r2⟩ | ⟨t, xs, ys, r1, r2, r3⟩
        · rw [r2] at q1
          injection q1 with q1
          injection q1 with _ q1
          subst q1
          exact .inl ⟨u, v', L', r1, q2⟩
        · simp [r2] at q1
      · rcases r with ⟨u, u', L', r1, r2⟩ | ⟨t', xs', ys', r1, r2, r3⟩
        · simp [r2] at q1
        · rw [r2] at q1
          injection q1 with q1
          injection q1 with q0 q1
          subst q0
          have q1 := eq_of_heq q1
          subst q1
          exact .inr ⟨t', xs', ys, r1, q2, q3.trans r3⟩

/-! ### cells are of one cell -/
theorem RepD.one {Z : Nat → Prop} {w : World} : ∀ {t : Ty} {x : t.D} {cs : List Value}, RepD Z w t x cs → ∀ v ∈ cs, v.oneCell' = true := by
  intro t
  induction t with
  | unit => intro x cs h; simp only [RepD] at h; subst h; simp
  | bool => intro x cs h; simp only [RepD] at h; subst h; simp [Value.oneCell']
  | str => intro x cs h; simp only [RepD] at h; subst h; simp [Value.oneCell']
  | opq => intro x cs h; exact h.elim
  | int k => intro x cs h; simp only [RepD] at h; subst h; simp [Value.oneCell']
  | slice e ih => intro x cs h; simp only [RepD] at h; obtain ⟨A, cap, rfl, _⟩ := h; simp [Value.oneCell']
  | st b ih => intro x cs h; simp only [RepD] at h; exact ih h
  | pair a b iha ihb =>
    intro x cs h
    simp only [RepD] at h
    obtain ⟨c1, c2, rfl, h1, h2⟩ := h
    intro v hv
    rcases List.mem_append.1 hv with hv | hv
    · exact iha h1 v hv
    · exact ihb h2 v hv

theorem Rep1.one {c : Cx} {v : AV} {cs : List Value} (h : Rep1 c v cs) : ∃ u, cs = [u] ∧ u.oneCell' = true := by
  cases v with
  | nilS e => obtain ⟨A, rfl⟩ := h; exact ⟨_, rfl, rfl⟩
  | own id => obtain ⟨_, A, n, cap, rfl, _⟩ := h; exact ⟨_, rfl, rfl⟩
  | ptr id p => obtain ⟨_, q, rfl, _⟩ := h; exact ⟨_, rfl, rfl⟩
  | rptr t x => obtain ⟨b, o, d, rfl, _⟩ := h; exact ⟨_, rfl, rfl⟩
  | eptr id i p => obtain ⟨_, q, rfl, _⟩ := h; exact ⟨_, rfl, rfl⟩
  | _ => exact h.elim

theorem RepC.one {c : Cx} : ∀ (v : AV) (cs : List Value), RepC c v cs → ∀ u ∈ cs, u.oneCell' = true
  | .undef, _, h => by simp only [RepC] at h; obtain ⟨v, rfl, e⟩ := h; simpa using e
  | .unit, _, h => by simp only [RepC] at h; subst h; simp
  | .data t x, _, h => by simp only [RepC] at h; exact h.one
  | .fn f a, _, h => by simp only [RepC] at h; obtain ⟨vs, rfl, h⟩ := h; simp [Value.oneCell']
  | .st b, cs, h => by simp only [RepC] at h; exact RepC.one b cs h
  | .pr a r, _, h => by
    simp only [RepC] at h
    obtain ⟨c1, c2, rfl, h1, h2⟩ := h
    intro v hv
    rcases List.mem_append.1 hv with hv | hv
    · exact RepC.one a c1 h1 v hv
    · exact RepC.one r c2 h2 v hv
  | .tup _, _, h => by simp only [RepC] at h
  | .nilS _, _, h => by simp only [RepC] at h; obtain ⟨u, rfl, e⟩ := h.one; simpa using e
  | .own _, _, h => by simp only [RepC] at h; obtain ⟨u, rfl, e⟩ := h.one; simpa using e
  | .ptr _ _, _, h => by simp only [RepC] at h; obtain ⟨u, rfl, e⟩ := h.one; simpa using e
  | .rptr _ _, _, h => by simp only [RepC] at h; obtain ⟨u, rfl, e⟩ := h.one; simpa using e
  | .eptr _ _ _, _, h => by simp only [RepC] at h; obtain ⟨u, rfl, e⟩ := h.one; simpa using e

theorem oneCell_cells {v : Value} (h : v.oneCell' = true) : v.cells = #[v] := by
  cases v <;> first | rfl | simp [Value.oneCell'] at h

theorem repV_cells {c : Cx} : ∀ (a : AV) (v : Value), a.solid = true → RepV c a v → RepC c a v.cells.toList
  | .undef, _, s, _ => by simp [AV.solid] at s
  | .unit, _, _, h => by simp only [RepV] at h
  | .data t x, v, _, h => by
    simp only [RepV, RepC] at h ⊢
    rcases h with ⟨_, cs, rfl, h⟩ | ⟨_, h⟩
    · exact h
    · rw [oneCell_cells (h.one v (by simp))]; exact h
  | .fn f a, _, _, h => by
    simp only [RepV, RepC] at h ⊢
    obtain ⟨vs, rfl, h⟩ := h
    exact ⟨vs, rfl, h⟩
  | .st b, _, _, h => by
    simp only [RepV, RepC] at h ⊢
    obtain ⟨cs, rfl, h⟩ := h
    exact h
  | .pr _ _, _, _, h => by simp only [RepV] at h
  | .tup b, _, s, _ => by simp [AV.solid] at s
  | .nilS _, v, _, h => by simp only [RepV, RepC] at h ⊢; obtain ⟨u, e, q⟩ := h.one; injection e with e; subst e; rw [oneCell_cells q]; exact h
  | .own _, v, _, h => by simp only [RepV, RepC] at h ⊢; obtain ⟨u, e, q⟩ := h.one; injection e with e; subst e; rw [oneCell_cells q]; exact h
  | .ptr _ _, v, _, h => by simp only [RepV, RepC] at h ⊢; obtain ⟨u, e, q⟩ := h.one; injection e with e; subst e; rw [oneCell_cells q]; exact h
  | .rptr _ _, v, _, h => by simp only [RepV, RepC] at h ⊢; obtain ⟨u, e, q⟩ := h.one; injection e with e; subst e; rw [oneCell_cells q]; exact h
  | .eptr _ _ _, v, _, h => by simp only [RepV, RepC] at h ⊢; obtain ⟨u, e, q⟩ := h.one; injection e with e; subst e; rw [oneCell_cells q]; exact h
end Go.PG

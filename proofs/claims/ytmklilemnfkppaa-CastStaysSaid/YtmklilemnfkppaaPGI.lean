/- The evaluator's soundness: rows. -/
import Derived.Test.YtmklilemnfkppaaPGG
set_option linter.all false
namespace Go.PG
open Go.RowKit

variable {Pg : Program} {G : World → Prop} {E : Env} {S : Nat → Prop} {B : Nat} {w0 w w' : World} {h : Hp} {M : Nat → Bk} {ρ : Type} {K : AV → Hp → Option ρ} {r : ρ} {st : St} {a : Act} {o : Oper}

/-- Rows are given up, and a new entry is laid: in new memory, or in that of one of them. -/
theorem HInv.renew (H : HInv S B w0 h M w) {l : List Nat} (u : unlocked h l = true) (e : Ent) (bk : Bk)
    (hh : ∀ b, b < w.heap.size → (¬ (cx S h M w).Z b ∨ ∃ id, h.e id ≠ none ∧ id ∉ l ∧ (M id).blk = some b) → w'.heap[b]? = w.heap[b]?) (hs : w.heap.size ≤ w'.heap.size) (bel : Below B w w')
    (hb : ∀ b, bk.blk = some b → w.heap.size ≤ b ∨ ∃ id, id ∈ l ∧ h.e id ≠ none ∧ (M id).blk = some b)
    (q : Tr (cx S h M w) (cx S ((h.kills l).new e) (set1 M h.next bk) w') → EntOk (cx S ((h.kills l).new e) (set1 M h.next bk) w') h.next e) :
    HInv S B w0 ((h.kills l).new e) (set1 M h.next bk) w' ∧ HStp S h M w ((h.kills l).new e) (set1 M h.next bk) w' := by
  have hn : (h.kills l).next = h.next := kills_next l h
  have ne : ∀ id, id ≠ h.next → ((h.kills l).new e).e id = (if id ∈ l then none else h.e id) ∧ set1 M h.next bk id = M id := fun id q => by
    simp only [Hp.new, hn, set1, beq_false q, kills_e, and_self]
  have at_ : ((h.kills l).new e).e h.next = some e ∧ set1 M h.next bk h.next = bk := by simp [Hp.new, hn, set1, Nat.beq_refl]
  have live : ∀ id f, id ≠ h.next → ((h.kills l).new e).e id = some f → h.e id = some f ∧ id ∉ l := fun id f q z => by
    rw [(ne id q).1] at z
    split at z
    · cases z
    · rename_i hl; exact ⟨z, hl⟩
  have live' : ∀ id, id ≠ h.next → ((h.kills l).new e).e id ≠ none → h.e id ≠ none ∧ id ∉ l := fun id q z => by
    cases hz : ((h.kills l).new e).e id with
    | none => exact absurd hz z
    | some f => obtain ⟨h1, h2⟩ := live id f q hz; exact ⟨by rw [h1]; simp, h2⟩
  have hZ : ∀ b, (cx S ((h.kills l).new e) (set1 M h.next bk) w').Z b → (cx S h M w).Z b ∨ w.heap.size ≤ b := by
    rintro b (z | ⟨id, f, q1, q2⟩)
    · exact .inl (.inl z)
    · simp only [cx] at q1 q2
      by_cases hid : id = h.next
      · subst hid
        rw [at_.2] at q2
        rcases hb b q2 with z | ⟨j, _, h1, h2⟩
        · exact .inr z
        · cases hj : h.e j with
          | none => exact absurd hj h1
          | some g => exact .inl (.inr ⟨j, g, hj, h2⟩)
      · rw [(ne id hid).2] at q2
        exact .inl (.inr ⟨id, f, (live id f hid q1).1, q2⟩)
  have k : Tr (cx S h M w) (cx S ((h.kills l).new e) (set1 M h.next bk) w') := by
    refine ⟨fun b hlt hz => ⟨fun z => ?_, hh b hlt (.inl hz)⟩, by simp [cx, Hp.new, hn], fun id hid => ?_⟩
    · rcases hZ b z with z | z
      · exact hz z
      · simp only [cx] at hlt; omega
    · have hid' : id ≠ h.next := by simp only [cx] at hid; omega
      simp only [cx]
      rw [(ne id hid').1, (ne id hid').2]
      by_cases hl : id ∈ l
      · simp [hl]
      · simp only [hl, if_false]
        rcases ids_self H id with q | q | ⟨_, q⟩
        · exact .inl q
        · exact .inr (.inl q)
        · exact .inr (.inr ⟨trivial, q⟩)
  refine ⟨⟨fun id f hq => ?_, fun id hid => ?_, fun i j b hi hj => ?_, fun i b hi hib => ?_, H.bel.trans bel, Nat.le_trans H.bsz hs, H.old, H.bw⟩, k, by simp only [Hp.new]; exact kills_lk l h, fun id hid hlk => ?_⟩
  · by_cases hid : id = h.next
    · subst hid
      rw [at_.1] at hq
      injection hq with hq
      subst hq
      exact q k
    · obtain ⟨h1, h2⟩ := live id f hid hq
      exact (H.ent id f h1).tr k (ne id hid).2 (fun b hbb => hh b (blk_lt H (by rw [h1]; simp) hbb) (.inr ⟨id, by rw [h1]; simp, h2, hbb⟩))
  · have : id ≠ h.next := by simp only [Hp.new, hn] at hid; omega
    rw [(ne id this).1]
    split
    · rfl
    · exact H.fresh id (by simp only [Hp.new, hn] at hid; omega)
  · have part : ∀ i b, i ≠ h.next → ((h.kills l).new e).e i ≠ none → (M i).blk = some b → bk.blk = some b → False := by
      intro i b hin hi h1 h2
      obtain ⟨h3, h4⟩ := live' i hin hi
      rcases hb b h2 with z | ⟨j, hj, h5, h6⟩
      · have := blk_lt H h3 h1; omega
      · have := H.dist i j b h3 h5 h1 h6
        subst this
        exact h4 hj
    by_cases hin : i = h.next
    · by_cases hjn : j = h.next
      · intro _ _; exact hin.trans hjn.symm
      · intro h1 h2
        subst hin
        rw [at_.2] at h1
        rw [(ne j hjn).2] at h2
        exact (part j b hjn hj h2 h1).elim
    · by_cases hjn : j = h.next
      · intro h1 h2
        subst hjn
        rw [at_.2] at h2
        rw [(ne i hin).2] at h1
        exact (part i b hin hi h1 h2).elim
      · rw [(ne i hin).2, (ne j hjn).2]
        exact H.dist i j b (live' i hin hi).1 (live' j hjn hj).1
  · by_cases hin : i = h.next
    · subst hin
      rw [at_.2] at hib
      rcases hb b hib with z | ⟨j, _, h1, h2⟩
      · exact Nat.le_trans H.bsz z
      · exact H.own j b h1 h2
    · rw [(ne i hin).2] at hib
      exact H.own i b (live' i hin hi).1 hib
  · have hidn : id ≠ h.next := by omega
    have hl : id ∉ l := fun z => by have := unlocked_mem u id z; rw [hlk] at this; cases this
    rw [(ne id hidn).1, (ne id hidn).2]
    simp [hl]

/-- A row's cells, one element behind the other. -/
def RowRep (Z : Nat → Prop) (w : World) (e : Ty) (xs : List e.D) (cs : List Value) : Prop :=
  cs.length = List.length xs * e.size ∧ ∀ i x, xs[i]? = some x → ∃ d, RepD Z w e x d ∧ ∀ j v, d[j]? = some v → cs[i * e.size + j]? = some v

/-- What a new row's entry asks, and what its value stands for. -/
theorem row_value {h' : Hp} {M' : Nat → Bk} {id : Nat} {e : Ty} {xs : List e.D} {A : Option Addr} {n cap : Nat} (hid : id < h'.next) (hM : M' id = .row A n cap) : RepV (cx S h' M' w') (.own id) (.slice A n cap) := by
  simp only [RepV, Rep1]
  exact ⟨hid, A, n, cap, rfl, .inr hM⟩

theorem RowRep.held {Z Z' : Nat → Prop} {w w' : World} (k : Held Z Z' w w') {e : Ty} {xs : List e.D} {cs : List Value} (h : RowRep Z w e xs cs) : RowRep Z' w' e xs cs :=
  ⟨h.1, fun i x hx => by obtain ⟨d, h1, h2⟩ := h.2 i x hx; exact ⟨d, h1.held k, h2⟩⟩

theorem RowRep.append {Z : Nat → Prop} {w : World} {e : Ty} {xs ys : List e.D} {cs ds : List Value} (h : RowRep Z w e xs cs) (k : RowRep Z w e ys ds) : RowRep Z w e (xs ++ ys) (cs ++ ds) := by
  refine ⟨by simp [h.1, k.1, Nat.add_mul], fun i x hx => ?_⟩
  by_cases hi : i < xs.length
  · rw [List.getElem?_append_left hi] at hx
    obtain ⟨d, h1, h2⟩ := h.2 i x hx
    refine ⟨d, h1, fun j v hv => ?_⟩
    have := h2 j v hv
    rw [List.getElem?_append_left (List.getElem?_eq_some_iff.1 this).1]
    exact this
  · rw [List.getElem?_append_right (by omega)] at hx
    obtain ⟨d, h1, h2⟩ := k.2 _ x hx
    refine ⟨d, h1, fun j v hv => ?_⟩
    have := h2 j v hv
    have e1 : i * e.size + j = cs.length + ((i - xs.length) * e.size + j) := by
      rw [h.1, ← Nat.add_assoc, ← Nat.add_mul]
      congr 2
      omega
    rw [e1, List.getElem?_append_right (by omega)]
    simpa using this

theorem Z_kills {l : List Nat} : ∀ b, (cx S (h.kills l) M w).Z b → (cx S h M w).Z b := by
  rintro b (z | ⟨i, e, q1, q2⟩)
  · exact .inl z
  · simp only [cx] at q1
    rw [kills_e] at q1
    split at q1
    · cases q1
    · exact .inr ⟨i, e, q1, q2⟩

/-- A new row in a block of its own. -/
theorem new_row (H : HInv S B w0 h M w) {l : List Nat} (u : unlocked h l = true) {e : Ty} {xs : List e.D} {el : TypeId} {cs rest : List Value} {cap : Nat} (hw : w'.heap = w.heap) (bel : Below B w w')
    (hc : cap * e.size = (cs ++ rest).length) (hle : List.length xs ≤ cap)
    (hrow : RowRep (cx S (h.kills l) M w).Z w e xs cs) (hk : K (.own h.next) ((h.kills l).new (.row e xs)) = some r) :
    Post K r S B w0 h M w (.slice (some ⟨w'.heap.size, 0, none⟩) (List.length xs) cap) (w'.alloc (.cells (cs ++ rest).toArray el (0, 0))) := by
  have hsz : w'.heap.size = w.heap.size := by rw [hw]
  have hne : (set1 M h.next (Bk.row (some ⟨w'.heap.size, 0, none⟩) (List.length xs) cap)) h.next = Bk.row (some ⟨w'.heap.size, 0, none⟩) (List.length xs) cap := by simp [set1, Nat.beq_refl]
  have hheld : Held (cx S (h.kills l) M w).Z (cx S ((h.kills l).new (.row e xs)) (set1 M h.next (.row (some ⟨w'.heap.size, 0, none⟩) (List.length xs) cap)) (w'.alloc (.cells (cs ++ rest).toArray el (0, 0)))).Z w (w'.alloc (.cells (cs ++ rest).toArray el (0, 0))) := by
    intro b hb hz
    refine ⟨?_, by rw [alloc_old w' _ b (by omega), hw]⟩
    rintro (z | ⟨id, f, q1, q2⟩)
    · exact hz (.inl z)
    · simp only [cx] at q1 q2
      by_cases hid : id = h.next
      · subst hid
        rw [hne] at q2
        obtain ⟨_, ad, h3, h4⟩ := blk_some q2
        injection h3 with h3
        subst h3
        simp only at h4
        omega
      · simp only [Hp.new, kills_next, set1, beq_false hid] at q1 q2
        exact hz (.inr ⟨id, f, q1, q2⟩)
  obtain ⟨H', k⟩ := H.renew u (.row e xs) (.row (some ⟨w'.heap.size, 0, none⟩) (List.length xs) cap) (w' := w'.alloc (.cells (cs ++ rest).toArray el (0, 0)))
    (fun b hb _ => by rw [alloc_old w' _ b (by omega), hw]) (by rw [alloc_size]; omega) (bel.alloc (by have := H.bsz; omega) _)
    (fun b hb => by obtain ⟨_, ad, h1, h2⟩ := blk_some hb; injection h1 with h1; subst h1; simp only at h2; exact .inl (by omega))
    (fun k => ⟨_, cap, hne, hle, (Nat.eq_zero_or_pos cap).imp id fun hpos => ⟨by omega, w'.heap.size, 0, _, el, rfl, alloc_get w' _, by simp [hc], fun i x hx => by
      obtain ⟨d, h1, h2⟩ := hrow.2 i x hx
      refine ⟨d, h1.held hheld, fun j v hv => ?_⟩
      simp only [cx, World.cell?, alloc_get, Option.isSome_none, Bool.false_eq_true, if_false, Nat.zero_add]
      have := h2 j v hv
      rw [List.getElem?_toArray, List.getElem?_append_left (List.getElem?_eq_some_iff.1 this).1]
      exact this⟩⟩)
  exact ⟨.own h.next, _, _, hk, H', k, row_value (e := e) (xs := xs) (by simp [Hp.new, kills_next]) hne⟩

/-- The cells of a value that is a slice of data. -/
theorem slice_cells (H : HInv S B w0 h M w) {v : AV} {e : Ty} {xs : List e.D} {u : Value} (hx : toD h v (.slice e) = some xs) (hu : RepV (cx S h M w) v u) :
    ∃ A cap, u = .slice A (List.length xs) cap ∧ List.length xs ≤ cap ∧ (xs = [] ∨ ∃ b of, A = some ⟨b, of, none⟩ ∧ b < w.heap.size ∧
      ∀ i x, xs[i]? = some x → ∃ d, RepD (cx S h M w).Z w e x d ∧ Mem w b (of + i * e.size) d) := by
  cases v with
  | data t x =>
    simp only [toD] at hx
    split at hx
    · rename_i q; subst q
      injection hx with hx
      subst hx
      rcases repV_data hu with ⟨q, _⟩ | ⟨_, q⟩
      · cases q
      · simp only [RepD] at q
        obtain ⟨A, cap, h1, h2, h3⟩ := q
        injection h1 with h1
        refine ⟨A, cap, h1, h2, ?_⟩
        rcases h3 with h3 | ⟨b, of, h4, h5, _, h6⟩
        · exact .inl h3
        · exact .inr ⟨b, of, h4, h5, h6⟩
    · cases hx
  | nilS e' =>
    simp only [toD] at hx
    injection hx with hx
    subst hx
    simp only [RepV, Rep1] at hu
    obtain ⟨A, h1⟩ := hu
    injection h1 with h1
    exact ⟨A, 0, h1, Nat.le_refl _, .inl rfl⟩
  | own id =>
    simp only [toD] at hx
    split at hx
    · rename_i e2 zs he
      split at hx
      · rename_i q; subst q
        injection hx with hx
        have hx : zs = xs := hx
        subst hx
        simp only [RepV, Rep1] at hu
        obtain ⟨_, A, n, cap, h1, h2⟩ := hu
        injection h1 with h1
        rcases h2 with h2 | hM
        · simp only [cx] at h2; rw [he] at h2; cases h2
        obtain ⟨A', cap', h3, h4, h5⟩ := H.ent id _ he
        simp only [cx] at hM h3
        rw [hM] at h3
        injection h3 with q1 q2 q3
        subst q1; subst q2; subst q3
        refine ⟨A, cap, h1, h4, ?_⟩
        rcases h5 with h5 | ⟨hc, b, of, cs, el, rfl, h6, h7, h8⟩
        · left
          rw [h5] at h4
          exact List.eq_nil_of_length_eq_zero (by omega)
        · exact .inr ⟨b, of, rfl, (Array.getElem?_eq_some_iff.1 h6).1, h8⟩
      · cases hx
    · cases hx
  | _ => simp [toD] at hx

/-- They can be read one after the other. -/
theorem row_of_mem {Z : Nat → Prop} {w : World} {e : Ty} {xs : List e.D} {b of : Nat} (h : ∀ i x, xs[i]? = some x → ∃ d, RepD Z w e x d ∧ Mem w b (of + i * e.size) d) :
    ∃ cs, RowRep Z w e xs cs ∧ Mem w b of cs := by
  induction xs generalizing of with
  | nil => exact ⟨[], ⟨by simp, by simp⟩, by intro j v hv; simp at hv⟩
  | cons x xs ih =>
    obtain ⟨d, h1, h2⟩ := h 0 x rfl
    obtain ⟨cs, h3, h4⟩ := ih (of := of + e.size) (fun i y hy => by
      obtain ⟨d, h5, h6⟩ := h (i + 1) y (by simpa using hy)
      refine ⟨d, h5, ?_⟩
      have : of + e.size + i * e.size = of + (i + 1) * e.size := by rw [Nat.add_mul]; omega
      rw [this]; exact h6)
    have hs : RowRep Z w e [x] d := ⟨by simp [h1.len], fun i y hy => by
      cases i with
      | zero => simp at hy; subst hy; exact ⟨d, h1, fun j v hv => by simpa using hv⟩
      | succ i => simp at hy⟩
    refine ⟨d ++ cs, hs.append h3, fun j v hv => ?_⟩
    by_cases hj : j < d.length
    · rw [List.getElem?_append_left hj] at hv
      have := h2 j v hv
      simpa using this
    · rw [List.getElem?_append_right (by omega)] at hv
      have := h4 _ v hv
      have e1 : of + e.size + (j - d.length) = of + j := by rw [h1.len] at *; omega
      rw [e1] at this
      exact this
end Go.PG

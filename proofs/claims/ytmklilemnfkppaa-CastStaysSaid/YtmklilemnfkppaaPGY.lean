/- Arguments as data: what is read whole is data. -/
import Derived.Test.YtmklilemnfkppaaPGQ
import Derived.ChangeArms
import Derived.OpenShut
set_option linter.all false
namespace Go.PG
open Go.RowKit

variable {P : Program} {w : World} {H : Type} {enc : TypeId × Value → H} {base : Nat} {spare : Nat → Bool} {held : Bool}

/-- Data of a sort that may be read: whole numbers in their range, strings and rows of a machine's length. -/
def Wf : (t : Ty) → t.D → Prop
  | .int k, n => (Lit.int k n).wf = true
  | .str, s => ByteArray.size s ≤ maxLen
  | .slice e, xs => List.length xs ≤ maxLen ∧ ∀ x ∈ xs, Wf e x
  | .st b, x => Wf b x
  | .pair a b, x => Wf a x.1 ∧ Wf b x.2
  | _, _ => True

/-- Types that are read whole. -/
def readTy : Ty → Bool
  | .unit | .opq => false
  | .slice e => readTy e
  | .st b => readTy b
  | .pair a b => match readTy a with
    | true => readTy b
    | false => false
  | _ => true

/-- Data, and how a claim tells them. -/
inductive Tells {H : Type} : (t : Ty) → t.D → DataW H → Prop where
  | bool (b : Bool) : Tells .bool b (.lit (.bool b))
  | int (k : IntKind) (n : Int) : Tells (.int k) n (.lit (.int k n))
  | str (s : ByteArray) : Tells .str s (.lit (.string s.data.toList))
  | nil (e : Ty) : Tells (.slice e) ([] : List e.D) .nil
  | row (e : Ty) (xs : List e.D) (ds rest : List (DataW H)) (hl : ds.length = xs.length) (h : ∀ (i : Nat) (x : e.D) (d : DataW H), xs[i]? = some x → ds[i]? = some d → Tells e x d) : Tells (.slice e) xs (.slice ds rest)

theorem cells_mem {a : Addr} {n : Nat} {cs : List Value} (h : w.cells? base a n = some cs) : cs.length = n ∧ ∀ (j : Nat) (v : Value), cs[j]? = some v → w.cell? (a.add j) = some v := by
  unfold World.cells? at h
  split at h
  · have hl := mapM_some_length h
    refine ⟨by simpa using hl, fun j v hv => ?_⟩
    have hj : j < n := by
      have := (List.getElem?_eq_some_iff.1 hv).1
      simp at hl
      omega
    have := mapM_some_get h j j (by simp [hj])
    rw [this, hv]
  · cases h

theorem spot_none {a : Addr} {v : Value} (h : w.cell? (a.add 0) = some v) : a.spot = none := by
  unfold World.cell? at h
  simp only [Addr.add, if_true] at h
  split at h
  · split at h
    · cases h
    · rename_i q; simpa using q
  · cases h

theorem list_of {α : Type} {Q : Nat → α → Prop} : ∀ (n : Nat), (∀ i, i < n → ∃ y, Q i y) → ∃ ys : List α, ys.length = n ∧ ∀ i y, ys[i]? = some y → Q i y
  | 0, _ => ⟨[], rfl, by simp⟩
  | n + 1, h => by
    obtain ⟨ys, h1, h2⟩ := list_of n (fun i hi => h i (by omega))
    obtain ⟨y, hy⟩ := h n (by omega)
    refine ⟨ys ++ [y], by simp [h1], fun i z hz => ?_⟩
    rcases Nat.lt_or_ge i ys.length with q | q
    · rw [List.getElem?_append_left q] at hz
      exact h2 i z hz
    · rw [List.getElem?_append_right q] at hz
      have : i = n := by
        have := (List.getElem?_eq_some_iff.1 hz).1
        simp at this
        omega
      subst this
      rw [h1, Nat.sub_self] at hz
      simp at hz
      subst hz
      exact hy

theorem read_all : ∀ (t : Ty),
    (∀ (id : TypeId) (fuel : Nat) (cs : List Value) (x : DataW H × List MemPlace), Ok P t (.typ id) → readTy t = true → DataW.trod enc P w base spare held fuel id cs = some x → ∃ y : t.D, RepD (fun _ => False) w t y cs ∧ Wf t y) ∧
    (∀ (l : List Field) (o : Nat) (cs : List Value) (n : Nat), Ok P t (.flds l o) → readTy t = true → o + t.size ≤ cs.length → (∀ (i : Nat) (f : Field), l[i]? = some f → ∃ z, DataW.trod enc P w base spare held n f.type ((cs.drop f.offset).take (P.cellsOf f.type)) = some z) →
      ∃ y : t.D, RepD (fun _ => False) w t y ((cs.drop o).take t.size) ∧ Wf t y) ∧
    (∀ (m : Nat) (e : TypeId) (cs : List Value) (n j : Nat), Ok P t (.arr m e) → readTy t = true → j * P.cellsOf e + t.size ≤ cs.length → (∀ i, j ≤ i → i < j + m → ∃ z, DataW.trod enc P w base spare held n e ((cs.drop (i * P.cellsOf e)).take (P.cellsOf e)) = some z) →
      ∃ y : t.D, RepD (fun _ => False) w t y ((cs.drop (j * P.cellsOf e)).take t.size) ∧ Wf t y) := by
  -- out of the claim at a type: those at fields and elements
  have leaf : ∀ (t : Ty), (∀ p q, t ≠ .pair p q) → (∀ (id : TypeId) (fuel : Nat) (cs : List Value) (x : DataW H × List MemPlace), Ok P t (.typ id) → readTy t = true → DataW.trod enc P w base spare held fuel id cs = some x → ∃ y : t.D, RepD (fun _ => False) w t y cs ∧ Wf t y) →
      (∀ (l : List Field) (o : Nat) (cs : List Value) (n : Nat), Ok P t (.flds l o) → readTy t = true → o + t.size ≤ cs.length → (∀ (i : Nat) (f : Field), l[i]? = some f → ∃ z, DataW.trod enc P w base spare held n f.type ((cs.drop f.offset).take (P.cellsOf f.type)) = some z) →
        ∃ y : t.D, RepD (fun _ => False) w t y ((cs.drop o).take t.size) ∧ Wf t y) ∧
      (∀ (m : Nat) (e : TypeId) (cs : List Value) (n j : Nat), Ok P t (.arr m e) → readTy t = true → j * P.cellsOf e + t.size ≤ cs.length → (∀ i, j ≤ i → i < j + m → ∃ z, DataW.trod enc P w base spare held n e ((cs.drop (i * P.cellsOf e)).take (P.cellsOf e)) = some z) →
        ∃ y : t.D, RepD (fun _ => False) w t y ((cs.drop (j * P.cellsOf e)).take t.size) ∧ Wf t y) := by
    intro t hp h
    refine ⟨fun l o cs n hok hd hl ht => ?_, fun m e cs n j hok hd hl ht => ?_⟩
    · obtain ⟨f, rfl, hf, _, hok'⟩ := ok_leaf_flds hp hok
      obtain ⟨z, hz⟩ := ht 0 f rfl
      obtain ⟨i, hi, hs⟩ := ok_size hok'
      have hc : P.cellsOf f.type = t.size := by simp [Program.cellsOf, hi, hs]
      rw [hc, hf] at hz
      exact h f.type n _ z hok' hd hz
    · obtain ⟨rfl, hok'⟩ := ok_leaf_arr hp hok
      obtain ⟨z, hz⟩ := ht j (Nat.le_refl _) (by omega)
      obtain ⟨i, hi, hs⟩ := ok_size hok'
      have hc : P.cellsOf e = t.size := by simp [Program.cellsOf, hi, hs]
      rw [hc] at hz ⊢
      exact h e n _ z hok' hd hz
  intro t
  induction t with
  | unit => exact ⟨fun _ _ _ _ h => h.elim, fun _ _ _ _ h => h.elim, fun _ _ _ _ _ h => h.elim⟩
  | opq => exact ⟨fun _ _ _ _ _ h => by simp [readTy] at h, fun _ _ _ _ _ h => by simp [readTy] at h, fun _ _ _ _ _ _ h => by simp [readTy] at h⟩
  | bool =>
    have h : ∀ (id : TypeId) (fuel : Nat) (cs : List Value) (x : DataW H × List MemPlace), Ok P .bool (.typ id) → readTy .bool = true → DataW.trod enc P w base spare held fuel id cs = some x → ∃ y : Ty.bool.D, RepD (fun _ => False) w .bool y cs ∧ Wf .bool y := by
      intro id fuel cs x hok _ hx
      obtain ⟨b, rfl, _⟩ := DataW.trod_bool hok.1 hx
      exact ⟨b, by simp [RepD], trivial⟩
    exact ⟨h, leaf _ (by simp) h⟩
  | int k =>
    have h : ∀ (id : TypeId) (fuel : Nat) (cs : List Value) (x : DataW H × List MemPlace), Ok P (.int k) (.typ id) → readTy (.int k) = true → DataW.trod enc P w base spare held fuel id cs = some x → ∃ y : (Ty.int k).D, RepD (fun _ => False) w (.int k) y cs ∧ Wf (.int k) y := by
      intro id fuel cs x hok _ hx
      obtain ⟨n, rfl, _, hw⟩ := DataW.trod_int hok.1 hx
      exact ⟨n, by simp [RepD], hw⟩
    exact ⟨h, leaf _ (by simp) h⟩
  | str =>
    have h : ∀ (id : TypeId) (fuel : Nat) (cs : List Value) (x : DataW H × List MemPlace), Ok P .str (.typ id) → readTy .str = true → DataW.trod enc P w base spare held fuel id cs = some x → ∃ y : Ty.str.D, RepD (fun _ => False) w .str y cs ∧ Wf .str y := by
      intro id fuel cs x hok _ hx
      obtain ⟨s, rfl, _, hs⟩ := DataW.trod_string hok.1 hx
      exact ⟨s, by simp [RepD], hs⟩
    exact ⟨h, leaf _ (by simp) h⟩
  | slice e ih =>
    have h : ∀ (id : TypeId) (fuel : Nat) (cs : List Value) (x : DataW H × List MemPlace), Ok P (.slice e) (.typ id) → readTy (.slice e) = true → DataW.trod enc P w base spare held fuel id cs = some x → ∃ y : (Ty.slice e).D, RepD (fun _ => False) w (.slice e) y cs ∧ Wf (.slice e) y := by
      intro id fuel cs x hok hd hx
      obtain ⟨⟨e', hu, hok'⟩, _⟩ := hok
      rcases DataW.trod_slice hu hx with ⟨rfl, _⟩ | ⟨a, len, cap, elems, rest, n, _, rfl, _, hb, hl, hm, hlen, hel, _, _⟩
      · exact ⟨[], by simp only [RepD]; exact ⟨none, 0, rfl, Nat.le_refl _, .inl trivial⟩, by simp [Wf]⟩
      · obtain ⟨inf, hi, hs⟩ := ok_size hok'
        have hc : P.cellsOf e' = e.size := by simp [Program.cellsOf, hi, hs]
        have hpos := ok_pos e _ hok'
        have each : ∀ i, i < len → ∃ y : e.D, ∃ c, w.cells? base (a.add (i * e.size)) e.size = some c ∧ RepD (fun _ => False) w e y c ∧ Wf e y := by
          intro i hi
          have he := hel i hi
          rw [List.getElem?_eq_getElem (by omega)] at he
          rw [hc] at he
          cases q : w.cells? base (a.add (i * e.size)) e.size with
          | none => rw [q] at he; cases he
          | some c =>
            rw [q] at he
            obtain ⟨y, h1, h2⟩ := ih.1 e' n c _ hok' hd he
            exact ⟨y, c, rfl, h1, h2⟩
        obtain ⟨ys, hys, hall⟩ := list_of len each
        refine ⟨ys, ?_, ?_⟩
        · simp only [RepD]
          refine ⟨some a, cap, by rw [hys], by omega, ?_⟩
          rcases Nat.eq_zero_or_pos len with h0 | h0
          · left; exact List.eq_nil_of_length_eq_zero (by omega)
          · right
            obtain ⟨y, c, q1, q2, q3⟩ := each 0 h0
            obtain ⟨q4, q5⟩ := cells_mem q1
            obtain ⟨v, hv⟩ : ∃ v, c[0]? = some v := ⟨c[0]'(by omega), by simp⟩
            have q6 := q5 0 v hv
            have hsp : a.spot = none := by
              have := spot_none q6
              simpa [Addr.add] using this
            obtain ⟨b, o, sp⟩ := a
            simp only at hsp
            subst hsp
            refine ⟨b, o, rfl, ?_, not_false, fun i x hx => ?_⟩
            · unfold World.cell? at q6
              simp only [Addr.add, Nat.zero_mul, if_true] at q6
              split at q6
              · rename_i qq; exact (Array.getElem?_eq_some_iff.1 qq).1
              · cases q6
            · obtain ⟨c', r1, r2, _⟩ := hall i x hx
              refine ⟨c', r2, fun j v hv => ?_⟩
              have := (cells_mem r1).2 j v hv
              rw [Addr.add_mid, Addr.add_mid] at this
              exact this
        · simp only [Wf]
          refine ⟨by omega, fun x hx => ?_⟩
          obtain ⟨i, hi⟩ := List.getElem?_of_mem hx
          obtain ⟨_, _, _, r⟩ := hall i x hi
          exact r
    exact ⟨h, leaf _ (by simp) h⟩
  | st b ih =>
    have h : ∀ (id : TypeId) (fuel : Nat) (cs : List Value) (x : DataW H × List MemPlace), Ok P (.st b) (.typ id) → readTy (.st b) = true → DataW.trod enc P w base spare held fuel id cs = some x → ∃ y : (Ty.st b).D, RepD (fun _ => False) w (.st b) y cs ∧ Wf (.st b) y := by
      intro id fuel cs x hok hd hx
      obtain ⟨hk, zs, ⟨i, hi1, hi2, _⟩, _⟩ := hok
      have hc : P.cellsOf id = b.size := by simp [Program.cellsOf, hi1, hi2]
      rcases hk with ⟨fs, hu, hb⟩ | ⟨n, e, hu, hb⟩
      · obtain ⟨xs, n, _, _, hl, hxl, hall⟩ := DataW.trod_struct hu hx
        obtain ⟨y, h1, h2⟩ := ih.2.1 fs.toList 0 cs n hb hd (by omega) (fun i f hf => by
          have hf' : fs[i]? = some f := by rw [← Array.getElem?_toList]; exact hf
          have := hall i f hf'
          have hlt := (Array.getElem?_eq_some_iff.1 hf').1
          rw [List.getElem?_eq_getElem (by omega)] at this
          exact ⟨_, this⟩)
        rw [List.drop_zero, List.take_of_length_le (by omega)] at h1
        exact ⟨y, by simp only [RepD]; exact h1, by simp only [Wf]; exact h2⟩
      · obtain ⟨xs, m, _, _, hl, hxl, hall⟩ := DataW.trod_array hu hx
        obtain ⟨y, h1, h2⟩ := ih.2.2 n e cs m 0 hb hd (by omega) (fun i _ hi => by
          have := hall i (by omega)
          rw [List.getElem?_eq_getElem (by omega)] at this
          exact ⟨_, this⟩)
        rw [Nat.zero_mul, List.drop_zero, List.take_of_length_le (by omega)] at h1
        exact ⟨y, by simp only [RepD]; exact h1, by simp only [Wf]; exact h2⟩
    exact ⟨h, leaf _ (by simp) h⟩
  | pair p q ihp ihq =>
    have both : ∀ {hd : readTy (.pair p q) = true}, readTy p = true ∧ readTy q = true := by
      intro hd
      simp only [readTy] at hd
      split at hd
      · rename_i h; exact ⟨h, hd⟩
      · cases hd
    have join : ∀ (cs : List Value) (o : Nat) (y1 : p.D) (y2 : q.D), RepD (fun _ => False) w p y1 ((cs.drop o).take p.size) → RepD (fun _ => False) w q y2 ((cs.drop (o + p.size)).take q.size) → RepD (fun _ => False) w (.pair p q) (y1, y2) ((cs.drop o).take (p.size + q.size)) := by
      intro cs o y1 y2 h1 h2
      simp only [RepD]
      refine ⟨_, _, ?_, h1, h2⟩
      rw [List.take_add, List.drop_drop]
    refine ⟨fun _ _ _ _ h => h.elim, fun l o cs n hok hd hl ht => ?_, fun m e cs n j hok hd hl ht => ?_⟩
    · cases l with
      | nil => exact hok.elim
      | cons f l =>
        obtain ⟨hf, _, hok1, hok2⟩ := hok
        obtain ⟨d1, d2⟩ := both (hd := hd)
        simp only [Ty.size] at hl ⊢
        obtain ⟨z, hz⟩ := ht 0 f rfl
        obtain ⟨i, hi, hs⟩ := ok_size hok1
        have hc : P.cellsOf f.type = p.size := by simp [Program.cellsOf, hi, hs]
        rw [hc, hf] at hz
        obtain ⟨y1, r1, r2⟩ := ihp.1 f.type n _ z hok1 d1 hz
        obtain ⟨y2, r3, r4⟩ := ihq.2.1 l (o + p.size) cs n hok2 d2 (by omega) (fun i g hg => ht (i + 1) g (by simpa using hg))
        exact ⟨(y1, y2), join cs o y1 y2 r1 r3, r2, r4⟩
    · cases m with
      | zero => exact hok.elim
      | succ m =>
        obtain ⟨hok1, hok2⟩ := hok
        obtain ⟨d1, d2⟩ := both (hd := hd)
        simp only [Ty.size] at hl ⊢
        obtain ⟨z, hz⟩ := ht j (Nat.le_refl _) (by omega)
        obtain ⟨i, hi, hs⟩ := ok_size hok1
        have hc : P.cellsOf e = p.size := by simp [Program.cellsOf, hi, hs]
        have hj : (j + 1) * P.cellsOf e = j * P.cellsOf e + p.size := by rw [Nat.add_mul, Nat.one_mul, hc]
        rw [hc] at hz
        obtain ⟨y1, r1, r2⟩ := ihp.1 e n _ z hok1 d1 hz
        obtain ⟨y2, r3, r4⟩ := ihq.2.2 m e cs n (j + 1) hok2 d2 (by omega) (fun i h1 h2 => ht i (by omega) (by omega))
        rw [hj] at r3
        refine ⟨(y1, y2), join cs _ y1 y2 ?_ r3, r2, r4⟩
        rw [hc]
        exact r1
end Go.PG

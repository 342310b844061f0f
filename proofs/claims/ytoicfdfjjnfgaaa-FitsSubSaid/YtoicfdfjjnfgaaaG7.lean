/- Lemmas for the claim. -/
import Derived.Test.YtoicfdfjjnfgaaaG6
import Derived.KernelRfl
set_option linter.all false
section
open Go Go.PG Go.PL Go.PL.Sv
set_option linter.all false
namespace Go.PL.Ty
abbrev Kf := At × Int
def okF (d : Fnd) : Bool := d.2.2.2 && d.2.2.1 && !d.2.1
def isO (x : At) : Prop := x.1 = 4 ∨ x.1 = 5
instance (x : At) : Decidable (isO x) := by unfold isO; exact inferInstance
def kindF (z : Int) : Int := if z = 1 then 0 else if z = 2 then 1 else if z = 3 then 2 else 0
noncomputable def keysO (T : List Lc) (x : At) (f : Tf) : List Kf := (findL T f.1 [x]).1.map fun w => (w, f.2)
noncomputable def askedF (t : List Tt) (T : List Lc) (k : Kf) : List Kf :=
  if (at_ t k.2).1 = 0 then [] else
  if (at_ t k.2).1 = 4 then (if isO k.1 then (at_ t k.2).2.1.flatMap (keysO T k.1) else []) else
  if (at_ t k.2).1 = 5 then (at_ t k.2).2.2.map fun e => (k.1, e) else []
noncomputable def ruleF (t : List Tt) (T : List Lc) (k : Kf) (g : Kf → Bool) : Bool :=
  if (at_ t k.2).1 = 0 then true else
  if (at_ t k.2).1 = 4 then (if isO k.1 then (at_ t k.2).2.1.all fun f => okF (findL T f.1 [k.1]) && (keysO T k.1 f).all g else false) else
  if (at_ t k.2).1 = 5 then (at_ t k.2).2.2.any fun e => g (k.1, e) else decide (kindF (at_ t k.2).1 = k.1.1)
def cjF (t : List Tt) (k : Kf) : Bool := decide ((at_ t k.2).1 ≠ 5)
theorem ruleF_mono (t : List Tt) (T : List Lc) : ∀ k (f g : Kf → Bool), (∀ o ∈ askedF t T k, f o = true → g o = true) → ruleF t T k f = true → ruleF t T k g = true := by
  intro k f g h hr
  unfold ruleF at hr ⊢
  unfold askedF at h
  by_cases h0 : (at_ t k.2).1 = 0
  · rw [if_pos h0]
  · rw [if_neg h0] at hr h ⊢
    by_cases h4 : (at_ t k.2).1 = 4
    · rw [if_pos h4] at hr h ⊢
      by_cases hO : isO k.1
      · rw [if_pos hO] at hr h ⊢
        rw [List.all_eq_true] at hr ⊢
        intro x hx
        have := hr x hx
        rw [Bool.and_eq_true, List.all_eq_true] at this ⊢
        exact ⟨this.1, fun o ho => h o (List.mem_flatMap.2 ⟨x, hx, ho⟩) (this.2 o ho)⟩
      · rw [if_neg hO] at hr; cases hr
    · rw [if_neg h4] at hr h ⊢
      by_cases h5 : (at_ t k.2).1 = 5
      · rw [if_pos h5] at hr h ⊢
        rw [List.any_eq_true] at hr ⊢
        obtain ⟨e, he, h1⟩ := hr
        exact ⟨e, he, h _ (List.mem_map.2 ⟨e, he, rfl⟩) h1⟩
      · rw [if_neg h5] at hr ⊢; exact hr
theorem ruleF_conj (t : List Tt) (T : List Lc) : ∀ k (f : Kf → Bool), cjF t k = true → (∃ o ∈ askedF t T k, f o = false) → ruleF t T k f = false := by
  rintro k f hc ⟨o, ho, h⟩
  have hc := of_decide_eq_true hc
  unfold askedF at ho
  unfold ruleF
  by_cases h0 : (at_ t k.2).1 = 0
  · rw [if_pos h0] at ho; cases ho
  · rw [if_neg h0] at ho ⊢
    by_cases h4 : (at_ t k.2).1 = 4
    · rw [if_pos h4] at ho ⊢
      by_cases hO : isO k.1
      · rw [if_pos hO] at ho ⊢
        obtain ⟨x, hx, hox⟩ := List.mem_flatMap.1 ho
        rw [Bool.eq_false_iff]
        intro z
        rw [List.all_eq_true] at z
        have := z x hx
        rw [Bool.and_eq_true, List.all_eq_true] at this
        have := this.2 o hox
        rw [h] at this; cases this
      · rw [if_neg hO]
    · rw [if_neg h4, if_neg hc] at ho; cases ho
def Fit (t : List Tt) (T : List Lc) (x : At) (a : Int) : Prop := Gfp (ruleF t T) (x, a)
def valsF (T : List Lc) (x : At) : List At := x :: T.flatMap fun l => l.2.1.flatMap fun f => f.2.2
theorem va_mem_pr {l : List Fd} {n : ByteArray} {z : At} (hp : pr l n = true) (h : z ∈ va l n) : z ∈ l.flatMap (fun f => f.2.2) := by
  unfold va getR get at h
  unfold pr getR get at hp
  cases q : l.find? (fun a => decide (a.1 = n)) with
  | none => rw [q] at hp; cases hp
  | some f => rw [q] at h; exact List.mem_flatMap.2 ⟨f, List.mem_of_find?_eq_some q, h⟩
theorem find_mem {T : List Lc} {n : ByteArray} {v : List At} {x z : At} (h : z ∈ (findL T n v).1) : z ∈ valsF T x := by
  unfold findL at h
  have h := (mem_norm.1 h).1
  obtain ⟨y, _, hy⟩ := List.mem_flatMap.1 h
  unfold vv at hy
  split at hy
  · rename_i c
    unfold hp at c
    rw [Bool.and_eq_true] at c
    have := va_mem_pr c.2 hy
    unfold locR at this
    cases q : getL T y with
    | none => rw [q] at this; simp at this
    | some b =>
      rw [q] at this
      exact List.mem_cons_of_mem _ (List.mem_flatMap.2 ⟨b, (getL_mem q).1, this⟩)
  · cases hy
theorem find_len {T : List Lc} {n : ByteArray} {v : List At} {x : At} : (findL T n v).1.length ≤ (valsF T x).length :=
  nodup_le (nodup_rises (norm_canon _).1) fun z hz => find_mem hz
def Small25 (s : Sta) : Prop := Go.PL.SmallT s ∧ s.2.1.length ≤ 8 ∧ s.2.2.length ≤ 8
instance (s : Sta) : Decidable (Small25 s) := by unfold Small25; exact inferInstance
theorem vals_len {s : Sta} (h : Small25 s) (x : At) : (valsF s.2.2 x).length ≤ 12801 := by
  unfold valsF
  have h1 : (s.2.2.flatMap fun l => l.2.1.flatMap fun f => f.2.2).length ≤ s.2.2.length * 1600 := Go.PL.flat_len _ 1600 _ fun l hl => by
    have hs := h.1.2.2.2 l hl
    have := Go.PL.flat_len (fun f : Fd => f.2.2) 40 l.2.1 fun f hf => hs.2.2 f hf
    have := hs.1
    omega
  have := h.2.2
  rw [List.length_cons]; omega
def keysF (n : Nat) (T : List Lc) (x : At) : List Kf := (valsF T x).flatMap fun w => (List.range n).map fun (j : Nat) => (w, ((j : Nat) : Int))
theorem mem_keysF {n : Nat} {T : List Lc} {x : At} {p : Kf} : p ∈ keysF n T x ↔ p.1 ∈ valsF T x ∧ Inb n p.2 := by
  unfold keysF Inb
  simp only [List.mem_flatMap, List.mem_map, List.mem_range]
  constructor
  · rintro ⟨w, hw, j, hj, rfl⟩
    exact ⟨hw, by simp, by simpa using hj⟩
  · rintro ⟨h1, h2, h3⟩
    exact ⟨p.1, h1, p.2.toNat, by omega, Prod.ext rfl (by show ((p.2.toNat : Nat) : Int) = _; omega)⟩
theorem keysF_len {n : Nat} {s : Sta} {x : At} (hs : Small25 s) (hn : n ≤ 16) : (keysF n s.2.2 x).length ≤ 204816 := by
  have h1 := vals_len hs x
  have h2 := Go.PL.flat_len (fun w : At => (List.range n).map fun (j : Nat) => (w, ((j : Nat) : Int))) 16 (valsF s.2.2 x) fun o _ => by rw [List.length_map, List.length_range]; exact hn
  unfold keysF
  have : (valsF s.2.2 x).length * 16 ≤ 12801 * 16 := Nat.mul_le_mul_right _ h1
  omega
theorem at_inbF {t : List Tt} (h : MayT t) {k : Kf} (k5 : (at_ t k.2).1 = 5) {e : Int} (he : e ∈ (at_ t k.2).2.2) (hk : Inb t.length k.2) : Inb t.length e := by
  have := h.elem_lt k5 he
  obtain ⟨a, b⟩ := hk
  exact ⟨this.1, by omega⟩
theorem askedF_keys {t : List Tt} {T : List Lc} {x : At} (h : MayT t) : ∀ k ∈ keysF t.length T x, ∀ o ∈ askedF t T k, o ∈ keysF t.length T x := by
  intro k hk o ho
  obtain ⟨a1, a2⟩ := mem_keysF.1 hk
  unfold askedF at ho
  split at ho
  · cases ho
  · rename_i k0
    split at ho
    · split at ho
      · obtain ⟨f, hf, ho⟩ := List.mem_flatMap.1 ho
        obtain ⟨w, hw, rfl⟩ := List.mem_map.1 ho
        exact mem_keysF.2 ⟨find_mem hw, h.fld _ _ (at_pos k0) f hf⟩
      · cases ho
    · split at ho
      · rename_i k5
        obtain ⟨e, he, rfl⟩ := List.mem_map.1 ho
        exact mem_keysF.2 ⟨a1, at_inbF h k5 he a2⟩
      · cases ho
theorem asksF {t : List Tt} {s : Sta} (ht : SmallT t) (hs : Small25 s) : Asks (askedF t s.2.2) (cjF t) 128010 := by
  refine ⟨fun k hc => ?_, fun k hc => ?_⟩
  · have hc := of_decide_eq_true hc
    unfold askedF
    split
    · simp
    · split
      · split
        · have h1 := Go.PL.flat_len (keysO s.2.2 k.1) 12801 (at_ t k.2).2.1 fun f _ => by
            unfold keysO
            rw [List.length_map]
            exact Nat.le_trans (find_len (x := k.1)) (vals_len hs k.1)
          have := (at_small ht k.2).1
          omega
        · simp
      · simp
  · have hc : (at_ t k.2).1 = 5 := Classical.byContradiction fun z => hc (decide_eq_true z)
    unfold askedF
    rw [if_neg (by rw [hc]; decide), if_neg (by rw [hc]; decide), if_pos hc, List.length_map]
    exact (at_small ht k.2).2
end Go.PL.Ty
end
section
open Go Go.PG Go.PL Go.PL.Sv
set_option linter.all false
namespace Go.PL.Ty
def eqF (x y : Kf) : Bool := P.and (P.and (P.ieq x.1.1 y.1.1) (P.ieq x.1.2 y.1.2)) (P.ieq x.2 y.2)
theorem eqF_iff (x y : Kf) : eqF x y = true ↔ x = y := by
  unfold eqF
  rw [and_iff, and_iff, ieq_iff, ieq_iff, ieq_iff]
  exact ⟨fun h => Prod.ext (Prod.ext h.1.1 h.1.2) h.2, fun h => by rw [h]; exact ⟨⟨rfl, rfl⟩, rfl⟩⟩
abbrev MF := List (Kf × Bool) × List (Kf × Option (List Kf)) × List Kf
abbrev S1 := Bool × Int × MF
abbrev E1 := Bool × MF
abbrev S0 := List Kf × List (Kf × Bool) × List (Kf × Option (List Kf))
abbrev E0 := List (Kf × Bool) × List (Kf × Option (List Kf))
def inF (R : List At) (ft : Int) (k : Kf) : S1 → Option (S1 ⊕ (E1 ⊕ (S1 ⊕ (E1 ⊕ (S0 ⊕ (E0 ⊕ Bool)))))) := fun (y_2 : Bool × Int × List (((Int × Int) × Int) × Bool) × List (((Int × Int) × Int) × Option (List ((Int × Int) × Int))) × List ((Int × Int) × Int)) => P.cond (P.ilt y_2.snd.fst (P.len R)) (P.cond (P.inb y_2.snd.fst (P.len R)) (P.cond (P.not (P.mhas eqF y_2.snd.snd.fst (P.get R y_2.snd.fst ((0 : Int), (0 : Int)), ft))) (P.cond (P.room (P.add (P.len y_2.snd.snd.snd.snd) (P.len [(P.get R y_2.snd.fst ((0 : Int), (0 : Int)), ft)])) 24) (P.bind (P.dget eqF y_2.snd.snd.snd.fst (P.get R y_2.snd.fst ((0 : Int), (0 : Int)), ft)) fun (ys : List ((Int × Int) × Int)) => P.cond (P.room (P.add (P.len ys) (P.len [k])) 24) (some (Sum.inl (y_2.fst, P.wrap IntKind.i64 (P.add y_2.snd.fst ((1 : Int))), P.mput eqF y_2.snd.snd.fst (P.get R y_2.snd.fst ((0 : Int), (0 : Int)), ft) true, P.mput eqF (P.dtake eqF y_2.snd.snd.snd.fst (P.get R y_2.snd.fst ((0 : Int), (0 : Int)), ft)) (P.get R y_2.snd.fst ((0 : Int), (0 : Int)), ft) (some (P.app ys [k])), P.app y_2.snd.snd.snd.snd [(P.get R y_2.snd.fst ((0 : Int), (0 : Int)), ft)]))) none) none) (P.bind (P.dget eqF y_2.snd.snd.snd.fst (P.get R y_2.snd.fst ((0 : Int), (0 : Int)), ft)) fun (ys : List ((Int × Int) × Int)) => P.cond (P.room (P.add (P.len ys) (P.len [k])) 24) (P.cond (P.mval eqF y_2.snd.snd.fst (P.get R y_2.snd.fst ((0 : Int), (0 : Int)), ft) false) (some (Sum.inl (y_2.fst, P.wrap IntKind.i64 (P.add y_2.snd.fst ((1 : Int))), y_2.snd.snd.fst, P.mput eqF (P.dtake eqF y_2.snd.snd.snd.fst (P.get R y_2.snd.fst ((0 : Int), (0 : Int)), ft)) (P.get R y_2.snd.fst ((0 : Int), (0 : Int)), ft) (some (P.app ys [k])), y_2.snd.snd.snd.snd))) (some (Sum.inl (false, P.wrap IntKind.i64 (P.add y_2.snd.fst ((1 : Int))), y_2.snd.snd.fst, P.mput eqF (P.dtake eqF y_2.snd.snd.snd.fst (P.get R y_2.snd.fst ((0 : Int), (0 : Int)), ft)) (P.get R y_2.snd.fst ((0 : Int), (0 : Int)), ft) (some (P.app ys [k])), y_2.snd.snd.snd.snd)))) none)) none) (some (Sum.inr (Sum.inl (y_2.fst, y_2.snd.snd.fst, y_2.snd.snd.snd.fst, y_2.snd.snd.snd.snd))))
noncomputable def outF (s : Sta) (Y : Tt) (k : Kf) : S1 → Option (S1 ⊕ (E1 ⊕ (S0 ⊕ (E0 ⊕ Bool)))) := fun (y_1 : Bool × Int × List (((Int × Int) × Int) × Bool) × List (((Int × Int) × Int) × Option (List ((Int × Int) × Int))) × List ((Int × Int) × Int)) => P.cond (P.ilt y_1.snd.fst (P.len Y.snd.fst)) (P.cond (P.inb y_1.snd.fst (P.len Y.snd.fst)) (P.bind (lookup_Find K (s, [k.fst], (P.get Y.snd.fst y_1.snd.fst ((ByteArray.mk #[]), (0 : Int))).fst)) fun (r : List (Int × Int) × Bool × Bool × Bool) => P.cond y_1.fst (P.cond r.snd.snd.snd (P.cond r.snd.snd.fst (P.bind (P.iter K (inF r.fst (P.get Y.snd.fst y_1.snd.fst ((ByteArray.mk #[]), (0 : Int))).snd k) (P.not r.snd.fst, (0 : Int), y_1.snd.snd.fst, y_1.snd.snd.snd.fst, y_1.snd.snd.snd.snd)) (P.either (fun (z : Bool × List (((Int × Int) × Int) × Bool) × List (((Int × Int) × Int) × Option (List ((Int × Int) × Int))) × List ((Int × Int) × Int)) => some (Sum.inl (z.fst, P.wrap IntKind.i64 (P.add y_1.snd.fst ((1 : Int))), z.snd.fst, z.snd.snd.fst, z.snd.snd.snd))) fun (r : Bool × Int × List (((Int × Int) × Int) × Bool) × List (((Int × Int) × Int) × Option (List ((Int × Int) × Int))) × List ((Int × Int) × Int) ⊕ Bool × List (((Int × Int) × Int) × Bool) × List (((Int × Int) × Int) × Option (List ((Int × Int) × Int))) × List ((Int × Int) × Int) ⊕ List ((Int × Int) × Int) × List (((Int × Int) × Int) × Bool) × List (((Int × Int) × Int) × Option (List ((Int × Int) × Int))) ⊕ List (((Int × Int) × Int) × Bool) × List (((Int × Int) × Int) × Option (List ((Int × Int) × Int))) ⊕ Bool) => some r)) (P.bind (P.iter K (inF r.fst (P.get Y.snd.fst y_1.snd.fst ((ByteArray.mk #[]), (0 : Int))).snd k) (false, (0 : Int), y_1.snd.snd.fst, y_1.snd.snd.snd.fst, y_1.snd.snd.snd.snd)) (P.either (fun (z : Bool × List (((Int × Int) × Int) × Bool) × List (((Int × Int) × Int) × Option (List ((Int × Int) × Int))) × List ((Int × Int) × Int)) => some (Sum.inl (z.fst, P.wrap IntKind.i64 (P.add y_1.snd.fst ((1 : Int))), z.snd.fst, z.snd.snd.fst, z.snd.snd.snd))) fun (r : Bool × Int × List (((Int × Int) × Int) × Bool) × List (((Int × Int) × Int) × Option (List ((Int × Int) × Int))) × List ((Int × Int) × Int) ⊕ Bool × List (((Int × Int) × Int) × Bool) × List (((Int × Int) × Int) × Option (List ((Int × Int) × Int))) × List ((Int × Int) × Int) ⊕ List ((Int × Int) × Int) × List (((Int × Int) × Int) × Bool) × List (((Int × Int) × Int) × Option (List ((Int × Int) × Int))) ⊕ List (((Int × Int) × Int) × Bool) × List (((Int × Int) × Int) × Option (List ((Int × Int) × Int))) ⊕ Bool) => some r))) (P.bind (P.iter K (inF r.fst (P.get Y.snd.fst y_1.snd.fst ((ByteArray.mk #[]), (0 : Int))).snd k) (false, (0 : Int), y_1.snd.snd.fst, y_1.snd.snd.snd.fst, y_1.snd.snd.snd.snd)) (P.either (fun (z : Bool × List (((Int × Int) × Int) × Bool) × List (((Int × Int) × Int) × Option (List ((Int × Int) × Int))) × List ((Int × Int) × Int)) => some (Sum.inl (z.fst, P.wrap IntKind.i64 (P.add y_1.snd.fst ((1 : Int))), z.snd.fst, z.snd.snd.fst, z.snd.snd.snd))) fun (r : Bool × Int × List (((Int × Int) × Int) × Bool) × List (((Int × Int) × Int) × Option (List ((Int × Int) × Int))) × List ((Int × Int) × Int) ⊕ Bool × List (((Int × Int) × Int) × Bool) × List (((Int × Int) × Int) × Option (List ((Int × Int) × Int))) × List ((Int × Int) × Int) ⊕ List ((Int × Int) × Int) × List (((Int × Int) × Int) × Bool) × List (((Int × Int) × Int) × Option (List ((Int × Int) × Int))) ⊕ List (((Int × Int) × Int) × Bool) × List (((Int × Int) × Int) × Option (List ((Int × Int) × Int))) ⊕ Bool) => some r))) (P.bind (P.iter K (inF r.fst (P.get Y.snd.fst y_1.snd.fst ((ByteArray.mk #[]), (0 : Int))).snd k) (false, (0 : Int), y_1.snd.snd.fst, y_1.snd.snd.snd.fst, y_1.snd.snd.snd.snd)) (P.either (fun (z : Bool × List (((Int × Int) × Int) × Bool) × List (((Int × Int) × Int) × Option (List ((Int × Int) × Int))) × List ((Int × Int) × Int)) => some (Sum.inl (z.fst, P.wrap IntKind.i64 (P.add y_1.snd.fst ((1 : Int))), z.snd.fst, z.snd.snd.fst, z.snd.snd.snd))) fun (r : Bool × Int × List (((Int × Int) × Int) × Bool) × List (((Int × Int) × Int) × Option (List ((Int × Int) × Int))) × List ((Int × Int) × Int) ⊕ Bool × List (((Int × Int) × Int) × Bool) × List (((Int × Int) × Int) × Option (List ((Int × Int) × Int))) × List ((Int × Int) × Int) ⊕ List ((Int × Int) × Int) × List (((Int × Int) × Int) × Bool) × List (((Int × Int) × Int) × Option (List ((Int × Int) × Int))) ⊕ List (((Int × Int) × Int) × Bool) × List (((Int × Int) × Int) × Option (List ((Int × Int) × Int))) ⊕ Bool) => some r))) none) (some (Sum.inr (Sum.inl (y_1.fst, y_1.snd.snd.fst, y_1.snd.snd.snd.fst, y_1.snd.snd.snd.snd))))
def orF (Y : Tt) (k : Kf) : S1 → Option (S1 ⊕ (E1 ⊕ (S0 ⊕ (E0 ⊕ Bool)))) := fun (y_1 : Bool × Int × List (((Int × Int) × Int) × Bool) × List (((Int × Int) × Int) × Option (List ((Int × Int) × Int))) × List ((Int × Int) × Int)) => P.cond (P.ilt y_1.snd.fst (P.len Y.snd.snd)) (P.cond (P.inb y_1.snd.fst (P.len Y.snd.snd)) (P.cond (P.not (P.mhas eqF y_1.snd.snd.fst (k.fst, P.get Y.snd.snd y_1.snd.fst ((0 : Int))))) (P.cond (P.room (P.add (P.len y_1.snd.snd.snd.snd) (P.len [(k.fst, P.get Y.snd.snd y_1.snd.fst ((0 : Int)))])) 24) (P.bind (P.dget eqF y_1.snd.snd.snd.fst (k.fst, P.get Y.snd.snd y_1.snd.fst ((0 : Int)))) fun (ys : List ((Int × Int) × Int)) => P.cond (P.room (P.add (P.len ys) (P.len [k])) 24) (some (Sum.inl (true, P.wrap IntKind.i64 (P.add y_1.snd.fst ((1 : Int))), P.mput eqF y_1.snd.snd.fst (k.fst, P.get Y.snd.snd y_1.snd.fst ((0 : Int))) true, P.mput eqF (P.dtake eqF y_1.snd.snd.snd.fst (k.fst, P.get Y.snd.snd y_1.snd.fst ((0 : Int)))) (k.fst, P.get Y.snd.snd y_1.snd.fst ((0 : Int))) (some (P.app ys [k])), P.app y_1.snd.snd.snd.snd [(k.fst, P.get Y.snd.snd y_1.snd.fst ((0 : Int)))]))) none) none) (P.bind (P.dget eqF y_1.snd.snd.snd.fst (k.fst, P.get Y.snd.snd y_1.snd.fst ((0 : Int)))) fun (ys : List ((Int × Int) × Int)) => P.cond (P.room (P.add (P.len ys) (P.len [k])) 24) (P.cond (P.mval eqF y_1.snd.snd.fst (k.fst, P.get Y.snd.snd y_1.snd.fst ((0 : Int))) false) (some (Sum.inl (true, P.wrap IntKind.i64 (P.add y_1.snd.fst ((1 : Int))), y_1.snd.snd.fst, P.mput eqF (P.dtake eqF y_1.snd.snd.snd.fst (k.fst, P.get Y.snd.snd y_1.snd.fst ((0 : Int)))) (k.fst, P.get Y.snd.snd y_1.snd.fst ((0 : Int))) (some (P.app ys [k])), y_1.snd.snd.snd.snd))) (some (Sum.inl (y_1.fst, P.wrap IntKind.i64 (P.add y_1.snd.fst ((1 : Int))), y_1.snd.snd.fst, P.mput eqF (P.dtake eqF y_1.snd.snd.snd.fst (k.fst, P.get Y.snd.snd y_1.snd.fst ((0 : Int)))) (k.fst, P.get Y.snd.snd y_1.snd.fst ((0 : Int))) (some (P.app ys [k])), y_1.snd.snd.snd.snd)))) none)) none) (some (Sum.inr (Sum.inl (y_1.fst, y_1.snd.snd.fst, y_1.snd.snd.snd.fst, y_1.snd.snd.snd.snd))))
noncomputable def stepF (s : Sta) (t : List Tt) (k : Kf) (w : List Kf) (m : List (Kf × Bool) × List (Kf × Option (List Kf))) : Option (S0 ⊕ (E0 ⊕ Bool)) := P.cond (P.not (P.mval eqF m.fst k false)) (some (Sum.inl (w, m.fst, m.snd))) (P.cond (P.inb k.snd (P.len t)) (P.cond (P.ieq (at_ t k.snd).fst ((0 : Int))) (some (Sum.inl (w, m.fst, m.snd))) (P.cond (P.ieq (at_ t k.snd).fst ((4 : Int))) (P.cond (P.not (P.ieq k.fst.fst ((4 : Int)))) (P.cond (P.not (P.ieq k.fst.fst ((5 : Int)))) (P.bind (P.dget eqF m.snd k) fun (ys : List ((Int × Int) × Int)) => P.cond (P.room (P.add (P.len w) (P.len ys)) 24) (some (Sum.inl (P.app w ys, P.mput eqF m.fst k false, P.mdel eqF (P.dtake eqF m.snd k) k))) none) (P.bind (P.iter K (outF s (at_ t k.snd) k) (true, (0 : Int), m.fst, m.snd, w)) (P.either (fun (z : Bool × List (((Int × Int) × Int) × Bool) × List (((Int × Int) × Int) × Option (List ((Int × Int) × Int))) × List ((Int × Int) × Int)) => P.cond z.fst (some (Sum.inl (z.snd.snd.snd, z.snd.fst, z.snd.snd.fst))) (P.bind (P.dget eqF z.snd.snd.fst k) fun (ys : List ((Int × Int) × Int)) => P.cond (P.room (P.add (P.len z.snd.snd.snd) (P.len ys)) 24) (some (Sum.inl (P.app z.snd.snd.snd ys, P.mput eqF z.snd.fst k false, P.mdel eqF (P.dtake eqF z.snd.snd.fst k) k))) none)) fun (r : List ((Int × Int) × Int) × List (((Int × Int) × Int) × Bool) × List (((Int × Int) × Int) × Option (List ((Int × Int) × Int))) ⊕ List (((Int × Int) × Int) × Bool) × List (((Int × Int) × Int) × Option (List ((Int × Int) × Int))) ⊕ Bool) => some r))) (P.bind (P.iter K (outF s (at_ t k.snd) k) (true, (0 : Int), m.fst, m.snd, w)) (P.either (fun (z : Bool × List (((Int × Int) × Int) × Bool) × List (((Int × Int) × Int) × Option (List ((Int × Int) × Int))) × List ((Int × Int) × Int)) => P.cond z.fst (some (Sum.inl (z.snd.snd.snd, z.snd.fst, z.snd.snd.fst))) (P.bind (P.dget eqF z.snd.snd.fst k) fun (ys : List ((Int × Int) × Int)) => P.cond (P.room (P.add (P.len z.snd.snd.snd) (P.len ys)) 24) (some (Sum.inl (P.app z.snd.snd.snd ys, P.mput eqF z.snd.fst k false, P.mdel eqF (P.dtake eqF z.snd.snd.fst k) k))) none)) fun (r : List ((Int × Int) × Int) × List (((Int × Int) × Int) × Bool) × List (((Int × Int) × Int) × Option (List ((Int × Int) × Int))) ⊕ List (((Int × Int) × Int) × Bool) × List (((Int × Int) × Int) × Option (List ((Int × Int) × Int))) ⊕ Bool) => some r))) (P.cond (P.ieq (at_ t k.snd).fst ((5 : Int))) (P.bind (P.iter K (orF (at_ t k.snd) k) (false, (0 : Int), m.fst, m.snd, w)) (P.either (fun (z : Bool × List (((Int × Int) × Int) × Bool) × List (((Int × Int) × Int) × Option (List ((Int × Int) × Int))) × List ((Int × Int) × Int)) => P.cond z.fst (some (Sum.inl (z.snd.snd.snd, z.snd.fst, z.snd.snd.fst))) (P.bind (P.dget eqF z.snd.snd.fst k) fun (ys : List ((Int × Int) × Int)) => P.cond (P.room (P.add (P.len z.snd.snd.snd) (P.len ys)) 24) (some (Sum.inl (P.app z.snd.snd.snd ys, P.mput eqF z.snd.fst k false, P.mdel eqF (P.dtake eqF z.snd.snd.fst k) k))) none)) fun (r : List ((Int × Int) × Int) × List (((Int × Int) × Int) × Bool) × List (((Int × Int) × Int) × Option (List ((Int × Int) × Int))) ⊕ List (((Int × Int) × Int) × Bool) × List (((Int × Int) × Int) × Option (List ((Int × Int) × Int))) ⊕ Bool) => some r)) (P.cond (P.ieq (P.mval (fun (x y : Int) => P.ieq x y) (P.mput (fun (x y : Int) => P.ieq x y) (P.mput (fun (x y : Int) => P.ieq x y) (P.mput (fun (x y : Int) => P.ieq x y) [] ((1 : Int)) ((0 : Int))) ((2 : Int)) ((1 : Int))) ((3 : Int)) ((2 : Int))) (at_ t k.snd).fst ((0 : Int))) k.fst.fst) (some (Sum.inl (w, m.fst, m.snd))) (P.bind (P.dget eqF m.snd k) fun (ys : List ((Int × Int) × Int)) => P.cond (P.room (P.add (P.len w) (P.len ys)) 24) (some (Sum.inl (P.app w ys, P.mput eqF m.fst k false, P.mdel eqF (P.dtake eqF m.snd k) k))) none))))) none)
noncomputable def bodyF (s : Sta) (t : List Tt) : S0 → Option (S0 ⊕ (E0 ⊕ Bool)) := fun (y : List ((Int × Int) × Int) × List (((Int × Int) × Int) × Bool) × List (((Int × Int) × Int) × Option (List ((Int × Int) × Int)))) => P.cond (P.ilt ((0 : Int)) (P.len y.fst)) (P.cond (P.inb (P.wrap IntKind.i64 (P.sub (P.len y.fst) ((1 : Int)))) (P.len y.fst)) (P.cond (P.cut ((0 : Int)) (P.wrap IntKind.i64 (P.sub (P.len y.fst) ((1 : Int)))) (P.len y.fst)) (stepF s t (P.get y.fst (P.wrap IntKind.i64 (P.sub (P.len y.fst) ((1 : Int)))) (((0 : Int), (0 : Int)), (0 : Int))) (P.sub_ y.fst ((0 : Int)) (P.wrap IntKind.i64 (P.sub (P.len y.fst) ((1 : Int))))) y.snd) none) none) (some (Sum.inr (Sum.inl (y.snd.fst, y.snd.snd))))
theorem one_form (s : Sta) (x : At) (t : List Tt) (a : Int) : fits_one K (s, x, t, a) = P.bind (P.iter K (bodyF s t) ([(x, a)], P.mput eqF [] (x, a) true, [])) (P.either (fun z => some (P.mval eqF z.1 (x, a) false)) fun r => some r) := rfl
theorem find_at {s : Sta} (hs : Small25 s) (x : At) (n : ByteArray) : lookup_Find K (s, [x], n) = some (findL s.2.2 n [x]) := at_find s [x] n hs.1 (by simp)
abbrev dA : At := (0, 0)
theorem get_A (l : List At) (i : Nat) : P.get l (i : Int) (0, 0) = l.getD i dA := get_nat l i _
theorem in_step (R : List At) (ft : Int) (k : Kf) (ok : Bool) (i : Nat) (m : MF) (hi : i < R.length) (hR : R.length ≤ 1000000) (hT : Tidy m.2.1) (h1 : m.2.2.length ≤ 2 * BB) (h2 : ∀ o, (onOf eqF m.2.1 o).length ≤ 2 * BB) :
    inF R ft k (ok, (i : Int), m) = some (.inl (ok && ansM eqF m (R.getD i dA, ft), ((i + 1 : Nat) : Int), hold1 eqF k m (R.getD i dA, ft))) := by
  unfold inF
  try dsimp only
  rw [ilt_len hi, cond_true, inb_len hi, cond_true, get_A, wrap_succ (by omega)]
  generalize (R.getD i dA, ft) = o
  unfold ansM hold1
  cases q : P.mhas eqF m.1 o with
  | false =>
    rw [not_false', cond_true, hold_roomC 24 (by omega) o _ h1, hold_getC 24 (by omega) k o _ hT (h2 o)]
    simp
  | true =>
    rw [not_true, cond_false, hold_getC 24 (by omega) k o _ hT (h2 o)]
    cases P.mval eqF m.1 o false <;> simp [P.cond]
theorem in_end (R : List At) (ft : Int) (k : Kf) (ok : Bool) (m : MF) : inF R ft k (ok, (R.length : Int), m) = some (.inr (.inl (ok, m))) := by
  unfold inF
  try dsimp only
  rw [ilt_end, cond_false]
theorem or_step (Y : Tt) (k : Kf) (ok : Bool) (i : Nat) (m : MF) (hi : i < Y.2.2.length) (hR : Y.2.2.length ≤ 1000000) (hT : Tidy m.2.1) (h1 : m.2.2.length ≤ 2 * BB) (h2 : ∀ o, (onOf eqF m.2.1 o).length ≤ 2 * BB) :
    orF Y k (ok, (i : Int), m) = some (.inl (ok || ansM eqF m (k.1, Y.2.2.getD i 0), ((i + 1 : Nat) : Int), hold1 eqF k m (k.1, Y.2.2.getD i 0))) := by
  unfold orF
  try dsimp only
  rw [ilt_len hi, cond_true, inb_len hi, cond_true, get_I, wrap_succ (by omega)]
  generalize (k.1, Y.2.2.getD i 0) = o
  unfold ansM hold1
  cases q : P.mhas eqF m.1 o with
  | false =>
    rw [not_false', cond_true, hold_roomC 24 (by omega) o _ h1, hold_getC 24 (by omega) k o _ hT (h2 o)]
    simp
  | true =>
    rw [not_true, cond_false, hold_getC 24 (by omega) k o _ hT (h2 o)]
    cases P.mval eqF m.1 o false <;> simp [P.cond]
theorem or_end (Y : Tt) (k : Kf) (ok : Bool) (m : MF) : orF Y k (ok, (Y.2.2.length : Int), m) = some (.inr (.inl (ok, m))) := by
  unfold orF
  try dsimp only
  rw [ilt_end, cond_false]
theorem out_step {s : Sta} (hs : Small25 s) (Y : Tt) (k : Kf) (ok : Bool) (i : Nat) (m : MF) (hi : i < Y.2.1.length) (hY : Y.2.1.length ≤ 10) (W : Nat) (hW : W + 100000 ≤ 2 * BB) (hT : Tidy m.2.1) (h1 : m.2.2.length ≤ W) (h2 : ∀ o, (onOf eqF m.2.1 o).length ≤ W) :
    ∃ m', outF s Y k (ok, (i : Int), m) = some (.inl (ok && (okF (findL s.2.2 (Y.2.1.getD i dF).1 [k.1]) && (keysO s.2.2 k.1 (Y.2.1.getD i dF)).all (ans (toSt eqF m))), ((i + 1 : Nat) : Int), m')) ∧
      Tidy m'.2.1 ∧ toSt eqF m' = asks k (keysO s.2.2 k.1 (Y.2.1.getD i dF)) (toSt eqF m) ∧ m'.2.2.length ≤ W + 12801 ∧ ∀ o, (onOf eqF m'.2.1 o).length ≤ W + 12801 := by
  generalize hf : Y.2.1.getD i dF = f
  have hl : (findL s.2.2 f.1 [k.1]).1.length ≤ 12801 := Nat.le_trans (find_len (x := k.1)) (vals_len hs k.1)
  have run : ∀ b, ∃ m', Tidy m'.2.1 ∧ toSt eqF m' = asks k (keysO s.2.2 k.1 f) (toSt eqF m) ∧ m'.2.2.length ≤ W + 12801 ∧ (∀ o, (onOf eqF m'.2.1 o).length ≤ W + 12801) ∧ P.iter K (inF (findL s.2.2 f.1 [k.1]).1 f.2 k) (b, 0, m) = some (.inl (b && (keysO s.2.2 k.1 f).all (ans (toSt eqF m)), m')) := by
    intro b
    obtain ⟨m', g1, g2, g3, g4, g5⟩ := all_run eqF_iff (findL s.2.2 f.1 [k.1]).1 dA (fun w => (w, f.2)) k W (F := inF (findL s.2.2 f.1 [k.1]).1 f.2 k) (fun ok i m hi hT h1 h2 => in_step _ _ k ok i m hi (by omega) hT (by unfold BB at *; omega) (fun o => by have := h2 o; unfold BB at *; omega)) (fun ok m => in_end _ _ k ok m) (by omega) b m h1 h2 hT
    refine ⟨m', g1, g2, by omega, fun o => by have := g4 o; omega, ?_⟩
    rw [g5]
    unfold keysO
    rw [List.all_map]
    rfl
  unfold outF
  try dsimp only
  rw [ilt_len hi, cond_true, inb_len hi, cond_true, get_F, hf, wrap_succ (by omega), find_at hs, bind_some]
  generalize findL s.2.2 f.1 [k.1] = d at *
  obtain ⟨V, D, S, M⟩ := d
  have fin : ∀ b, b = (ok && okF (V, D, S, M)) → ∃ m', P.bind (P.iter K (inF V f.2 k) (b, 0, m)) (P.either (fun z => some (Sum.inl (z.1, ((i + 1 : Nat) : Int), z.2.1, z.2.2.1, z.2.2.2))) fun r => some r) = some (.inl (ok && (okF (V, D, S, M) && (keysO s.2.2 k.1 f).all (ans (toSt eqF m))), ((i + 1 : Nat) : Int), m')) ∧
      Tidy m'.2.1 ∧ toSt eqF m' = asks k (keysO s.2.2 k.1 f) (toSt eqF m) ∧ m'.2.2.length ≤ W + 12801 ∧ ∀ o, (onOf eqF m'.2.1 o).length ≤ W + 12801 := by
    intro b hb
    obtain ⟨m', g1, g2, g3, g4, g5⟩ := run b
    refine ⟨m', ?_, g1, g2, g3, g4⟩
    rw [g5, bind_some, either_inl, hb, Bool.and_assoc]
  cases ok <;> cases M <;> cases S <;> cases D <;> exact fin _ rfl
theorem out_end (s : Sta) (Y : Tt) (k : Kf) (ok : Bool) (m : MF) : outF s Y k (ok, (Y.2.1.length : Int), m) = some (.inr (.inl (ok, m))) := by
  unfold outF
  try dsimp only
  rw [ilt_end, cond_false]
theorem kindsF_eq (z : Int) : P.mval (fun (x y : Int) => P.ieq x y) (P.mput (fun (x y : Int) => P.ieq x y) (P.mput (fun (x y : Int) => P.ieq x y) (P.mput (fun (x y : Int) => P.ieq x y) [] ((1 : Int)) ((0 : Int))) ((2 : Int)) ((1 : Int))) ((3 : Int)) ((2 : Int))) z ((0 : Int)) = kindF z := by
  have e : P.mput (fun (x y : Int) => P.ieq x y) (P.mput (fun (x y : Int) => P.ieq x y) (P.mput (fun (x y : Int) => P.ieq x y) [] ((1 : Int)) ((0 : Int))) ((2 : Int)) ((1 : Int))) ((3 : Int)) ((2 : Int)) = [(1, 0), (2, 1), (3, 2)] := by rfl
  rw [e]
  unfold kindF
  simp only [P.mval]
  by_cases h1 : z = 1
  · subst h1; rfl
  · rw [show P.ieq z 1 = false from by rw [Bool.eq_false_iff, Ne, ieq_iff]; exact h1, if_neg h1]
    by_cases h2 : z = 2
    · subst h2; rfl
    · rw [show P.ieq z 2 = false from by rw [Bool.eq_false_iff, Ne, ieq_iff]; exact h2, if_neg h2]
      by_cases h3 : z = 3
      · subst h3; rfl
      · rw [show P.ieq z 3 = false from by rw [Bool.eq_false_iff, Ne, ieq_iff]; exact h3, if_neg h3]
theorem ieq_f {a b : Int} (h : a ≠ b) : P.ieq a b = false := by rw [Bool.eq_false_iff, Ne, ieq_iff]; exact h
theorem step_ok {s : Sta} {t : List Tt} (hs : Small25 s) (ht : SmallT t) (w : List Kf) (k : Kf) (out : List (Kf × Bool)) (on : List (Kf × Option (List Kf))) (k2 : Inb t.length k.2) (hT : Tidy on) (hw : w.length ≤ BB) (hon : ∀ o, (onOf eqF on o).length ≤ BB) :
    Done eqF (Sv.step (askedF t s.2.2) (ruleF t s.2.2) (toSt eqF (out, on, w ++ [k])) k w) (stepF s t k w (out, on)) := by
  unfold stepF
  try dsimp only
  cases hv : P.mval eqF out k false with
  | false =>
    rw [not_false', cond_true]
    exact step_skip hT hv
  | true =>
    have sm := at_small ht k.2
    have leaf : ∀ b, b = ruleF t s.2.2 k (ans (toSt eqF (out, on, w))) → askedF t s.2.2 k = [] → Done eqF (ρ := E0 ⊕ Bool) (Sv.step (askedF t s.2.2) (ruleF t s.2.2) (toSt eqF (out, on, w ++ [k])) k w) (P.cond b (some (.inl (w, out, on))) (P.bind (P.dget eqF on k) fun ys => P.cond (P.room (P.add (P.len w) (P.len ys)) 24) (some (.inl (P.app w ys, P.mput eqF out k false, P.mdel eqF (P.dtake eqF on k) k))) none)) := fun b hb he =>
      step_finC eqF_iff hv (bytes := 24) (by omega) b (out, on, w) hb hT (by rw [he]; rfl) (show w.length ≤ 2 * BB by omega) (fun o => show (onOf eqF on o).length ≤ 2 * BB by have := hon o; omega)
    rw [not_true, cond_false, show P.inb k.2 (P.len t) = true from by rw [len_eq]; exact inb_iff.2 k2, cond_true]
    by_cases x0 : (at_ t k.2).1 = 0
    · rw [show P.ieq (at_ t k.2).1 0 = true from ieq_iff.2 x0, cond_true]
      exact leaf true (by unfold ruleF; rw [if_pos x0]) (by unfold askedF; rw [if_pos x0])
    · rw [ieq_f x0, cond_false]
      by_cases x4 : (at_ t k.2).1 = 4
      · rw [show P.ieq (at_ t k.2).1 4 = true from ieq_iff.2 x4, cond_true]
        have obj : isO k.1 → Done eqF (Sv.step (askedF t s.2.2) (ruleF t s.2.2) (toSt eqF (out, on, w ++ [k])) k w) (P.bind (P.iter K (outF s (at_ t k.2) k) (true, 0, out, on, w)) (P.either (fun z => P.cond z.1 (some (Sum.inl (z.2.2.2, z.2.1, z.2.2.1))) (P.bind (P.dget eqF z.2.2.1 k) fun ys => P.cond (P.room (P.add (P.len z.2.2.2) (P.len ys)) 24) (some (Sum.inl (P.app z.2.2.2 ys, P.mput eqF z.2.1 k false, P.mdel eqF (P.dtake eqF z.2.2.1 k) k))) none)) fun r => some r)) := fun hO => by
          obtain ⟨m', g1, g2, g3, g4, g5⟩ := many_run (f := eqF) (at_ t k.2).2.1 dF (fun f => okF (findL s.2.2 f.1 [k.1])) (keysO s.2.2 k.1) k BB 12801 (fun f _ => by unfold keysO; rw [List.length_map]; exact Nat.le_trans (find_len (x := k.1)) (vals_len hs k.1))
            (F := outF s (at_ t k.2) k) (fun ok i m hi hT h1 h2 => out_step hs _ k ok i m hi sm.1 (BB + i * 12801) (by have : i * 12801 ≤ 10 * 12801 := Nat.mul_le_mul_right _ (by omega); unfold BB; omega) hT h1 h2) (fun ok m => out_end s _ k ok m) (by omega) (out, on, w) hw hon hT
          rw [g5, bind_some, either_inl]
          have hl : (at_ t k.2).2.1.length * 12801 ≤ 10 * 12801 := Nat.mul_le_mul_right _ sm.1
          refine step_finC eqF_iff hv (bytes := 24) (by omega) _ m' ?_ g1 ?_ (by unfold BB at *; omega) (fun o => by have := g4 o; unfold BB at *; omega)
          · unfold ruleF; rw [if_neg x0, if_pos x4, if_pos hO]
          · rw [g2]; unfold askedF; rw [if_neg x0, if_pos x4, if_pos hO]
        by_cases y4 : k.1.1 = 4
        · rw [show P.ieq k.1.1 4 = true from ieq_iff.2 y4, not_true, cond_false]
          exact obj (.inl y4)
        · rw [ieq_f y4, not_false', cond_true]
          by_cases y5 : k.1.1 = 5
          · rw [show P.ieq k.1.1 5 = true from ieq_iff.2 y5, not_true, cond_false]
            exact obj (.inr y5)
          · rw [ieq_f y5, not_false', cond_true]
            have hO : ¬ isO k.1 := fun z => z.elim y4 y5
            exact leaf false (by unfold ruleF; rw [if_neg x0, if_pos x4, if_neg hO]) (by unfold askedF; rw [if_neg x0, if_pos x4, if_neg hO])
      · rw [ieq_f x4, cond_false]
        by_cases x5 : (at_ t k.2).1 = 5
        · rw [show P.ieq (at_ t k.2).1 5 = true from ieq_iff.2 x5, cond_true]
          obtain ⟨m', g1, g2, g3, g4, g5⟩ := any_run eqF_iff (at_ t k.2).2.2 0 (fun e => (k.1, e)) k BB (F := orF (at_ t k.2) k) (fun ok i m hi hT h1 h2 => or_step _ k ok i m hi (by omega) hT (by unfold BB at *; omega) (fun o => by have := h2 o; unfold BB at *; omega)) (fun ok m => or_end _ k ok m) (by omega) false (out, on, w) hw hon hT
          rw [g5, bind_some, either_inl]
          refine step_finC eqF_iff hv (bytes := 24) (by omega) _ m' ?_ g1 ?_ (by unfold BB at *; omega) (fun o => by have := g4 o; unfold BB at *; omega)
          · unfold ruleF; rw [if_neg x0, if_neg x4, if_pos x5, Bool.false_or]
          · rw [g2]; unfold askedF; rw [if_neg x0, if_neg x4, if_pos x5]
        · rw [ieq_f x5, cond_false, kindsF_eq]
          exact leaf _ (by unfold ruleF; rw [if_neg x0, if_neg x4, if_neg x5]; rfl) (by unfold askedF; rw [if_neg x0, if_neg x4, if_neg x5])
open Classical in
theorem one_body (s : Sta) (x : At) (t : List Tt) (a : Int) (hs : Small25 s) (ht : SmallT t) (hm : MayD t) (ha : Inb t.length a) : fits_one K (s, x, t, a) = some (decide (Fit t s.2.2 x a)) := by
  have hmt := mayD_mayT hm
  rw [one_form]
  refine solve_goalC eqF_iff (asked := askedF t s.2.2) (rule := ruleF t s.2.2) (cj := cjF t) (ruleF_mono t s.2.2) (ruleF_conj t s.2.2) (U := keysF t.length s.2.2 x) (start := (x, a)) (askedF_keys hmt) (mem_keysF.2 ⟨by simp [valsF], ha⟩) (asksF ht hs) (by
      have := keysF_len (x := x) hs ht.2
      have := Nat.mul_le_mul_right (2 * 128010 + 10240) this
      unfold BB; omega) (fun w k out on hk hT hw hon => ?_) (fun out on => ?_)
  · obtain ⟨_, k2⟩ := mem_keysF.1 hk
    obtain ⟨l1, l2, l3, l4, l5, l6⟩ := last_keyC w k (((0 : Int), (0 : Int)), (0 : Int)) hw
    unfold bodyF
    try dsimp only
    simp only [l1, l2, l3, l4, l5, l6, cond_true]
    exact step_ok hs ht w k out on k2 hT hw hon
  · unfold bodyF
    try dsimp only
    rw [show P.ilt (0 : Int) (P.len ([] : List Kf)) = false from by decide, cond_false]
end Go.PL.Ty
end
section
open Go Go.PG Go.PL Go.PL.Sv
set_option linter.all false
namespace Go.PL.Ty
def RuleFP (t : List Tt) (T : List Lc) (R : Kf → Prop) (p : Kf) : Prop :=
  if (at_ t p.2).1 = 0 then True else
  if (at_ t p.2).1 = 4 then isO p.1 ∧ ∀ f ∈ (at_ t p.2).2.1, okF (findL T f.1 [p.1]) = true ∧ ∀ w ∈ (findL T f.1 [p.1]).1, R (w, f.2) else
  if (at_ t p.2).1 = 5 then ∃ e ∈ (at_ t p.2).2.2, R (p.1, e) else kindF (at_ t p.2).1 = p.1.1
theorem ruleF_iff {t : List Tt} {T : List Lc} {p : Kf} {g : Kf → Bool} : ruleF t T p g = true ↔ RuleFP t T (fun q => g q = true) p := by
  unfold ruleF RuleFP
  split
  · simp
  · split
    · split
      · rename_i h
        rw [List.all_eq_true]
        constructor
        · intro z
          refine ⟨h, fun f hf => ?_⟩
          have := z f hf
          rw [Bool.and_eq_true] at this
          refine ⟨this.1, fun w hw => ?_⟩
          have h2 := this.2
          unfold keysO at h2
          rw [List.all_eq_true] at h2
          exact h2 _ (List.mem_map.2 ⟨w, hw, rfl⟩)
        · rintro ⟨_, z⟩ f hf
          rw [Bool.and_eq_true]
          refine ⟨(z f hf).1, ?_⟩
          unfold keysO
          rw [List.all_eq_true]
          intro o ho
          obtain ⟨w, hw, rfl⟩ := List.mem_map.1 ho
          exact (z f hf).2 w hw
      · rename_i h
        exact ⟨fun z => (by cases z), fun z => absurd z.1 h⟩
    · split
      · simp
      · simp
theorem RuleFP.mono' {t : List Tt} {T : List Lc} {R R' : Kf → Prop} {p : Kf} (h : ∀ o, R o → R' o) (hp : RuleFP t T R p) : RuleFP t T R' p := by
  unfold RuleFP at hp ⊢
  split at hp
  · rename_i c; rw [if_pos c]; trivial
  · rename_i c; rw [if_neg c]
    split at hp
    · rename_i c; rw [if_pos c]
      exact ⟨hp.1, fun f hf => ⟨(hp.2 f hf).1, fun w hw => h _ ((hp.2 f hf).2 w hw)⟩⟩
    · rename_i c; rw [if_neg c]
      split at hp
      · rename_i c; rw [if_pos c]
        obtain ⟨e, he, r⟩ := hp
        exact ⟨e, he, h _ r⟩
      · rename_i c; rw [if_neg c]; exact hp
theorem RuleFP.mono {t : List Tt} {T : List Lc} {R R' : Kf → Prop} {p : Kf} (h : ∀ o ∈ askedF t T p, R o → R' o) (hp : RuleFP t T R p) : RuleFP t T R' p := by
  unfold RuleFP at hp ⊢
  unfold askedF at h
  split at hp
  · rename_i c; rw [if_pos c]; trivial
  · rename_i c; rw [if_neg c] at h ⊢
    split at hp
    · rename_i c; rw [if_pos c] at h ⊢
      rw [if_pos hp.1] at h
      exact ⟨hp.1, fun f hf => ⟨(hp.2 f hf).1, fun w hw => h _ (List.mem_flatMap.2 ⟨f, hf, List.mem_map.2 ⟨w, hw, rfl⟩⟩) ((hp.2 f hf).2 w hw)⟩⟩
    · rename_i c; rw [if_neg c] at h ⊢
      split at hp
      · rename_i c; rw [if_pos c] at h ⊢
        obtain ⟨e, he, r⟩ := hp
        exact ⟨e, he, h _ (List.mem_map.2 ⟨e, he, rfl⟩) r⟩
      · rename_i c; rw [if_neg c]; exact hp
open Classical in
theorem holdsF_iff {t : List Tt} {T : List Lc} {S : Kf → Prop} : Holds (ruleF t T) S ↔ ∀ p, S p → RuleFP t T S p := by
  constructor
  · intro h p hp
    have := ruleF_iff.1 (h p hp (fun q => decide (S q)) fun o ho => by simpa using ho)
    exact this.mono' fun o q => by simpa using q
  · intro h p hp f hf
    exact ruleF_iff.2 ((h p hp).mono' fun o q => hf o q)
theorem fit_of {t : List Tt} {T : List Lc} {x : At} {a : Int} (S : Kf → Prop) (h : S (x, a)) (hS : ∀ p, S p → RuleFP t T S p) : Fit t T x a := ⟨S, h, holdsF_iff.2 hS⟩
theorem fit_rule {t : List Tt} {T : List Lc} {x : At} {a : Int} (h : Fit t T x a) : RuleFP t T (fun q => Fit t T q.1 q.2) (x, a) :=
  holdsF_iff.1 (gfp_holds (askedF t T) (ruleF t T) (ruleF_mono t T)) (x, a) h
theorem fit_iff {t : List Tt} {T : List Lc} {x : At} {a : Int} : Fit t T x a ↔ RuleFP t T (fun q => Fit t T q.1 q.2) (x, a) := by
  refine ⟨fit_rule, fun h => fit_of (fun p => p = (x, a) ∨ Fit t T p.1 p.2) (.inl rfl) ?_⟩
  rintro p (rfl | hp)
  · exact h.mono' fun o q => .inr q
  · exact (fit_rule hp).mono' fun o q => .inr q
theorem fit_sub {t : List Tt} {T : List Lc} (h : MayT t) {x : At} {a b : Int} (h1 : Fit t T x a) (h2 : Sub t a b) : Fit t T x b := by
  refine fit_of (fun p => ∃ a, Fit t T p.1 a ∧ Sub t a p.2) ⟨a, h1, h2⟩ fun ⟨v, z⟩ ⟨y, h1, h2⟩ => ?_
  have h1 : Fit t T v y := h1
  have h2 : Sub t y z := h2
  obtain ⟨n, hn⟩ : ∃ n, y.toNat = n := ⟨_, rfl⟩
  induction n using Nat.strongRecOn generalizing y with
  | _ n ih =>
    have r1 := fit_rule h1
    have r2 := sub_rule h2
    unfold RuleFP at r1
    unfold RuleP at r2
    by_cases ky : (at_ t y).1 = 5
    · rw [if_neg (by rw [ky]; decide), if_neg (by rw [ky]; decide), if_pos ky] at r1
      rw [if_pos ky] at r2
      obtain ⟨e, he, r1⟩ := r1
      exact ih e.toNat (by have := h.elem_lt ky he; omega) e r1 (r2 e he) r1 (r2 e he) rfl
    · unfold RuleFP
      simp only at r1 r2 ⊢
      rw [if_neg ky] at r2
      by_cases k0 : (at_ t z).1 = 0
      · rw [if_pos k0]; trivial
      · rw [if_neg k0]
        by_cases kz : (at_ t z).1 = 5
        · rw [if_pos kz] at r2
          rw [if_neg (by rw [kz]; decide), if_pos kz]
          obtain ⟨e, he, r2⟩ := r2
          exact ⟨e, he, y, h1, r2⟩
        · rw [if_neg kz, if_neg k0] at r2
          by_cases e2 : (at_ t y).1 = (at_ t z).1
          · rw [if_neg (by simpa using e2)] at r2
            rw [if_neg (by rw [e2]; exact k0)] at r1
            by_cases k4 : (at_ t z).1 = 4
            · rw [if_pos (by rw [e2]; exact k4)] at r1
              rw [if_pos k4]
              refine ⟨r1.1, fun f hf => ?_⟩
              obtain ⟨k, hk, hs⟩ := r2 f hf
              obtain ⟨g1, g2⟩ := r1.2 (f.1, k) (fieldT_mem hk)
              exact ⟨g1, fun w hw => ⟨k, g2 w hw, hs⟩⟩
            · rw [if_neg (by rw [e2]; exact k4), if_neg ky] at r1
              rw [if_neg k4, if_neg kz, ← e2]
              exact r1
          · rw [if_pos e2] at r2; exact r2.elim
def FitsP (s : Sta) (v : List At) (t : List Tt) (a : Int) : Prop := Go.PL.MayS s ∧ MayD t ∧ Inb t.length a ∧ v = norm v ∧ ∀ x ∈ v, Fit t s.2.2 x a
open Classical in
noncomputable def fitsB (s : Sta) (v : List At) (t : List Tt) (a : Int) : Bool := decide (FitsP s v t a)
open Classical in
theorem fits_true {s : Sta} {v : List At} {t : List Tt} {a : Int} : fitsB s v t a = true ↔ FitsP s v t a := by unfold fitsB; rw [decide_eq_true_eq]
theorem fits_false {s : Sta} {v : List At} {t : List Tt} {a : Int} : fitsB s v t a = false ↔ ¬ FitsP s v t a := by rw [← fits_true]; simp
theorem at_fmay {s : Sta} {t : List Tt} {a : Int} (hs : Small25 s) (ht : SmallT t) : fits_may K (s, t, a) = some (decide (Go.PL.MayS s ∧ MayD t ∧ Inb t.length a)) := by
  unfold fits_may
  try dsimp only
  rw [show state_May K s = some (decide (Go.PL.MayS s)) from Go.PL.st_may s (small_fewT hs.1), bind_some, at_may t (small_few ht), bind_some, ile_dec, ilt_dec, len_eq]
  by_cases h1 : Go.PL.MayS s
  · by_cases h2 : MayD t
    · rw [decide_eq_true h1, cond_true, decide_eq_true h2, cond_true]
      unfold Inb
      by_cases h3 : 0 ≤ a
      · rw [decide_eq_true h3, cond_true]
        congr 1
        rw [decide_eq_decide]
        exact ⟨fun z => ⟨h1, h2, h3, z⟩, fun z => z.2.2.2⟩
      · rw [decide_eq_false h3, cond_false, decide_eq_false fun z => h3 z.2.2.1]
    · rw [decide_eq_true h1, cond_true, decide_eq_false h2, cond_false, decide_eq_false fun z => h2 z.2.1]
  · rw [decide_eq_false h1, cond_false, decide_eq_false fun z => h1 z.1]
open Classical in
theorem at_fits (s : Sta) (v : List At) (t : List Tt) (a : Int) (hs : Small25 s) (ht : SmallT t) (hv : v.length ≤ 1000000) : fits_Fits K (s, v, t, a) = some (fitsB s v t a) := by
  unfold fits_Fits
  try dsimp only
  rw [at_fmay hs ht, bind_some]
  by_cases hm : Go.PL.MayS s ∧ MayD t ∧ Inb t.length a
  · rw [decide_eq_true hm, not_true, cond_false, show atoms_May K v = some (decide (v = norm v)) from Go.PL.at_may v (by omega), bind_some]
    by_cases hn : v = norm v
    · rw [decide_eq_true hn, not_true, cond_false]
      rw [loop_all v.length (fun i => Fit t s.2.2 (v.getD i dA) a) (r := false) (by omega) ?_ ?_]
      · have e := forall_getD (l := v) dA (p := fun x => Fit t s.2.2 x a)
        by_cases q : ∀ i, i < v.length → Fit t s.2.2 (v.getD i dA) a
        · rw [if_pos q]
          exact congrArg some (fits_true.2 ⟨hm.1, hm.2.1, hm.2.2, hn, e.1 q⟩).symm
        · rw [if_neg q]
          exact congrArg some (fits_false.2 fun z => q (e.2 z.2.2.2.2)).symm
      · intro i hi
        try dsimp only
        rw [ilt_len hi, cond_true, inb_len hi, cond_true, get_A, one_body s _ t a hs ht hm.2.1 hm.2.2, bind_some, wrap_succ (by omega)]
        by_cases q : Fit t s.2.2 (v.getD i dA) a
        · rw [decide_eq_true q, not_true, cond_false, if_pos q]
        · rw [decide_eq_false q, not_false', cond_true, if_neg q]
      · try dsimp only
        rw [ilt_end, cond_false]
    · rw [decide_eq_false hn, not_false', cond_true]
      exact congrArg some (fits_false.2 fun z => hn z.2.2.2.1).symm
  · rw [decide_eq_false hm, not_false', cond_true]
    exact congrArg some (fits_false.2 fun z => hm ⟨z.1, z.2.1, z.2.2.1⟩).symm
theorem fits_both {s : Sta} {v w : List At} {t : List Tt} {a : Int} (hv : v = norm v) (hw : w = norm w) : FitsP s (norm (v ++ w)) t a ↔ FitsP s v t a ∧ FitsP s w t a := by
  have cv : Canon v := hv ▸ norm_canon v
  have cw : Canon w := hw ▸ norm_canon w
  unfold FitsP
  have nn : norm (v ++ w) = norm (norm (v ++ w)) := canon_ext (norm_canon _) (norm_canon _) fun z => by
    rw [mem_norm (l := norm (v ++ w))]
    exact ⟨fun q => ⟨q, (norm_canon _).2 z q⟩, fun q => q.1⟩
  constructor
  · rintro ⟨h1, h2, h3, _, h5⟩
    exact ⟨⟨h1, h2, h3, hv, fun x hx => h5 x ((mem_normA cv cw).2 (.inl hx))⟩, ⟨h1, h2, h3, hw, fun x hx => h5 x ((mem_normA cv cw).2 (.inr hx))⟩⟩
  · rintro ⟨⟨h1, h2, h3, _, h5⟩, ⟨_, _, _, _, h6⟩⟩
    refine ⟨h1, h2, h3, nn, fun x hx => ?_⟩
    rcases (mem_normA cv cw).1 hx with q | q
    · exact h5 x q
    · exact h6 x q
end Go.PL.Ty
end
section
open Go Go.PG Go.PL Go.PL.Sv
set_option linter.all false
namespace Go.PL.Ty
set_option maxRecDepth 100000 in
theorem fixed25 : law25_fixed K () = some true := by kernel_rfl
theorem g25 {b : Bool} {F X : Option Bool} (h : b = true → X = some true) (hF : F = some true := by first | rfl | (rw [fixed25]; rfl)) : P.cond (P.not b) F X = some true := by
  cases b with
  | true => exact h rfl
  | false => exact hF
theorem g25c {p : Prop} [Decidable p] {F X : Option Bool} (h : ¬ p → X = some true) (hF : F = some true := by first | rfl | (rw [fixed25]; rfl)) : P.cond (decide p) F X = some true := by
  by_cases q : p
  · rw [decide_eq_true q]; exact hF
  · rw [decide_eq_false q]; exact h q
theorem ref_small25 (s : Sta) : ref25_Small K s = some (decide (Small25 s)) := by
  unfold ref25_Small
  try dsimp only
  rw [show ref08_Small K s = some (decide (Go.PL.SmallT s)) from ref_small8 s, bind_some, ile_dec, ile_dec, len_eq, len_eq]
  by_cases h1 : Go.PL.SmallT s
  · rw [decide_eq_true h1, cond_true]
    by_cases h2 : s.2.1.length ≤ 8
    · rw [decide_eq_true (by omega), cond_true]
      congr 1
      rw [decide_eq_decide]
      exact ⟨fun z => ⟨h1, h2, by omega⟩, fun z => by have := z.2.2; omega⟩
    · rw [decide_eq_false (by omega), cond_false, decide_eq_false fun z => h2 z.2.1]
  · rw [decide_eq_false h1, cond_false, decide_eq_false fun z => h1 z.1]
theorem union25 (v w : List At) (h : v.length + w.length ≤ 1000) : ref06_Union K (v, w) = some (norm (v ++ w)) := Go.PL.ref_union v w (by omega)
theorem rmay25 (v : List At) (h : v.length ≤ 1000) : ref06_May K v = some (decide (v = norm v)) := Go.PL.ref_may v (by omega)
open Classical in
theorem sub25 (x : Sta × (List At × List Tt × Int × Int) × List At) (hx : x.2.1.2.1.length ≤ 9223372036854775807) : law25_FitsSub K x = some true := by
  obtain ⟨s, ⟨v, t, a, b⟩, w⟩ := x
  unfold law25_FitsSub
  try dsimp only at hx ⊢
  rw [fixed25, bind_some, not_true, cond_false, ref_small25, bind_some]
  refine g25 fun hs => ?_
  have hs : Small25 s := of_decide_eq_true hs
  rw [ref_small t hx, bind_some]
  refine g25 fun ht => ?_
  have ht : SmallT t := of_decide_eq_true ht
  simp only [ilt_dec]
  refine g25c fun hv => g25c fun hw => ?_
  rw [len_eq] at hv hw
  have hv : v.length ≤ 20 := by omega
  have hw : w.length ≤ 20 := by omega
  rw [rmay25 v (by omega), bind_some]
  refine g25 fun nv => ?_
  have nv : v = norm v := of_decide_eq_true nv
  rw [rmay25 w (by omega), bind_some]
  refine g25 fun nw => ?_
  have nw : w = norm w := of_decide_eq_true nw
  have hu : (norm (v ++ w)).length ≤ 1000000 := by
    have := norm_length (v ++ w)
    rw [List.length_append] at this
    omega
  simp only [at_fits s _ t _ hs ht (show v.length ≤ 1000000 by omega), at_fits s _ t _ hs ht (show w.length ≤ 1000000 by omega), at_fits s _ t _ hs ht hu, ref_sub t ht, union25 v w (by omega), bind_some]
  have both : ∀ z : Bool, fitsB s v t a = z → P.cond z (some (P.beq (fitsB s (norm (v ++ w)) t a) (fitsB s w t a))) (some (P.beq (fitsB s (norm (v ++ w)) t a) false)) = some true := by
    intro z hz
    have e : fitsB s (norm (v ++ w)) t a = (fitsB s v t a && fitsB s w t a) := by
      rw [Bool.eq_iff_iff, Bool.and_eq_true, fits_true, fits_true, fits_true]
      exact fits_both nv nw
    rw [e, hz]
    cases z <;> cases fitsB s w t a <;> rfl
  cases h1 : fitsB s v t a with
  | false => rw [cond_false]; exact both false h1
  | true =>
    rw [cond_true]
    cases h2 : subB t a b with
    | false => rw [cond_false]; exact both true h1
    | true =>
      obtain ⟨m, im, ia, n, f1⟩ := fits_true.1 h1
      have sb : MayD t ∧ Inb t.length a ∧ Inb t.length b ∧ Sub t a b := by unfold subB at h2; exact of_decide_eq_true h2
      have h3 : fitsB s v t b = true := fits_true.2 ⟨m, im, sb.2.2.1, n, fun x hx => fit_sub (mayD_mayT im) (f1 x hx) sb.2.2.2⟩
      rw [cond_true, h3, not_true, cond_false]
      exact both true h1
abbrev t5 : List Tt := [((0 : Int), [], []), ((3 : Int), [], []), ((4 : Int), [], []), ((5 : Int), [], [(1 : Int), (2 : Int)]), ((5 : Int), [], [(0 : Int), (1 : Int)])]
theorem t5_small : SmallT t5 := by decide
theorem t5_run : types_May K t5 = some true := by kernel_rfl
theorem t5_may : MayD t5 := by
  have h := at_may t5 (small_few t5_small)
  rw [t5_run] at h
  exact of_decide_eq_true (Option.some.inj h).symm
theorem fit0 {T : List Lc} {x : At} : Fit t5 T x 0 := by
  rw [fit_iff]; unfold RuleFP; dsimp only; rw [if_pos (by rfl)]; trivial
theorem fit1 {T : List Lc} {x : At} : Fit t5 T x 1 ↔ x.1 = 2 := by
  rw [fit_iff]; unfold RuleFP; dsimp only
  rw [if_neg (by decide), if_neg (by decide), if_neg (by decide)]
  exact ⟨fun z => z.symm, fun z => z.symm⟩
theorem fit2 {T : List Lc} {x : At} : Fit t5 T x 2 ↔ isO x := by
  rw [fit_iff]; unfold RuleFP; dsimp only
  rw [if_neg (by decide), if_pos (by rfl)]
  exact ⟨fun z => z.1, fun z => ⟨z, fun f hf => absurd hf (by simp [t5, at_, P.get])⟩⟩
theorem fit3 {T : List Lc} {x : At} : Fit t5 T x 3 ↔ x.1 = 2 ∨ isO x := by
  rw [fit_iff]; unfold RuleFP; dsimp only
  rw [if_neg (by decide), if_neg (by decide), if_pos (by rfl)]
  rw [← fit1 (T := T), ← fit2 (T := T)]
  constructor
  · rintro ⟨e, he, h⟩
    have he : e ∈ [(1 : Int), 2] := he
    simp at he
    rcases he with rfl | rfl
    · exact .inl h
    · exact .inr h
  · rintro (h | h)
    · exact ⟨1, show (1 : Int) ∈ [(1 : Int), 2] by simp, h⟩
    · exact ⟨2, show (2 : Int) ∈ [(1 : Int), 2] by simp, h⟩
theorem fit4 {T : List Lc} {x : At} : Fit t5 T x 4 := by
  rw [fit_iff]; unfold RuleFP; dsimp only
  rw [if_neg (by decide), if_neg (by decide), if_pos (by rfl)]
  exact ⟨0, show (0 : Int) ∈ [(0 : Int), 1] by simp, fit0⟩
theorem any25 (x : Sta × List At) : law25_FitsAny K x = some true := by
  obtain ⟨s, v⟩ := x
  unfold law25_FitsAny
  try dsimp only
  rw [fixed25, bind_some, not_true, cond_false, ref_small25, bind_some]
  refine g25 fun hs => ?_
  have hs : Small25 s := of_decide_eq_true hs
  rw [show ref08_May K s = some (decide (Go.PL.MayS s)) from Go.PL.ref_may8 s (small_fewT hs.1), bind_some]
  refine g25 fun hm => ?_
  have hm : Go.PL.MayS s := of_decide_eq_true hm
  simp only [ilt_dec]
  refine g25c fun hv => ?_
  rw [len_eq] at hv
  have hv : v.length ≤ 20 := by omega
  rw [rmay25 v (by omega), bind_some]
  refine g25 fun nv => ?_
  have nv : v = norm v := of_decide_eq_true nv
  have one : ∀ x : At, [x].length ≤ 1000000 := fun x => by simp
  rw [show ref06_Dyn K () = some [(6, 0)] from rfl, show ref06_Num K () = some [(2, 0)] from rfl, show ref06_Null K () = some [(0, 0)] from rfl]
  simp only [bind_some, at_fits s v t5 _ hs t5_small (by omega), at_fits s _ t5 _ hs t5_small (one _)]
  have f1 : fitsB s v t5 0 = true := fits_true.2 ⟨hm, t5_may, by decide, nv, fun _ _ => fit0⟩
  have f2 : fitsB s v t5 4 = true := fits_true.2 ⟨hm, t5_may, by decide, nv, fun _ _ => fit4⟩
  have n6 : ∀ {x : At}, RightA x → [x] = norm [x] := fun {x} h => canon_ext ⟨by simp [Rises], fun z hz => by rw [List.mem_singleton] at hz; rw [hz]; exact h⟩ (norm_canon _) fun z => by rw [mem_norm]; exact ⟨fun q => ⟨q, by rw [List.mem_singleton] at q; rw [q]; exact h⟩, fun q => q.1⟩
  have f3 : fitsB s [(6, 0)] t5 1 = false := fits_false.2 fun z => absurd (fit1.1 (z.2.2.2.2 _ (List.mem_singleton.2 rfl))) (by decide)
  have f4 : fitsB s [(6, 0)] t5 2 = false := fits_false.2 fun z => absurd (fit2.1 (z.2.2.2.2 _ (List.mem_singleton.2 rfl))) (by decide)
  have f5 : fitsB s [(6, 0)] t5 3 = false := fits_false.2 fun z => absurd (fit3.1 (z.2.2.2.2 _ (List.mem_singleton.2 rfl))) (by decide)
  have f6 : fitsB s [(6, 0)] t5 4 = true := fits_true.2 ⟨hm, t5_may, by decide, n6 (by unfold RightA; decide), fun _ _ => fit4⟩
  have f7 : fitsB s [(2, 0)] t5 3 = true := fits_true.2 ⟨hm, t5_may, by decide, n6 (by unfold RightA; decide), fun x hx => by rw [List.mem_singleton] at hx; rw [hx]; exact fit3.2 (.inl rfl)⟩
  have f8 : fitsB s [(0, 0)] t5 3 = false := fits_false.2 fun z => absurd (fit3.1 (z.2.2.2.2 _ (List.mem_singleton.2 rfl))) (by decide)
  rw [f1, cond_true, f2, cond_true, f3, not_false', cond_true, f4, not_false', cond_true, f5, not_false', cond_true, f6, cond_true, f7, cond_true, f8, not_false']
end Go.PL.Ty
end

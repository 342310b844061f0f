/- Lemmas for the claim. -/
import Derived.Test.YtijheoafbhjcbaaGreatDoorG5
import Derived.Test.YtijheoafbhjcbaaGreatDoorG3
import Derived.Lib.ItoaLen
import Derived.Lib.Join
import Derived.Test.YtijheoafbhjcbaaGreatDoorRows
set_option linter.all false
section
open Go Go.PG Go.PL
set_option linter.all false
namespace Go.PL
def gl (l : List Lc) (x : At) : Option Sp := (getL l x).map fun b => b.2
theorem gl_some {l : List Lc} {x : At} {o : Sp} : gl l x = some o → (x, o) ∈ l := by
 intro h
 unfold gl at h
 cases g : getL l x with
 | none => rw [g] at h; cases h
 | some b =>
  rw [g] at h
  injection h with h
  obtain ⟨h1, h2⟩ := getL_mem g
  rw [← h, ← h2]; exact h1
theorem gl_locR (l : List Lc) (x : At) : locR l x = match gl l x with
  | some o => (o, true)
  | none => (([], []), false) := by
 unfold locR gl
 cases getL l x <;> rfl
theorem gl_ok {l : List Lc} (h : ∀ b, b ∈ l → PlaceA b.1 ∧ MayO b.2) {x : At} {o : Sp} (g : gl l x = some o) : MayO o := (h _ (gl_some g)).2
end Go.PL
end
section
open Go Go.PG Go.PL
set_option linter.all false
namespace Go.PL
def SpeakL (x : At) (l : Lc) : Prop := l.1 = x ∨ x ∈ l.2.2 ∨ ∃ f, f ∈ l.2.1 ∧ x ∈ f.2.2
instance (x : At) (l : Lc) : Decidable (SpeakL x l) := by unfold SpeakL; exact inferInstance
def Speaks (s : Sta) (x : At) : Prop := (∃ b, b ∈ s.2.1 ∧ x ∈ b.2) ∨ ∃ l, l ∈ s.2.2 ∧ SpeakL x l
instance (s : Sta) (x : At) : Decidable (Speaks s x) := by unfold Speaks; exact inferInstance
end Go.PL
end
section
open Go Go.PG Go.PL
set_option linter.all false
namespace Go.PL
end Go.PL
end
section
open Go Go.PG Go.PL
set_option linter.all false
namespace Go.PL
def gv (l : List Bv) (n : ByteArray) : Option (List At) := (getV l n).map fun b => b.2
theorem var_gv (l : List Bv) (n : ByteArray) : var l n = (gv l n).getD [(0, 0)] := by
 unfold var gv
 cases getV l n <;> rfl
theorem gv_some {l : List Bv} {n : ByteArray} {v : List At} (h : gv l n = some v) : (n, v) ∈ l := by
 unfold gv at h
 cases g : getV l n with
 | none => rw [g] at h; cases h
 | some b =>
  rw [g] at h
  injection h with h
  obtain ⟨h1, h2⟩ := getV_mem g
  rw [← h, ← h2]; exact h1
theorem gv_mem {l : List Bv} (h : RisesB l) {n : ByteArray} {v : List At} (hm : (n, v) ∈ l) : gv l n = some v := by
 unfold gv
 rw [getV_of_mem h hm]; rfl
theorem gv_none {l : List Bv} {n : ByteArray} : gv l n = none ↔ ∀ b, b ∈ l → b.1 ≠ n := by
 constructor
 ·intro h b hb
  unfold gv at h
  cases g : getV l n with
  | none => exact getV_none g hb
  | some b => rw [g] at h; cases h
 ·intro h
  unfold gv getV
  rw [List.find?_eq_none.2 fun b hb q => h b hb (of_decide_eq_true q)]; rfl
theorem gv_ins {l : List Bv} (h : RisesB l) (y : Bv) (n : ByteArray) : gv (insB l y) n = if n = y.1 then some y.2 else gv l n := by
 have hu := insK_up (lt := ltS) (key := fun b : Bv => b.1) ordS h y
 by_cases q : n = y.1
 ·rw [if_pos q, q]
  exact gv_mem hu ((insK_mem ordS).2 (.inl rfl))
 ·rw [if_neg q]
  cases g : gv l n with
  | none =>
   rw [gv_none] at g ⊢
   intro b hb
   rcases (insK_mem ordS).1 hb with rfl | ⟨h1, _⟩
   ·exact fun z => q z.symm
   ·exact g b h1
  | some o => exact gv_mem hu ((insK_mem ordS).2 (.inr ⟨gv_some g, q⟩))
def both (a b : List Bv) (n : ByteArray) : List At := norm (var a n ++ var b n)
def setJ (a b : List Bv) (V l : List Bv) : List Bv := l.foldl (fun V v => insB V (v.1, both a b v.1)) V
theorem setJ_spec (a b : List Bv) : ∀ (l V : List Bv), RisesB V → RisesB (setJ a b V l) ∧ ∀ n, gv (setJ a b V l) n = if ∃ v, v ∈ l ∧ v.1 = n then some (both a b n) else gv V n := by
 intro l
 induction l with
 | nil => intro V h; exact ⟨h, fun n => by rw [if_neg (by simp)]; rfl⟩
 | cons y l ih =>
  intro V h
  obtain ⟨h1, h2⟩ := ih (insB V (y.1, both a b y.1)) (insK_up ordS h _)
  refine ⟨h1, fun n => ?_⟩
  show gv (setJ a b (insB V (y.1, both a b y.1)) l) n = _
  rw [h2, gv_ins h]
  by_cases q : ∃ v, v ∈ l ∧ v.1 = n
  ·rw [if_pos q, if_pos (by obtain ⟨v, g1, g2⟩ := q; exact ⟨v, List.mem_cons_of_mem _ g1, g2⟩)]
  ·rw [if_neg q]
   by_cases e : n = y.1
   ·rw [if_pos e, if_pos ⟨y, by simp, e.symm⟩, e]
   ·rw [if_neg e, if_neg]
    rintro ⟨v, g1, g2⟩
    rcases List.mem_cons.1 g1 with rfl | g1
    ·exact e g2.symm
    ·exact q ⟨v, g1, g2⟩
def oneJ (a : List Lc) (y : Lc) : Lc := (y.1, match gl a y.1 with
 | some o => join o y.2
 | none => y.2)
def putJ (a : List Lc) (L l : List Lc) : List Lc := l.foldl (fun L y => insL L (oneJ a y)) L
theorem putJ_up (a : List Lc) : ∀ (l L : List Lc), RisesL L → RisesL (putJ a L l) := by
 intro l
 induction l with
 | nil => intro L h; exact h
 | cons y l ih => intro L h; exact ih _ (insK_up ordA h _)
def joinT (a b : Sta) : Sta := if MayS a then (if MayS b then (if a.1 = true then b else if b.1 = true then a else (false, setJ a.2.1 b.2.1 (setJ a.2.1 b.2.1 a.2.1 a.2.1) b.2.1, putJ a.2.2 a.2.2 b.2.2)) else (false, [], [])) else (false, [], [])
theorem setJ_app (a b V l : List Bv) (y : Bv) : setJ a b V (l ++ [y]) = insB (setJ a b V l) (y.1, both a b y.1) := by
 unfold setJ; rw [List.foldl_append]; rfl
theorem putJ_app (a L l : List Lc) (y : Lc) : putJ a L (l ++ [y]) = insL (putJ a L l) (oneJ a y) := by
 unfold putJ; rw [List.foldl_append]; rfl
end Go.PL
end
section
open Go Go.PG Go.PL
set_option linter.all false
namespace Go.PL
theorem insK_len1 {α κ : Type} {lt : κ → κ → Prop} [DecidableRel lt] {key : α → κ} (O : Ord lt) (l : List α) (x : α) : (insK lt key l x).length ≤ l.length + 1 := by
 have h : ∀ l : List α, (l.filter fun a => decide (lt (key a) (key x))).length + (l.filter fun a => decide (lt (key x) (key a))).length ≤ l.length := by
  intro l
  induction l with
  | nil => simp
  | cons a l ih =>
   by_cases h1 : lt (key a) (key x)
   ·have h2 : ¬ lt (key x) (key a) := fun z => O.irr _ (O.tr h1 z)
    rw [List.filter_cons_of_pos (by simpa using h1), List.filter_cons_of_neg (by simpa using h2)]
    simp only [List.length_cons]; omega
   ·by_cases h2 : lt (key x) (key a)
    ·rw [List.filter_cons_of_neg (by simpa using h1), List.filter_cons_of_pos (by simpa using h2)]
     simp only [List.length_cons]; omega
    ·rw [List.filter_cons_of_neg (by simpa using h1), List.filter_cons_of_neg (by simpa using h2)]
     simp only [List.length_cons]; omega
 have := h l
 unfold insK
 simp only [List.length_append, List.length_cons]
 omega
theorem setJ_len (a b : List Bv) : ∀ (l V : List Bv), (setJ a b V l).length ≤ V.length + l.length := by
 intro l
 induction l with
 | nil => intro V; exact Nat.le_refl _
 | cons y l ih =>
  intro V
  have h1 := ih (insB V (y.1, both a b y.1))
  have h2 : (insB V (y.1, both a b y.1)).length ≤ V.length + 1 := insK_len1 ordS V _
  show (setJ a b (insB V (y.1, both a b y.1)) l).length ≤ _
  simp only [List.length_cons]
  omega
theorem putJ_len (a : List Lc) : ∀ (l L : List Lc), (putJ a L l).length ≤ L.length + l.length := by
 intro l
 induction l with
 | nil => intro V; exact Nat.le_refl _
 | cons y l ih =>
  intro L
  have h1 := ih (insL L (oneJ a y))
  have h2 : (insL L (oneJ a y)).length ≤ L.length + 1 := insK_len1 ordA L _
  show (putJ a (insL L (oneJ a y)) l).length ≤ _
  simp only [List.length_cons]
  omega
theorem setJ_mem (a b : List Bv) : ∀ (l V : List Bv) (v : Bv), v ∈ setJ a b V l → v ∈ V ∨ v.2 = both a b v.1 := by
 intro l
 induction l with
 | nil => intro V v h; exact .inl h
 | cons y l ih =>
  intro V v h
  rcases ih _ v h with h | h
  ·rcases (insK_mem ordS).1 h with rfl | ⟨h, _⟩
   ·exact .inr rfl
   ·exact .inl h
  ·exact .inr h
theorem putJ_mem (a : List Lc) : ∀ (l L : List Lc) (v : Lc), v ∈ putJ a L l → v ∈ L ∨ ∃ y, y ∈ l ∧ v = oneJ a y := by
 intro l
 induction l with
 | nil => intro L v h; exact .inl h
 | cons y l ih =>
  intro L v h
  rcases ih _ v h with h | ⟨z, h1, h2⟩
  ·rcases (insK_mem ordA).1 h with rfl | ⟨h, _⟩
   ·exact .inr ⟨y, by simp, rfl⟩
   ·exact .inl h
  ·exact .inr ⟨z, List.mem_cons_of_mem _ h1, h2⟩
theorem var_bd {l : List Bv} {k : Nat} (h : ∀ b, b ∈ l → b.2.length ≤ k) (n : ByteArray) : (var l n).length ≤ k + 1 := by
 unfold var
 split
 ·rename_i b hb
  have := h b (getV_mem hb).1
  omega
 ·simp
theorem both_len {a b : List Bv} {k : Nat} (ha : ∀ v, v ∈ a → v.2.length ≤ k) (hb : ∀ v, v ∈ b → v.2.length ≤ k) (n : ByteArray) : (both a b n).length ≤ k + k + 2 := by
 have h1 := var_bd ha n
 have h2 := var_bd hb n
 have h3 := norm_length (var a n ++ var b n)
 rw [List.length_append] at h3
 unfold both
 omega
theorem oneJ_ok {a : List Lc} (ha : ∀ l, l ∈ a → PlaceA l.1 ∧ MayO l.2) {y : Lc} (hy : PlaceA y.1 ∧ MayO y.2) : PlaceA (oneJ a y).1 ∧ MayO (oneJ a y).2 := by
 refine ⟨hy.1, ?_⟩
 unfold oneJ
 cases g : gl a y.1 with
 | none => exact hy.2
 | some o => exact join_may (gl_ok ha g) hy.2
theorem bd_up {s : Sp} {k j : Nat} (h : Bd k s) (hk : k ≤ j) : Bd j s := ⟨Nat.le_trans h.1 hk, fun f hf => Nat.le_trans (h.2.1 f hf) hk, Nat.le_trans h.2.2 hk⟩
theorem oneJ_bd {a : List Lc} {k : Nat} (ha : ∀ l, l ∈ a → Bd k l.2) {y : Lc} (hy : Bd k y.2) : Bd (k + k) (oneJ a y).2 := by
 unfold oneJ
 cases g : gl a y.1 with
 | none => exact bd_up hy (by omega)
 | some o => exact join_bd (ha _ (gl_some g)) hy
theorem join_bdT {a b : Sta} {k : Nat} (ha : BdT k a) (hb : BdT k b) : BdT (k + k + k + 2) (joinT a b) := by
 have e : BdT (k + k + k + 2) (false, [], []) := ⟨by simp, by simp, by simp, by simp⟩
 have up : ∀ {s : Sta}, BdT k s → BdT (k + k + k + 2) s := fun h => ⟨by have := h.1; omega, fun b hb => by have := h.2.1 b hb; omega, by have := h.2.2.1; omega, fun l hl => bd_up (h.2.2.2 l hl) (by omega)⟩
 unfold joinT
 split
 ·split
  ·split
   ·exact up hb
   ·split
    ·exact up ha
    ·refine ⟨?_, fun v hv => ?_, ?_, fun l hl => ?_⟩
     ·have h1 := setJ_len a.2.1 b.2.1 b.2.1 (setJ a.2.1 b.2.1 a.2.1 a.2.1)
      have h2 := setJ_len a.2.1 b.2.1 a.2.1 a.2.1
      have := ha.1; have := hb.1
      show (setJ a.2.1 b.2.1 (setJ a.2.1 b.2.1 a.2.1 a.2.1) b.2.1).length ≤ _
      omega
     ·have hbl := both_len ha.2.1 hb.2.1 v.1
      rcases setJ_mem _ _ _ _ v hv with h | h
      ·rcases setJ_mem _ _ _ _ v h with h | h
       ·have := ha.2.1 v h; omega
       ·rw [h]; omega
      ·rw [h]; omega
     ·have h1 := putJ_len a.2.2 b.2.2 a.2.2
      have := ha.2.2.1; have := hb.2.2.1
      show (putJ a.2.2 a.2.2 b.2.2).length ≤ _
      omega
     ·rcases putJ_mem _ _ _ l hl with h | ⟨y, h1, rfl⟩
      ·exact bd_up (ha.2.2.2 l h) (by omega)
      ·exact bd_up (oneJ_bd ha.2.2.2 (hb.2.2.2 y h1)) (by omega)
  ·exact e
 ·exact e
end Go.PL
end
section
open Go Go.PG Go.PL
set_option linter.all false
namespace Go.PL
theorem setJ_ok {a b V l : List Bv} (h : RisesB V ∧ ∀ v, v ∈ V → v.2 = norm v.2) : RisesB (setJ a b V l) ∧ ∀ v, v ∈ setJ a b V l → v.2 = norm v.2 := by
 refine ⟨(setJ_spec a b l V h.1).1, fun v hv => ?_⟩
 rcases setJ_mem a b l V v hv with q | q
 ·exact h.2 v q
 ·rw [q]; exact (norm_norm _).symm
theorem putJ_ok {a L l : List Lc} (h : RisesL L ∧ ∀ v, v ∈ L → PlaceA v.1 ∧ MayO v.2) (ha : ∀ v, v ∈ a → PlaceA v.1 ∧ MayO v.2) (hl : ∀ v, v ∈ l → PlaceA v.1 ∧ MayO v.2) : RisesL (putJ a L l) ∧ ∀ v, v ∈ putJ a L l → PlaceA v.1 ∧ MayO v.2 := by
 refine ⟨putJ_up a l L h.1, fun v hv => ?_⟩
 rcases putJ_mem a l L v hv with q | ⟨y, q, rfl⟩
 ·exact h.2 v q
 ·exact oneJ_ok ha (hl y q)
theorem joinT_ok {a b : Sta} (ma : MayS a) (mb : MayS b) (ha : ¬ a.1 = true) (hb : ¬ b.1 = true) : joinT a b = (false, setJ a.2.1 b.2.1 (setJ a.2.1 b.2.1 a.2.1 a.2.1) b.2.1, putJ a.2.2 a.2.2 b.2.2) := by
 unfold joinT; rw [if_pos ma, if_pos mb, if_neg ha, if_neg hb]
theorem few_mk {V : List Bv} {L : List Lc} {k : Nat} (hk : k ≤ 100000) (h1 : V.length ≤ k) (h2 : ∀ b, b ∈ V → b.2.length ≤ k) (h3 : L.length ≤ k) (h4 : ∀ l, l ∈ L → Bd k l.2) : FewT (false, V, L) :=
 ⟨by simp only; omega, fun b hb => by have := h2 b hb; omega, by simp only; omega, fun l hl => bd_few (h4 l hl) hk⟩
theorem ref_join8 (a b : Sta) {k : Nat} (ha : BdT k a) (hb : BdT k b) (hk : k ≤ 1000) : ref08_Join K (a, b) = some (joinT a b) := by
 have haf := bd_fewT ha (by omega)
 have hbf := bd_fewT hb (by omega)
 unfold ref08_Join
 try dsimp only
 rw [ref_may8 a haf, bind_some, cond_ndec, ref_may8 b hbf, bind_some, cond_ndec]
 by_cases ma : MayS a
 case neg => rw [if_neg ma]; unfold joinT; rw [if_neg ma]
 by_cases mb : MayS b
 case neg => rw [if_pos ma, if_neg mb]; unfold joinT; rw [if_pos ma, if_neg mb]
 rw [if_pos ma, if_pos mb]
 by_cases da : a.1 = true
 ·rw [cond_of da]; unfold joinT; rw [if_pos ma, if_pos mb, if_pos da]
 by_cases db : b.1 = true
 ·rw [cond_of' da, cond_of db]; unfold joinT; rw [if_pos ma, if_pos mb, if_neg da, if_pos db]
 rw [cond_of' da, cond_of' db, joinT_ok ma mb da db]
 have da' : a.1 = false := by simpa using da
 obtain ⟨a1, a2, a3, a4⟩ := ha
 obtain ⟨b1, b2, b3, b4⟩ := hb
 have bl := both_len a2 b2
 have mA : RisesB a.2.1 ∧ ∀ v, v ∈ a.2.1 → v.2 = norm v.2 := ma.1
 have sv1 : ∀ l v, v ∈ setJ a.2.1 b.2.1 a.2.1 l → v.2.length ≤ 4 * k + 2 := fun l v hv => by
  rcases setJ_mem _ _ _ _ v hv with q | q
  ·have := a2 v q; omega
  ·rw [q]; have := bl v.1; omega
 have sv2 : ∀ l v, v ∈ setJ a.2.1 b.2.1 (setJ a.2.1 b.2.1 a.2.1 a.2.1) l → v.2.length ≤ 4 * k + 2 := fun l v hv => by
  rcases setJ_mem _ _ _ _ v hv with q | q
  ·exact sv1 _ v q
  ·rw [q]; have := bl v.1; omega
 have uni : ∀ n, ref06_Union K (var a.2.1 n, var b.2.1 n) = some (both a.2.1 b.2.1 n) := fun n => ref_union _ _ (by have := var_bd a2 n; have := var_bd b2 n; omega)
 rw [loop_st a.2.1.length (fun j => (false, setJ a.2.1 b.2.1 a.2.1 (a.2.1.take j), a.2.2)) _ (false, setJ a.2.1 b.2.1 a.2.1 a.2.1, a.2.2) (by omega) (by simp only [List.take_zero]; exact (Prod.ext da' rfl : a = (false, a.2.1, a.2.2)).symm) (by simp) ?_ ?_]
 ·rw [loop_st b.2.1.length (fun j => (false, setJ a.2.1 b.2.1 (setJ a.2.1 b.2.1 a.2.1 a.2.1) (b.2.1.take j), a.2.2)) _ (false, setJ a.2.1 b.2.1 (setJ a.2.1 b.2.1 a.2.1 a.2.1) b.2.1, a.2.2) (by omega) (by simp only [List.take_zero]; rfl) (by simp) ?_ ?_]
  ·have lV1 := setJ_len a.2.1 b.2.1 a.2.1 a.2.1
   have lV2 := setJ_len a.2.1 b.2.1 b.2.1 (setJ a.2.1 b.2.1 a.2.1 a.2.1)
   have sV := sv2 b.2.1
   have oV := setJ_ok (a := a.2.1) (b := b.2.1) (l := b.2.1) (setJ_ok (a := a.2.1) (b := b.2.1) (l := a.2.1) mA)
   generalize setJ a.2.1 b.2.1 (setJ a.2.1 b.2.1 a.2.1 a.2.1) b.2.1 = V at lV2 sV oV
   rw [loop_st b.2.2.length (fun j => (false, V, putJ a.2.2 a.2.2 (b.2.2.take j))) _ (false, V, putJ a.2.2 a.2.2 b.2.2) (by omega) (by simp only [List.take_zero]; rfl) (by simp) ?_ ?_]
   ·intro j hj
    have hm := getD_mem hj dL
    have hy := mb.2.1.2 _ hm
    have hyb := b4 _ hm
    have hok := putJ_ok (a := a.2.2) (L := a.2.2) (l := b.2.2.take j) ma.2.1 ma.2.1.2 (take_all mb.2.1.2 j)
    have hlen := putJ_len a.2.2 (b.2.2.take j) a.2.2
    have htl : (b.2.2.take j).length ≤ k := by rw [List.length_take]; omega
    have hbd : ∀ l, l ∈ putJ a.2.2 a.2.2 (b.2.2.take j) → Bd (4 * k + 2) l.2 := fun l hl => by
     rcases putJ_mem _ _ _ l hl with q | ⟨y, q, rfl⟩
     ·exact bd_up (a4 l q) (by omega)
     ·exact bd_up (oneJ_bd a4 (take_all b4 j y q)) (by omega)
    have hfew := few_mk (k := 4 * k + 2) (by omega) (by omega) sV (by omega) hbd
    have h1 := oneJ_ok ma.2.1.2 hy
    have h2 := oneJ_bd a4 hyb
    try dsimp only
    rw [ilt_len hj, cond_true, inb_len hj, cond_true, get_dL, ref_loc a _ (by omega), bind_some, wrap_succ (by omega), cond_true, cond_true, take_getD' hj dL, putJ_app]
    have e : (b.2.2.getD j dL).1 = (oneJ a.2.2 (b.2.2.getD j dL)).1 := rfl
    have mk := mayS_mk oV hok
    rw [gl_locR]
    cases g : gl a.2.2 (b.2.2.getD j dL).1 with
    | none =>
     have e2 : oneJ a.2.2 (b.2.2.getD j dL) = ((b.2.2.getD j dL).1, (b.2.2.getD j dL).2) := by unfold oneJ; rw [g]
     rw [e2] at h2 ⊢
     try dsimp only
     rw [cond_false, ref_put _ _ _ hfew (bd_few hyb (by omega)), bind_some, putT_ok mk hy.1 hy.2]
     all_goals rfl
    | some o =>
     have e2 : oneJ a.2.2 (b.2.2.getD j dL) = ((b.2.2.getD j dL).1, join o (b.2.2.getD j dL).2) := by unfold oneJ; rw [g]
     rw [e2] at h1 h2 ⊢
     have ob := a4 _ (gl_some g)
     try dsimp only
     rw [cond_true, ref_join _ _ (bd_few ob (by omega)) (bd_few hyb (by omega)), bind_some, ref_put _ _ _ hfew (bd_few h2 (by omega)), bind_some, putT_ok mk hy.1 h1.2]
     all_goals rfl
   ·try dsimp only
    rw [ilt_end]; rfl
  ·intro j hj
   have hm := getD_mem hj dB
   have lV1 := setJ_len a.2.1 b.2.1 a.2.1 a.2.1
   have lV2 := setJ_len a.2.1 b.2.1 (b.2.1.take j) (setJ a.2.1 b.2.1 a.2.1 a.2.1)
   have htl : (b.2.1.take j).length ≤ k := by rw [List.length_take]; omega
   have oV := setJ_ok (a := a.2.1) (b := b.2.1) (l := b.2.1.take j) (setJ_ok (a := a.2.1) (b := b.2.1) (l := a.2.1) mA)
   have hfew := few_mk (k := 4 * k + 2) (by omega) (by omega) (sv2 (b.2.1.take j)) (by omega) (fun l hl => bd_up (a4 l hl) (by omega))
   have hbl := bl (b.2.1.getD j dB).1
   try dsimp only
   rw [ilt_len hj, cond_true, inb_len hj, cond_true, get_dB, ref_var a _ (by omega), bind_some, ref_var b _ (by omega), bind_some, uni, bind_some, ref_set _ _ _ hfew (by omega), bind_some, setT_ok (mayS_mk oV ma.2.1), wrap_succ (by omega), take_getD' hj dB, setJ_app, show norm (both a.2.1 b.2.1 (b.2.1.getD j dB).1) = both a.2.1 b.2.1 (b.2.1.getD j dB).1 from norm_norm _]
  ·try dsimp only
   rw [ilt_end]; rfl
 ·intro j hj
  have hm := getD_mem hj dB
  have lV1 := setJ_len a.2.1 b.2.1 (a.2.1.take j) a.2.1
  have htl : (a.2.1.take j).length ≤ k := by rw [List.length_take]; omega
  have oV := setJ_ok (a := a.2.1) (b := b.2.1) (l := a.2.1.take j) mA
  have hfew := few_mk (k := 4 * k + 2) (by omega) (by omega) (sv1 (a.2.1.take j)) (by omega) (fun l hl => bd_up (a4 l hl) (by omega))
  have hbl := bl (a.2.1.getD j dB).1
  try dsimp only
  rw [ilt_len hj, cond_true, inb_len hj, cond_true, get_dB, ref_var a _ (by omega), bind_some, ref_var b _ (by omega), bind_some, uni, bind_some, ref_set _ _ _ hfew (by omega), bind_some, setT_ok (mayS_mk oV ma.2.1), wrap_succ (by omega), take_getD' hj dB, setJ_app, show norm (both a.2.1 b.2.1 (a.2.1.getD j dB).1) = both a.2.1 b.2.1 (a.2.1.getD j dB).1 from norm_norm _]
 ·try dsimp only
  rw [ilt_end]; rfl
end Go.PL
end
section
open Go Go.PG Go.PL
set_option linter.all false
namespace Go.PL
end Go.PL
end
section
open Go Go.PG Go.PL
set_option linter.all false
namespace Go.PL
end Go.PL
end
section
open Go Go.PG Go.PL
set_option linter.all false
namespace Go.PL
end Go.PL
end
section
open Go Go.PG Go.PL
set_option linter.all false
namespace Go.PL
def B (l : List UInt8) : ByteArray := ⟨l.toArray⟩
theorem B_size (l : List UInt8) : (B l).size = l.length := by simp [B, ByteArray.size]
theorem B_data (l : List UInt8) : (B l).data.toList = l := by simp [B]
theorem B_eta (b : ByteArray) : b = B b.data.toList := by cases b; simp [B]
theorem scat_B (l m : List UInt8) : P.scat (B l) (B m) = B (l ++ m) := ba_ext (by simp [P.scat, B])
theorem sfit_B (l m : List UInt8) (h : l.length + m.length ≤ 9223372036854775807) : P.sfit (B l) (B m) = true := by
 unfold P.sfit
 rw [B_size, B_size]
 rw [Nat.ble_eq]; exact h
theorem dig_fin : ∀ i : Fin 10, P.ssub { data := #[48, 49, 50, 51, 52, 53, 54, 55, 56, 57] } ((i.val : Nat) : Int) ((i.val + 1 : Nat) : Int) = B [UInt8.ofNat (48 + i.val)] := by decide +kernel
theorem dig_at {n : Nat} (h : n < 10) : P.ssub { data := #[48, 49, 50, 51, 52, 53, 54, 55, 56, 57] } (n : Int) ((n + 1 : Nat) : Int) = B [UInt8.ofNat (48 + n)] := dig_fin ⟨n, h⟩
theorem dig_len : P.slen { data := #[48, 49, 50, 51, 52, 53, 54, 55, 56, 57] } = 10 := by decide
theorem rem_nat (a b : Nat) : P.rem (a : Int) (b : Int) = ((a % b : Nat) : Int) := by cases b <;> rfl
theorem quo_nat (a b : Nat) : P.quo (a : Int) (b : Int) = ((a / b : Nat) : Int) := by cases b <;> rfl
theorem nDigits_le : ∀ (u k : Nat), u < 10 ^ (k + 1) → Lib.nDigits u ≤ k + 1
 | u, 0, h => by rw [Lib.nDigits_small (by simpa using h)]; exact Nat.le_refl _
 | u, k + 1, h => by
  by_cases q : u < 10
  ·rw [Lib.nDigits_small q]; omega
  ·rw [Lib.nDigits_big q]
   have := nDigits_le (u / 10) k (by rw [Nat.pow_succ] at h; omega)
   omega
theorem ref_digits (u : Nat) (hu : u < 18446744073709551616) : ref03_Digits K (u : Int) = some (B (Lib.decDigits u)) := by
 unfold ref03_Digits
 generalize hf : (fun (y : Int × ByteArray) => _ : Int × ByteArray → Option ((Int × ByteArray) ⊕ ((Int × ByteArray) ⊕ ByteArray))) = f
 have key : ∀ (v k : Nat) (s : List UInt8), v < 18446744073709551616 → v < k → s.length + Lib.nDigits v ≤ 20 → ∃ (d : Nat) (t : List UInt8), d < 10 ∧ t.length ≤ 20 ∧ P.iter k f ((v : Int), B s) = some (.inl ((d : Int), B t)) ∧ UInt8.ofNat (48 + d) :: t = Lib.decDigits v ++ s := by
  intro v
  induction v using Nat.strongRecOn with
  | _ v ih =>
   intro k s hv hk hs
   by_cases q : v < 10
   ·refine ⟨v, s, q, by omega, ?_, by rw [Lib.decDigits_one q]; rfl⟩
    refine iter_done (by omega) ?_
    rw [← hf]
    simp only [cond_eq, ilt_iff]
    rw [if_neg (by omega)]
   ·rw [Lib.nDigits_big q] at hs
    obtain ⟨d, t, h1, h2, h3, h4⟩ := ih (v / 10) (by omega) (k - 1) (UInt8.ofNat (48 + v % 10) :: s) (by omega) (by omega) (by simp only [List.length_cons]; omega)
    refine ⟨d, t, h1, h2, ?_, ?_⟩
    ·rw [iter_step (y := (((v / 10 : Nat) : Int), B (UInt8.ofNat (48 + v % 10) :: s))) (by omega)]
     ·exact h3
     ·rw [← hf]
      have e1 : P.rem (v : Int) 10 = ((v % 10 : Nat) : Int) := rem_nat v 10
      have e2 : P.quo (v : Int) 10 = ((v / 10 : Nat) : Int) := quo_nat v 10
      have e3 : P.wrap .u64 (P.add ((v % 10 : Nat) : Int) 1) = ((v % 10 + 1 : Nat) : Int) := by rw [wrap_u64 (by simp only [P.add]; omega) (by simp only [P.add]; omega)]; simp only [P.add]; omega
      have e4 : P.wrap .u64 ((v / 10 : Nat) : Int) = ((v / 10 : Nat) : Int) := wrap_u64 (by omega) (by omega)
      simp only [e1, e2, e3, e4, dig_at (show v % 10 < 10 by omega), dig_len]
      simp only [cond_eq, ilt_iff, cut_iff, show P.not (P.ieq (10 : Int) 0) = true from rfl, if_true, scat_B]
      rw [if_pos (by omega), if_pos ⟨by omega, by omega, by omega⟩, if_pos (sfit_B _ _ (by simp only [List.length_cons, List.length_nil]; omega))]
      rfl
    ·rw [h4, Lib.decDigits.eq_1 v, dif_neg q]
     simp
 have h20 : Lib.nDigits u ≤ 20 := nDigits_le u 19 (by omega)
 obtain ⟨d, t, h1, h2, h3, h4⟩ := key u K [] hu (by unfold K; omega) (by simpa using h20)
 have h3 : P.iter K f ((u : Int), { data := #[] }) = some (.inl ((d : Int), B t)) := h3
 rw [h3, bind_some, either_inl]
 have e3 : P.wrap .u64 (P.add (d : Int) 1) = ((d + 1 : Nat) : Int) := by rw [wrap_u64 (by simp only [P.add]; omega) (by simp only [P.add]; omega)]; simp only [P.add]; omega
 simp only [e3, dig_at h1, dig_len, cond_eq, cut_iff, scat_B]
 rw [if_pos ⟨by omega, by omega, by omega⟩, if_pos (sfit_B _ _ (by simp only [List.length_cons, List.length_nil]; omega))]
 rw [List.append_nil] at h4
 rw [← h4]; rfl
def InI (n : Int) : Prop := -9223372036854775808 ≤ n ∧ n ≤ 9223372036854775807
theorem itoa_len {n : Int} (h : InI n) : (Lib.itoa n).length ≤ 21 := Lib.itoa_length_le n h.1 h.2
theorem at_itoa (k : Nat) (n : Int) (h : InI n) : strconv_Itoa k n = some (B (Lib.itoa n)) := by
 unfold strconv_Itoa
 exact if_pos h
theorem ref_signed (n : Int) (h : InI n) : ref03_Signed K n = some (B (Lib.itoa n)) := by
 unfold ref03_Signed
 unfold InI at h
 have hl := itoa_len h
 by_cases q : n < 0
 ·obtain ⟨u, rfl⟩ : ∃ u : Nat, n = -(u : Int) := ⟨n.natAbs, by omega⟩
  have e : P.wrap .u64 (P.add (P.wrap .u64 (P.wrap .i64 (P.sub 0 (P.wrap .i64 (P.add (-(u : Int)) 1))))) 1) = (u : Int) := by
   rw [wrap_i64 (x := P.add (-(u : Int)) 1) (by simp only [P.add]; omega) (by simp only [P.add]; omega), wrap_i64 (by simp only [P.add, P.sub]; omega) (by simp only [P.add, P.sub]; omega), wrap_u64 (x := P.sub 0 (P.add (-(u : Int)) 1)) (by simp only [P.add, P.sub]; omega) (by simp only [P.add, P.sub]; omega), wrap_u64 (by simp only [P.add, P.sub]; omega) (by simp only [P.add, P.sub]; omega)]
   simp only [P.add, P.sub]; omega
  rw [e, ref_digits u (by omega), bind_some]
  rw [Lib.itoa_neg u (by omega)] at hl ⊢
  rw [show P.ilt (-(u : Int)) 0 = true from ilt_iff.2 q, cond_true]
  have : ({ data := #[45] } : ByteArray) = B [45] := rfl
  rw [this, sfit_B _ _ (by simp only [List.length_cons, List.length_nil] at hl ⊢; omega), cond_true, scat_B]; rfl
 ·obtain ⟨u, rfl⟩ : ∃ u : Nat, n = (u : Int) := ⟨n.toNat, by omega⟩
  rw [show P.ilt (u : Int) 0 = false from by rw [Bool.eq_false_iff, Ne, ilt_iff]; omega, cond_false, wrap_u64 (by omega) (by omega), ref_digits u (by omega), bind_some, Lib.itoa_nonneg]
end Go.PL
end
section
open Go Go.PG Go.PL
set_option linter.all false
namespace Go.PL
def nameA (a : At) : List UInt8 :=
 if a.1 = 0 then [110, 117, 108, 108] else if a.1 = 1 then [98, 111, 111, 108] else if a.1 = 2 then [110, 117, 109]
 else if a.1 = 3 then [102, 117, 110] ++ Lib.itoa a.2 else if a.1 = 4 then [114, 101, 99] ++ Lib.itoa a.2 else if a.1 = 5 then [115, 117, 109] ++ Lib.itoa a.2
 else if a.1 = 6 then [97, 110, 121] else [63]
def textA (l : List At) : List UInt8 := Lib.join (l.map nameA) [32]
def InA (l : List At) : Prop := ∀ a, a ∈ l → InI a.2
theorem nameA_len {a : At} (h : InI a.2) : (nameA a).length ≤ 24 := by
 have := itoa_len h
 unfold nameA
 repeat' split
 all_goals simp only [List.length_append, List.length_cons, List.length_nil]; omega
theorem at_name (k : Nat) (a : At) (h : InI a.2) : atoms_name k a = some (B (nameA a)) := by
 have hl := itoa_len h
 unfold atoms_name nameA
 simp only [cond_eq, ieq_iff, at_itoa k a.2 h, bind_some]
 have e3 : ({ data := #[102, 117, 110] } : ByteArray) = B [102, 117, 110] := rfl
 have e4 : ({ data := #[114, 101, 99] } : ByteArray) = B [114, 101, 99] := rfl
 have e5 : ({ data := #[115, 117, 109] } : ByteArray) = B [115, 117, 109] := rfl
 rw [e3, e4, e5, if_pos (sfit_B _ _ (by simp only [List.length_cons, List.length_nil]; omega)), if_pos (sfit_B _ _ (by simp only [List.length_cons, List.length_nil]; omega)), if_pos (sfit_B _ _ (by simp only [List.length_cons, List.length_nil]; omega)), scat_B, scat_B, scat_B]
 repeat' split
 all_goals rfl
theorem join_snoc (sep y : List UInt8) (xs : List (List UInt8)) : Lib.join (xs ++ [y]) sep = Lib.join xs sep ++ (if xs = [] then y else sep ++ y) := by
 cases xs with
 | nil => simp [Lib.join_one, Lib.join_nil]
 | cons x r => rw [List.cons_append, Lib.join_cons, Lib.join_cons, Lib.joinTail, Lib.joinTail]; simp
theorem textA_snoc (l : List At) (a : At) : textA (l ++ [a]) = textA l ++ (if l = [] then nameA a else 32 :: nameA a) := by
 unfold textA
 rw [List.map_append, List.map_cons, List.map_nil, join_snoc]
 by_cases h : l = []
 ·subst h; rfl
 ·rw [if_neg (by simpa using h), if_neg h]; rfl
theorem snoc_ind {α : Type} {p : List α → Prop} (h0 : p []) (h1 : ∀ l a, p l → p (l ++ [a])) : ∀ l, p l := by
 intro l
 have : ∀ m : List α, p m.reverse := by
  intro m
  induction m with
  | nil => exact h0
  | cons a m ih => rw [List.reverse_cons]; exact h1 _ _ ih
 have := this l.reverse
 rwa [List.reverse_reverse] at this
theorem textA_len : ∀ {l : List At}, InA l → (textA l).length ≤ 25 * l.length := by
 intro l
 refine snoc_ind (p := fun l => InA l → (textA l).length ≤ 25 * l.length) ?_ ?_ l
 ·intro _; simp [textA, Lib.join_nil]
 ·intro l a ih h
  have h1 := ih fun z hz => h z (by simp [hz])
  have h2 := nameA_len (h a (by simp))
  rw [textA_snoc, List.length_append, List.length_append]
  split
  ·simp only [List.length_cons, List.length_nil]; omega
  ·simp only [List.length_cons, List.length_nil]; omega
theorem at_join (k : Nat) (l : List At) (h : InA l) (hl : l.length ≤ 1000000) : strings_Join k (l.map (fun a => B (nameA a)), { data := #[32] }) = some (B (textA l)) := by
 have h1 := textA_len h
 unfold strings_Join
 have e : (l.map (fun a => B (nameA a))).map (fun b => b.data.toList) = l.map nameA := by
  rw [List.map_map]; exact List.map_congr_left fun a _ => B_data _
 simp only [e]
 rw [if_pos ⟨by rw [List.length_map]; omega, by show (textA l).length ≤ _; omega⟩]
 rfl
theorem at_text (l : List At) (h : InA l) (hl : l.length ≤ 1000000) : atoms_Text K l = some (B (textA l)) := by
 unfold atoms_Text
 have := iter_run (f := (fun (y : List ByteArray × Int) => P.cond (P.ilt y.snd (P.len l)) (P.cond (P.inb y.snd (P.len l)) (P.bind (atoms_name K (P.get l y.snd ((0 : Int), (0 : Int)))) fun (r : ByteArray) => P.cond (P.room (P.add (P.len y.fst) (P.len [r])) 16) (some (Sum.inl (P.app y.fst [r], P.wrap IntKind.i64 (P.add y.snd (1 : Int))))) none) none) (some (Sum.inr (Sum.inl (β := ByteArray) y.fst))))) (fun i => ((l.take i).map (fun a => B (nameA a)), (i : Int))) (.inl (l.map (fun a => B (nameA a)))) l.length 0 K (by unfold K; omega) (fun j hj => ?_) ?_
 ·rw [List.take_zero, List.map_nil] at this
  rw [show ((0 : Nat) : Int) = 0 from rfl] at this
  rw [this, bind_some, either_inl, at_join K l h hl, bind_some]
 ·simp only [Nat.zero_add, cond_eq, ilt_iff, inb_iff, len_eq]
  rw [if_pos (by omega), if_pos ⟨by omega, by omega⟩, get_lt l hj, at_name K _ (h _ (List.getElem_mem hj)), bind_some, if_pos (by rw [room_nat]; simp only [List.length_map, List.length_take, List.length_cons, List.length_nil]; omega), wrap_succ (by omega)]
  rw [List.take_add_one, List.getElem?_eq_getElem hj, List.map_append]
  rfl
 ·simp only [Nat.zero_add, cond_eq, ilt_iff, len_eq]
  rw [if_neg (by omega), List.take_length]
theorem words_get {k : Int} (h0 : 0 ≤ k) (h6 : k ≤ 6) : P.get [({ data := #[110, 117, 108, 108] } : ByteArray), { data := #[98, 111, 111, 108] }, { data := #[110, 117, 109] }, { data := #[102, 117, 110] }, { data := #[114, 101, 99] }, { data := #[115, 117, 109] }, { data := #[97, 110, 121] }] k { data := #[] } =
  B (if k = 0 then [110, 117, 108, 108] else if k = 1 then [98, 111, 111, 108] else if k = 2 then [110, 117, 109] else if k = 3 then [102, 117, 110] else if k = 4 then [114, 101, 99] else if k = 5 then [115, 117, 109] else [97, 110, 121]) := by
 have : k = 0 ∨ k = 1 ∨ k = 2 ∨ k = 3 ∨ k = 4 ∨ k = 5 ∨ k = 6 := by omega
 rcases this with rfl | rfl | rfl | rfl | rfl | rfl | rfl <;> rfl
def wordA (k : Int) : List UInt8 := if k = 0 then [110, 117, 108, 108] else if k = 1 then [98, 111, 111, 108] else if k = 2 then [110, 117, 109] else if k = 3 then [102, 117, 110] else if k = 4 then [114, 101, 99] else if k = 5 then [115, 117, 109] else [97, 110, 121]
theorem wordA_len (k : Int) : (wordA k).length ≤ 4 := by
 unfold wordA
 repeat' split
 all_goals decide
theorem nameA_word {a : At} (h0 : 0 ≤ a.1) (h6 : a.1 ≤ 6) : nameA a = wordA a.1 ++ (if 3 ≤ a.1 ∧ a.1 ≤ 5 then Lib.itoa a.2 else []) := by
 obtain ⟨k, n⟩ := a
 have h0 : 0 ≤ k := h0
 have h6 : k ≤ 6 := h6
 have : k = 0 ∨ k = 1 ∨ k = 2 ∨ k = 3 ∨ k = 4 ∨ k = 5 ∨ k = 6 := by omega
 rcases this with rfl | rfl | rfl | rfl | rfl | rfl | rfl <;> simp [nameA, wordA]
theorem nameA_q {a : At} (h : a.1 < 0 ∨ 6 < a.1) : nameA a = [63] := by
 unfold nameA
 rw [if_neg (by omega), if_neg (by omega), if_neg (by omega), if_neg (by omega), if_neg (by omega), if_neg (by omega), if_neg (by omega)]
theorem ref_text (l : List At) (h : InA l) (hl : l.length ≤ 1000000) : ref06_Text K l = some (B (textA l)) := by
 unfold ref06_Text
 generalize hf : (fun (y : ByteArray × Int) => _ : ByteArray × Int → Option ((ByteArray × Int) ⊕ (ByteArray ⊕ ByteArray))) = f
 have := iter_run (f := f) (fun i => (B (textA (l.take i)), (i : Int))) (.inl (B (textA l))) l.length 0 K (by unfold K; omega) (fun j hj => ?_) ?_
 ·rw [List.take_zero] at this
  have this : P.iter K f ({ data := #[] }, 0) = _ := this
  rw [this, bind_some, either_inl]
 ·rw [← hf]
  simp only [Nat.zero_add]
  have hin := h _ (List.getElem_mem hj)
  have htk : (textA (l.take j)).length ≤ 25 * j := by
   have := textA_len (l := l.take j) fun z hz => h z (List.mem_of_mem_take hz)
   rw [List.length_take] at this
   omega
  have hit := itoa_len hin
  have hwl := wordA_len (l[j]).1
  have hs : textA (l.take (j + 1)) = textA (l.take j) ++ (if j = 0 then nameA l[j] else 32 :: nameA l[j]) := by
   rw [List.take_add_one, List.getElem?_eq_getElem hj, Option.toList_some, textA_snoc]
   congr 1
   by_cases q : j = 0
   ·rw [if_pos q, if_pos (by rw [q]; rfl)]
   ·rw [if_neg q, if_neg (by intro e; have := congrArg List.length e; rw [List.length_take] at this; simp only [List.length_nil] at this; omega)]
  rw [hs, get_lt l hj]
  generalize l[j] = a at *
  obtain ⟨k, n⟩ := a
  have hin : InI n := hin
  have hit : (Lib.itoa n).length ≤ 21 := hit
  have hwl : (wordA k).length ≤ 4 := hwl
  simp only [ref_signed n hin, bind_some]
  generalize textA (l.take j) = s at *
  rw [show P.ilt (j : Int) (P.len l) = true from ilt_iff.2 (by rw [len_eq]; omega), cond_true, show P.inb (j : Int) (P.len l) = true from inb_iff.2 (by rw [len_eq]; omega), wrap_succ (by omega)]
  simp only [cond_true]
  have e32 : ({ data := #[32] } : ByteArray) = B [32] := rfl
  have e63 : ({ data := #[63] } : ByteArray) = B [63] := rfl
  rw [e32, e63]
  have body : ∀ (t : List UInt8), t.length ≤ 25000001 → (P.cond (P.ilt k (0 : Int)) (P.cond (P.sfit (B t) (B [63])) (some (Sum.inl (P.scat (B t) (B [63]), ((j + 1 : Nat) : Int)))) (none : Option ((ByteArray × Int) ⊕ (ByteArray ⊕ ByteArray)))) (P.cond (P.ilt (6 : Int) k) (P.cond (P.sfit (B t) (B [63])) (some (Sum.inl (P.scat (B t) (B [63]), ((j + 1 : Nat) : Int)))) none)
    (P.cond (P.inb k (P.len [({ data := #[110, 117, 108, 108] } : ByteArray), { data := #[98, 111, 111, 108] }, { data := #[110, 117, 109] }, { data := #[102, 117, 110] }, { data := #[114, 101, 99] }, { data := #[115, 117, 109] }, { data := #[97, 110, 121] }]))
     (P.cond (P.sfit (B t) (P.get [({ data := #[110, 117, 108, 108] } : ByteArray), { data := #[98, 111, 111, 108] }, { data := #[110, 117, 109] }, { data := #[102, 117, 110] }, { data := #[114, 101, 99] }, { data := #[115, 117, 109] }, { data := #[97, 110, 121] }] k { data := #[] }))
      (P.cond (P.ile (3 : Int) k) (P.cond (P.ile k (5 : Int)) (P.cond (P.sfit (P.scat (B t) (P.get [({ data := #[110, 117, 108, 108] } : ByteArray), { data := #[98, 111, 111, 108] }, { data := #[110, 117, 109] }, { data := #[102, 117, 110] }, { data := #[114, 101, 99] }, { data := #[115, 117, 109] }, { data := #[97, 110, 121] }] k { data := #[] })) (B (Lib.itoa n)))
       (some (Sum.inl (P.scat (P.scat (B t) (P.get [({ data := #[110, 117, 108, 108] } : ByteArray), { data := #[98, 111, 111, 108] }, { data := #[110, 117, 109] }, { data := #[102, 117, 110] }, { data := #[114, 101, 99] }, { data := #[115, 117, 109] }, { data := #[97, 110, 121] }] k { data := #[] })) (B (Lib.itoa n)), ((j + 1 : Nat) : Int)))) none)
       (some (Sum.inl (P.scat (B t) (P.get [({ data := #[110, 117, 108, 108] } : ByteArray), { data := #[98, 111, 111, 108] }, { data := #[110, 117, 109] }, { data := #[102, 117, 110] }, { data := #[114, 101, 99] }, { data := #[115, 117, 109] }, { data := #[97, 110, 121] }] k { data := #[] }), ((j + 1 : Nat) : Int)))))
       (some (Sum.inl (P.scat (B t) (P.get [({ data := #[110, 117, 108, 108] } : ByteArray), { data := #[98, 111, 111, 108] }, { data := #[110, 117, 109] }, { data := #[102, 117, 110] }, { data := #[114, 101, 99] }, { data := #[115, 117, 109] }, { data := #[97, 110, 121] }] k { data := #[] }), ((j + 1 : Nat) : Int))))) none) none))) = some (.inl (B (t ++ nameA (k, n)), ((j + 1 : Nat) : Int))) := by
   intro t ht
   by_cases q0 : k < 0
   ·rw [nameA_q (.inl q0), show P.ilt k 0 = true from ilt_iff.2 q0, cond_true, sfit_B _ _ (by simp only [List.length_cons, List.length_nil]; omega), cond_true, scat_B]
   ·rw [show P.ilt k 0 = false from by rw [Bool.eq_false_iff, Ne, ilt_iff]; exact q0, cond_false]
    by_cases q6 : 6 < k
    ·rw [nameA_q (.inr q6), show P.ilt 6 k = true from ilt_iff.2 q6, cond_true, sfit_B _ _ (by simp only [List.length_cons, List.length_nil]; omega), cond_true, scat_B]
    ·rw [show P.ilt 6 k = false from by rw [Bool.eq_false_iff, Ne, ilt_iff]; exact q6, cond_false, show P.inb k (P.len [({ data := #[110, 117, 108, 108] } : ByteArray), { data := #[98, 111, 111, 108] }, { data := #[110, 117, 109] }, { data := #[102, 117, 110] }, { data := #[114, 101, 99] }, { data := #[115, 117, 109] }, { data := #[97, 110, 121] }]) = true from inb_iff.2 (by show 0 ≤ k ∧ k < 7; omega), cond_true, words_get (by omega) (by omega)]
     change P.cond (P.sfit (B t) (B (wordA k))) (P.cond (P.ile 3 k) (P.cond (P.ile k 5) (P.cond (P.sfit (P.scat (B t) (B (wordA k))) (B (Lib.itoa n))) (some (Sum.inl (P.scat (P.scat (B t) (B (wordA k))) (B (Lib.itoa n)), _))) none) (some (Sum.inl (P.scat (B t) (B (wordA k)), _)))) (some (Sum.inl (P.scat (B t) (B (wordA k)), _)))) none = _
     rw [nameA_word (by show 0 ≤ k; omega) (by show k ≤ 6; omega)]
     rw [sfit_B _ _ (by omega), cond_true, scat_B, sfit_B _ _ (by simp only [List.length_append]; omega), cond_true, scat_B]
     simp only [cond_eq, ile_iff]
     by_cases q3 : 3 ≤ k
     ·by_cases q5 : k ≤ 5
      ·rw [if_pos q3, if_pos q5, if_pos ⟨q3, q5⟩, List.append_assoc]
      ·rw [if_pos q3, if_neg q5, if_neg (fun h => q5 h.2), List.append_nil]
     ·rw [if_neg q3, if_neg (fun h => q3 h.1), List.append_nil]
  by_cases q : j = 0
  ·rw [show P.ilt 0 (j : Int) = false from by rw [Bool.eq_false_iff, Ne, ilt_iff]; omega, cond_false, if_pos q]
   exact body s (by omega)
  ·rw [show P.ilt 0 (j : Int) = true from ilt_iff.2 (by omega), cond_true, if_neg q, sfit_B _ _ (by simp only [List.length_cons, List.length_nil]; omega), cond_true, scat_B, show s ++ 32 :: nameA (k, n) = (s ++ [32]) ++ nameA (k, n) from by simp]
   exact body (s ++ [32]) (by simp only [List.length_append, List.length_cons, List.length_nil]; omega)
 ·rw [← hf]
  simp only [Nat.zero_add]
  rw [show P.ilt (l.length : Int) (P.len l) = false from by rw [Bool.eq_false_iff, Ne, ilt_iff, len_eq]; omega, cond_false, List.take_length]
end Go.PL
end
section
open Go Go.PG Go.PL
set_option linter.all false
namespace Go.PL
theorem at_concatB (a b : List Bv) (h : a.length + b.length ≤ 2000000000000) : slConcatBind K [a, b] = some (a ++ b) := by
 have run1 : ∀ f : Int × Int → Option ((Int × Int) ⊕ (Int ⊕ List Bv)), f (0, 0) = some (.inl ((a.length : Int), 1)) → f ((a.length : Int), 1) = some (.inl (((a.length + b.length : Nat) : Int), 2)) →
   f (((a.length + b.length : Nat) : Int), 2) = some (.inr (.inl ((a.length + b.length : Nat) : Int))) → P.iter K f (0, 0) = some (.inl ((a.length + b.length : Nat) : Int)) := by
  intro f h1 h2 h3
  rw [iter_step (by unfold K; omega) h1, iter_step (by unfold K; omega) h2, iter_done (by unfold K; omega) h3]
 have run2 : ∀ f : List Bv × Int → Option ((List Bv × Int) ⊕ (List Bv ⊕ List Bv)), f ([], 0) = some (.inl (a, 1)) → f (a, 1) = some (.inl (a ++ b, 2)) →
   f (a ++ b, 2) = some (.inr (.inl (a ++ b))) → P.iter K f ([], 0) = some (.inl (a ++ b)) := by
  intro f h1 h2 h3
  rw [iter_step (by unfold K; omega) h1, iter_step (by unfold K; omega) h2, iter_done (by unfold K; omega) h3]
 have l0 : P.ilt (0 : Int) (P.len [a, b]) = true := rfl
 have l1 : P.ilt (1 : Int) (P.len [a, b]) = true := rfl
 have l2 : P.ilt (2 : Int) (P.len [a, b]) = false := rfl
 have i0 : P.inb (0 : Int) (P.len [a, b]) = true := rfl
 have i1 : P.inb (1 : Int) (P.len [a, b]) = true := rfl
 have g0 : P.get [a, b] (0 : Int) [] = a := rfl
 have g1 : P.get [a, b] (1 : Int) [] = b := rfl
 have w1 : P.wrap IntKind.i64 (P.add (0 : Int) (1 : Int)) = 1 := by rw [wrap_i64 (by decide) (by decide)]; rfl
 have w2 : P.wrap IntKind.i64 (P.add (1 : Int) (1 : Int)) = 2 := by rw [wrap_i64 (by decide) (by decide)]; rfl
 have s1 : P.wrap IntKind.i64 (P.add (0 : Int) (P.len a)) = (a.length : Int) := by rw [show P.add (0 : Int) (P.len a) = ((a.length : Nat) : Int) from by simp [P.add, P.len], wrap_nat (by omega)]
 have s2 : P.wrap IntKind.i64 (P.add (a.length : Int) (P.len b)) = ((a.length + b.length : Nat) : Int) := by rw [show P.add (a.length : Int) (P.len b) = ((a.length + b.length : Nat) : Int) from by simp [P.add, P.len], wrap_nat (by omega)]
 have loop : ∀ E : List Bv, E = [] → P.bind (P.iter K (fun (y : List (ByteArray × List (Int × Int)) × Int) => P.cond (P.ilt y.snd (P.len [a, b])) (P.cond (P.inb y.snd (P.len [a, b])) (P.cond (P.room (P.add (P.len y.fst) (P.len (P.get [a, b] y.snd []))) 40) (some (Sum.inl (P.app y.fst (P.get [a, b] y.snd []), P.wrap IntKind.i64 (P.add y.snd ((1 : Int)))))) none) none) (some (Sum.inr (Sum.inl y.fst)))) (E, (0 : Int))) (P.either (fun (z : List (ByteArray × List (Int × Int))) => some z) fun (r : List (ByteArray × List (Int × Int))) => some r) = some (a ++ b) := by
  rintro E rfl
  rw [run2 _ ?_ ?_ ?_]
  ·rfl
  ·try dsimp only
   rw [l0, cond_true, i0, cond_true, g0, w1, show P.room (P.add (P.len ([] : List Bv)) (P.len a)) 40 = true from by rw [len_eq, len_eq, room_nat]; simp; omega]; rfl
  ·try dsimp only
   rw [l1, cond_true, i1, cond_true, g1, w2, show P.room (P.add (P.len a) (P.len b)) 40 = true from by rw [len_eq, len_eq, room_nat]; omega]; rfl
  ·try dsimp only
   rw [l2]; rfl
 unfold slConcatBind
 rw [run1 _ ?_ ?_ ?_]
 ·rw [bind_some, either_inl, show P.ilt (((a.length + b.length : Nat) : Int)) (0 : Int) = false from by rw [Bool.eq_false_iff, Ne, ilt_iff]; omega, cond_false, wrap0, wrap_sub0 (by omega)]
  by_cases h0 : P.ilt (0 : Int) (((a.length + b.length : Nat) : Int)) = true
  ·rw [h0, cond_true, show P.cut (0 : Int) 0 0 = true from by decide, cond_true, cond_true, show P.room (((a.length + b.length : Nat) : Int)) 40 = true from by rw [room_iff]; omega, cond_true, show P.cut (0 : Int) 0 (P.len (P.rep (((a.length + b.length : Nat) : Int)) ((ByteArray.mk #[], []) : Bv))) = true from by rw [cut_iff, len_eq]; omega, cond_true]
   exact loop _ (by simp [P.sub_])
  ·rw [Bool.eq_false_iff.2 h0, cond_false]
   exact loop _ rfl
 ·try dsimp only
  rw [l0, cond_true, i0, cond_true, g0, w1, s1, show P.ilt (a.length : Int) (0 : Int) = false from by rw [Bool.eq_false_iff, Ne, ilt_iff]; omega]; rfl
 ·try dsimp only
  rw [l1, cond_true, i1, cond_true, g1, w2, s2, show P.ilt (((a.length + b.length : Nat) : Int)) (0 : Int) = false from by rw [Bool.eq_false_iff, Ne, ilt_iff]; omega]; rfl
 ·try dsimp only
  rw [l2]; rfl
theorem st_var (s : Sta) (n : ByteArray) (h : FewT s) : state_Var K (s, n) = some (var s.2.1 n) := by
 unfold state_Var
 try dsimp only
 have h1 := h.1
 rw [loop_find s.2.1 dB (fun b => b.1 = n) (fun b => b.2) (by omega) ?_ ?_]
 ·unfold var getV
  cases s.2.1.find? fun b => decide (b.1 = n) with
  | none => rfl
  | some b => rfl
 ·intro i hi
  have hm := getD_mem hi dB
  try dsimp only
  rw [ilt_len hi, cond_true, inb_len hi, cond_true, get_dB, seq_dec, cond_dec, wrap_succ (by omega)]
  by_cases q : (s.2.1.getD i dB).1 = n
  ·rw [if_pos q, if_pos q, show P.ile (0 : Int) (i : Int) = true from ile_iff.2 (by omega), cond_true, cond_true, at_clone K _ (by have := h.2.1 _ hm; omega), bind_some, map_some']
  ·rw [if_neg q, if_neg q]
 ·try dsimp only
  rw [ilt_end]; rfl
theorem var_own {l : List Bv} (h : RisesB l) {v : Bv} (hv : v ∈ l) : var l v.1 = v.2 := by
 rw [var_gv, gv_mem h hv]; rfl
theorem within_app8 {a b : Sta} (ma : MayS a) (mb : MayS b) : (∀ v, v ∈ a.2.1 ++ b.2.1 → Within (var a.2.1 v.1) (var b.2.1 v.1)) ↔ (∀ v, v ∈ a.2.1 → Within v.2 (var b.2.1 v.1)) ∧ (∀ v, v ∈ b.2.1 → Within (var a.2.1 v.1) v.2) := by
 constructor
 ·intro h
  refine ⟨fun v hv => ?_, fun v hv => ?_⟩
  ·have := h v (List.mem_append_left _ hv)
   rwa [var_own ma.1.1 hv] at this
  ·have := h v (List.mem_append_right _ hv)
   rwa [var_own mb.1.1 hv] at this
 ·rintro ⟨h1, h2⟩ v hv
  rcases List.mem_append.1 hv with q | q
  ·rw [var_own ma.1.1 q]; exact h1 v q
  ·rw [var_own mb.1.1 q]; exact h2 v q
theorem st_within (a b : Sta) (ha : FewT a) (hb : FewT b) : state_Within K (a, b) = some (decide (WithinT a b)) := by
 unfold state_Within
 try dsimp only
 rw [st_may a ha, bind_some, cond_ndec, st_may b hb, bind_some, cond_ndec]
 by_cases m1 : MayS a
 case neg => rw [if_neg m1, decide_eq_false (fun z : WithinT a b => m1 z.1)]
 by_cases m2 : MayS b
 case neg => rw [if_pos m1, if_neg m2, decide_eq_false (fun z : WithinT a b => m2 z.2.1)]
 rw [if_pos m1, if_pos m2]
 by_cases da : a.1 = true
 ·rw [cond_of da, da, decide_eq_true (show WithinT a b from ⟨m1, m2, .inl da⟩)]
 have da' : a.1 = false := by simpa using da
 rw [cond_of' da]
 by_cases db : b.1 = true
 ·rw [cond_of db, da', decide_eq_false (fun z : WithinT a b => by
   rcases z.2.2 with y | y
   ·exact da y
   ·rw [db] at y; exact absurd y.1 (by simp))]
 rw [cond_of' db, at_concatB _ _ (by have := ha.1; have := hb.1; omega), bind_some]
 have db' : b.1 = false := by simpa using db
 have hl : (a.2.1 ++ b.2.1).length ≤ 200000 := by rw [List.length_append]; have := ha.1; have := hb.1; omega
 have e1 := within_app8 m1 m2
 generalize hr : a.2.1 ++ b.2.1 = r at hl e1 ⊢
 rw [loop_all r.length (fun i => Within (var a.2.1 (r.getD i dB).1) (var b.2.1 (r.getD i dB).1)) (r := false) (by omega) ?_ ?_]
 ·rw [loop_all a.2.2.length (fun i => (locR b.2.2 (a.2.2.getD i dL).1).2 = true ∧ WithinO (a.2.2.getD i dL).2 (locR b.2.2 (a.2.2.getD i dL).1).1) (r := false) (by have := ha.2.2.1; omega) ?_ ?_]
  ·have f1 := forall_getD (l := r) dB (p := fun v => Within (var a.2.1 v.1) (var b.2.1 v.1))
   have f3 := forall_getD (l := a.2.2) dL (p := fun l => (locR b.2.2 l.1).2 = true ∧ WithinO l.2 (locR b.2.2 l.1).1)
   by_cases z1 : ∀ i, i < r.length → Within (var a.2.1 (r.getD i dB).1) (var b.2.1 (r.getD i dB).1)
   ·obtain ⟨y1, y2⟩ := e1.1 (f1.1 z1)
    by_cases z3 : ∀ i, i < a.2.2.length → (locR b.2.2 (a.2.2.getD i dL).1).2 = true ∧ WithinO (a.2.2.getD i dL).2 (locR b.2.2 (a.2.2.getD i dL).1).1
    ·rw [if_pos z1, if_pos z3, decide_eq_true (show WithinT a b from ⟨m1, m2, .inr ⟨db', y1, y2, f3.1 z3⟩⟩)]
    ·rw [if_pos z1, if_neg z3, decide_eq_false (fun z : WithinT a b => by
      rcases z.2.2 with y | y
      ·exact da y
      ·exact z3 (f3.2 y.2.2.2))]
   ·rw [if_neg z1, decide_eq_false (fun z : WithinT a b => by
     rcases z.2.2 with y | y
     ·exact da y
     ·exact z1 (f1.2 (e1.2 ⟨y.2.1, y.2.2.1⟩)))]
  ·intro i hi
   try dsimp only
   have hm := getD_mem hi dL
   rw [ilt_len hi, cond_true, inb_len hi, cond_true, get_nat, st_loc b _ hb, bind_some, ob_within _ _ (ha.2.2.2 _ hm) (loc_few hb _), bind_some, cond_ndec, wrap_succ (by have := ha.2.2.1; omega)]
   cases q : (locR b.2.2 (a.2.2.getD i dL).1).2
   ·rw [not_false', cond_true, if_neg (fun z => by cases z.1)]
   ·rw [not_true, cond_false]
    by_cases y : WithinO (a.2.2.getD i dL).2 (locR b.2.2 (a.2.2.getD i dL).1).1
    ·rw [if_pos y, if_pos ⟨rfl, y⟩]
    ·rw [if_neg y, if_neg (fun z => y z.2)]
  ·try dsimp only
   rw [ilt_end]; rfl
 ·intro i hi
  try dsimp only
  rw [ilt_len hi, cond_true, inb_len hi, cond_true, get_dB, st_var a _ ha, bind_some, st_var b _ hb, bind_some, at_within _ _ (by have := var_few ha (r.getD i dB).1; omega) (by have := var_few hb (r.getD i dB).1; omega), bind_some, cond_ndec, wrap_succ (by omega)]
  by_cases y : Within (var a.2.1 (r.getD i dB).1) (var b.2.1 (r.getD i dB).1)
  ·rw [if_pos y, if_pos y]
  ·rw [if_neg y, if_neg y]
 ·try dsimp only
  rw [ilt_end]; rfl
end Go.PL
end
section
open Go Go.PG Go.PL
set_option linter.all false
set_option maxHeartbeats 1000000
namespace Go.PL
theorem setJ_two (a b V l m : List Bv) : setJ a b V (l ++ m) = setJ a b (setJ a b V l) m := by unfold setJ; rw [List.foldl_append]
theorem st_join (a b : Sta) {k : Nat} (ha : BdT k a) (hb : BdT k b) (hk : k ≤ 1000) : state_Join K (a, b) = some (joinT a b) := by
 have haf := bd_fewT ha (by omega)
 have hbf := bd_fewT hb (by omega)
 unfold state_Join
 try dsimp only
 rw [st_may a haf, bind_some, cond_ndec, st_may b hbf, bind_some, cond_ndec]
 by_cases ma : MayS a
 case neg => rw [if_neg ma]; unfold joinT; rw [if_neg ma]
 by_cases mb : MayS b
 case neg => rw [if_pos ma, if_neg mb]; unfold joinT; rw [if_pos ma, if_neg mb]
 rw [if_pos ma, if_pos mb]
 by_cases da : a.1 = true
 ·rw [cond_of da, copy_vars b hbf ?_ ?_]
  ·rw [copy_locs b hbf ?_ ?_]
   ·unfold joinT; rw [if_pos ma, if_pos mb, if_pos da]
   ·intro i hi
    try dsimp only
    rw [ilt_len hi, cond_true, inb_len hi, cond_true]
   ·try dsimp only
    rw [ilt_end]; rfl
  ·intro i hi
   try dsimp only
   rw [ilt_len hi, cond_true, inb_len hi, cond_true]
  ·try dsimp only
   rw [ilt_end]; rfl
 by_cases db : b.1 = true
 ·rw [cond_of' da, cond_of db, copy_vars a haf ?_ ?_]
  ·rw [copy_locs a haf ?_ ?_]
   ·unfold joinT; rw [if_pos ma, if_pos mb, if_neg da, if_pos db]
   ·intro i hi
    try dsimp only
    rw [ilt_len hi, cond_true, inb_len hi, cond_true]
   ·try dsimp only
    rw [ilt_end]; rfl
  ·intro i hi
   try dsimp only
   rw [ilt_len hi, cond_true, inb_len hi, cond_true]
  ·try dsimp only
   rw [ilt_end]; rfl
 rw [cond_of' da, cond_of' db, joinT_ok ma mb da db, copy_vars a haf ?_ ?_]
 rotate_left
 ·intro i hi
  try dsimp only
  rw [ilt_len hi, cond_true, inb_len hi, cond_true]
 ·try dsimp only
  rw [ilt_end]; rfl
 rw [copy_locs a haf ?_ ?_]
 rotate_left
 ·intro i hi
  try dsimp only
  rw [ilt_len hi, cond_true, inb_len hi, cond_true]
 ·try dsimp only
  rw [ilt_end]; rfl
 try dsimp only
 have da' : a.1 = false := by simpa using da
 rw [at_concatB _ _ (by have := ha.1; have := hb.1; omega), bind_some, da', ← setJ_two]
 obtain ⟨a1, a2, a3, a4⟩ := ha
 obtain ⟨b1, b2, b3, b4⟩ := hb
 have bl := both_len a2 b2
 have mA : RisesB a.2.1 ∧ ∀ v, v ∈ a.2.1 → v.2 = norm v.2 := ma.1
 have hrl : (a.2.1 ++ b.2.1).length ≤ k + k := by rw [List.length_append]; omega
 have sv1 : ∀ l v, v ∈ setJ a.2.1 b.2.1 a.2.1 l → v.2.length ≤ 4 * k + 2 := fun l v hv => by
  rcases setJ_mem _ _ _ _ v hv with q | q
  ·have := a2 v q; omega
  ·rw [q]; have := bl v.1; omega
 have uni : ∀ n, atoms_Union K (var a.2.1 n, var b.2.1 n) = some (both a.2.1 b.2.1 n) := fun n => at_union _ _ (by have := var_bd a2 n; have := var_bd b2 n; omega)
 generalize hr : a.2.1 ++ b.2.1 = r at hrl ⊢
 rw [loop_st r.length (fun j => (false, setJ a.2.1 b.2.1 a.2.1 (r.take j), a.2.2)) _ (false, setJ a.2.1 b.2.1 a.2.1 r, a.2.2) (by omega) (by simp only [List.take_zero]; rfl) (by simp) ?_ ?_]
 ·have lV1 := setJ_len a.2.1 b.2.1 r a.2.1
  generalize setJ a.2.1 b.2.1 a.2.1 r = V at lV1
  try dsimp only
  rw [loop_st b.2.2.length (fun j => (false, V, putJ a.2.2 a.2.2 (b.2.2.take j))) _ (false, V, putJ a.2.2 a.2.2 b.2.2) (by omega) (by simp only [List.take_zero]; rfl) (by simp) ?_ ?_]
  ·intro j hj
   have hm := getD_mem hj dL
   have hy := mb.2.1.2 _ hm
   have hyb := b4 _ hm
   have hok := putJ_ok (a := a.2.2) (L := a.2.2) (l := b.2.2.take j) ma.2.1 ma.2.1.2 (take_all mb.2.1.2 j)
   have hlen := putJ_len a.2.2 (b.2.2.take j) a.2.2
   have htl : (b.2.2.take j).length ≤ k := by rw [List.length_take]; omega
   have h2 := oneJ_bd a4 hyb
   try dsimp only
   rw [ilt_len hj, cond_true, inb_len hj, cond_true, get_dL, st_loc a _ haf, bind_some, take_getD' hj dL, putJ_app]
   generalize putJ a.2.2 a.2.2 (b.2.2.take j) = L at hok hlen ⊢
   have hL : L.length ≤ 2 * k := by omega
   have step : ∀ (x : At) (o : Sp), FewS o → ∃ m, m ≤ L.length ∧ (∀ i, i < m → ltA (L.getD i dL).1 x) ∧ (m < L.length → ¬ ltA (L.getD m dL).1 x) ∧ (L.take m ++ (x, o) :: L.drop m = L.take m ++ (x, o) :: L.drop m) := fun x o _ => ⟨_, fstK_le (lt := ltA) (key := fun b : Lc => b.1) L x, fstK_lt (lt := ltA) (key := fun b : Lc => b.1) dL L x, fstK_at (lt := ltA) (key := fun b : Lc => b.1) dL L x, rfl⟩
   rw [gl_locR]
   have e0 : (oneJ a.2.2 (b.2.2.getD j dL)).1 = (b.2.2.getD j dL).1 := rfl
   cases g : gl a.2.2 (b.2.2.getD j dL).1
   case' none =>
    have e2 : oneJ a.2.2 (b.2.2.getD j dL) = ((b.2.2.getD j dL).1, (b.2.2.getD j dL).2) := by unfold oneJ; rw [g]
    rw [e2] at h2 ⊢
    try dsimp only
    rw [cond_false]
    have ho := bd_few hyb (by omega)
    generalize (b.2.2.getD j dL).2 = o at ho ⊢
   case' some o' =>
    have e2 : oneJ a.2.2 (b.2.2.getD j dL) = ((b.2.2.getD j dL).1, join o' (b.2.2.getD j dL).2) := by unfold oneJ; rw [g]
    rw [e2] at h2 ⊢
    have ob := a4 _ (gl_some g)
    try dsimp only
    rw [cond_true, ob_join _ _ (bd_few ob (by omega)) (bd_few hyb (by omega)), bind_some]
    have ho := bd_few h2 (by omega)
    have ho : FewS (join o' (b.2.2.getD j dL).2) := ho
    generalize join o' (b.2.2.getD j dL).2 = o at ho ⊢
   all_goals (
    generalize (b.2.2.getD j dL).1 = x
    have hkl := fstK_le (lt := ltA) (key := fun b : Lc => b.1) L x
    have hlo := fstK_lt (lt := ltA) (key := fun b : Lc => b.1) dL L x
    have hat := fstK_at (lt := ltA) (key := fun b : Lc => b.1) dL L x
    generalize fstK ltA (fun b : Lc => b.1) L x = q at hkl hlo hat
    obtain ⟨q1, q2, q3⟩ := split_at ordA (key := fun b : Lc => b.1) hok.1 dL (x, o) q hkl hlo hat
    have hstep : ∀ i : Nat, i < q → i < L.length := fun i hi => by omega
    by_cases hl : q < L.length
    ·rw [loop_first q (.inr (.inl (((j + 1 : Nat) : Int), false, V, insL L (x, o)))) (by omega) ?_ ?_]
     ·rw [either_inr]
     ·intro i hi
      have hi2 := hstep i hi
      obtain ⟨r, hr, hlt⟩ := at_compare (L.getD i dL).1 x
      try dsimp only
      rw [ilt_len hi2, cond_true, inb_len hi2, cond_true, get_dL, hr, bind_some, show P.ile (0 : Int) r = false from by rw [Bool.eq_false_iff, Ne, ile_iff]; exact fun z => hlt.1 z (hlo i hi), cond_false, wrap_succ (by omega)]
     ·obtain ⟨r, hr, hlt⟩ := at_compare (L.getD q dL).1 x
      try dsimp only
      rw [ilt_len hl, cond_true, inb_len hl, cond_true, get_dL, hr, bind_some, show P.ile (0 : Int) r = true from ile_iff.2 (hlt.2 (hat hl)), cond_true, show P.ile (0 : Int) (q : Int) = true from ile_iff.2 (by omega), cond_true, cond_true, cond_true, eqA_dec, cond_dec, ob_copy o ho, bind_some, bind_some, lt_one, cond_true, cond_true, wrap_succ (by omega), wrap_succ (by omega)]
      by_cases e : (L.getD q dL).1 = x
      ·rw [if_pos e, show P.cut (q : Int) ((q + 1 : Nat) : Int) (P.len L) = true from cut_iff.2 (by rw [len_eq]; omega), cond_true, show P.cut (0 : Int) (q : Int) (P.len (P.delAt L (q : Int) ((q + 1 : Nat) : Int))) = true from cut_iff.2 (by rw [len_eq, delAt_len hl]; omega), cond_true,
        room_one _ _ 64 (by rw [delAt_len hl]; omega) (by omega), cond_true, map_some', del_ins hl, q1, q2 hl e]
       rfl
      ·rw [if_neg e, show P.cut (0 : Int) (q : Int) (P.len L) = true from cut_iff.2 (by rw [len_eq]; omega), cond_true, room_one _ _ 64 (by omega) (by omega), cond_true, map_some', ins_at, q1, q3 (fun _ => e)]
       rfl
    ·have hq : q = L.length := by omega
     subst hq
     rw [loop_first L.length (.inl ()) (by omega) ?_ ?_]
     ·rw [either_inl, show P.ile (0 : Int) (-1 : Int) = false from rfl, cond_false, show P.ilt (P.len L) (P.len L) = false from by rw [Bool.eq_false_iff, Ne, ilt_iff]; omega, cond_false, ob_copy o ho, bind_some, lt_one, cond_true, show P.cut (0 : Int) (P.len L) (P.len L) = true from cut_iff.2 (by rw [len_eq]; omega), cond_true,
       room_one _ _ 64 (by omega) (by omega), cond_true, len_eq, ins_at, q1, q3 (fun z => absurd z (by omega)), wrap_succ (by omega)]
      rfl
     ·intro i hi
      have hi2 := hstep i hi
      obtain ⟨r, hr, hlt⟩ := at_compare (L.getD i dL).1 x
      try dsimp only
      rw [ilt_len hi2, cond_true, inb_len hi2, cond_true, get_dL, hr, bind_some, show P.ile (0 : Int) r = false from by rw [Bool.eq_false_iff, Ne, ile_iff]; exact fun z => hlt.1 z (hlo i hi), cond_false, wrap_succ (by omega)]
     ·try dsimp only
      rw [ilt_end, cond_false])
  ·try dsimp only
   rw [ilt_end]; rfl
 ·intro j hj
  have lV1 := setJ_len a.2.1 b.2.1 (r.take j) a.2.1
  have htl : (r.take j).length ≤ k + k := by rw [List.length_take]; omega
  have oV := setJ_ok (a := a.2.1) (b := b.2.1) (l := r.take j) mA
  have hbl := bl (r.getD j dB).1
  try dsimp only
  rw [ilt_len hj, cond_true, inb_len hj, cond_true, get_dB, st_var a _ haf, bind_some, st_var b _ hbf, bind_some, uni, bind_some, take_getD' hj dB, setJ_app]
  have hnn : norm (both a.2.1 b.2.1 (r.getD j dB).1) = both a.2.1 b.2.1 (r.getD j dB).1 := norm_norm _
  generalize both a.2.1 b.2.1 (r.getD j dB).1 = v at hbl hnn ⊢
  generalize (r.getD j dB).1 = n
  generalize setJ a.2.1 b.2.1 a.2.1 (r.take j) = V at lV1 oV ⊢
  have hV : V.length ≤ 3 * k := by omega
  have hkl := fstK_le (lt := ltS) (key := fun b : Bv => b.1) V n
  have hlo := fstK_lt (lt := ltS) (key := fun b : Bv => b.1) dB V n
  have hat := fstK_at (lt := ltS) (key := fun b : Bv => b.1) dB V n
  generalize fstK ltS (fun b : Bv => b.1) V n = q at hkl hlo hat
  obtain ⟨q1, q2, q3⟩ := split_at ordS (key := fun b : Bv => b.1) oV.1 dB (n, v) q hkl hlo hat
  have hstep : ∀ i : Nat, i < q → i < V.length := fun i hi => by omega
  by_cases hl : q < V.length
  ·rw [loop_first q (.inr (.inl (((j + 1 : Nat) : Int), false, insB V (n, v), a.2.2))) (by omega) ?_ ?_]
   ·rw [either_inr]
   ·intro i hi
    have hi2 := hstep i hi
    try dsimp only
    rw [ilt_len hi2, cond_true, inb_len hi2, cond_true, get_dB, slt_dec, cond_ndec, if_pos (hlo i hi), wrap_succ (by omega)]
   ·try dsimp only
    rw [ilt_len hl, cond_true, inb_len hl, cond_true, get_dB, slt_dec, cond_ndec, if_neg (hat hl), show P.ile (0 : Int) (q : Int) = true from ile_iff.2 (by omega), cond_true, cond_true, cond_true, seq_dec, cond_dec, at_norm' v (by omega), bind_some, bind_some, hnn, lt_one, cond_true, cond_true, wrap_succ (by omega), wrap_succ (by omega)]
    by_cases e : (V.getD q dB).1 = n
    ·rw [if_pos e, show P.cut (q : Int) ((q + 1 : Nat) : Int) (P.len V) = true from cut_iff.2 (by rw [len_eq]; omega), cond_true, show P.cut (0 : Int) (q : Int) (P.len (P.delAt V (q : Int) ((q + 1 : Nat) : Int))) = true from cut_iff.2 (by rw [len_eq, delAt_len hl]; omega), cond_true,
      room_one _ _ 40 (by rw [delAt_len hl]; omega) (by omega), cond_true, map_some', del_ins hl, q1, q2 hl e]
     rfl
    ·rw [if_neg e, show P.cut (0 : Int) (q : Int) (P.len V) = true from cut_iff.2 (by rw [len_eq]; omega), cond_true, room_one _ _ 40 (by omega) (by omega), cond_true, map_some', ins_at, q1, q3 (fun _ => e)]
     rfl
  ·have hq : q = V.length := by omega
   subst hq
   rw [loop_first V.length (.inl ()) (by omega) ?_ ?_]
   ·rw [either_inl, show P.ile (0 : Int) (-1 : Int) = false from rfl, cond_false, show P.ilt (P.len V) (P.len V) = false from by rw [Bool.eq_false_iff, Ne, ilt_iff]; omega, cond_false, at_norm' v (by omega), bind_some, hnn, lt_one, cond_true, show P.cut (0 : Int) (P.len V) (P.len V) = true from cut_iff.2 (by rw [len_eq]; omega), cond_true,
     room_one _ _ 40 (by omega) (by omega), cond_true, len_eq, ins_at, q1, q3 (fun z => absurd z (by omega)), wrap_succ (by omega)]
    rfl
   ·intro i hi
    have hi2 := hstep i hi
    try dsimp only
    rw [ilt_len hi2, cond_true, inb_len hi2, cond_true, get_dB, slt_dec, cond_ndec, if_pos (hlo i hi), wrap_succ (by omega)]
   ·try dsimp only
    rw [ilt_end, cond_false]
 ·try dsimp only
  rw [ilt_end]; rfl
end Go.PL
end
section
open Go Go.PG Go.PL
set_option linter.all false
namespace Go.PL
def o8 : Sta := (false, [(⟨#[120]⟩, [(2, 0)])], [])
def j8 : Sta := (false, [(⟨#[120]⟩, [(0, 0), (2, 0)])], [])
def s8 : Sta := (false, [(⟨#[120]⟩, [(2, 0)]), (⟨#[121]⟩, [(0, 0)])], [])
def p8 : Sta := (false, [(⟨#[120]⟩, [(2, 0)])], [((4, 0), ([(⟨#[112]⟩, true, [(2, 0)])], [(0, 0)]))])
theorem one8 (k : Nat) : law08_one k () = some o8 := rfl
theorem jn8 : joinT o8 (false, [], []) = j8 := by decide +kernel
theorem st8 : setT o8 ⟨#[121]⟩ [(0, 0)] = s8 := by decide +kernel
theorem pt8 : putT o8 (4, 0) ([(⟨#[112]⟩, true, [(2, 0)])], [(0, 0)]) = p8 := by decide +kernel
theorem tj8 : state_Text K j8 = some ⟨#[120, 58, 32, 110, 117, 108, 108, 32, 110, 117, 109, 10]⟩ := by decide +kernel
theorem ts8 : state_Text K s8 = some ⟨#[120, 58, 32, 110, 117, 109, 10, 121, 58, 32, 110, 117, 108, 108, 10]⟩ := by decide +kernel
theorem tp8 : state_Text K p8 = some ⟨#[120, 58, 32, 110, 117, 109, 10, 114, 101, 99, 48, 58, 32, 112, 33, 40, 110, 117, 109, 41, 32, 112, 114, 111, 116, 111, 32, 40, 110, 117, 108, 108, 41, 10]⟩ := by decide +kernel
theorem td8 : state_Text K (true, [], []) = some ⟨#[100, 101, 97, 100, 10]⟩ := by decide +kernel
theorem nul8 (k : Nat) : ref06_Null k () = some [(0, 0)] := rfl
theorem num8 (k : Nat) : ref06_Num k () = some [(2, 0)] := rfl
theorem bo8 : BdT 40 o8 := small_bdT (by decide)
theorem be8 : BdT 40 ((false, [], []) : Sta) := small_bdT (by decide)
theorem fixed8 : law08_fixed K () = some true := by
 have fo : FewT o8 := bd_fewT bo8 (by omega)
 have fj : FewT j8 := small_fewT (by decide)
 have fp : FewT p8 := small_fewT (by decide)
 unfold law08_fixed
 simp only [one8, nul8, num8, bind_some, st_join _ _ bo8 be8 (by omega), jn8, st_set o8 _ [(0, 0)] fo (by simp), st8, st_put o8 (4, 0) ([(⟨#[112]⟩, true, [(2, 0)])], [(0, 0)]) fo (by decide), pt8, st_loc p8 _ fp, tj8, ts8, tp8, st_may p8 fp, st_within o8 j8 fo fj, st_within j8 o8 fj fo, st_var o8 _ fo, ref_same _ [(0, 0)] (show (var o8.2.1 ⟨#[122]⟩).length ≤ 8796093022100 from by decide), td8]
 decide +kernel
end Go.PL
end
section
open Go Go.PG Go.PL
set_option linter.all false
namespace Go.PL
theorem g8 {b : Bool} {F X : Option Bool} (h : b = true → X = some true) (hF : F = some true := by first | rfl | (rw [fixed8]; rfl)) : P.cond (P.not b) F X = some true := by
 cases b
 ·rw [show P.not false = true from rfl, cond_true, hF]
 ·rw [show P.not true = false from rfl, cond_false]; exact h rfl
end Go.PL
end
section
open Go Go.PG Go.PL
set_option linter.all false
namespace Go.PL
def nmB (b : ByteArray) : List UInt8 := b.data.toList
def lineV (v : Bv) : List UInt8 := nmB v.1 ++ [58, 32] ++ textA v.2 ++ [10]
def fldT (f : ByteArray × Bool × List At) : List UInt8 := [32] ++ nmB f.1 ++ (if f.2.1 = true then [33, 40] else [63, 40]) ++ textA f.2.2 ++ [41]
def tailT (l : List At) : List UInt8 := [32, 112, 114, 111, 116, 111, 32, 40] ++ textA l ++ [41, 10]
def locT (l : Lc) : List UInt8 := textA [l.1] ++ [58] ++ l.2.1.flatMap fldT ++ tailT l.2.2
def textS (s : Sta) : List UInt8 := if s.1 = true then [100, 101, 97, 100, 10] else s.2.1.flatMap lineV ++ s.2.2.flatMap locT
def TxtOk (s : Sta) : Prop := (∀ v, v ∈ s.2.1 → InA v.2 ∧ v.1.size ≤ 8589934592) ∧ ∀ l, l ∈ s.2.2 → InA [l.1] ∧ InA l.2.2 ∧ ∀ f, f ∈ l.2.1 → InA f.2.2 ∧ f.1.size ≤ 8589934592
theorem flat_le {α : Type} (f : α → List UInt8) (k : Nat) : ∀ (l : List α), (∀ x, x ∈ l → (f x).length ≤ k) → (l.flatMap f).length ≤ l.length * k := by
 intro l
 induction l with
 | nil => intro _; simp
 | cons a l ih =>
  intro h
  have h1 := h a (by simp)
  have h2 := ih fun x hx => h x (List.mem_cons_of_mem _ hx)
  rw [List.flatMap_cons, List.length_append, List.length_cons, Nat.succ_mul]
  omega
theorem flat_step {α : Type} (f : α → List UInt8) (l : List α) {i : Nat} (h : i < l.length) (d : α) : (l.take (i + 1)).flatMap f = (l.take i).flatMap f ++ f (l.getD i d) := by
 rw [take_getD' h d, List.flatMap_append]; simp
theorem flat_take {α : Type} (f : α → List UInt8) (l : List α) (k n : Nat) (hl : l.length ≤ n) (h : ∀ x, x ∈ l → (f x).length ≤ k) (i : Nat) : ((l.take i).flatMap f).length ≤ n * k := by
 have h1 := flat_le f k (l.take i) fun x hx => h x (List.mem_of_mem_take hx)
 have h2 : (l.take i).length ≤ n := by rw [List.length_take]; omega
 exact Nat.le_trans h1 (Nat.mul_le_mul_right k h2)
theorem slen_B (l : List UInt8) : P.slen (B l) = (l.length : Int) := by
 have := B_size l
 show ((B l).size : Int) = _
 rw [this]
theorem room_B (l m : List UInt8) (h : l.length + m.length ≤ 140737488355328) : P.room (P.add (P.slen (B l)) (P.slen (B m))) 1 = true := by
 rw [slen_B, slen_B, room_nat]; omega
theorem sfD {l m : List UInt8} (h : l.length + m.length ≤ 9223372036854775807 := by simp only [List.length_append, List.length_cons, List.length_nil]; omega) : P.sfit (B l) (B m) = true := sfit_B l m h
theorem rmD {l m : List UInt8} (h : l.length + m.length ≤ 140737488355328 := by simp only [List.length_append, List.length_cons, List.length_nil]; omega) : P.room (P.add (P.slen (B l)) (P.slen (B m))) 1 = true := room_B l m h
theorem nm_len (b : ByteArray) : (nmB b).length = b.size := by unfold nmB; rw [Array.length_toList]; rfl
theorem nm_B (b : ByteArray) : b = B (nmB b) := B_eta b
theorem lineV_len {v : Bv} (h : InA v.2) (h1 : v.1.size ≤ 8589934592) (h2 : v.2.length ≤ 40) : (lineV v).length ≤ 8589936000 := by
 have := textA_len h
 have := nm_len v.1
 unfold lineV
 simp only [List.length_append, List.length_cons, List.length_nil]
 omega
theorem fldT_len {f : ByteArray × Bool × List At} (h : InA f.2.2) (h1 : f.1.size ≤ 8589934592) (h2 : f.2.2.length ≤ 40) : (fldT f).length ≤ 8589936000 := by
 have := textA_len h
 have := nm_len f.1
 unfold fldT
 split <;> (simp only [List.length_append, List.length_cons, List.length_nil]; omega)
theorem tailT_len {l : List At} (h : InA l) (h2 : l.length ≤ 40) : (tailT l).length ≤ 2000 := by
 have := textA_len h
 unfold tailT
 simp only [List.length_append, List.length_cons, List.length_nil]
 omega
theorem one_len {x : At} (h : InA [x]) : (textA [x]).length ≤ 25 := by
 have := textA_len h
 simpa using this
theorem locT_len {l : Lc} (hs : SmallL l) (h : InA [l.1] ∧ InA l.2.2 ∧ ∀ f, f ∈ l.2.1 → InA f.2.2 ∧ f.1.size ≤ 8589934592) : (locT l).length ≤ 343597443000 := by
 have h1 := one_len h.1
 have h2 := tailT_len h.2.1 hs.2.1
 have h3 := flat_le fldT 8589936000 l.2.1 fun f hf => fldT_len (h.2.2 f hf).1 (h.2.2 f hf).2 (hs.2.2 f hf)
 have h4 := Nat.mul_le_mul_right 8589936000 hs.1
 unfold locT
 simp only [List.length_append, List.length_cons, List.length_nil]
 omega
theorem c_col : ({ data := #[58, 32] } : ByteArray) = B [58, 32] := rfl
theorem c_nl : ({ data := #[10] } : ByteArray) = B [10] := rfl
theorem c_c : ({ data := #[58] } : ByteArray) = B [58] := rfl
theorem c_sp : ({ data := #[32] } : ByteArray) = B [32] := rfl
theorem c_ex : ({ data := #[33] } : ByteArray) = B [33] := rfl
theorem c_qu : ({ data := #[63] } : ByteArray) = B [63] := rfl
theorem c_op : ({ data := #[40] } : ByteArray) = B [40] := rfl
theorem c_cl : ({ data := #[41] } : ByteArray) = B [41] := rfl
theorem c_exo : ({ data := #[33, 40] } : ByteArray) = B [33, 40] := rfl
theorem c_quo : ({ data := #[63, 40] } : ByteArray) = B [63, 40] := rfl
theorem c_pr : ({ data := #[32, 112, 114, 111, 116, 111, 32, 40] } : ByteArray) = B [32, 112, 114, 111, 116, 111, 32, 40] := rfl
theorem c_en : ({ data := #[41, 10] } : ByteArray) = B [41, 10] := rfl
theorem get_dF (l : List (ByteArray × Bool × List At)) (i : Nat) : P.get l (i : Int) (({ data := #[] } : ByteArray), false, ([] : List At)) = l.getD i dF := get_nat l i _
theorem at_text8 (s : Sta) (hs : SmallT s) (h : TxtOk s) : state_Text K s = some (B (textS s)) := by
 have fs := small_fewT hs
 unfold state_Text textS
 try dsimp only
 by_cases d : s.1 = true
 ·rw [cond_of d, if_pos d]; rfl
 rw [cond_of' d, if_neg d]
 have hV := hs.1
 have hL := hs.2.1
 have lv : ∀ v, v ∈ s.2.1 → (lineV v).length ≤ 8589936000 := fun v hv => lineV_len (h.1 v hv).1 (h.1 v hv).2 (hs.2.2.1 v hv)
 have ll : ∀ l, l ∈ s.2.2 → (locT l).length ≤ 343597443000 := fun l hl => locT_len (hs.2.2.2 l hl) (h.2 l hl)
 have bv := flat_take lineV s.2.1 8589936000 40 hV lv
 have bl := flat_take locT s.2.2 343597443000 40 hL ll
 rw [loop_st s.2.1.length (fun i => B ((s.2.1.take i).flatMap lineV)) _ (B (s.2.1.flatMap lineV)) (by omega) (by simp only [List.take_zero]; rfl) (by rw [List.take_length]) ?_ ?_]
 ·have bV : (s.2.1.flatMap lineV).length ≤ 40 * 8589936000 := by have := bv s.2.1.length; rwa [List.take_length] at this
  generalize s.2.1.flatMap lineV = V at bV
  rw [loop_st s.2.2.length (fun i => B (V ++ (s.2.2.take i).flatMap locT)) _ (B (V ++ s.2.2.flatMap locT)) (by omega) (by simp only [List.take_zero, List.flatMap_nil, List.append_nil]) (by rw [List.take_length]) ?_ ?_]
  ·intro i hi
   have hm := getD_mem hi dL
   obtain ⟨x1, x2, x3⟩ := h.2 _ hm
   have hsl := hs.2.2.2 _ hm
   have hli := ll _ hm
   have b1 := bl i
   have o1 := one_len x1
   have t1 := tailT_len x2 hsl.2.1
   have f1 := flat_take fldT (s.2.2.getD i dL).2.1 8589936000 40 hsl.1 fun f hf => fldT_len (x3 f hf).1 (x3 f hf).2 (hsl.2.2 f hf)
   rw [flat_step locT s.2.2 hi dL, ← List.append_assoc]
   generalize hW : V ++ (s.2.2.take i).flatMap locT = W
   have bW : W.length ≤ 40 * 8589936000 + 40 * 343597443000 := by rw [← hW, List.length_append]; omega
   try dsimp only
   rw [ilt_len hi, cond_true, inb_len hi, cond_true, get_dL, at_text _ x1 (by simp), bind_some, c_c, sfD, cond_true, scat_B, rmD, cond_true, scat_B]
   have hlt : locT (s.2.2.getD i dL) = textA [(s.2.2.getD i dL).1] ++ [58] ++ (s.2.2.getD i dL).2.1.flatMap fldT ++ tailT (s.2.2.getD i dL).2.2 := rfl
   rw [hlt]
   generalize hU : W ++ (textA [(s.2.2.getD i dL).1] ++ [58]) = U
   have bU : U.length ≤ 40 * 8589936000 + 40 * 343597443000 + 26 := by rw [← hU]; simp only [List.length_append, List.length_cons, List.length_nil]; omega
   rw [show W ++ (textA [(s.2.2.getD i dL).1] ++ [58] ++ (s.2.2.getD i dL).2.1.flatMap fldT ++ tailT (s.2.2.getD i dL).2.2) = U ++ (s.2.2.getD i dL).2.1.flatMap fldT ++ tailT (s.2.2.getD i dL).2.2 from by rw [← hU]; simp only [List.append_assoc]]
   rw [loop_st (s.2.2.getD i dL).2.1.length (fun j => B (U ++ ((s.2.2.getD i dL).2.1.take j).flatMap fldT)) _ (B (U ++ (s.2.2.getD i dL).2.1.flatMap fldT)) (by have := hsl.1; omega) (by simp only [List.take_zero, List.flatMap_nil, List.append_nil]) (by rw [List.take_length]) ?_ ?_]
   ·have f2 := f1 (s.2.2.getD i dL).2.1.length
    rw [List.take_length] at f2
    try dsimp only
    rw [at_text _ x2 (by have := hsl.2.1; omega), bind_some, c_pr, c_en]
    have ht : tailT (s.2.2.getD i dL).2.2 = [32, 112, 114, 111, 116, 111, 32, 40] ++ textA (s.2.2.getD i dL).2.2 ++ [41, 10] := rfl
    rw [ht] at t1 ⊢
    simp only [List.length_append, List.length_cons, List.length_nil] at t1
    rw [sfD, cond_true, scat_B, sfD, cond_true, scat_B, rmD, cond_true, scat_B, wrap_succ (by omega)]
   ·intro j hj
    have hf := getD_mem hj dF
    obtain ⟨y1, y2⟩ := x3 _ hf
    have y3 := hsl.2.2 _ hf
    have f2 := f1 j
    have fl := fldT_len y1 y2 y3
    rw [flat_step fldT _ hj dF, ← List.append_assoc]
    generalize hX : U ++ ((s.2.2.getD i dL).2.1.take j).flatMap fldT = X
    have bX : X.length ≤ 40 * 8589936000 + 40 * 343597443000 + 26 + 40 * 8589936000 := by rw [← hX, List.length_append]; omega
    try dsimp only
    rw [ilt_len hj, cond_true, inb_len hj, cond_true, get_dF]
    have hft : fldT ((s.2.2.getD i dL).2.1.getD j dF) = [32] ++ nmB ((s.2.2.getD i dL).2.1.getD j dF).1 ++ (if ((s.2.2.getD i dL).2.1.getD j dF).2.1 = true then [33, 40] else [63, 40]) ++ textA ((s.2.2.getD i dL).2.1.getD j dF).2.2 ++ [41] := rfl
    rw [hft] at fl ⊢
    have hn := nm_len ((s.2.2.getD i dL).2.1.getD j dF).1
    have e1 := at_text _ y1 (by omega)
    have lt := textA_len y1
    rw [nm_B ((s.2.2.getD i dL).2.1.getD j dF).1]
    rw [show nmB (B (nmB ((s.2.2.getD i dL).2.1.getD j dF).1)) = nmB ((s.2.2.getD i dL).2.1.getD j dF).1 from by rw [← nm_B]]
    generalize nmB ((s.2.2.getD i dL).2.1.getD j dF).1 = N at hn fl
    generalize ((s.2.2.getD i dL).2.1.getD j dF).2.2 = L at e1 lt y3 fl ⊢
    generalize ((s.2.2.getD i dL).2.1.getD j dF).2.1 = q at fl ⊢
    have hN : N.length ≤ 8589934592 := by omega
    cases q
    ·rw [cond_false, c_sp, c_qu, c_op, c_cl, if_neg (by simp)]
     rw [sfD, cond_true, scat_B, sfD, cond_true, scat_B, sfD, cond_true, scat_B, e1, bind_some,
      sfD, cond_true, scat_B, sfD, cond_true, scat_B, rmD, cond_true, scat_B, wrap_succ (by have := hsl.1; omega)]
     simp only [List.append_assoc, List.cons_append, List.nil_append]
    ·rw [cond_true, c_sp, c_ex, c_op, c_cl, if_pos rfl]
     rw [sfD, cond_true, scat_B, sfD, cond_true, scat_B, sfD, cond_true, scat_B, e1, bind_some,
      sfD, cond_true, scat_B, sfD, cond_true, scat_B, rmD, cond_true, scat_B, wrap_succ (by have := hsl.1; omega)]
     simp only [List.append_assoc, List.cons_append, List.nil_append]
   ·try dsimp only
    rw [ilt_end]; rfl
  ·try dsimp only
   rw [ilt_end]; rfl
 ·intro i hi
  have hm := getD_mem hi dB
  obtain ⟨x1, x2⟩ := h.1 _ hm
  have x3 := hs.2.2.1 _ hm
  have b1 := bv i
  have hn := nm_len (s.2.1.getD i dB).1
  have e1 := at_text _ x1 (by omega)
  have lt := textA_len x1
  rw [flat_step lineV s.2.1 hi dB]
  generalize (s.2.1.take i).flatMap lineV = X at b1 ⊢
  try dsimp only
  rw [ilt_len hi, cond_true, inb_len hi, cond_true, get_dB]
  have hft : lineV (s.2.1.getD i dB) = nmB (s.2.1.getD i dB).1 ++ [58, 32] ++ textA (s.2.1.getD i dB).2 ++ [10] := rfl
  rw [hft]
  rw [nm_B (s.2.1.getD i dB).1]
  rw [show nmB (B (nmB (s.2.1.getD i dB).1)) = nmB (s.2.1.getD i dB).1 from by rw [← nm_B]]
  generalize nmB (s.2.1.getD i dB).1 = N at hn
  generalize (s.2.1.getD i dB).2 = L at e1 lt x3 ⊢
  have hN : N.length ≤ 8589934592 := by omega
  rw [c_col, c_nl, sfD, cond_true, scat_B, e1, bind_some, sfD, cond_true, scat_B, sfD, cond_true, scat_B,
   rmD, cond_true, scat_B, wrap_succ (by omega)]
 ·try dsimp only
  rw [ilt_end]; rfl
end Go.PL
end
section
open Go Go.PG Go.PL
set_option linter.all false
namespace Go.PL
theorem ref_text8 (s : Sta) (hs : SmallT s) (h : TxtOk s) : ref08_Text K s = some (B (textS s)) := by
 have fs := small_fewT hs
 unfold ref08_Text textS
 try dsimp only
 by_cases d : s.1 = true
 ·rw [cond_of d, if_pos d]; rfl
 rw [cond_of' d, if_neg d]
 have hV := hs.1
 have hL := hs.2.1
 have lv : ∀ v, v ∈ s.2.1 → (lineV v).length ≤ 8589936000 := fun v hv => lineV_len (h.1 v hv).1 (h.1 v hv).2 (hs.2.2.1 v hv)
 have ll : ∀ l, l ∈ s.2.2 → (locT l).length ≤ 343597443000 := fun l hl => locT_len (hs.2.2.2 l hl) (h.2 l hl)
 have bv := flat_take lineV s.2.1 8589936000 40 hV lv
 have bl := flat_take locT s.2.2 343597443000 40 hL ll
 rw [loop_gen s.2.1.length (fun i => (B ((s.2.1.take i).flatMap lineV), (i : Int))) _ (B (s.2.1.flatMap lineV)) (by omega) (by simp only [List.take_zero]; rfl) ?_ ?_]
 ·have bV : (s.2.1.flatMap lineV).length ≤ 40 * 8589936000 := by have := bv s.2.1.length; rwa [List.take_length] at this
  generalize s.2.1.flatMap lineV = V at bV
  rw [loop_gen s.2.2.length (fun i => (B (V ++ (s.2.2.take i).flatMap locT), (i : Int))) _ (B (V ++ s.2.2.flatMap locT)) (by omega) (by simp only [List.take_zero, List.flatMap_nil, List.append_nil]; rfl) ?_ ?_]
  ·intro i hi
   have hm := getD_mem hi dL
   obtain ⟨x1, x2, x3⟩ := h.2 _ hm
   have hsl := hs.2.2.2 _ hm
   have hli := ll _ hm
   have b1 := bl i
   have o1 := one_len x1
   have t1 := tailT_len x2 hsl.2.1
   have f1 := flat_take fldT (s.2.2.getD i dL).2.1 8589936000 40 hsl.1 fun f hf => fldT_len (x3 f hf).1 (x3 f hf).2 (hsl.2.2 f hf)
   rw [flat_step locT s.2.2 hi dL, ← List.append_assoc]
   generalize hW : V ++ (s.2.2.take i).flatMap locT = W
   have bW : W.length ≤ 40 * 8589936000 + 40 * 343597443000 := by rw [← hW, List.length_append]; omega
   try dsimp only
   rw [ilt_len hi, cond_true, inb_len hi]
   simp only [cond_true]
   rw [get_dL, ref_text _ x1 (by simp), bind_some, c_c, sfD, cond_true, scat_B, sfD, cond_true, scat_B]
   have hlt : locT (s.2.2.getD i dL) = textA [(s.2.2.getD i dL).1] ++ [58] ++ (s.2.2.getD i dL).2.1.flatMap fldT ++ tailT (s.2.2.getD i dL).2.2 := rfl
   rw [hlt]
   generalize hU : W ++ (textA [(s.2.2.getD i dL).1] ++ [58]) = U
   have bU : U.length ≤ 40 * 8589936000 + 40 * 343597443000 + 26 := by rw [← hU]; simp only [List.length_append, List.length_cons, List.length_nil]; omega
   rw [show W ++ (textA [(s.2.2.getD i dL).1] ++ [58] ++ (s.2.2.getD i dL).2.1.flatMap fldT ++ tailT (s.2.2.getD i dL).2.2) = U ++ (s.2.2.getD i dL).2.1.flatMap fldT ++ tailT (s.2.2.getD i dL).2.2 from by rw [← hU]; simp only [List.append_assoc]]
   rw [loop_gen (s.2.2.getD i dL).2.1.length (fun j => (B (U ++ ((s.2.2.getD i dL).2.1.take j).flatMap fldT), (j : Int))) _ (B (U ++ (s.2.2.getD i dL).2.1.flatMap fldT)) (by have := hsl.1; omega) (by simp only [List.take_zero, List.flatMap_nil, List.append_nil]; rfl) ?_ ?_]
   ·have f2 := f1 (s.2.2.getD i dL).2.1.length
    rw [List.take_length] at f2
    try dsimp only
    rw [ref_text _ x2 (by have := hsl.2.1; omega), bind_some, c_pr, c_en]
    have ht : tailT (s.2.2.getD i dL).2.2 = [32, 112, 114, 111, 116, 111, 32, 40] ++ textA (s.2.2.getD i dL).2.2 ++ [41, 10] := rfl
    rw [ht] at t1 ⊢
    simp only [List.length_append, List.length_cons, List.length_nil] at t1
    rw [sfD, cond_true, scat_B, sfD, cond_true, scat_B, sfD, cond_true, scat_B, wrap_succ (by omega)]
   ·intro j hj
    have hf := getD_mem hj dF
    obtain ⟨y1, y2⟩ := x3 _ hf
    have y3 := hsl.2.2 _ hf
    have f2 := f1 j
    have fl := fldT_len y1 y2 y3
    rw [flat_step fldT _ hj dF, ← List.append_assoc]
    generalize hX : U ++ ((s.2.2.getD i dL).2.1.take j).flatMap fldT = X
    have bX : X.length ≤ 40 * 8589936000 + 40 * 343597443000 + 26 + 40 * 8589936000 := by rw [← hX, List.length_append]; omega
    try dsimp only
    rw [ilt_len hj, cond_true, inb_len hj]
    simp only [cond_true]
    rw [get_dF]
    have hft : fldT ((s.2.2.getD i dL).2.1.getD j dF) = [32] ++ nmB ((s.2.2.getD i dL).2.1.getD j dF).1 ++ (if ((s.2.2.getD i dL).2.1.getD j dF).2.1 = true then [33, 40] else [63, 40]) ++ textA ((s.2.2.getD i dL).2.1.getD j dF).2.2 ++ [41] := rfl
    rw [hft] at fl ⊢
    have hn := nm_len ((s.2.2.getD i dL).2.1.getD j dF).1
    have e1 := ref_text _ y1 (by omega)
    have lt := textA_len y1
    rw [nm_B ((s.2.2.getD i dL).2.1.getD j dF).1]
    rw [show nmB (B (nmB ((s.2.2.getD i dL).2.1.getD j dF).1)) = nmB ((s.2.2.getD i dL).2.1.getD j dF).1 from by rw [← nm_B]]
    generalize nmB ((s.2.2.getD i dL).2.1.getD j dF).1 = N at hn fl
    generalize ((s.2.2.getD i dL).2.1.getD j dF).2.2 = L at e1 lt y3 fl ⊢
    generalize ((s.2.2.getD i dL).2.1.getD j dF).2.1 = q at fl ⊢
    have hN : N.length ≤ 8589934592 := by omega
    cases q
    ·rw [cond_false, c_sp, c_quo, c_cl, if_neg (by simp)]
     rw [sfD, cond_true, scat_B, sfD, cond_true, scat_B, e1, bind_some,
      sfD, cond_true, scat_B, sfD, cond_true, scat_B, sfD, cond_true, scat_B, wrap_succ (by have := hsl.1; omega)]
    ·rw [cond_true, c_sp, c_exo, c_cl, if_pos rfl]
     rw [sfD, cond_true, scat_B, sfD, cond_true, scat_B, e1, bind_some,
      sfD, cond_true, scat_B, sfD, cond_true, scat_B, sfD, cond_true, scat_B, wrap_succ (by have := hsl.1; omega)]
   ·try dsimp only
    rw [ilt_end, List.take_length]; rfl
  ·try dsimp only
   rw [ilt_end, List.take_length]; rfl
 ·intro i hi
  have hm := getD_mem hi dB
  obtain ⟨x1, x2⟩ := h.1 _ hm
  have x3 := hs.2.2.1 _ hm
  have b1 := bv i
  have hn := nm_len (s.2.1.getD i dB).1
  have e1 := ref_text _ x1 (by omega)
  have lt := textA_len x1
  rw [flat_step lineV s.2.1 hi dB]
  generalize (s.2.1.take i).flatMap lineV = X at b1 ⊢
  try dsimp only
  rw [ilt_len hi, cond_true, inb_len hi]
  simp only [cond_true]
  rw [get_dB]
  have hft : lineV (s.2.1.getD i dB) = nmB (s.2.1.getD i dB).1 ++ [58, 32] ++ textA (s.2.1.getD i dB).2 ++ [10] := rfl
  rw [hft]
  rw [nm_B (s.2.1.getD i dB).1]
  rw [show nmB (B (nmB (s.2.1.getD i dB).1)) = nmB (s.2.1.getD i dB).1 from by rw [← nm_B]]
  generalize nmB (s.2.1.getD i dB).1 = N at hn
  generalize (s.2.1.getD i dB).2 = L at e1 lt x3 ⊢
  have hN : N.length ≤ 8589934592 := by omega
  rw [c_col, c_nl, sfD, cond_true, scat_B, e1, bind_some, sfD, cond_true, scat_B, sfD, cond_true, scat_B,
   sfD, cond_true, scat_B, wrap_succ (by omega)]
 ·try dsimp only
  rw [ilt_end, List.take_length]; rfl
end Go.PL
end
section
open Go Go.PG Go.PL
set_option linter.all false
namespace Go.PL
theorem tells8 (x : Sta × Sta × ByteArray × At) (h : TxtOk x.1) : law08_StateTells K x = some true := by
 obtain ⟨a, b, n, y⟩ := x
 unfold law08_StateTells
 try dsimp only at h ⊢
 rw [ref_small8 a, bind_some]
 refine g8 fun sa => ?_
 rw [ref_small8 b, bind_some]
 refine g8 fun sb => ?_
 have sa := of_decide_eq_true sa
 have sb := of_decide_eq_true sb
 have fa := small_fewT sa
 have fb := small_fewT sb
 have ba := small_bdT sa
 have bb := small_bdT sb
 have hv := var_few fa n
 have hl := loc_few fa y
 have fj := bd_fewT (join_bdT ba bb) (by omega)
 rw [st_loc a y fa, bind_some, ref_loc a y (by have := sa.2.1; omega), bind_some, fixed8, bind_some, cond_true, st_may a fa, bind_some, ref_may8 a fa, bind_some, beq_dec, decide_eq_true rfl, cond_true, st_var a n fa, bind_some, ref_var a n (by have := sa.1; omega), bind_some, ref_same _ _ (by omega), bind_some, decide_eq_true rfl, cond_true,
  ref_same7 _ _ hl, bind_some, decide_eq_true rfl, cond_true, beq_dec, decide_eq_true rfl, cond_true, at_text8 a sa h, bind_some, ref_text8 a sa h, bind_some, seq_dec, decide_eq_true rfl, cond_true, st_join a b ba bb (by omega), bind_some, ref_join8 a b ba bb (by omega), bind_some, ref_same8 _ _ fj, bind_some, decide_eq_true rfl, cond_true,
  st_within a b fa fb, bind_some, ref_within8 a b fa fb, bind_some, beq_dec, decide_eq_true rfl]
theorem inI_of8 {n : Int} (h : (Lit.int .i64 n).wf = true) : InI n := by
 have h0 : IntKind.i64.min = -9223372036854775808 := by decide
 have h1 : IntKind.i64.max = 9223372036854775807 := by decide
 simp only [Lit.wf, Bool.and_eq_true, decide_eq_true_eq, h0, h1] at h
 unfold InI
 omega
abbrev yA : Ty := .st (.pair (.int .i64) (.int .i64))
abbrev yV : Ty := .st (.pair .str (.slice yA))
abbrev yF : Ty := .st (.pair .str (.pair .bool (.slice yA)))
abbrev yL : Ty := .st (.pair yA (.st (.pair (.slice yF) (.slice yA))))
abbrev yS : Ty := .st (.pair .bool (.pair (.slice yV) (.slice yL)))
theorem inA_of8 {l : List At} (h : Wf (.slice yA) l) : InA l := fun a ha => inI_of8 (h.2 a ha).2
theorem txt_of {Bf : Ty → Nat} {s : Sta} (h : Wf yS s) (hb : WbN 8589934592 Bf yS s) : TxtOk s := by
 refine ⟨fun v hv => ⟨inA_of8 (h.2.1.2 v hv).2, (hb.2.1.2 v hv).1⟩, fun l hl => ⟨fun a ha => ?_, inA_of8 (h.2.2.2 l hl).2.2, fun f hf => ⟨inA_of8 ((h.2.2.2 l hl).2.1.2 f hf).2.2, ((hb.2.2.2 l hl).2.1.2 f hf).1⟩⟩⟩
 rw [List.mem_singleton] at ha
 subst ha
 exact inI_of8 (h.2.2.2 l hl).1.2
end Go.PL
end
section
namespace Go.PG
open Go Go.Proofs.YtijheoafbhjcbaaGreatDoor
variable {P : Program} {H : Type} {C : Nat}
def goodT (P : Program) (C : Nat) (t : TypeId) : Bool := Nat.ble (P.bytesOf t) C && (match P.underlying t with
 | some (.slice e) => Nat.blt e P.types.size
 | some (.pointer e) => Nat.blt e P.types.size
 | some (.struct fs) => fs.toList.all fun f => Nat.blt f.type P.types.size
 | some (.array _ e) => Nat.blt e P.types.size
 | some (.map k e) => Nat.blt k P.types.size && Nat.blt e P.types.size
 | _ => true)
def goodAll (P : Program) (C : Nat) : Bool := (List.range P.types.size).all fun t => goodT P C t
theorem good_at (h : goodAll P C = true) {t : TypeId} (ht : t < P.types.size) : P.bytesOf t ≤ C ∧ goodT P C t = true := by
 have := List.all_eq_true.1 h t (List.mem_range.2 ht)
 refine ⟨?_, this⟩
 unfold goodT at this
 rw [Bool.and_eq_true] at this
 exact Nat.le_of_ble_eq_true this.1
theorem up8 {x M a b : Nat} (h : x ≤ M * a) (hab : a ≤ b) : x ≤ M * b := Nat.le_trans h (Nat.mul_le_mul_left M hab)
theorem le8 {x M b : Nat} (hM : 1 ≤ M) (h : x ≤ b) : x ≤ M * b := Nat.le_trans h (Nat.le_mul_of_pos_left b hM)
theorem len8 : ∀ (l : List (DataW H)), l.length ≤ Rows.uptoBulkAll l
 | [] => Nat.zero_le _
 | d :: r => by
  have h1 := len8 r
  have h2 : 1 ≤ Rows.uptoBulk d := by
   cases d <;> first | (simp only [Rows.uptoBulk]; omega) | (rename_i l; cases l <;> simp only [Rows.uptoBulk] <;> omega)
  simp only [List.length_cons, Rows.uptoBulkAll]
  omega
theorem lenE8 : ∀ (l : List (Lit × DataW H)), l.length ≤ Rows.uptoBulkEntries l
 | [] => Nat.zero_le _
 | (k, d) :: r => by
  have h1 := lenE8 r
  have h2 : 1 ≤ Rows.uptoBulkEntry (k, d) := by
   cases k <;> simp only [Rows.uptoBulkEntry] <;> omega
  simp only [List.length_cons, Rows.uptoBulkEntries]
  omega
mutual
theorem wB8 (hG : goodAll P C = true) (hC : 1 ≤ C) : ∀ (d : DataW H) (t : TypeId), t < P.types.size → ∀ n, n ∈ d.weights P t → n ≤ 2 * C * Rows.uptoBulk d
 | .lit l, t, ht, n, h => by
  cases l with
  | string bytes =>
   simp only [DataW.weights, List.mem_singleton] at h
   subst h
   simp only [Rows.uptoBulk]
   exact le8 (by omega) (by omega)
  | _ => simp [DataW.weights] at h
 | .nil, t, ht, n, h => by simp [DataW.weights] at h
 | .ptr d, t, ht, n, h => by
  have g := (good_at hG ht).2
  unfold goodT at g
  simp only [DataW.weights] at h
  split at h
  ·rename_i e hu
   rw [hu, Bool.and_eq_true] at g
   have := wB8 hG hC d e (Nat.le_of_ble_eq_true g.2) n h
   simp only [Rows.uptoBulk]
   exact up8 this (by omega)
  ·cases h
 | .slice elems spare, t, ht, n, h => by
  have g := (good_at hG ht).2
  unfold goodT at g
  simp only [DataW.weights] at h
  split at h
  ·rename_i e hu
   rw [hu, Bool.and_eq_true] at g
   have he := Nat.le_of_ble_eq_true g.2
   simp only [Rows.uptoBulk]
   rcases List.mem_cons.1 h with q | q
   ·have h1 := len8 elems
    have h2 := len8 spare
    have h3 := (good_at hG he).1
    rw [q, Nat.mul_comm]
    exact Nat.le_trans (Nat.mul_le_mul (show P.bytesOf e ≤ 2 * C by omega) (show elems.length + spare.length ≤ Rows.uptoBulkAll elems + Rows.uptoBulkAll spare + 1 by omega)) (Nat.le_refl _)
   ·rcases List.mem_append.1 q with q | q
    ·exact up8 (wAll8 hG hC elems e he n q) (by omega)
    ·exact up8 (wAll8 hG hC spare e he n q) (by omega)
  ·cases h
 | .agg parts, t, ht, n, h => by
  have g := (good_at hG ht).2
  unfold goodT at g
  simp only [DataW.weights] at h
  simp only [Rows.uptoBulk]
  split at h
  ·rename_i fs hu
   rw [hu, Bool.and_eq_true] at g
   refine up8 (wEach8 hG hC parts (fs.toList.map (·.type)) (fun t ht => ?_) n h) (by omega)
   obtain ⟨f, hf, rfl⟩ := List.mem_map.1 ht
   exact Nat.le_of_ble_eq_true (List.all_eq_true.1 g.2 f hf)
  ·rename_i k e hu
   rw [hu, Bool.and_eq_true] at g
   exact up8 (wAll8 hG hC parts e (Nat.le_of_ble_eq_true g.2) n h) (by omega)
  ·cases h
 | .iface s d, t, ht, n, h => by simp [DataW.weights] at h
 | .map entries, t, ht, n, h => by
  have g := (good_at hG ht).2
  unfold goodT at g
  simp only [DataW.weights] at h
  simp only [Rows.uptoBulk]
  split at h
  ·rename_i k e hu
   rw [hu, Bool.and_eq_true, Bool.and_eq_true] at g
   have he := Nat.le_of_ble_eq_true g.2.2
   rcases List.mem_cons.1 h with q | q
   ·have h1 := lenE8 entries
    have h3 := (good_at hG he).1
    have h4 := (good_at hG (Nat.le_of_ble_eq_true g.2.1)).1
    rw [q, Nat.mul_comm]
    exact Nat.mul_le_mul (by omega) (by omega)
   ·exact up8 (wEnt8 hG hC entries e he n q) (by omega)
  ·cases h
 | .held x, t, ht, n, h => by simp [DataW.weights] at h
theorem wAll8 (hG : goodAll P C = true) (hC : 1 ≤ C) : ∀ (l : List (DataW H)) (e : TypeId), e < P.types.size → ∀ n, n ∈ DataW.weightsAll P e l → n ≤ 2 * C * Rows.uptoBulkAll l
 | [], e, he, n, h => by simp [DataW.weightsAll] at h
 | d :: r, e, he, n, h => by
  simp only [DataW.weightsAll] at h
  simp only [Rows.uptoBulkAll]
  rcases List.mem_append.1 h with q | q
  ·exact up8 (wB8 hG hC d e he n q) (by omega)
  ·exact up8 (wAll8 hG hC r e he n q) (by omega)
theorem wEach8 (hG : goodAll P C = true) (hC : 1 ≤ C) : ∀ (l : List (DataW H)) (ts : List TypeId), (∀ t, t ∈ ts → t < P.types.size) → ∀ n, n ∈ DataW.weightsEach P ts l → n ≤ 2 * C * Rows.uptoBulkAll l
 | [], ts, he, n, h => by cases ts <;> simp [DataW.weightsEach] at h
 | d :: r, [], he, n, h => by simp [DataW.weightsEach] at h
 | d :: r, t :: ts, he, n, h => by
  simp only [DataW.weightsEach] at h
  simp only [Rows.uptoBulkAll]
  rcases List.mem_append.1 h with q | q
  ·exact up8 (wB8 hG hC d t (he t (by simp)) n q) (by omega)
  ·exact up8 (wEach8 hG hC r ts (fun t ht => he t (List.mem_cons_of_mem _ ht)) n q) (by omega)
theorem wEnt8 (hG : goodAll P C = true) (hC : 1 ≤ C) : ∀ (l : List (Lit × DataW H)) (e : TypeId), e < P.types.size → ∀ n, n ∈ DataW.weightsEntries P e l → n ≤ 2 * C * Rows.uptoBulkEntries l
 | [], e, he, n, h => by simp [DataW.weightsEntries] at h
 | (k, d) :: r, e, he, n, h => by
  simp only [DataW.weightsEntries] at h
  simp only [Rows.uptoBulkEntries]
  rcases List.mem_append.1 h with q | q
  ·have key : n ≤ 2 * C * Rows.uptoBulkEntry (k, d) := by
    have ih := wB8 hG hC d e he
    cases k with
    | string bytes =>
     simp only [DataW.weightsEntry] at q
     simp only [Rows.uptoBulkEntry]
     rcases List.mem_cons.1 q with q | q
     ·rw [q]; exact le8 (by omega) (by omega)
     ·exact up8 (ih n q) (by omega)
    | _ =>
     simp only [DataW.weightsEntry] at q
     simp only [Rows.uptoBulkEntry]
     exact up8 (ih n q) (by omega)
   exact up8 key (by omega)
  ·exact up8 (wEnt8 hG hC r e he n q) (by omega)
end
end Go.PG
namespace Go.PG
open Go Go.Proofs.YtijheoafbhjcbaaGreatDoor
theorem app8 {H : Type} : ∀ (l m : List (DataW H)), Rows.uptoBulkAll l ≤ Rows.uptoBulkAll (l ++ m)
 | [], m => by simp [Rows.uptoBulkAll]
 | d :: r, m => by
  have := app8 r m
  simp only [List.cons_append, Rows.uptoBulkAll]
  omega
theorem inr8 {P : Program} {H : Type} {ts : List TypeId} {ds gs : List (DataW H)} (hG : goodAll P 4096 = true) (ht : ts.all (fun t => Nat.blt t P.types.size) = true) (hk : Rows.uptoSmall H (ds ++ gs) = true) : InrN 8589934592 (DataW.weightsEach P ts ds) := by
 intro n hn
 have h1 := wEach8 hG (by omega) ds ts (fun t h => Nat.le_of_ble_eq_true (List.all_eq_true.1 ht t h)) n hn
 have h2 : Rows.uptoBulkAll (ds ++ gs) ≤ 1048576 := of_decide_eq_true hk
 have h3 := app8 ds gs
 have h4 : 2 * 4096 * Rows.uptoBulkAll ds ≤ 2 * 4096 * 1048576 := Nat.mul_le_mul_left _ (by omega)
 omega
end Go.PG
end

/- The evaluator's soundness: a region in whatever order. -/
import Derived.Test.YtmklilemnfkppaaPGB
set_option linter.all false
namespace Go.PG
open Go.RowKit

variable {Pg : Program} {G : World → Prop} {E : Env} {S : Nat → Prop} {B : Nat} {w0 w w' w'' : World} {h h' h2 : Hp} {M M' M'' : Nat → Bk} {ρ : Type} {r : ρ} {st st' st'' st1 st2 st3 : St} {a a' a'' : Act} {o : Oper}

/-- What is still to be done. -/
structure Rem (ops : Array Oper) (listed : Array Bool) (rem : List (Nat × Oper)) : Prop where
  at_ : ∀ p, p ∈ rem → ops[p.1]? = some p.2
  sorted : rem.Pairwise (fun p q => p.1 < q.1)
  left : ∀ i, i < ops.size → (listed.getD i true = false ↔ ∃ o, (i, o) ∈ rem)
  closed : Closed ops.toList (fun i => listed.getD i false = true)
  size : listed.size = ops.size

theorem getD_lt {l : Array Bool} {i : Nat} (h : i < l.size) (d : Bool) : l.getD i d = l[i] := by simp [Array.getD_eq_getD_getElem?, h]

theorem Rem.listed {ops : Array Oper} {listed : Array Bool} {rem : List (Nat × Oper)} (R : Rem ops listed rem) {i : Nat} (hi : i < ops.size) : listed.getD i false = true ↔ ¬ ∃ o, (i, o) ∈ rem := by
  rw [← R.left i hi, getD_lt (by rw [R.size]; exact hi), getD_lt (by rw [R.size]; exact hi)]
  cases listed[i]'(by rw [R.size]; exact hi) <;> simp

theorem Rem.lt {ops : Array Oper} {listed : Array Bool} {rem : List (Nat × Oper)} (R : Rem ops listed rem) {p : Nat × Oper} (hp : p ∈ rem) : p.1 < ops.size := (Array.getElem?_eq_some_iff.1 (R.at_ p hp)).1

theorem Rem.next {ops : Array Oper} {listed : Array Bool} {pre post : List (Nat × Oper)} {j : Nat} {oj : Oper} (R : Rem ops listed (pre ++ (j, oj) :: post)) (hr : j ∈ Region.ready .any ops listed) : Rem ops (listed.setIfInBounds j true) (pre ++ post) := by
  have hj : j < ops.size := R.lt (p := (j, oj)) (by simp)
  have hjo : ops[j]? = some oj := R.at_ (j, oj) (by simp)
  have hne : ∀ p, p ∈ pre ++ post → p.1 ≠ j := by
    intro p hp q
    have hs := R.sorted
    rw [List.pairwise_append] at hs
    obtain ⟨h1, h2, h3⟩ := hs
    rw [List.pairwise_cons] at h2
    rcases List.mem_append.1 hp with hp | hp
    · have := h3 p hp (j, oj) (by simp); omega
    · have := h2.1 p hp
      simp only at this
      omega
  refine ⟨fun p hp => R.at_ p ?_, ?_, fun i hi => ?_, fun k ok hk hl e he hb => ?_, by rw [Array.size_setIfInBounds]; exact R.size⟩
  · rcases List.mem_append.1 hp with hp | hp
    · exact List.mem_append_left _ hp
    · exact List.mem_append_right _ (List.mem_cons_of_mem _ hp)
  · refine R.sorted.sublist ?_
    exact List.Sublist.append_left (List.sublist_cons_self _ _) _
  · by_cases hij : i = j
    · subst hij
      constructor
      · intro q
        rw [getD_lt (by rw [Array.size_setIfInBounds, R.size]; exact hi)] at q
        simp at q
      · rintro ⟨o, ho⟩
        exact absurd rfl (hne (i, o) ho)
    · rw [getD_set_ne true (Ne.symm hij), R.left i hi]
      constructor
      · rintro ⟨o, ho⟩
        refine ⟨o, ?_⟩
        rcases List.mem_append.1 ho with ho | ho
        · exact List.mem_append_left _ ho
        · rcases List.mem_cons.1 ho with q | ho
          · injection q with q; exact absurd q hij
          · exact List.mem_append_right _ ho
      · rintro ⟨o, ho⟩
        refine ⟨o, ?_⟩
        rcases List.mem_append.1 ho with ho | ho
        · exact List.mem_append_left _ ho
        · exact List.mem_append_right _ (List.mem_cons_of_mem _ ho)
  · by_cases hkj : k = j
    · subst hkj
      rw [mem_ready] at hr
      obtain ⟨_, o', ho', hall⟩ := hr
      rw [Array.getElem?_toList] at hk
      rw [hk] at ho'
      injection ho' with ho'
      subst ho'
      exact getD_set_true (hall e he hb)
    · have hl : (listed.setIfInBounds j true).getD k false = true := hl
      rw [getD_set_ne false (Ne.symm hkj)] at hl
      exact getD_set_true (R.closed k ok hk hl e he hb)

theorem anyOrder (HE : EnvOk Pg G E) (hG : G w0) {call : Handler} (HC : HandlerOk Pg G S B w0 call) {ops : Array Oper} (D : DrawOk E ops.toList) {n0 : Nat} {K : St → Option ρ} {Q : Exit → Act → World → Prop} : ∀ (fuel : Nat) (listed : Array Bool) (rem : List (Nat × Oper)) (st : St) (a : Act) (M : Nat → Bk) (w : World),
    Rem ops listed rem → rem.length ≤ fuel → Good S B w0 st a M w → evD E call n0 ops.toList rem st K = some r → Then S B w0 st a M w K r (Q .normal) → wpAny Pg .any ops Q fuel listed a w := by
  have fin : ∀ (listed : Array Bool) (rem : List (Nat × Oper)) (st : St) (a : Act) (M : Nat → Bk) (w : World), Rem ops listed rem → Good S B w0 st a M w → evD E call n0 ops.toList rem st K = some r → Then S B w0 st a M w K r (Q .normal) → Region.ready .any ops listed = [] → Q .normal a w := by
    intro listed rem st a M w R g hr hX he
    cases rem with
    | nil => exact hX st a M w g (Stp.refl g) hr
    | cons p rem =>
      exfalso
      have hp := R.at_ p (by simp)
      have hmem : p.1 ∈ Region.ready .any ops listed := by
        rw [mem_ready]
        refine ⟨(R.left p.1 (R.lt (by simp))).2 ⟨p.2, by simp⟩, p.2, hp, fun e hem hb => ?_⟩
        have hlt := D.edge p.1 p.2 (by rw [Array.getElem?_toList]; exact hp) e hem hb
        rw [R.listed (Nat.lt_trans hlt (R.lt (p := p) (by simp)))]
        rintro ⟨o, ho⟩
        rcases List.mem_cons.1 ho with q | q
        · have : e.on = p.1 := by rw [← q]
          omega
        · have := (List.pairwise_cons.1 R.sorted).1 _ q
          simp only at this
          omega
      rw [he] at hmem
      cases hmem
  intro fuel
  induction fuel with
  | zero =>
    intro listed rem st a M w R hl g hr hX
    have hnil : rem = [] := List.eq_nil_of_length_eq_zero (by omega)
    subst hnil
    have hready : Region.ready .any ops listed = [] := by
      cases q : Region.ready .any ops listed with
      | nil => rfl
      | cons j l =>
        have hj : j ∈ Region.ready .any ops listed := by rw [q]; simp
        rw [mem_ready] at hj
        obtain ⟨h1, o, h2, _⟩ := hj
        have := (R.left j (Array.getElem?_eq_some_iff.1 h2).1).1 h1
        simp at this
    exact ⟨hready, fin listed [] st a M w R g hr hX hready⟩
  | succ fuel ih =>
    intro listed rem st a M w R hl g hr hX
    refine ⟨fun he => fin listed rem st a M w R g hr hX he, fun j hj => ?_⟩
    have hj0 := hj
    rw [mem_ready] at hj
    obtain ⟨h1, oj, h2, h3⟩ := hj
    have hjlt := (Array.getElem?_eq_some_iff.1 h2).1
    obtain ⟨oj', hmem⟩ := (R.left j hjlt).1 h1
    have e : oj' = oj := by
      have := R.at_ (j, oj') hmem
      simp only at this
      rw [h2] at this
      injection this with this
      exact this.symm
    subst e
    obtain ⟨pre, post, rfl⟩ := List.append_of_mem hmem
    have hs := R.sorted
    rw [List.pairwise_append] at hs
    have hpre : ∀ p, p ∈ pre → p.1 ≠ j ∧ indep E ops.toList p.2 oj' = true := by
      intro p hp
      have hlt := hs.2.2 p hp (j, oj') (by simp)
      simp only at hlt
      refine ⟨by omega, ?_⟩
      rcases D.pair p.1 j p.2 oj' (by rw [Array.getElem?_toList]; exact R.at_ p (List.mem_append_left _ hp)) (by rw [Array.getElem?_toList]; exact h2) hlt with q | q
      · exfalso
        have := q (fun i => listed.getD i false = true ∨ i = j) (by
          intro k ok hk hL e he hb
          rcases hL with hL | rfl
          · exact .inl (R.closed k ok hk hL e he hb)
          · rw [Array.getElem?_toList, h2] at hk
            injection hk with hk
            subst hk
            exact .inl (h3 e he hb)) (.inr rfl)
        rcases this with z | z
        · rw [R.listed (by omega)] at z
          exact z ⟨p.2, List.mem_append_left _ hp⟩
        · omega
      · exact q
    have hfree : pre ≠ [] → free E oj' = true := by
      intro hne
      cases pre with
      | nil => exact absurd rfl hne
      | cons p pre =>
        have := (hpre p (by simp)).2
        unfold indep at this
        split at this
        · rename_i _ q; exact q
        · cases this
    have hnr : NoRsv (looks ops.toList oj') st := by
      intro t _ id p hp he
      have := g.F t
      rw [hp] at this
      simp only [RepV, Rep1] at this
      obtain ⟨_, q, _, z⟩ := this
      rcases z with z | ⟨b, v, L, of, u, _, z, _⟩
      · simp only [cx] at z; rw [he] at z; cases z
      · simp only [cx] at z; rw [he] at z; cases z
    have hstep := front pre st hfree hpre hnr hr
    refine evDstep_ok HE hG HC h2 g hstep ?_
    intro st' a' M' w' g' k' hk
    refine ih _ (pre ++ post) st' a' M' w' (R.next hj0) ?_ g' hk (hX.after k')
    simp at hl ⊢
    omega

theorem enum_mem {α : Type} : ∀ (l : List α) (i : Nat) (p : Nat × α), p ∈ enum i l → i ≤ p.1 ∧ l[p.1 - i]? = some p.2 := by
  intro l
  induction l with
  | nil => intro i p h; simp [enum] at h
  | cons x l ih =>
    intro i p h
    simp only [enum] at h
    rcases List.mem_cons.1 h with rfl | h
    · simp
    · obtain ⟨h1, h2⟩ := ih (i + 1) p h
      refine ⟨by omega, ?_⟩
      have : p.1 - i = (p.1 - (i + 1)) + 1 := by omega
      rw [this]
      exact h2
theorem mem_enum {α : Type} : ∀ (l : List α) (i j : Nat) (x : α), l[j]? = some x → (i + j, x) ∈ enum i l := by
  intro l
  induction l with
  | nil => intro i j x h; simp at h
  | cons y l ih =>
    intro i j x h
    simp only [enum]
    cases j with
    | zero => simp at h; subst h; simp
    | succ j =>
      have := ih (i + 1) j x (by simpa using h)
      have e : i + 1 + j = i + (j + 1) := by omega
      rw [e] at this
      exact List.mem_cons_of_mem _ this
theorem enum_sorted {α : Type} : ∀ (l : List α) (i : Nat), (enum i l).Pairwise (fun p q => p.1 < q.1) := by
  intro l
  induction l with
  | nil => intro i; exact List.Pairwise.nil
  | cons x l ih =>
    intro i
    simp only [enum]
    refine List.pairwise_cons.2 ⟨fun p hp => ?_, ih (i + 1)⟩
    have := (enum_mem l (i + 1) p hp).1
    simp only
    omega
theorem enum_length {α : Type} : ∀ (l : List α) (i : Nat), (enum i l).length = l.length := by
  intro l
  induction l with
  | nil => intro i; rfl
  | cons x l ih => intro i; simp [enum, ih]

theorem draw_ok (HE : EnvOk Pg G E) (hG : G w0) {call : Handler} (HC : HandlerOk Pg G S B w0 call) {ops : Array Oper} {Q : Exit → Act → World → Prop} {id : Nat} {K : St → Option ρ} (hd : drawOk E ops.toList = true)
    (g : Good S B w0 st a M w) (hr : evDraw E call ops.toList st K = some r) (hX : Then S B w0 st a M w K r (Q .normal)) : (Code.region id ops true).wp Pg Q a w := by
  apply wp_region_any HE.mixed
  have hb : Below B w { w with drawn := w.drawn + 1 } := ?_
  obtain ⟨H1, k1⟩ := g.H.world (w' := { w with drawn := w.drawn + 1 }) rfl hb
  obtain ⟨H2, k2⟩ := H1.reserve ops.toList.length
  unfold evDraw at hr
  have k := k1.trans k2
  have g2 : Good S B w0 { st with h := reserve st.h ops.toList.length } a (fun id => if st.h.next ≤ id then .nil else M id) { w with drawn := w.drawn + 1 } :=
    ⟨H2, fun t => RepV.tr k.tr _ _ (g.F t), g.n, g.d⟩
  have s2 : Stp S st a M w { st with h := reserve st.h ops.toList.length } a (fun id => if st.h.next ≤ id then .nil else M id) { w with drawn := w.drawn + 1 } := ⟨k, rfl, rfl, fun _ _ => rfl⟩
  refine anyOrder HE hG HC (drawOk_spec hd) ops.size _ (enum 0 ops.toList) _ a _ _ ⟨fun p hp => ?_, enum_sorted _ _, fun i hi => ?_, fun j o hj hl => ?_, by simp⟩ (by rw [enum_length]; simp) g2 hr (hX.after s2)
  · have := (enum_mem _ _ p hp).2
    simpa using this
  · constructor
    · intro _
      exact ⟨ops[i], by have := mem_enum ops.toList 0 i ops[i] (by simp [hi]); simpa using this⟩
    · intro _
      simp [Array.getD_eq_getD_getElem?, hi]
  · exfalso
    have hl : (Array.replicate ops.size false).getD j false = true := hl
    rw [Array.getD_eq_getD_getElem?, Array.getElem?_replicate] at hl
    split at hl <;> simp at hl
  · exact ⟨rfl, rfl, rfl, Nat.le_refl _, fun _ _ => rfl⟩
end Go.PG

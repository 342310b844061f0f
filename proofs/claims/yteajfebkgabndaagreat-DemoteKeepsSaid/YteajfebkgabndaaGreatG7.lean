/- What is written: laws. -/
import Derived.Test.YteajfebkgabndaaGreatG6
import Derived.Test.YteajfebkgabndaaGreatG3
set_option linter.all false
section
/- What is written: laws. -/
open Go Go.PG Go.PL
set_option linter.all false
namespace Go.PL
/-! ### weakly, strongly, as seen at each name -/
theorem wk_view {o : Sp} (h : MayO o) (n : ByteArray) (v : List At) (m : ByteArray) : pr (weak o n v).1 m = (decide (n = m) || pr o.1 m) ∧ su (weak o n v).1 m = su o.1 m ∧ va (weak o n v).1 m = if n = m then norm (va o.1 n ++ v) else va o.1 m := by
  obtain ⟨a1, a2, a3⟩ := put_view h.1 (n, su o.1 n, norm (va o.1 n ++ v)) m
  rw [weak_eq h]
  show pr (put o.1 (n, su o.1 n, norm (va o.1 n ++ v))) m = _ ∧ su (put o.1 (n, su o.1 n, norm (va o.1 n ++ v))) m = _ ∧ va (put o.1 (n, su o.1 n, norm (va o.1 n ++ v))) m = _
  rw [a1, a2, a3]
  by_cases q : n = m
  · subst q; simp
  · simp [q]
theorem st_view {o : Sp} (h : MayO o) (n : ByteArray) (v : List At) (m : ByteArray) : pr (strong o n v).1 m = (decide (n = m) || pr o.1 m) ∧ su (strong o n v).1 m = (decide (n = m) || su o.1 m) ∧ va (strong o n v).1 m = if n = m then norm v else va o.1 m := by
  obtain ⟨a1, a2, a3⟩ := put_view h.1 (n, true, norm v) m
  rw [strong_eq h]
  show pr (put o.1 (n, true, norm v)) m = _ ∧ su (put o.1 (n, true, norm v)) m = _ ∧ va (put o.1 (n, true, norm v)) m = _
  rw [a1, a2, a3]
  by_cases q : n = m
  · subst q; simp
  · simp [q]
theorem wk_snd {o : Sp} (h : MayO o) (n : ByteArray) (v : List At) : (weak o n v).2 = o.2 := by rw [weak_eq h]
theorem st_snd {o : Sp} (h : MayO o) (n : ByteArray) (v : List At) : (strong o n v).2 = o.2 := by rw [strong_eq h]
theorem norm_mono {l m : List At} (h : Within l m) : Within (norm l) (norm m) := fun z hz => mem_norm.2 ⟨h z (mem_norm.1 hz).1, (mem_norm.1 hz).2⟩
theorem within_app {a b c d : List At} (h1 : Within a b) (h2 : Within c d) : Within (a ++ c) (b ++ d) := fun z hz => by
  rcases List.mem_append.1 hz with h | h
  · exact List.mem_append_left _ (h1 z h)
  · exact List.mem_append_right _ (h2 z h)
theorem weak_mono {a b : Sp} (h : WithinO a b) (n : ByteArray) {v w : List At} (hv : Within v w) : WithinO (weak a n v) (weak b n w) := by
  obtain ⟨ha, hb, p, q⟩ := within_view.1 h
  refine within_view.2 ⟨weak_may ha n v, weak_may hb n w, by rw [wk_snd ha, wk_snd hb]; exact p, fun m => ?_⟩
  obtain ⟨a1, a2, a3⟩ := wk_view ha n v m
  obtain ⟨b1, b2, b3⟩ := wk_view hb n w m
  obtain ⟨q1, q2, q3⟩ := q m
  unfold WinV
  rw [a1, a2, a3, b1, b2, b3]
  refine ⟨fun z => ?_, ?_, q3⟩
  · rw [Bool.or_eq_true] at z ⊢
    exact z.imp id q1
  · by_cases e : n = m
    · rw [if_pos e, if_pos e]; exact norm_mono (within_app (q n).2.1 hv)
    · rw [if_neg e, if_neg e]; exact q2
theorem strong_mono {a b : Sp} (h : WithinO a b) (n : ByteArray) {v w : List At} (hv : Within v w) : WithinO (strong a n v) (strong b n w) := by
  obtain ⟨ha, hb, p, q⟩ := within_view.1 h
  refine within_view.2 ⟨strong_may ha n v, strong_may hb n w, by rw [st_snd ha, st_snd hb]; exact p, fun m => ?_⟩
  obtain ⟨a1, a2, a3⟩ := st_view ha n v m
  obtain ⟨b1, b2, b3⟩ := st_view hb n w m
  obtain ⟨q1, q2, q3⟩ := q m
  unfold WinV
  rw [a1, a2, a3, b1, b2, b3]
  refine ⟨fun z => ?_, ?_, fun z => ?_⟩
  · rw [Bool.or_eq_true] at z ⊢
    exact z.imp id q1
  · by_cases e : n = m
    · rw [if_pos e, if_pos e]; exact norm_mono hv
    · rw [if_neg e, if_neg e]; exact q2
  · rw [Bool.or_eq_true] at z ⊢
    exact z.imp id q3
theorem strong_weak_mono {a b : Sp} (h : WithinO a b) (n : ByteArray) {v w : List At} (hv : Within v w) : WithinO (strong a n v) (weak b n w) := by
  obtain ⟨ha, hb, p, q⟩ := within_view.1 h
  refine within_view.2 ⟨strong_may ha n v, weak_may hb n w, by rw [st_snd ha, wk_snd hb]; exact p, fun m => ?_⟩
  obtain ⟨a1, a2, a3⟩ := st_view ha n v m
  obtain ⟨b1, b2, b3⟩ := wk_view hb n w m
  obtain ⟨q1, q2, q3⟩ := q m
  unfold WinV
  rw [a1, a2, a3, b1, b2, b3]
  refine ⟨fun z => ?_, ?_, fun z => ?_⟩
  · rw [Bool.or_eq_true] at z ⊢
    exact z.imp id q1
  · by_cases e : n = m
    · rw [if_pos e, if_pos e]; exact norm_mono fun z hz => List.mem_append_right _ (hv z hz)
    · rw [if_neg e, if_neg e]; exact q2
  · rw [Bool.or_eq_true]; exact .inr (q3 z)
theorem norm_app_norm (a b : List At) : norm (norm a ++ b) = norm (a ++ b) := by
  refine canon_ext (norm_canon _) (norm_canon _) fun z => ?_
  rw [mem_norm, mem_norm, List.mem_append, List.mem_append, mem_norm]
  exact ⟨fun h => ⟨h.1.imp (fun x => x.1) id, h.2⟩, fun h => ⟨h.1.imp (fun x => ⟨x, h.2⟩) id, h.2⟩⟩
theorem norm_norm_app (a b : List At) : norm (a ++ norm b) = norm (a ++ b) := by
  refine canon_ext (norm_canon _) (norm_canon _) fun z => ?_
  rw [mem_norm, mem_norm, List.mem_append, List.mem_append, mem_norm]
  exact ⟨fun h => ⟨h.1.imp id (fun x => x.1), h.2⟩, fun h => ⟨h.1.imp id (fun x => ⟨x, h.2⟩), h.2⟩⟩
theorem weak_twice {o : Sp} (h : MayO o) (n : ByteArray) (v w : List At) : weak (weak o n v) n w = weak o n (norm (v ++ w)) := by
  have hw := weak_may h n v
  refine sp_ext (weak_may hw n w) (weak_may h n _) (by rw [wk_snd hw, wk_snd h, wk_snd h]) fun m => ?_
  obtain ⟨a1, a2, a3⟩ := wk_view h n v m
  obtain ⟨_, _, a4⟩ := wk_view h n v n
  obtain ⟨b1, b2, b3⟩ := wk_view hw n w m
  obtain ⟨c1, c2, c3⟩ := wk_view h n (norm (v ++ w)) m
  rw [b1, b2, b3, c1, c2, c3, a1, a2, a3, a4, if_pos rfl]
  refine ⟨by rw [← Bool.or_assoc, Bool.or_self], rfl, ?_⟩
  by_cases e : n = m
  · rw [if_pos e, if_pos e, norm_app_norm, norm_norm_app, List.append_assoc]
  · rw [if_neg e, if_neg e, if_neg e]
theorem weak_turn {o : Sp} (h : MayO o) (n m : ByteArray) (v : List At) : weak (weak o n v) m v = weak (weak o m v) n v := by
  have h1 := weak_may h n v
  have h2 := weak_may h m v
  refine sp_ext (weak_may h1 m v) (weak_may h2 n v) (by rw [wk_snd h1, wk_snd h2, wk_snd h, wk_snd h]) fun k => ?_
  obtain ⟨a1, a2, a3⟩ := wk_view h n v k
  obtain ⟨b1, b2, b3⟩ := wk_view h m v k
  obtain ⟨_, _, a4⟩ := wk_view h n v m
  obtain ⟨_, _, b4⟩ := wk_view h m v n
  obtain ⟨c1, c2, c3⟩ := wk_view h1 m v k
  obtain ⟨d1, d2, d3⟩ := wk_view h2 n v k
  rw [c1, c2, c3, d1, d2, d3, a1, a2, a3, b1, b2, b3, a4, b4]
  refine ⟨by rw [← Bool.or_assoc, ← Bool.or_assoc, Bool.or_comm (decide (m = k))], rfl, ?_⟩
  by_cases e1 : m = k
  · subst e1
    by_cases e2 : n = m
    · subst e2; simp
    · have : ¬ m = n := fun z => e2 z.symm
      simp [e2, this]
  · by_cases e2 : n = k
    · subst e2
      simp [e1]
    · simp [e1, e2]
theorem weak_again {o : Sp} (h : MayO o) (n : ByteArray) (v : List At) : weak (weak o n v) n v = weak o n v := by
  rw [weak_twice h]
  refine sp_ext (weak_may h n _) (weak_may h n _) (by rw [wk_snd h, wk_snd h]) fun m => ?_
  obtain ⟨a1, a2, a3⟩ := wk_view h n v m
  obtain ⟨c1, c2, c3⟩ := wk_view h n (norm (v ++ v)) m
  rw [c1, c2, c3, a1, a2, a3]
  refine ⟨rfl, rfl, ?_⟩
  by_cases e : n = m
  · rw [if_pos e, if_pos e, norm_norm_app]
    refine canon_ext (norm_canon _) (norm_canon _) fun z => ?_
    simp [mem_norm]
  · rw [if_neg e, if_neg e]
/-! ### states -/
theorem getL_map {l : List Lc} {c : Lc → Lc} (hc : ∀ x, (c x).1 = x.1) (x : At) : getL (l.map c) x = (getL l x).map c := by
  induction l with
  | nil => rfl
  | cons f l ih =>
    simp only [getL, List.map_cons, List.find?_cons, hc] at ih ⊢
    by_cases q : f.1 = x
    · simp only [q, decide_true, Option.map_some]
    · simp only [q, decide_false]
      exact ih
theorem getL_mem {l : List Lc} {x : At} {b : Lc} (h : getL l x = some b) : b ∈ l ∧ b.1 = x := ⟨List.mem_of_find?_eq_some h, of_decide_eq_true (by have := List.find?_some h; exact this)⟩
theorem risesL_inj {l : List Lc} (h : RisesL l) {f g : Lc} (hf : f ∈ l) (hg : g ∈ l) (e : f.1 = g.1) : f = g := by
  induction l with
  | nil => cases hf
  | cons a l ih =>
    obtain ⟨h1, h2⟩ := List.pairwise_cons.1 h
    rcases List.mem_cons.1 hf with rfl | hf'
    · rcases List.mem_cons.1 hg with rfl | hg'
      · rfl
      · exact absurd (h1 g hg') (by rw [e]; exact ltA_irrefl _)
    · rcases List.mem_cons.1 hg with rfl | hg'
      · exact absurd (h1 f hf') (by rw [e]; exact ltA_irrefl _)
      · exact ih h2 hf' hg'
theorem getL_none {l : List Lc} {x : At} (h : getL l x = none) {f : Lc} (hf : f ∈ l) : f.1 ≠ x := by
  unfold getL at h
  rw [List.find?_eq_none] at h
  intro e
  exact h f hf (decide_eq_true e)
theorem getL_of_mem {l : List Lc} (h : RisesL l) {f : Lc} (hf : f ∈ l) : getL l f.1 = some f := by
  cases q : getL l f.1 with
  | none => exact absurd rfl (getL_none q hf)
  | some g => rw [risesL_inj h (getL_mem q).1 hf (getL_mem q).2]
theorem locR_of_mem {l : List Lc} (h : RisesL l) {f : Lc} (hf : f ∈ l) : locR l f.1 = (f.2, true) := by unfold locR; rw [getL_of_mem h hf]
theorem locR_map {l : List Lc} {c : Lc → Lc} (hc : ∀ x, (c x).1 = x.1) {x : At} (h : (locR l x).2 = true) : locR (l.map c) x = ((c (x, (locR l x).1)).2, true) := by
  unfold locR at h ⊢
  rw [getL_map hc]
  cases q : getL l x with
  | none => rw [q] at h; cases h
  | some b =>
    have := (getL_mem q).2
    subst this
    rfl
theorem risesL_map {l : List Lc} {c : Lc → Lc} (hc : ∀ x, (c x).1 = x.1) (h : RisesL l) : RisesL (l.map c) := by
  refine List.pairwise_map.2 (h.imp fun {a b} q => ?_)
  rw [hc, hc]; exact q
/-- A state's objects changed, each one to one that may be. -/
theorem mapS_may {s : Sta} (h : MayS s) {c : Lc → Lc} (hc : ∀ x, (c x).1 = x.1) (hm : ∀ l : Lc, MayO l.2 → MayO (c l).2) : MayS (s.1, s.2.1, s.2.2.map c) := by
  obtain ⟨h1, ⟨h2, h3⟩, h4⟩ := h
  refine ⟨h1, ⟨risesL_map hc h2, fun l hl => ?_⟩, fun hd => ⟨(h4 hd).1, by show s.2.2.map c = []; rw [(h4 hd).2]; rfl⟩⟩
  obtain ⟨x, hx, rfl⟩ := List.mem_map.1 hl
  rw [hc]
  exact ⟨(h3 x hx).1, hm x (h3 x hx).2⟩
theorem mapS_within {s t : Sta} (h : WithinT s t) {c d : Lc → Lc} (hc : ∀ x, (c x).1 = x.1) (hd : ∀ x, (d x).1 = x.1) (mc : ∀ l : Lc, MayO l.2 → MayO (c l).2) (md : ∀ l : Lc, MayO l.2 → MayO (d l).2)
    (hw : ∀ (x : At) (o p : Sp), (x, o) ∈ s.2.2 → WithinO o p → WithinO (c (x, o)).2 (d (x, p)).2) : WithinT (s.1, s.2.1, s.2.2.map c) (t.1, t.2.1, t.2.2.map d) := by
  obtain ⟨h1, h2, h3⟩ := h
  refine ⟨mapS_may h1 hc mc, mapS_may h2 hd md, h3.imp id ?_⟩
  rintro ⟨e, a1, a2, a3⟩
  refine ⟨e, a1, a2, fun l hl => ?_⟩
  obtain ⟨x, hx, rfl⟩ := List.mem_map.1 hl
  obtain ⟨b1, b2⟩ := a3 x hx
  rw [hc]
  rw [locR_map hd b1]
  exact ⟨rfl, hw x.1 x.2 _ hx b2⟩
theorem wrL_fst (v : List At) (n : ByteArray) (w : List At) (x : Lc) : (wrL v n w x).1 = x.1 := by unfold wrL; split <;> rfl
theorem wr_may {o : Sp} (h : MayO o) (v : List At) (n : ByteArray) (w : List At) : MayO (wr v n w o) := by
  unfold wr
  split
  · exact strong_may h n w
  · exact weak_may h n w
theorem wrL_may (v : List At) (n : ByteArray) (w : List At) (l : Lc) (h : MayO l.2) : MayO (wrL v n w l).2 := by
  unfold wrL
  split
  · exact wr_may h v n w
  · exact h
theorem writeT_eq {s : Sta} (h : MayS s) (v : List At) (n : ByteArray) (w : List At) : writeT s v n w = (s.1, s.2.1, s.2.2.map (wrL v n w)) := by unfold writeT; rw [if_pos h]
theorem writeT_may {s : Sta} (h : MayS s) (v : List At) (n : ByteArray) (w : List At) : MayS (writeT s v n w) := by rw [writeT_eq h]; exact mapS_may h (wrL_fst v n w) (wrL_may v n w)
theorem havocT_eq {s : Sta} (h : MayS s) (ns : List ByteArray) : havocT s ns = (s.1, s.2.1, s.2.2.map fun l => (l.1, hav ns l.2)) := by unfold havocT; rw [if_pos h]
theorem hav_may (ns : List ByteArray) : ∀ {o : Sp}, MayO o → MayO (hav ns o) := by
  induction ns with
  | nil => intro o h; exact h
  | cons n ns ih => intro o h; exact ih (weak_may h n _)
theorem havocT_may {s : Sta} (h : MayS s) (ns : List ByteArray) : MayS (havocT s ns) := by rw [havocT_eq h]; exact mapS_may h (fun _ => rfl) (fun l hl => hav_may ns hl)
theorem writeT_bd {s : Sta} {k : Nat} (h : BdT k s) (v : List At) (n : ByteArray) {w : List At} {j : Nat} (hw : w.length ≤ j) : BdT (k + j + 1) (writeT s v n w) := by
  unfold writeT
  split
  · refine ⟨by have := h.1; show s.2.1.length ≤ _; omega, fun b hb => by have := h.2.1 b hb; omega, by have := h.2.2.1; show (s.2.2.map _).length ≤ _; rw [List.length_map]; omega, fun l hl => ?_⟩
    obtain ⟨x, hx, rfl⟩ := List.mem_map.1 hl
    have hb := h.2.2.2 x hx
    unfold wrL
    split
    · unfold wr
      split
      · exact strong_bd hb n hw
      · exact weak_bd hb n hw
    · exact ⟨by have := hb.1; omega, fun f hf => by have := hb.2.1 f hf; omega, by have := hb.2.2; omega⟩
  · exact ⟨by simp, by simp, by simp, by simp⟩
theorem havocT_bd {s : Sta} {k : Nat} (h : BdT k s) (ns : List ByteArray) : BdT (k + 2 * ns.length) (havocT s ns) := by
  unfold havocT
  split
  · refine ⟨by have := h.1; show s.2.1.length ≤ _; omega, fun b hb => by have := h.2.1 b hb; omega, by have := h.2.2.1; show (s.2.2.map _).length ≤ _; rw [List.length_map]; omega, fun l hl => ?_⟩
    obtain ⟨x, hx, rfl⟩ := List.mem_map.1 hl
    exact hav_bd ns (h.2.2.2 x hx)
  · exact ⟨by simp, by simp, by simp, by simp⟩
end Go.PL
end
section
/- States: variables by name; within is reflexive. -/
open Go Go.PG Go.PL
set_option linter.all false
namespace Go.PL
theorem getV_mem {l : List Bv} {n : ByteArray} {b : Bv} (h : getV l n = some b) : b ∈ l ∧ b.1 = n := ⟨List.mem_of_find?_eq_some h, of_decide_eq_true (by have := List.find?_some h; exact this)⟩
theorem getV_none {l : List Bv} {n : ByteArray} (h : getV l n = none) {f : Bv} (hf : f ∈ l) : f.1 ≠ n := by
  unfold getV at h
  rw [List.find?_eq_none] at h
  intro e
  exact h f hf (decide_eq_true e)
theorem risesB_inj {l : List Bv} (h : RisesB l) {f g : Bv} (hf : f ∈ l) (hg : g ∈ l) (e : f.1 = g.1) : f = g := by
  induction l with
  | nil => cases hf
  | cons a l ih =>
    obtain ⟨h1, h2⟩ := List.pairwise_cons.1 h
    rcases List.mem_cons.1 hf with rfl | hf'
    · rcases List.mem_cons.1 hg with rfl | hg'
      · rfl
      · exact absurd (h1 g hg') (by rw [e]; exact ltS_irrefl _)
    · rcases List.mem_cons.1 hg with rfl | hg'
      · exact absurd (h1 f hf') (by rw [e]; exact ltS_irrefl _)
      · exact ih h2 hf' hg'
theorem getV_of_mem {l : List Bv} (h : RisesB l) {f : Bv} (hf : f ∈ l) : getV l f.1 = some f := by
  cases q : getV l f.1 with
  | none => exact absurd rfl (getV_none q hf)
  | some g => rw [risesB_inj h (getV_mem q).1 hf (getV_mem q).2]
theorem var_of_mem {l : List Bv} (h : RisesB l) {f : Bv} (hf : f ∈ l) : var l f.1 = f.2 := by unfold var; rw [getV_of_mem h hf]
theorem withinT_refl {s : Sta} (h : MayS s) : WithinT s s := by
  refine ⟨h, h, ?_⟩
  cases hd : s.1
  · refine .inr ⟨rfl, fun v hv => ?_, fun v hv => ?_, fun l hl => ?_⟩
    · rw [var_of_mem h.1.1 hv]; exact fun _ z => z
    · rw [var_of_mem h.1.1 hv]; exact fun _ z => z
    · rw [locR_of_mem h.2.1.1 hl]; exact ⟨rfl, within_refl (h.2.1.2 l hl).2⟩
  · exact .inl rfl
end Go.PL
end
section
/- Lists that rise by a key: a thing put in at its place. -/
open Go Go.PG Go.PL
set_option linter.all false
namespace Go.PL
/-- An order of keys. -/
structure Ord {κ : Type} (lt : κ → κ → Prop) : Prop where
  irr : ∀ a, ¬ lt a a
  tr : ∀ {a b c}, lt a b → lt b c → lt a c
  tri : ∀ a b, lt a b ∨ a = b ∨ lt b a
theorem ordS : Ord ltS := ⟨ltS_irrefl, ltS_trans, ltS_tri⟩
theorem ordA : Ord ltA := ⟨ltA_irrefl, ltA_trans, ltA_tri⟩
section
variable {α κ : Type} {lt : κ → κ → Prop} [DecidableRel lt] {key : α → κ}
abbrev Up (lt : κ → κ → Prop) (key : α → κ) (l : List α) : Prop := l.Pairwise fun a b => lt (key a) (key b)
def insK (lt : κ → κ → Prop) [DecidableRel lt] (key : α → κ) (l : List α) (x : α) : List α := l.filter (fun a => decide (lt (key a) (key x))) ++ x :: l.filter (fun a => decide (lt (key x) (key a)))
theorem insK_mem (O : Ord lt) {l : List α} {x a : α} : a ∈ insK lt key l x ↔ a = x ∨ (a ∈ l ∧ key a ≠ key x) := by
  unfold insK
  simp only [List.mem_append, List.mem_cons, List.mem_filter, decide_eq_true_eq]
  constructor
  · rintro (⟨h1, h2⟩ | rfl | ⟨h1, h2⟩)
    · exact .inr ⟨h1, fun e => O.irr (key x) (by rw [e] at h2; exact h2)⟩
    · exact .inl rfl
    · exact .inr ⟨h1, fun e => O.irr (key x) (by rw [e] at h2; exact h2)⟩
  · rintro (rfl | ⟨h1, h2⟩)
    · exact .inr (.inl rfl)
    · rcases O.tri (key a) (key x) with h | h | h
      · exact .inl ⟨h1, h⟩
      · exact absurd h h2
      · exact .inr (.inr ⟨h1, h⟩)
theorem insK_up (O : Ord lt) {l : List α} (h : Up lt key l) (x : α) : Up lt key (insK lt key l x) := by
  unfold insK Up
  rw [List.pairwise_append, List.pairwise_cons]
  refine ⟨h.filter _, ⟨fun b hb => ?_, h.filter _⟩, fun a ha b hb => ?_⟩
  · exact of_decide_eq_true (List.mem_filter.1 hb).2
  · have h1 := of_decide_eq_true (List.mem_filter.1 ha).2
    rcases List.mem_cons.1 hb with rfl | hb
    · exact h1
    · exact O.tr h1 (of_decide_eq_true (List.mem_filter.1 hb).2)
theorem insK_length (l : List α) (x : α) : (insK lt key l x).length ≤ l.length + l.length + 1 := by
  unfold insK
  have h1 := List.length_filter_le (fun a => decide (lt (key a) (key x))) l
  have h2 := List.length_filter_le (fun a => decide (lt (key x) (key a))) l
  simp only [List.length_append, List.length_cons]
  omega
/-- Two that rise and have the same in them are one. -/
theorem up_ext (O : Ord lt) : ∀ {a b : List α}, Up lt key a → Up lt key b → (∀ x, x ∈ a ↔ x ∈ b) → a = b := by
  intro a
  induction a with
  | nil =>
    intro b _ _ h
    cases b with
    | nil => rfl
    | cons y b => exact absurd ((h y).2 (by simp)) (by simp)
  | cons x a ih =>
    intro b ha hb h
    cases b with
    | nil => exact absurd ((h x).1 (by simp)) (by simp)
    | cons y b =>
      obtain ⟨ha1, ha2⟩ := List.pairwise_cons.1 ha
      obtain ⟨hb1, hb2⟩ := List.pairwise_cons.1 hb
      have e : x = y := by
        rcases List.mem_cons.1 ((h x).1 (by simp)) with e | hx
        · exact e
        · rcases List.mem_cons.1 ((h y).2 (by simp)) with e | hy
          · exact e.symm
          · exact absurd (O.tr (ha1 y hy) (hb1 x hx)) (O.irr _)
      subst e
      congr 1
      refine ih ha2 hb2 fun z => ⟨fun hz => ?_, fun hz => ?_⟩
      · rcases List.mem_cons.1 ((h z).1 (by simp [hz])) with e | hz'
        · subst e; exact absurd (ha1 z hz) (O.irr _)
        · exact hz'
      · rcases List.mem_cons.1 ((h z).2 (by simp [hz])) with e | hz'
        · subst e; exact absurd (hb1 z hz) (O.irr _)
        · exact hz'
theorem up_key (O : Ord lt) {l : List α} (h : Up lt key l) {f g : α} (hf : f ∈ l) (hg : g ∈ l) (e : key f = key g) : f = g := by
  induction l with
  | nil => cases hf
  | cons a l ih =>
    obtain ⟨h1, h2⟩ := List.pairwise_cons.1 h
    rcases List.mem_cons.1 hf with rfl | hf'
    · rcases List.mem_cons.1 hg with rfl | hg'
      · rfl
      · exact absurd (h1 g hg') (by rw [e]; exact O.irr _)
    · rcases List.mem_cons.1 hg with rfl | hg'
      · exact absurd (h1 f hf') (by rw [e]; exact O.irr _)
      · exact ih h2 hf' hg'
/-- At the end. -/
theorem insK_end (O : Ord lt) {l : List α} {x : α} (h : ∀ a, a ∈ l → lt (key a) (key x)) : insK lt key l x = l ++ [x] := by
  unfold insK
  rw [List.filter_eq_self.2 fun a ha => decide_eq_true (h a ha), List.filter_eq_nil_iff.2 fun a ha q => O.irr _ (O.tr (h a ha) (of_decide_eq_true q))]
theorem split_at (O : Ord lt) {l : List α} (hu : Up lt key l) (d x : α) (m : Nat) (hm : m ≤ l.length) (h1 : ∀ i, i < m → lt (key (l.getD i d)) (key x)) (h2 : m < l.length → ¬ lt (key (l.getD m d)) (key x)) :
    l.take m = l.filter (fun a => decide (lt (key a) (key x))) ∧
    (m < l.length → key (l.getD m d) = key x → l.drop (m + 1) = l.filter (fun a => decide (lt (key x) (key a)))) ∧
    ((m < l.length → key (l.getD m d) ≠ key x) → l.drop m = l.filter (fun a => decide (lt (key x) (key a)))) := by
  have ht : ∀ a, a ∈ l.take m → lt (key a) (key x) := fun a ha => by
    obtain ⟨i, hi, rfl⟩ := List.getElem_of_mem ha
    rw [List.length_take] at hi
    have := h1 i (by omega)
    rw [List.getElem_take]
    simpa [List.getD_eq_getElem?_getD, show i < l.length by omega] using this
  have hp : ∀ a b, a ∈ l.take m → b ∈ l.drop m → lt (key a) (key b) := fun a b ha hb => by
    have : Up lt key (l.take m ++ l.drop m) := by rw [List.take_append_drop]; exact hu
    exact (List.pairwise_append.1 this).2.2 a ha b hb
  have hd : ∀ a, a ∈ l.drop m → ¬ lt (key a) (key x) := fun a ha => by
    have hlt : m < l.length := by
      apply Classical.byContradiction
      intro q
      rw [List.drop_eq_nil_of_le (by omega)] at ha
      cases ha
    rw [drop_getD' hlt d] at ha
    have hud : Up lt key (l.getD m d :: l.drop (m + 1)) := by rw [← drop_getD' hlt d]; exact hu.sublist (List.drop_sublist _ _)
    rcases List.mem_cons.1 ha with rfl | ha
    · exact h2 hlt
    · intro q
      exact h2 hlt (O.tr ((List.pairwise_cons.1 hud).1 a ha) q)
  have e : ∀ p : α → Bool, l.filter p = (l.take m).filter p ++ (l.drop m).filter p := fun p => by rw [← List.filter_append, List.take_append_drop]
  refine ⟨?_, fun hlt hk => ?_, fun hk => ?_⟩
  · rw [e, List.filter_eq_self.2 fun a ha => decide_eq_true (ht a ha), List.filter_eq_nil_iff.2 fun a ha q => hd a ha (of_decide_eq_true q), List.append_nil]
  · have hud : Up lt key (l.getD m d :: l.drop (m + 1)) := by rw [← drop_getD' hlt d]; exact hu.sublist (List.drop_sublist _ _)
    rw [e, List.filter_eq_nil_iff.2 fun a ha q => O.irr _ (O.tr (ht a ha) (of_decide_eq_true q)), List.nil_append, drop_getD' hlt d, List.filter_cons_of_neg (by
      rw [decide_eq_true_eq, hk]; exact O.irr _), List.filter_eq_self.2 fun a ha => decide_eq_true (by rw [← hk]; exact (List.pairwise_cons.1 hud).1 a ha)]
  · rw [e, List.filter_eq_nil_iff.2 fun a ha q => O.irr _ (O.tr (ht a ha) (of_decide_eq_true q)), List.nil_append]
    refine (List.filter_eq_self.2 fun a ha => decide_eq_true ?_).symm
    rcases O.tri (key x) (key a) with q | q | q
    · exact q
    · exfalso
      have hlt : m < l.length := by
        apply Classical.byContradiction
        intro z
        rw [List.drop_eq_nil_of_le (by omega)] at ha
        cases ha
      rw [drop_getD' hlt d] at ha
      have hud : Up lt key (l.getD m d :: l.drop (m + 1)) := by rw [← drop_getD' hlt d]; exact hu.sublist (List.drop_sublist _ _)
      rcases List.mem_cons.1 ha with rfl | ha
      · exact hk hlt q.symm
      · have := (List.pairwise_cons.1 hud).1 a ha
        rw [← q] at this
        exact h2 hlt this
    · exact absurd q (hd a ha)
/-- The first place that is not below. -/
def fstK (lt : κ → κ → Prop) [DecidableRel lt] (key : α → κ) (l : List α) (x : κ) : Nat := (l.takeWhile fun a => decide (lt (key a) x)).length
theorem fstK_le (l : List α) (x : κ) : fstK lt key l x ≤ l.length := (List.takeWhile_sublist _).length_le
theorem fstK_lt (d : α) : ∀ (l : List α) (x : κ) (i : Nat), i < fstK lt key l x → lt (key (l.getD i d)) x := by
  intro l
  induction l with
  | nil => intro x i hi; simp [fstK] at hi
  | cons a l ih =>
    intro x i hi
    unfold fstK at hi
    by_cases q : lt (key a) x
    · rw [List.takeWhile_cons, if_pos (decide_eq_true q)] at hi
      cases i with
      | zero => simpa using q
      | succ i => simpa using ih x i (by simpa [fstK] using hi)
    · rw [List.takeWhile_cons, if_neg (by simpa using q)] at hi
      simp at hi
theorem fstK_at (d : α) : ∀ (l : List α) (x : κ), fstK lt key l x < l.length → ¬ lt (key (l.getD (fstK lt key l x) d)) x := by
  intro l
  induction l with
  | nil => intro x hi; simp at hi
  | cons a l ih =>
    intro x hi
    by_cases q : lt (key a) x
    · have e : fstK lt key (a :: l) x = fstK lt key l x + 1 := by unfold fstK; rw [List.takeWhile_cons, if_pos (decide_eq_true q)]; rfl
      rw [e] at hi ⊢
      simpa using ih x (by simpa using hi)
    · have e : fstK lt key (a :: l) x = 0 := by unfold fstK; rw [List.takeWhile_cons, if_neg (by simpa using q)]; rfl
      rw [e]
      simpa using q
/-- By a flag: as the document does it. -/
def refK (lt : κ → κ → Prop) [DecidableRel lt] (key : α → κ) (t : List α) (x : α) : Bool × List α := if ∀ a, a ∈ t → lt (key a) (key x) then (false, t) else (true, insK lt key t x)
theorem refK_step (O : Ord lt) {t : List α} {y : α} (hu : Up lt key (t ++ [y])) (x : α) :
    (lt (key y) (key x) → (∀ a, a ∈ t → lt (key a) (key x)) ∧ refK lt key (t ++ [y]) x = (false, t ++ [y])) ∧
    (¬ lt (key y) (key x) → (∀ a, a ∈ t → lt (key a) (key x)) → (key y = key x → refK lt key (t ++ [y]) x = (true, t ++ [x])) ∧ (key y ≠ key x → refK lt key (t ++ [y]) x = (true, t ++ [x] ++ [y]))) ∧
    (¬ (∀ a, a ∈ t → lt (key a) (key x)) → key y ≠ key x ∧ refK lt key (t ++ [y]) x = (true, insK lt key t x ++ [y])) := by
  have hp := (List.pairwise_append.1 hu).2.2
  refine ⟨fun h => ?_, fun h h2 => ?_, fun h => ?_⟩
  · have ha : ∀ a, a ∈ t → lt (key a) (key x) := fun a ha => O.tr (hp a ha y (by simp)) h
    exact ⟨ha, by
      unfold refK
      rw [if_pos fun a q => ?_]
      rcases List.mem_append.1 q with q | q
      · exact ha a q
      · rw [List.mem_singleton] at q; subst q; exact h⟩
  · have e1 : refK lt key (t ++ [y]) x = (true, insK lt key (t ++ [y]) x) := by unfold refK; rw [if_neg fun q => h (q y (by simp))]
    have e2 : (t ++ [y]).filter (fun a => decide (lt (key a) (key x))) = t := by
      rw [List.filter_append, List.filter_eq_self.2 fun a ha => decide_eq_true (h2 a ha), List.filter_cons_of_neg (by simpa using h)]; simp
    have e3 : t.filter (fun a => decide (lt (key x) (key a))) = [] := List.filter_eq_nil_iff.2 fun a ha q => O.irr _ (O.tr (h2 a ha) (of_decide_eq_true q))
    refine ⟨fun q => ?_, fun q => ?_⟩
    · rw [e1, insK, e2, List.filter_append, e3, List.filter_cons_of_neg (by rw [decide_eq_true_eq, q]; exact O.irr _)]; simp
    · rw [e1, insK, e2, List.filter_append, e3, List.filter_cons_of_pos (by
        rw [decide_eq_true_eq]
        rcases O.tri (key x) (key y) with z | z | z
        · exact z
        · exact absurd z.symm q
        · exact absurd z h)]
      simp
  · have hy : lt (key x) (key y) := by
      apply Classical.byContradiction
      intro q
      refine h fun a ha => ?_
      have := hp a ha y (by simp)
      rcases O.tri (key x) (key y) with z | z | z
      · exact absurd z q
      · rw [z]; exact this
      · exact O.tr this z
    refine ⟨fun e => O.irr (key x) (by rw [e] at hy; exact hy), ?_⟩
    unfold refK
    rw [if_neg fun q => h fun a ha => q a (by simp [ha])]
    congr 1
    unfold insK
    rw [List.filter_append, List.filter_append, List.filter_cons_of_neg (by rw [decide_eq_true_eq]; exact fun z => O.irr _ (O.tr hy z)), List.filter_cons_of_pos (by rw [decide_eq_true_eq]; exact hy)]
    simp
theorem refK_end (O : Ord lt) {l : List α} (x : α) : (if (refK lt key l x).1 then (refK lt key l x).2 else (refK lt key l x).2 ++ [x]) = insK lt key l x := by
  unfold refK
  by_cases h : ∀ a, a ∈ l → lt (key a) (key x)
  · rw [if_pos h]; simp [insK_end O h]
  · rw [if_neg h]; simp
theorem insK_comm (O : Ord lt) {l : List α} (h : Up lt key l) {x y : α} (hk : key x ≠ key y) : insK lt key (insK lt key l x) y = insK lt key (insK lt key l y) x := by
  refine up_ext O (insK_up O (insK_up O h x) y) (insK_up O (insK_up O h y) x) fun a => ?_
  simp only [insK_mem O]
  constructor
  · rintro (rfl | ⟨rfl | ⟨h1, h2⟩, h3⟩)
    · exact .inr ⟨.inl rfl, Ne.symm hk⟩
    · exact .inl rfl
    · exact .inr ⟨.inr ⟨h1, h3⟩, h2⟩
  · rintro (rfl | ⟨rfl | ⟨h1, h2⟩, h3⟩)
    · exact .inr ⟨.inl rfl, hk⟩
    · exact .inl rfl
    · exact .inr ⟨.inr ⟨h1, h3⟩, h2⟩
theorem insK_twice (O : Ord lt) {l : List α} (h : Up lt key l) {x y : α} (hk : key x = key y) : insK lt key (insK lt key l x) y = insK lt key l y := by
  refine up_ext O (insK_up O (insK_up O h x) y) (insK_up O h y) fun a => ?_
  simp only [insK_mem O]
  constructor
  · rintro (rfl | ⟨rfl | ⟨h1, h2⟩, h3⟩)
    · exact .inl rfl
    · exact absurd hk h3
    · exact .inr ⟨h1, h3⟩
  · rintro (rfl | ⟨h1, h2⟩)
    · exact .inl rfl
    · exact .inr ⟨.inr ⟨h1, by rw [hk]; exact h2⟩, h2⟩
end
instance : DecidableRel ltA := fun a b => by unfold ltA; exact inferInstance
/-- A count that ends at a place. -/
theorem loop_first {ρ σ : Type} (m : Nat) (r : Unit ⊕ ρ) {f : Int → Option (Int ⊕ (Unit ⊕ ρ))} {A : Unit → Option σ} {B : ρ → Option σ} (hm : m ≤ 1000000000)
    (hs : ∀ i : Nat, i < m → f (i : Int) = some (.inl ((i + 1 : Nat) : Int))) (he : f (m : Int) = some (.inr r)) : P.bind (P.iter K f 0) (P.either A B) = P.either A B r := by
  have := iter_run (f := f) (fun i => (i : Int)) r m 0 K (by unfold K; omega) (fun j hj => by simp only [Nat.zero_add]; exact hs j hj) (by simpa using he)
  rw [show ((0 : Nat) : Int) = 0 from rfl] at this
  rw [this, bind_some]
end Go.PL
end
section
/- States: a variable set, an object put. -/
open Go Go.PG Go.PL
set_option linter.all false
namespace Go.PL
abbrev insB (l : List Bv) (x : Bv) : List Bv := insK ltS (fun b : Bv => b.1) l x
abbrev insL (l : List Lc) (x : Lc) : List Lc := insK ltA (fun b : Lc => b.1) l x
abbrev kB (l : List Bv) (n : ByteArray) : Nat := fstK ltS (fun b : Bv => b.1) l n
abbrev kL (l : List Lc) (x : At) : Nat := fstK ltA (fun b : Lc => b.1) l x
def setT (s : Sta) (n : ByteArray) (v : List At) : Sta := if MayS s then (if s.1 = true then (true, [], []) else (s.1, insB s.2.1 (n, norm v), s.2.2)) else (false, [], [])
def putT (s : Sta) (x : At) (o : Sp) : Sta := if MayS s then (if PlaceA x then (if MayO o then (if s.1 = true then (true, [], []) else (s.1, s.2.1, insL s.2.2 (x, o))) else (false, [], [])) else (false, [], [])) else (false, [], [])
theorem cond_of {α : Type} {b : Bool} (h : b = true) (x y : α) : P.cond b x y = x := by rw [h]; rfl
theorem cond_of' {α : Type} {b : Bool} (h : ¬ b = true) (x y : α) : P.cond b x y = y := by
  cases b with
  | false => rfl
  | true => exact absurd rfl h
theorem delAt_one {α : Type} (l : List α) (m : Nat) : P.delAt l (m : Int) ((m + 1 : Nat) : Int) = l.take m ++ l.drop (m + 1) := rfl
theorem delAt_len {α : Type} {l : List α} {m : Nat} (h : m < l.length) : (P.delAt l (m : Int) ((m + 1 : Nat) : Int)).length = l.length - 1 := by
  rw [delAt_one]; simp; omega
theorem del_ins {α : Type} {l : List α} {m : Nat} (h : m < l.length) (x : α) : P.insAt (P.delAt l (m : Int) ((m + 1 : Nat) : Int)) (m : Int) [x] = l.take m ++ x :: l.drop (m + 1) := by
  rw [delAt_one]
  have hl : (l.take m).length = m := by rw [List.length_take]; omega
  unfold P.insAt
  rw [Int.toNat_natCast, List.take_left' hl, List.drop_left' hl]
  simp
theorem ins_at {α : Type} (l : List α) (m : Nat) (x : α) : P.insAt l (m : Int) [x] = l.take m ++ x :: l.drop m := by
  unfold P.insAt
  rw [Int.toNat_natCast]
  simp
theorem map_some' {α β : Type} (f : α → β) (x : α) : P.map f (some x) = some (f x) := rfl
theorem lt_one {α : Type} (x : α) : P.ilt (0 : Int) (P.len [x]) = true := rfl
theorem st_set (s : Sta) (n : ByteArray) (v : List At) (h : FewT s) (hv : v.length ≤ 1000000) : state_Set K (s, n, v) = some (setT s n v) := by
  unfold state_Set setT
  try dsimp only
  rw [st_may s h, bind_some, cond_ndec]
  by_cases m : MayS s
  · rw [if_pos m, if_pos m]
    by_cases hd : s.1 = true
    · rw [if_pos hd, cond_of hd]
    · rw [if_neg hd, cond_of' hd, copy_vars s h ?_ ?_]
      · rw [copy_locs s h ?_ ?_]
        · try dsimp only
          have h1 := h.1
          have hkl := fstK_le (lt := ltS) (key := fun b : Bv => b.1) s.2.1 n
          have hlo := fstK_lt (lt := ltS) (key := fun b : Bv => b.1) dB s.2.1 n
          have hat := fstK_at (lt := ltS) (key := fun b : Bv => b.1) dB s.2.1 n
          generalize fstK ltS (fun b : Bv => b.1) s.2.1 n = j at hkl hlo hat
          obtain ⟨q1, q2, q3⟩ := split_at ordS (key := fun b : Bv => b.1) m.1.1 dB (n, norm v) j hkl hlo hat
          have hstep : ∀ i : Nat, i < j → i < s.2.1.length := fun i hi => by omega
          by_cases hl : j < s.2.1.length
          · rw [loop_first j (.inr (s.1, insB s.2.1 (n, norm v), s.2.2)) (by omega) ?_ ?_]
            · rw [either_inr]
            · intro i hi
              have hi2 := hstep i hi
              try dsimp only
              rw [ilt_len hi2, cond_true, inb_len hi2, cond_true, get_dB, slt_dec, cond_ndec, if_pos (hlo i hi), wrap_succ (by omega)]
            · try dsimp only
              rw [ilt_len hl, cond_true, inb_len hl, cond_true, get_dB, slt_dec, cond_ndec, if_neg (hat hl), show P.ile (0 : Int) (j : Int) = true from ile_iff.2 (by omega), cond_true, cond_true, cond_true, seq_dec, cond_dec, at_norm' v (by omega), bind_some, bind_some, lt_one, cond_true, cond_true, wrap_succ (by omega)]
              by_cases e : (s.2.1.getD j dB).1 = n
              · rw [if_pos e, show P.cut (j : Int) ((j + 1 : Nat) : Int) (P.len s.2.1) = true from cut_iff.2 (by rw [len_eq]; omega), cond_true, show P.cut (0 : Int) (j : Int) (P.len (P.delAt s.2.1 (j : Int) ((j + 1 : Nat) : Int))) = true from cut_iff.2 (by rw [len_eq, delAt_len hl]; omega), cond_true,
                  room_one _ _ 40 (by rw [delAt_len hl]; omega) (by omega), cond_true, map_some', del_ins hl, q1, q2 hl e]
                rfl
              · rw [if_neg e, show P.cut (0 : Int) (j : Int) (P.len s.2.1) = true from cut_iff.2 (by rw [len_eq]; omega), cond_true, room_one _ _ 40 (by omega) (by omega), cond_true, map_some', ins_at, q1, q3 (fun _ => e)]
                rfl
          · have hj : j = s.2.1.length := by omega
            subst hj
            rw [loop_first s.2.1.length (.inl ()) (by omega) ?_ ?_]
            · rw [either_inl, show P.ile (0 : Int) (-1 : Int) = false from rfl, cond_false, show P.ilt (P.len s.2.1) (P.len s.2.1) = false from by rw [Bool.eq_false_iff, Ne, ilt_iff]; omega, cond_false, at_norm' v (by omega), bind_some, lt_one, cond_true, show P.cut (0 : Int) (P.len s.2.1) (P.len s.2.1) = true from cut_iff.2 (by rw [len_eq]; omega), cond_true,
                room_one _ _ 40 (by omega) (by omega), cond_true, len_eq, ins_at, q1, q3 (fun z => absurd z (by omega))]
              rfl
            · intro i hi
              have hi2 := hstep i hi
              try dsimp only
              rw [ilt_len hi2, cond_true, inb_len hi2, cond_true, get_dB, slt_dec, cond_ndec, if_pos (hlo i hi), wrap_succ (by omega)]
            · try dsimp only
              rw [ilt_end, cond_false]
        · intro i hi
          try dsimp only
          rw [ilt_len hi, cond_true, inb_len hi, cond_true]
        · try dsimp only
          rw [ilt_end]; rfl
      · intro i hi
        try dsimp only
        rw [ilt_len hi, cond_true, inb_len hi, cond_true]
      · try dsimp only
        rw [ilt_end]; rfl
  · rw [if_neg m, if_neg m]
theorem st_put (s : Sta) (x : At) (o : Sp) (h : FewT s) (ho : FewS o) : state_Put K (s, x, o) = some (putT s x o) := by
  unfold state_Put putT
  try dsimp only
  rw [st_may s h, bind_some, cond_ndec]
  by_cases m : MayS s
  · rw [if_pos m, if_pos m, st_place, bind_some, cond_ndec]
    by_cases mp : PlaceA x
    · rw [if_pos mp, if_pos mp, ob_may o ho, bind_some, cond_ndec]
      by_cases mo : MayO o
      · rw [if_pos mo, if_pos mo]
        by_cases hd : s.1 = true
        · rw [if_pos hd, cond_of hd]
        · rw [if_neg hd, cond_of' hd, copy_vars s h ?_ ?_]
          · rw [copy_locs s h ?_ ?_]
            · try dsimp only
              have h1 := h.2.2.1
              have hkl := fstK_le (lt := ltA) (key := fun b : Lc => b.1) s.2.2 x
              have hlo := fstK_lt (lt := ltA) (key := fun b : Lc => b.1) dL s.2.2 x
              have hat := fstK_at (lt := ltA) (key := fun b : Lc => b.1) dL s.2.2 x
              generalize fstK ltA (fun b : Lc => b.1) s.2.2 x = j at hkl hlo hat
              obtain ⟨q1, q2, q3⟩ := split_at ordA (key := fun b : Lc => b.1) m.2.1.1 dL (x, o) j hkl hlo hat
              have hstep : ∀ i : Nat, i < j → i < s.2.2.length := fun i hi => by omega
              by_cases hl : j < s.2.2.length
              · rw [loop_first j (.inr (s.1, s.2.1, insL s.2.2 (x, o))) (by omega) ?_ ?_]
                · rw [either_inr]
                · intro i hi
                  have hi2 := hstep i hi
                  obtain ⟨r, hr, hlt⟩ := at_compare (s.2.2.getD i dL).1 x
                  try dsimp only
                  rw [ilt_len hi2, cond_true, inb_len hi2, cond_true, get_dL, hr, bind_some, show P.ile (0 : Int) r = false from by rw [Bool.eq_false_iff, Ne, ile_iff]; exact fun z => hlt.1 z (hlo i hi), cond_false, wrap_succ (by omega)]
                · obtain ⟨r, hr, hlt⟩ := at_compare (s.2.2.getD j dL).1 x
                  try dsimp only
                  rw [ilt_len hl, cond_true, inb_len hl, cond_true, get_dL, hr, bind_some, show P.ile (0 : Int) r = true from ile_iff.2 (hlt.2 (hat hl)), cond_true, show P.ile (0 : Int) (j : Int) = true from ile_iff.2 (by omega), cond_true, cond_true, cond_true, eqA_dec, cond_dec, ob_copy o ho, bind_some, bind_some, lt_one, cond_true, cond_true, wrap_succ (by omega)]
                  by_cases e : (s.2.2.getD j dL).1 = x
                  · rw [if_pos e, show P.cut (j : Int) ((j + 1 : Nat) : Int) (P.len s.2.2) = true from cut_iff.2 (by rw [len_eq]; omega), cond_true, show P.cut (0 : Int) (j : Int) (P.len (P.delAt s.2.2 (j : Int) ((j + 1 : Nat) : Int))) = true from cut_iff.2 (by rw [len_eq, delAt_len hl]; omega), cond_true,
                      room_one _ _ 64 (by rw [delAt_len hl]; omega) (by omega), cond_true, map_some', del_ins hl, q1, q2 hl e]
                    rfl
                  · rw [if_neg e, show P.cut (0 : Int) (j : Int) (P.len s.2.2) = true from cut_iff.2 (by rw [len_eq]; omega), cond_true, room_one _ _ 64 (by omega) (by omega), cond_true, map_some', ins_at, q1, q3 (fun _ => e)]
                    rfl
              · have hj : j = s.2.2.length := by omega
                subst hj
                rw [loop_first s.2.2.length (.inl ()) (by omega) ?_ ?_]
                · rw [either_inl, show P.ile (0 : Int) (-1 : Int) = false from rfl, cond_false, show P.ilt (P.len s.2.2) (P.len s.2.2) = false from by rw [Bool.eq_false_iff, Ne, ilt_iff]; omega, cond_false, ob_copy o ho, bind_some, lt_one, cond_true, show P.cut (0 : Int) (P.len s.2.2) (P.len s.2.2) = true from cut_iff.2 (by rw [len_eq]; omega), cond_true,
                    room_one _ _ 64 (by omega) (by omega), cond_true, len_eq, ins_at, q1, q3 (fun z => absurd z (by omega))]
                  rfl
                · intro i hi
                  have hi2 := hstep i hi
                  obtain ⟨r, hr, hlt⟩ := at_compare (s.2.2.getD i dL).1 x
                  try dsimp only
                  rw [ilt_len hi2, cond_true, inb_len hi2, cond_true, get_dL, hr, bind_some, show P.ile (0 : Int) r = false from by rw [Bool.eq_false_iff, Ne, ile_iff]; exact fun z => hlt.1 z (hlo i hi), cond_false, wrap_succ (by omega)]
                · try dsimp only
                  rw [ilt_end, cond_false]
            · intro i hi
              try dsimp only
              rw [ilt_len hi, cond_true, inb_len hi, cond_true]
            · try dsimp only
              rw [ilt_end]; rfl
          · intro i hi
            try dsimp only
            rw [ilt_len hi, cond_true, inb_len hi, cond_true]
          · try dsimp only
            rw [ilt_end]; rfl
      · rw [if_neg mo, if_neg mo]
    · rw [if_neg mp, if_neg mp]
  · rw [if_neg m, if_neg m]
end Go.PL
end
section
/- States: as the document sets and puts; what is there. -/
open Go Go.PG Go.PL
set_option linter.all false
namespace Go.PL
theorem loop_gen {τ ε ρ σ : Type} (n : Nat) (s : Nat → τ) (s0 : τ) (e : ε) {f : τ → Option (τ ⊕ (ε ⊕ ρ))} {A : ε → Option σ} {B : ρ → Option σ} (hn : n ≤ 1000000000) (h0 : s 0 = s0)
    (hs : ∀ i : Nat, i < n → f (s i) = some (.inl (s (i + 1)))) (he : f (s n) = some (.inr (.inl e))) :
    P.bind (P.iter K f s0) (P.either A B) = A e := by
  have := iter_run (f := f) s (.inl e) n 0 K (by unfold K; omega) (fun j hj => by simp only [Nat.zero_add]; exact hs j hj) (by simpa using he)
  rw [h0] at this
  rw [this, bind_some, either_inl]
theorem sle_not (a b : ByteArray) : P.sle a b = decide (¬ ltS b a) := by
  rw [Bool.eq_iff_iff, sle_iff, decide_eq_true_eq]
  constructor
  · rintro (h | rfl)
    · exact ltS_asymm h
    · exact ltS_irrefl _
  · intro h
    rcases ltS_tri a b with q | q | q
    · exact .inl q
    · exact .inr q
    · exact absurd q h
theorem refK_nil {α κ : Type} {lt : κ → κ → Prop} [DecidableRel lt] {key : α → κ} (x : α) : refK lt key [] x = (false, []) := by
  unfold refK; rw [if_pos (by simp)]
theorem refK_len {α κ : Type} {lt : κ → κ → Prop} [DecidableRel lt] {key : α → κ} (t : List α) (x : α) : (refK lt key t x).2.length ≤ t.length + t.length + 1 := by
  unfold refK
  split
  · show t.length ≤ _; omega
  · exact insK_length t x
theorem app_eq {α : Type} (a b : List α) : P.app a b = a ++ b := rfl
theorem up_take {α κ : Type} {lt : κ → κ → Prop} {key : α → κ} {l : List α} (h : Up lt key l) {i : Nat} (hi : i < l.length) (d : α) : Up lt key (l.take i ++ [l.getD i d]) := by
  rw [← take_getD' hi d]; exact h.sublist (List.take_sublist _ _)
theorem ref_set (s : Sta) (n : ByteArray) (v : List At) (h : FewT s) (hv : v.length ≤ 1000000) : ref08_Set K (s, n, v) = some (setT s n v) := by
  unfold ref08_Set setT
  try dsimp only
  rw [ref_may8 s h, bind_some, cond_ndec]
  by_cases m : MayS s
  · rw [if_pos m, if_pos m]
    by_cases hd : s.1 = true
    · rw [if_pos hd, cond_of hd]
      obtain ⟨e1, e2⟩ := m.2.2 hd
      congr 1
      exact Prod.ext hd (Prod.ext e1 e2)
    · rw [if_neg hd, cond_of' hd, ref_norm v (by omega), bind_some]
      have h1 := h.1
      have hu : Up ltS (fun b : Bv => b.1) s.2.1 := m.1.1
      have hs1 : s.1 = false := by simpa using hd
      rw [loop_gen s.2.1.length (fun i => ((refK ltS (fun b : Bv => b.1) (s.2.1.take i) (n, norm v)).1, (i : Int), false, (refK ltS (fun b : Bv => b.1) (s.2.1.take i) (n, norm v)).2, s.2.2)) _ ((refK ltS (fun b : Bv => b.1) s.2.1 (n, norm v)).1, false, (refK ltS (fun b : Bv => b.1) s.2.1 (n, norm v)).2, s.2.2) (by omega) ?_ ?_ ?_]
      · have hE := refK_end (lt := ltS) (key := fun b : Bv => b.1) ordS (l := s.2.1) (n, norm v)
        have hL := refK_len (lt := ltS) (key := fun b : Bv => b.1) s.2.1 (n, norm v)
        try dsimp only
        rw [show insB s.2.1 (n, norm v) = _ from hE.symm, hs1]
        generalize refK ltS (fun b : Bv => b.1) s.2.1 (n, norm v) = R at hL
        obtain ⟨b, t⟩ := R
        cases b
        · rw [not_false', cond_true, room_one _ _ 40 (by simp only at hL ⊢; omega) (by omega), cond_true]; rfl
        · rw [not_true, cond_false]; rfl
      · show ((refK ltS (fun b : Bv => b.1) [] (n, norm v)).1, _, _, (refK ltS (fun b : Bv => b.1) [] (n, norm v)).2, _) = _
        rw [refK_nil]; rfl
      · intro i hi
        have hui := up_take hu hi dB
        have e1 := take_getD' hi dB
        obtain ⟨t1, t2, t3⟩ := refK_step ordS hui (n, norm v)
        have htl : (s.2.1.take i).length ≤ 100000 := by rw [List.length_take]; omega
        have hL := refK_len (lt := ltS) (key := fun b : Bv => b.1) (s.2.1.take i) (n, norm v)
        try dsimp only
        rw [ilt_len hi, cond_true, inb_len hi, e1, wrap_succ (by omega)]
        simp only [cond_true, get_dB, sle_not, seq_dec]
        by_cases all : ∀ a, a ∈ s.2.1.take i → ltS a.1 n
        · have r0 : refK ltS (fun b : Bv => b.1) (s.2.1.take i) (n, norm v) = (false, s.2.1.take i) := by unfold refK; rw [if_pos all]
          rw [r0]
          simp only [not_false', cond_true]
          rw [cond_dec]
          by_cases hy : ltS (s.2.1.getD i dB).1 n
          · rw [if_neg (fun z => z hy), cond_ndec, if_neg (fun e : (s.2.1.getD i dB).1 = n => ltS_irrefl n (by rw [e] at hy; exact hy)), room_one _ _ 40 (by omega) (by omega), cond_true, (t1 hy).2, app_eq]
          · rw [if_pos hy, room_one _ _ 40 (by omega) (by omega), cond_true, cond_ndec, app_eq, app_eq]
            by_cases e : (s.2.1.getD i dB).1 = n
            · rw [if_pos e, (t2 hy all).1 e]
            · rw [if_neg e, room_one _ _ 40 (by simp; omega) (by omega), cond_true, (t2 hy all).2 e]
        · have r0 : refK ltS (fun b : Bv => b.1) (s.2.1.take i) (n, norm v) = (true, insB (s.2.1.take i) (n, norm v)) := by unfold refK; rw [if_neg all]
          rw [r0] at hL ⊢
          simp only [not_true, cond_false]
          rw [cond_ndec, if_neg (t3 all).1, room_one _ _ 40 (by simp only at hL ⊢; omega) (by omega), cond_true, (t3 all).2, app_eq]
      · try dsimp only
        rw [ilt_end, cond_false, List.take_length]
  · rw [if_neg m, if_neg m]
theorem ref_put (s : Sta) (x : At) (o : Sp) (h : FewT s) (ho : FewS o) : ref08_Put K (s, x, o) = some (putT s x o) := by
  unfold ref08_Put putT
  try dsimp only
  rw [ref_may8 s h, bind_some, cond_ndec]
  by_cases m : MayS s
  · rw [if_pos m, if_pos m, ref_place, bind_some, cond_ndec]
    by_cases mp : PlaceA x
    · rw [if_pos mp, if_pos mp, ref_may7 o ho, bind_some, cond_ndec]
      by_cases mo : MayO o
      · rw [if_pos mo, if_pos mo]
        by_cases hd : s.1 = true
        · rw [if_pos hd, cond_of hd]
          obtain ⟨e1, e2⟩ := m.2.2 hd
          congr 1
          exact Prod.ext hd (Prod.ext e1 e2)
        · rw [if_neg hd, cond_of' hd]
          have h1 := h.2.2.1
          have hu : Up ltA (fun b : Lc => b.1) s.2.2 := m.2.1.1
          have hs1 : s.1 = false := by simpa using hd
          rw [loop_gen s.2.2.length (fun i => ((refK ltA (fun b : Lc => b.1) (s.2.2.take i) (x, o)).1, (i : Int), false, s.2.1, (refK ltA (fun b : Lc => b.1) (s.2.2.take i) (x, o)).2)) _ ((refK ltA (fun b : Lc => b.1) s.2.2 (x, o)).1, false, s.2.1, (refK ltA (fun b : Lc => b.1) s.2.2 (x, o)).2) (by omega) ?_ ?_ ?_]
          · have hE := refK_end (lt := ltA) (key := fun b : Lc => b.1) ordA (l := s.2.2) (x, o)
            have hL := refK_len (lt := ltA) (key := fun b : Lc => b.1) s.2.2 (x, o)
            try dsimp only
            rw [show insL s.2.2 (x, o) = _ from hE.symm, hs1]
            generalize refK ltA (fun b : Lc => b.1) s.2.2 (x, o) = R at hL
            obtain ⟨b, t⟩ := R
            cases b
            · rw [not_false', cond_true, room_one _ _ 64 (by simp only at hL ⊢; omega) (by omega), cond_true]; rfl
            · rw [not_true, cond_false]; rfl
          · show ((refK ltA (fun b : Lc => b.1) [] (x, o)).1, _, _, _, (refK ltA (fun b : Lc => b.1) [] (x, o)).2) = _
            rw [refK_nil]; rfl
          · intro i hi
            have hui := up_take hu hi dL
            have e1 := take_getD' hi dL
            obtain ⟨t1, t2, t3⟩ := refK_step ordA hui (x, o)
            have htl : (s.2.2.take i).length ≤ 100000 := by rw [List.length_take]; omega
            have hL := refK_len (lt := ltA) (key := fun b : Lc => b.1) (s.2.2.take i) (x, o)
            try dsimp only
            rw [ilt_len hi, cond_true, inb_len hi, e1, wrap_succ (by omega)]
            simp only [cond_true, get_dL, eqA_dec, ref_less, bind_some]
            by_cases all : ∀ a, a ∈ s.2.2.take i → ltA a.1 x
            · have r0 : refK ltA (fun b : Lc => b.1) (s.2.2.take i) (x, o) = (false, s.2.2.take i) := by unfold refK; rw [if_pos all]
              rw [r0]
              simp only [not_false', cond_true]
              rw [ref_less, bind_some, cond_ndec]
              by_cases hy : ltA (s.2.2.getD i dL).1 x
              · rw [if_pos hy, cond_ndec, if_neg (fun e : (s.2.2.getD i dL).1 = x => ltA_irrefl x (by rw [e] at hy; exact hy)), room_one _ _ 64 (by omega) (by omega), cond_true, (t1 hy).2, app_eq]
              · rw [if_neg hy, room_one _ _ 64 (by omega) (by omega), cond_true, cond_ndec, app_eq, app_eq]
                by_cases e : (s.2.2.getD i dL).1 = x
                · rw [if_pos e, (t2 hy all).1 e]
                · rw [if_neg e, room_one _ _ 64 (by simp; omega) (by omega), cond_true, (t2 hy all).2 e]
            · have r0 : refK ltA (fun b : Lc => b.1) (s.2.2.take i) (x, o) = (true, insL (s.2.2.take i) (x, o)) := by unfold refK; rw [if_neg all]
              rw [r0] at hL ⊢
              simp only [not_true, cond_false]
              rw [cond_ndec, if_neg (t3 all).1, room_one _ _ 64 (by simp only at hL ⊢; omega) (by omega), cond_true, (t3 all).2, app_eq]
          · try dsimp only
            rw [ilt_end, cond_false, List.take_length]
      · rw [if_neg mo, if_neg mo]
    · rw [if_neg mp, if_neg mp]
  · rw [if_neg m, if_neg m]
theorem st_loc (s : Sta) (x : At) (h : FewT s) : state_Loc K (s, x) = some (locR s.2.2 x) := by
  unfold state_Loc
  try dsimp only
  have h3 := h.2.2.1
  rw [loop_find s.2.2 dL (fun b => b.1 = x) (fun b => (b.2, true)) (by omega) ?_ ?_]
  · unfold locR getL
    cases s.2.2.find? fun b => decide (b.1 = x) with
    | none => rfl
    | some b => rfl
  · intro i hi
    have hm := getD_mem hi dL
    try dsimp only
    rw [ilt_len hi, cond_true, inb_len hi, cond_true, get_dL, eqA_dec, cond_dec, wrap_succ (by omega)]
    by_cases q : (s.2.2.getD i dL).1 = x
    · rw [if_pos q, if_pos q, show P.ile (0 : Int) (i : Int) = true from ile_iff.2 (by omega), cond_true, cond_true, ob_copy _ (h.2.2.2 _ hm), bind_some, map_some']
    · rw [if_neg q, if_neg q]
  · try dsimp only
    rw [ilt_end]; rfl
end Go.PL
end
section
/- States: a site's newest object grows old: the list. -/
open Go Go.PG Go.PL
set_option linter.all false
namespace Go.PL
def renV (i : Int) (b : Bv) : Bv := (b.1, norm (b.2.map (renA i)))
def renL (i : Int) (b : Lc) : Lc := (b.1, rename b.2 i)
def base (i : Int) (l : List Lc) : List Lc := (l.filter fun b => decide (b.1 ≠ (4, i))).map (renL i)
def oldO (i : Int) (l : List Lc) (o : Lc) : Sp := match getL l (5, i) with
  | some p => join (rename o.2 i) (rename p.2 i)
  | none => rename o.2 i
def ageL (i : Int) (l : List Lc) : List Lc := match getL l (4, i) with
  | none => base i l
  | some o => insL (base i l) ((5, i), oldO i l o)
theorem getL_app (t : List Lc) (y : Lc) (x : At) : getL (t ++ [y]) x = (getL t x).or (if y.1 = x then some y else none) := by
  unfold getL
  rw [List.find?_append, List.find?_cons]
  by_cases q : y.1 = x
  · rw [decide_eq_true q, if_pos q]
  · rw [decide_eq_false q, if_neg q]; rfl
theorem getL_no {l : List Lc} {x : At} (h : ∀ b, b ∈ l → b.1 ≠ x) : getL l x = none := by
  unfold getL
  rw [List.find?_eq_none]
  intro b hb q
  exact h b hb (of_decide_eq_true q)
theorem locR_no {l : List Lc} {x : At} (h : ∀ b, b ∈ l → b.1 ≠ x) : locR l x = (([], []), false) := by unfold locR; rw [getL_no h]
theorem mem_base {i : Int} {l : List Lc} {x : Lc} : x ∈ base i l ↔ ∃ b, b ∈ l ∧ b.1 ≠ (4, i) ∧ x = renL i b := by
  unfold base
  simp only [List.mem_map, List.mem_filter, decide_eq_true_eq]
  constructor
  · rintro ⟨b, ⟨h1, h2⟩, rfl⟩; exact ⟨b, h1, h2, rfl⟩
  · rintro ⟨b, h1, h2, rfl⟩; exact ⟨b, ⟨h1, h2⟩, rfl⟩
theorem base_app (i : Int) (t : List Lc) (y : Lc) : base i (t ++ [y]) = if y.1 = (4, i) then base i t else base i t ++ [renL i y] := by
  unfold base
  rw [List.filter_append, List.map_append]
  by_cases q : y.1 = (4, i)
  · rw [if_pos q, List.filter_cons_of_neg (by simp [q])]; simp
  · rw [if_neg q, List.filter_cons_of_pos (by simp [q])]; simp
theorem base_up {i : Int} {l : List Lc} (h : RisesL l) : RisesL (base i l) := by
  unfold base
  rw [RisesL, List.pairwise_map]
  exact h.filter _
theorem ageL_up {i : Int} {l : List Lc} (h : RisesL l) : RisesL (ageL i l) := by
  unfold ageL
  split
  · exact base_up h
  · exact insK_up ordA (base_up h) _
/-- One object more. -/
def stepO (i : Int) (L : List Lc) (y : Lc) : List Lc := insL L (if y.1 = (4, i) then (5, i) else y.1, if (locR L (if y.1 = (4, i) then (5, i) else y.1)).2 = true then join (locR L (if y.1 = (4, i) then (5, i) else y.1)).1 (rename y.2 i) else rename y.2 i)
theorem age_step {i : Int} {t : List Lc} {y : Lc} (h : RisesL (t ++ [y])) : stepO i (ageL i t) y = ageL i (t ++ [y]) := by
  have ht : RisesL t := h.sublist (List.sublist_append_left _ _)
  have hp : ∀ a, a ∈ t → ltA a.1 y.1 := fun a ha => (List.pairwise_append.1 h).2.2 a ha y (by simp)
  have hb : ∀ a, a ∈ base i t → ltA a.1 y.1 := fun a ha => by
    obtain ⟨b, h1, _, rfl⟩ := mem_base.1 ha
    exact hp b h1
  have ne_of : ∀ {a b : At}, ltA a b → a ≠ b := fun h e => ltA_irrefl _ (by rw [e] at h; exact h)
  have h45 : ltA (4, i) (5, i) := by unfold ltA; simp
  have hbe := base_app i t y
  by_cases q : y.1 = (4, i)
  · have n4 : getL t (4, i) = none := getL_no fun b hb' => by rw [← q]; exact ne_of (hp b hb')
    have n5 : getL t (5, i) = none := getL_no fun b hb' => ne_of (ltA_trans (hp b hb') (by rw [q]; exact h45))
    have e1 : ageL i t = base i t := by unfold ageL; rw [n4]
    have e2 : locR (base i t) (5, i) = (([], []), false) := locR_no fun b hb' => ne_of (ltA_trans (hb b hb') (by rw [q]; exact h45))
    rw [if_pos q] at hbe
    unfold stepO
    rw [if_pos q, e1, e2, if_neg (by simp)]
    unfold ageL oldO
    rw [getL_app, n4, if_pos q, getL_app, n5, if_neg (by rw [q]; exact ne_of h45), hbe]
    rfl
  · rw [if_neg q] at hbe
    have hend : insL (base i t) (renL i y) = base i t ++ [renL i y] := insK_end ordA hb
    unfold stepO
    rw [if_neg q]
    cases g4 : getL t (4, i) with
    | none =>
      have e1 : ageL i t = base i t := by unfold ageL; rw [g4]
      have e2 : locR (base i t) y.1 = (([], []), false) := locR_no fun b hb' => ne_of (hb b hb')
      rw [e1, e2, if_neg (by simp)]
      have e3 : ageL i (t ++ [y]) = base i (t ++ [y]) := by unfold ageL; rw [getL_app, g4, if_neg q]; rfl
      rw [e3, hbe, ← hend]
      rfl
    | some o =>
      have e1 : ageL i t = insL (base i t) ((5, i), oldO i t o) := by unfold ageL; rw [g4]
      have e3 : ageL i (t ++ [y]) = insL (base i (t ++ [y])) ((5, i), oldO i (t ++ [y]) o) := by unfold ageL; rw [getL_app, g4]; rfl
      by_cases q5 : y.1 = (5, i)
      · have n5 : getL t (5, i) = none := getL_no fun b hb' => by rw [← q5]; exact ne_of (hp b hb')
        have o1 : oldO i t o = rename o.2 i := by unfold oldO; rw [n5]
        have o2 : oldO i (t ++ [y]) o = join (rename o.2 i) (rename y.2 i) := by unfold oldO; rw [getL_app, n5, if_pos q5]; rfl
        have hm : ((5, i), rename o.2 i) ∈ insL (base i t) ((5, i), rename o.2 i) := (insK_mem ordA).2 (.inl rfl)
        have e4 : locR (insL (base i t) ((5, i), rename o.2 i)) (5, i) = (rename o.2 i, true) := locR_of_mem (insK_up ordA (base_up ht) _) hm
        rw [e1, o1, q5, e4, if_pos rfl, e3, o2, hbe, ← hend]
        have a1 := insK_twice (lt := ltA) (key := fun b : Lc => b.1) ordA (base_up ht (i := i)) (x := ((5, i), rename o.2 i)) (y := ((5, i), join (rename o.2 i) (rename y.2 i))) rfl
        have a2 := insK_twice (lt := ltA) (key := fun b : Lc => b.1) ordA (base_up ht (i := i)) (x := renL i y) (y := ((5, i), join (rename o.2 i) (rename y.2 i))) q5
        exact a1.trans a2.symm
      · have o2 : oldO i (t ++ [y]) o = oldO i t o := by
          unfold oldO
          rw [getL_app, if_neg q5]
          cases getL t (5, i) <;> rfl
        have e4 : locR (insL (base i t) ((5, i), oldO i t o)) y.1 = (([], []), false) := locR_no fun b hb' => by
          rcases (insK_mem ordA).1 hb' with rfl | ⟨h1, _⟩
          · exact fun z => q5 z.symm
          · exact ne_of (hb b h1)
        rw [e1, e4, if_neg (by simp), e3, o2, hbe, ← hend]
        exact insK_comm (lt := ltA) (key := fun b : Lc => b.1) ordA (base_up ht (i := i)) (x := ((5, i), oldO i t o)) (y := renL i y) (fun z => q5 z.symm)
/-! ### what may be, and how much there is -/
theorem base_ok {i : Int} {l : List Lc} (h : ∀ b, b ∈ l → PlaceA b.1 ∧ MayO b.2) : ∀ b, b ∈ base i l → PlaceA b.1 ∧ MayO b.2 := fun x hx => by
  obtain ⟨b, h1, _, rfl⟩ := mem_base.1 hx
  exact ⟨(h b h1).1, rename_may (h b h1).2 i⟩
theorem old_may {i : Int} {l : List Lc} (h : ∀ b, b ∈ l → PlaceA b.1 ∧ MayO b.2) {o : Lc} (ho : o ∈ l) : MayO (oldO i l o) := by
  unfold oldO
  split
  · rename_i p hp
    exact join_may (rename_may (h o ho).2 i) (rename_may (h p (getL_mem hp).1).2 i)
  · exact rename_may (h o ho).2 i
theorem ageL_ok {i : Int} (hi : 0 ≤ i) {l : List Lc} (h : ∀ b, b ∈ l → PlaceA b.1 ∧ MayO b.2) : ∀ b, b ∈ ageL i l → PlaceA b.1 ∧ MayO b.2 := fun x hx => by
  unfold ageL at hx
  split at hx
  · exact base_ok h x hx
  · rename_i o ho
    rcases (insK_mem ordA).1 hx with rfl | ⟨h1, _⟩
    · exact ⟨⟨.inr rfl, hi⟩, old_may h (getL_mem ho).1⟩
    · exact base_ok h x h1
theorem base_len (i : Int) (l : List Lc) : (base i l).length ≤ l.length := by
  unfold base; rw [List.length_map]; exact List.length_filter_le _ _
theorem old_bd {i : Int} {l : List Lc} {k : Nat} (h : ∀ b, b ∈ l → Bd k b.2) {o : Lc} (ho : o ∈ l) : Bd (k + k) (oldO i l o) := by
  unfold oldO
  split
  · rename_i p hp
    exact join_bd (rename_bd (h o ho) i) (rename_bd (h p (getL_mem hp).1) i)
  · have := rename_bd (h o ho) i
    exact ⟨by have := this.1; omega, fun f hf => by have := this.2.1 f hf; omega, by have := this.2.2; omega⟩
theorem ageL_bd {i : Int} {l : List Lc} {k : Nat} (hl : l.length ≤ k) (h : ∀ b, b ∈ l → Bd k b.2) : (ageL i l).length ≤ k + k + 1 ∧ ∀ b, b ∈ ageL i l → Bd (k + k) b.2 := by
  have hb := base_len i l
  have hB : ∀ b, b ∈ base i l → Bd (k + k) b.2 := fun x hx => by
    obtain ⟨b, h1, _, rfl⟩ := mem_base.1 hx
    have := rename_bd (h b h1) i
    exact ⟨by have := this.1; show (rename b.2 i).1.length ≤ _; omega, fun f hf => by have := this.2.1 f hf; omega, by have := this.2.2; show (rename b.2 i).2.length ≤ _; omega⟩
  unfold ageL
  split
  · exact ⟨by omega, hB⟩
  · rename_i o ho
    have hle : (insL (base i l) ((5, i), oldO i l o)).length ≤ _ := insK_length (lt := ltA) (key := fun b : Lc => b.1) (base i l) ((5, i), oldO i l o)
    refine ⟨by omega, fun x hx => ?_⟩
    rcases (insK_mem ordA).1 hx with rfl | ⟨h1, _⟩
    · exact old_bd h (getL_mem ho).1
    · exact hB x h1
end Go.PL
end
section
/- States: a site's newest object grows old; a new one. -/
open Go Go.PG Go.PL
set_option linter.all false
namespace Go.PL
def ageT (s : Sta) (i : Int) : Sta := if i < 0 then (false, [], []) else if MayS s then (if s.1 = true then (true, [], []) else (false, s.2.1.map (renV i), ageL i s.2.2)) else (false, [], [])
theorem mayS_mk {V : List Bv} {L : List Lc} (h1 : RisesB V ∧ ∀ b, b ∈ V → b.2 = norm b.2) (h2 : RisesL L ∧ ∀ l, l ∈ L → PlaceA l.1 ∧ MayO l.2) : MayS (false, V, L) := ⟨h1, h2, fun z => by cases z⟩
theorem setT_ok {V : List Bv} {L : List Lc} (h : MayS (false, V, L)) (n : ByteArray) (v : List At) : setT (false, V, L) n v = (false, insB V (n, norm v), L) := by
  unfold setT; rw [if_pos h, if_neg (by simp)]
theorem putT_ok {V : List Bv} {L : List Lc} (h : MayS (false, V, L)) {x : At} (hx : PlaceA x) {o : Sp} (ho : MayO o) : putT (false, V, L) x o = (false, V, insL L (x, o)) := by
  unfold putT; rw [if_pos h, if_pos hx, if_pos ho, if_neg (by simp)]
theorem renV_ok {i : Int} {V : List Bv} (h : RisesB V) : RisesB (V.map (renV i)) ∧ ∀ b, b ∈ V.map (renV i) → b.2 = norm b.2 := by
  refine ⟨?_, fun b hb => ?_⟩
  · rw [RisesB, List.pairwise_map]; exact h
  · obtain ⟨c, _, rfl⟩ := List.mem_map.1 hb
    exact (norm_norm _).symm
theorem renV_len {i : Int} {V : List Bv} {k : Nat} (h : ∀ b, b ∈ V → b.2.length ≤ k) : ∀ b, b ∈ V.map (renV i) → b.2.length ≤ k := fun b hb => by
  obtain ⟨c, hc, rfl⟩ := List.mem_map.1 hb
  have := norm_length (c.2.map (renA i))
  rw [List.length_map] at this
  exact Nat.le_trans this (h c hc)
theorem take_all {α : Type} {p : α → Prop} {l : List α} (h : ∀ b, b ∈ l → p b) (j : Nat) : ∀ b, b ∈ l.take j → p b := fun b hb => h b (List.mem_of_mem_take hb)
theorem ageT_ok {s : Sta} {i : Int} (hi : ¬ i < 0) (m : MayS s) (hd : ¬ s.1 = true) : ageT s i = (false, s.2.1.map (renV i), ageL i s.2.2) := by
  unfold ageT; rw [if_neg hi, if_pos m, if_neg hd]
theorem age_may {s : Sta} {i : Int} (hi : ¬ i < 0) (m : MayS s) : MayS (ageT s i) := by
  by_cases hd : s.1 = true
  · unfold ageT; rw [if_neg hi, if_pos m, if_pos hd]
    exact ⟨⟨List.Pairwise.nil, by simp⟩, ⟨List.Pairwise.nil, by simp⟩, fun _ => ⟨rfl, rfl⟩⟩
  · rw [ageT_ok hi m hd]
    exact mayS_mk (renV_ok m.1.1) ⟨ageL_up m.2.1.1, ageL_ok (by omega) m.2.1.2⟩
theorem age_bd {s : Sta} {i : Int} {k : Nat} (h : BdT k s) : BdT (k + k + 1) (ageT s i) := by
  have e : BdT (k + k + 1) (false, [], []) := ⟨by simp, by simp, by simp, by simp⟩
  have e' : BdT (k + k + 1) (true, [], []) := ⟨by simp, by simp, by simp, by simp⟩
  unfold ageT
  split
  · exact e
  · split
    · split
      · exact e'
      · obtain ⟨h1, h2, h3, h4⟩ := h
        obtain ⟨b1, b2⟩ := ageL_bd (i := i) h3 h4
        exact ⟨by simp only [List.length_map]; omega, fun b hb => by have := renV_len (i := i) h2 b hb; omega, b1, fun l hl => by
          have := b2 l hl
          exact ⟨by have := this.1; omega, fun f hf => by have := this.2.1 f hf; omega, by have := this.2.2; omega⟩⟩
    · exact e
theorem dm_age (s : Sta) (i : Int) {k : Nat} (h : BdT k s) (hk : k ≤ 1000) : demote_Age K (s, i) = some (ageT s i) := by
  unfold demote_Age ageT
  try dsimp only
  have hf := bd_fewT h (by omega)
  rw [ilt_dec, cond_dec]
  by_cases hi : i < 0
  · rw [if_pos hi, if_pos hi]
  rw [if_neg hi, if_neg hi, st_may s hf, bind_some, cond_ndec]
  by_cases m : MayS s
  case neg => rw [if_neg m, if_neg m]
  rw [if_pos m, if_pos m]
  by_cases hd : s.1 = true
  · rw [if_pos hd, cond_of hd]
  rw [if_neg hd, cond_of' hd]
  obtain ⟨h1, h2, h3, h4⟩ := h
  have hV := renV_ok (i := i) m.1.1
  have hVl : ∀ b, b ∈ s.2.1.map (renV i) → b.2.length ≤ k := renV_len h2
  rw [loop_st s.2.1.length (fun j => (false, (s.2.1.take j).map (renV i), [])) _ (false, s.2.1.map (renV i), []) (by omega) (by simp) (by simp) ?_ ?_]
  · rw [loop_st s.2.2.length (fun j => (false, s.2.1.map (renV i), ageL i (s.2.2.take j))) _ (false, s.2.1.map (renV i), ageL i s.2.2) (by omega) (by simp [ageL, getL, base]) (by simp) ?_ ?_]
    · intro j hj
      have hm := getD_mem hj dL
      have hbd := h4 _ hm
      have ht : RisesL (s.2.2.take j) := m.2.1.1.sublist (List.take_sublist _ _)
      have htl : (s.2.2.take j).length ≤ k := by rw [List.length_take]; omega
      have hok := take_all m.2.1.2 j
      obtain ⟨b1, b2⟩ := ageL_bd (i := i) htl (take_all h4 j)
      have hmay : MayS (false, s.2.1.map (renV i), ageL i (s.2.2.take j)) := mayS_mk hV ⟨ageL_up ht, ageL_ok (by omega) hok⟩
      have hfew : FewT (false, s.2.1.map (renV i), ageL i (s.2.2.take j)) := ⟨by simp only [List.length_map]; omega, fun b hb => by have := hVl b hb; omega, by simp only; omega, fun l hl => bd_few (b2 l hl) (by omega)⟩
      have hst := age_step (i := i) (t := s.2.2.take j) (y := s.2.2.getD j dL) (by rw [← take_getD' hj dL]; exact m.2.1.1.sublist (List.take_sublist _ _))
      rw [← take_getD' hj dL] at hst
      have hy := m.2.1.2 _ hm
      have hr := rename_bd hbd i
      have hrm := rename_may hy.2 i
      have hat : PlaceA (if (s.2.2.getD j dL).1 = (4, i) then (5, i) else (s.2.2.getD j dL).1) := by
        split
        · exact ⟨.inr rfl, by show 0 ≤ i; omega⟩
        · exact hy.1
      try dsimp only
      rw [ilt_len hj, cond_true, inb_len hj, cond_true, get_dL, ob_rename _ i (bd_few hbd (by omega)), bind_some, wrap_succ (by omega)]
      rw [show P.and (P.ieq (s.2.2.getD j dL).1.1 4) (P.ieq (s.2.2.getD j dL).1.2 i) = decide ((s.2.2.getD j dL).1 = (4, i)) from eqA_dec _ (4, i), cond_dec]
      have key : ∀ at' : At, PlaceA at' → stepO i (ageL i (s.2.2.take j)) (s.2.2.getD j dL) = insL (ageL i (s.2.2.take j)) (at', if (locR (ageL i (s.2.2.take j)) at').2 = true then join (locR (ageL i (s.2.2.take j)) at').1 (rename (s.2.2.getD j dL).2 i) else rename (s.2.2.getD j dL).2 i) →
          (P.bind (state_Loc K ((false, s.2.1.map (renV i), ageL i (s.2.2.take j)), at')) fun (r_1 : Sp × Bool) => P.cond r_1.snd (P.bind (object_Join K (r_1.fst, rename (s.2.2.getD j dL).2 i)) fun (r : Sp) => P.bind (state_Put K ((false, s.2.1.map (renV i), ageL i (s.2.2.take j)), at', r)) fun (r : Sta) => (some (Sum.inl (((j + 1 : Nat) : Int), r)) : Option ((Int × Sta) ⊕ (Sta ⊕ Sta))))
            (P.bind (state_Put K ((false, s.2.1.map (renV i), ageL i (s.2.2.take j)), at', rename (s.2.2.getD j dL).2 i)) fun (r : Sta) => some (Sum.inl (((j + 1 : Nat) : Int), r)))) = some (Sum.inl (((j + 1 : Nat) : Int), (false, s.2.1.map (renV i), ageL i (s.2.2.take (j + 1))))) := by
        intro at' hpl hstep
        rw [st_loc _ at' hfew, bind_some]
        by_cases q : (locR (ageL i (s.2.2.take j)) at').2 = true
        · rw [if_pos q] at hstep
          have hl : Bd (k + k) (locR (ageL i (s.2.2.take j)) at').1 ∧ MayO (locR (ageL i (s.2.2.take j)) at').1 := by
            unfold locR at q ⊢
            cases g : getL (ageL i (s.2.2.take j)) at' with
            | none => rw [g] at q; cases q
            | some b => exact ⟨b2 b (getL_mem g).1, (ageL_ok (by omega) hok b (getL_mem g).1).2⟩
          rw [cond_of q, ob_join _ _ (bd_few hl.1 (by omega)) (bd_few hr (by omega)), bind_some, st_put _ _ _ hfew (bd_few (join_bd hl.1 hr) (by omega)), bind_some, putT_ok hmay hpl (join_may hl.2 hrm), ← hst, hstep]
        · rw [if_neg q] at hstep
          rw [cond_of' q, st_put _ _ _ hfew (bd_few hr (by omega)), bind_some, putT_ok hmay hpl hrm, ← hst, hstep]
      by_cases q : (s.2.2.getD j dL).1 = (4, i)
      · rw [if_pos q]
        rw [if_pos q] at hat
        exact key (5, i) hat (by unfold stepO; rw [if_pos q])
      · rw [if_neg q]
        rw [if_neg q] at hat
        exact key _ hat (by unfold stepO; rw [if_neg q])
    · try dsimp only
      rw [ilt_end]; rfl
  · intro j hj
    have hm := getD_mem hj dB
    have ht : RisesB (s.2.1.take j) := m.1.1.sublist (List.take_sublist _ _)
    have hmay : MayS (false, (s.2.1.take j).map (renV i), []) := mayS_mk (renV_ok ht) ⟨List.Pairwise.nil, by simp⟩
    have hfew : FewT (false, (s.2.1.take j).map (renV i), []) := ⟨by simp only [List.length_map, List.length_take]; omega, fun b hb => by have := renV_len (i := i) (take_all h2 j) b hb; omega, by simp, by simp⟩
    have hlen := h2 _ hm
    have hnl := norm_length ((s.2.1.getD j dB).2.map (renA i))
    rw [List.length_map] at hnl
    try dsimp only
    rw [ilt_len hj, cond_true, inb_len hj, cond_true, get_dB, at_rename _ i (by omega), bind_some, st_set _ _ _ hfew (by omega), bind_some, wrap_succ (by omega), setT_ok hmay, norm_norm]
    have he : insB ((s.2.1.take j).map (renV i)) ((s.2.1.getD j dB).1, norm ((s.2.1.getD j dB).2.map (renA i))) = (s.2.1.take j).map (renV i) ++ [renV i (s.2.1.getD j dB)] := insK_end ordS fun a ha => by
      obtain ⟨c, hc, rfl⟩ := List.mem_map.1 ha
      have hu := up_take (lt := ltS) (key := fun b : Bv => b.1) m.1.1 hj dB
      exact (List.pairwise_append.1 hu).2.2 c hc (s.2.1.getD j dB) (by simp)
    rw [he, take_getD' hj dB, List.map_append]
    rfl
  · try dsimp only
    rw [ilt_end]; rfl
end Go.PL
end
section
/- States: as the document says it; a new object. -/
open Go Go.PG Go.PL
set_option linter.all false
namespace Go.PL
theorem ref_age (s : Sta) (i : Int) {k : Nat} (h : BdT k s) (hk : k ≤ 1000) : ref09_Age K (s, i) = some (ageT s i) := by
  unfold ref09_Age ageT
  try dsimp only
  have hf := bd_fewT h (by omega)
  rw [ilt_dec, cond_dec]
  by_cases hi : i < 0
  · rw [if_pos hi, if_pos hi]
  rw [if_neg hi, if_neg hi, ref_may8 s hf, bind_some, cond_ndec]
  by_cases m : MayS s
  case neg => rw [if_neg m, if_neg m]
  rw [if_pos m, if_pos m]
  by_cases hd : s.1 = true
  · rw [if_pos hd, cond_of hd]
    obtain ⟨e1, e2⟩ := m.2.2 hd
    congr 1
    exact Prod.ext hd (Prod.ext e1 e2)
  rw [if_neg hd, cond_of' hd]
  obtain ⟨h1, h2, h3, h4⟩ := h
  have hV := renV_ok (i := i) m.1.1
  have hVl : ∀ b, b ∈ s.2.1.map (renV i) → b.2.length ≤ k := renV_len h2
  rw [loop_st s.2.1.length (fun j => (false, (s.2.1.take j).map (renV i), [])) _ (false, s.2.1.map (renV i), []) (by omega) (by simp) (by simp) ?_ ?_]
  · try dsimp only
    rw [loop_st s.2.2.length (fun j => (false, s.2.1.map (renV i), base i (s.2.2.take j))) _ (false, s.2.1.map (renV i), base i s.2.2) (by omega) (by simp [base]) (by simp) ?_ ?_]
    · try dsimp only
      have hbu := base_up (i := i) m.2.1.1
      have hbo := base_ok (i := i) m.2.1.2
      have hbl := base_len i s.2.2
      have hmay : MayS (false, s.2.1.map (renV i), base i s.2.2) := mayS_mk hV ⟨hbu, hbo⟩
      have hbb : ∀ b, b ∈ base i s.2.2 → Bd k b.2 := fun x hx => by
        obtain ⟨b, g1, _, rfl⟩ := mem_base.1 hx
        exact rename_bd (h4 b g1) i
      have hfew : FewT (false, s.2.1.map (renV i), base i s.2.2) := ⟨by simp only [List.length_map]; omega, fun b hb => by have := hVl b hb; omega, by simp only; omega, fun l hl => bd_few (hbb l hl) (by omega)⟩
      have hpl : PlaceA (5, i) := ⟨.inr rfl, by show 0 ≤ i; omega⟩
      rw [ref_loc s _ (by omega), bind_some, ref_loc s _ (by omega), bind_some]
      unfold ageL oldO locR
      cases g4 : getL s.2.2 (4, i) with
      | none =>
        cases g5 : getL s.2.2 (5, i) <;> rfl
      | some o =>
        have ho := (getL_mem g4).1
        have hr := rename_bd (h4 o ho) i
        have hrm := rename_may (m.2.1.2 o ho).2 i
        cases g5 : getL s.2.2 (5, i) with
        | none =>
          try dsimp only
          simp only [cond_true, cond_false, not_false']
          rw [ref_rename7 _ i (bd_few (h4 o ho) (by omega)), bind_some, ref_put _ _ _ hfew (bd_few hr (by omega)), bind_some, putT_ok hmay hpl hrm]
        | some p =>
          have hp := (getL_mem g5).1
          have hr2 := rename_bd (h4 p hp) i
          have hrm2 := rename_may (m.2.1.2 p hp).2 i
          try dsimp only
          simp only [cond_true, cond_false, not_true]
          rw [ref_rename7 _ i (bd_few (h4 o ho) (by omega)), bind_some, ref_rename7 _ i (bd_few (h4 p hp) (by omega)), bind_some, ref_join _ _ (bd_few hr (by omega)) (bd_few hr2 (by omega)), bind_some, ref_put _ _ _ hfew (bd_few (join_bd hr hr2) (by omega)), bind_some, putT_ok hmay hpl (join_may hrm hrm2)]
    · intro j hj
      have hm := getD_mem hj dL
      have hbd := h4 _ hm
      have hbl := base_len i (s.2.2.take j)
      have htl : (s.2.2.take j).length ≤ k := by rw [List.length_take]; omega
      try dsimp only
      rw [ilt_len hj, cond_true, inb_len hj, cond_true, get_dL, cond_true, cond_true, wrap_succ (by omega), show P.and (P.ieq (s.2.2.getD j dL).1.1 4) (P.ieq (s.2.2.getD j dL).1.2 i) = decide ((s.2.2.getD j dL).1 = (4, i)) from eqA_dec _ (4, i), cond_ndec, take_getD' hj dL, base_app]
      by_cases q : (s.2.2.getD j dL).1 = (4, i)
      · rw [if_pos q, if_pos q]
      · rw [if_neg q, if_neg q, ref_rename7 _ i (bd_few hbd (by omega)), bind_some, room_one _ _ 64 (by omega) (by omega), cond_true, app_eq]
        rfl
    · try dsimp only
      rw [ilt_end]; rfl
  · intro j hj
    have hm := getD_mem hj dB
    have hlen := h2 _ hm
    try dsimp only
    rw [ilt_len hj, cond_true, inb_len hj, cond_true, cond_true, get_dB, ref_rename _ i (by omega), bind_some, wrap_succ (by omega), room_one _ _ 40 (by simp only [List.length_map, List.length_take]; omega) (by omega), cond_true, app_eq, take_getD' hj dB, List.map_append]
    rfl
  · try dsimp only
    rw [ilt_end]; rfl
def allocT (s : Sta) (x : ByteArray) (i : Int) (o : Sp) : Sta := if i < 0 then (false, [], []) else if MayS s then (if MayO o then (if s.1 = true then (true, [], []) else (false, insB (s.2.1.map (renV i)) (x, [(4, i)]), insL (ageL i s.2.2) ((4, i), rename o i))) else (false, [], [])) else (false, [], [])
theorem norm_rec {i : Int} (hi : ¬ i < 0) : norm [((4 : Int), i)] = [((4 : Int), i)] := (norm_one.2 (place_right ⟨.inl rfl, by show 0 ≤ i; omega⟩)).symm
theorem alloc_mid {s : Sta} {i : Int} {o : Sp} (hi : ¬ i < 0) (m : MayS s) (mo : MayO o) (hd : ¬ s.1 = true) :
    putT (ageT s i) (4, i) (rename o i) = (false, s.2.1.map (renV i), insL (ageL i s.2.2) ((4, i), rename o i)) ∧ MayS (false, s.2.1.map (renV i), insL (ageL i s.2.2) ((4, i), rename o i)) ∧
    ∀ x, setT (putT (ageT s i) (4, i) (rename o i)) x [(4, i)] = allocT s x i o := by
  have hp : PlaceA (4, i) := ⟨.inl rfl, by show 0 ≤ i; omega⟩
  have hmay := age_may hi m
  rw [ageT_ok hi m hd] at hmay ⊢
  have hrm := rename_may mo i
  have e1 := putT_ok hmay hp hrm
  have m2 : MayS (false, s.2.1.map (renV i), insL (ageL i s.2.2) ((4, i), rename o i)) := mayS_mk hmay.1 ⟨insK_up ordA hmay.2.1.1 _, fun l hl => by
    rcases (insK_mem ordA).1 hl with rfl | ⟨g, _⟩
    · exact ⟨hp, hrm⟩
    · exact hmay.2.1.2 l g⟩
  refine ⟨e1, m2, fun x => ?_⟩
  rw [e1, setT_ok m2, norm_rec hi]
  unfold allocT
  rw [if_neg hi, if_pos m, if_pos mo, if_neg hd]
theorem alloc_few {s : Sta} {i : Int} {o : Sp} {k : Nat} (h : BdT k s) (ho : Bd k o) (hk : k ≤ 1000) : FewT (false, s.2.1.map (renV i), insL (ageL i s.2.2) ((4, i), rename o i)) := by
  obtain ⟨h1, h2, h3, h4⟩ := h
  obtain ⟨b1, b2⟩ := ageL_bd (i := i) h3 h4
  have hle : (insL (ageL i s.2.2) ((4, i), rename o i)).length ≤ _ := insK_length (lt := ltA) (key := fun b : Lc => b.1) (ageL i s.2.2) ((4, i), rename o i)
  exact ⟨by simp only [List.length_map]; omega, fun b hb => by have := renV_len (i := i) h2 b hb; omega, by simp only; omega, fun l hl => by
    rcases (insK_mem ordA).1 hl with rfl | ⟨g, _⟩
    · exact bd_few (rename_bd ho i) (by omega)
    · exact bd_few (b2 l g) (by omega)⟩
theorem dm_alloc (s : Sta) (x : ByteArray) (i : Int) (o : Sp) {k : Nat} (h : BdT k s) (ho : Bd k o) (hk : k ≤ 1000) : demote_Alloc K (s, x, i, o) = some (allocT s x i o) := by
  unfold demote_Alloc
  try dsimp only
  have hf := bd_fewT h (by omega)
  have hof := bd_few ho (by omega)
  have haf := bd_fewT (age_bd (i := i) h) (by omega)
  rw [ob_may o hof, bind_some, cond_ndec, ilt_dec, cond_dec, dm_age s i h hk, bind_some]
  by_cases hi : i < 0
  · have e : allocT s x i o = (false, [], []) := by unfold allocT; rw [if_pos hi]
    rw [if_pos hi, e]; split <;> rfl
  rw [if_neg hi]
  by_cases mo : MayO o
  case neg =>
    have e : allocT s x i o = (false, [], []) := by unfold allocT; rw [if_neg hi, if_neg mo]; split <;> rfl
    rw [if_neg mo, e]
  rw [if_pos mo]
  by_cases m : MayS s
  case neg =>
    have e : allocT s x i o = (false, [], []) := by unfold allocT; rw [if_neg hi, if_neg m]
    have e2 : ageT s i = (false, [], []) := by unfold ageT; rw [if_neg hi, if_neg m]
    rw [e, e2, cond_false, st_may s hf, bind_some, cond_ndec, if_neg m]
  by_cases hd : s.1 = true
  · have e : allocT s x i o = (true, [], []) := by unfold allocT; rw [if_neg hi, if_pos m, if_pos mo, if_pos hd]
    have e2 : ageT s i = (true, [], []) := by unfold ageT; rw [if_neg hi, if_pos m, if_pos hd]
    rw [e, e2, cond_true]
  obtain ⟨a1, a2, a3⟩ := alloc_mid hi m mo hd
  rw [cond_of' (by rw [ageT_ok hi m hd]; simp), st_may s hf, bind_some, cond_ndec, if_pos m, ob_rename o i hof, bind_some, st_put _ _ _ haf (bd_few (rename_bd ho i) (by omega)), bind_some, st_set _ _ _ (by rw [a1]; exact alloc_few h ho hk) (by simp), bind_some, a3]
theorem ref_alloc (s : Sta) (x : ByteArray) (i : Int) (o : Sp) {k : Nat} (h : BdT k s) (ho : Bd k o) (hk : k ≤ 1000) : ref09_Alloc K (s, x, i, o) = some (allocT s x i o) := by
  unfold ref09_Alloc
  try dsimp only
  have hf := bd_fewT h (by omega)
  have hof := bd_few ho (by omega)
  have haf := bd_fewT (age_bd (i := i) h) (by omega)
  rw [ilt_dec, cond_dec, ref_may8 s hf, bind_some, cond_ndec, ref_may7 o hof, bind_some, cond_ndec]
  by_cases hi : i < 0
  · rw [if_pos hi]; unfold allocT; rw [if_pos hi]
  rw [if_neg hi]
  by_cases m : MayS s
  case neg => rw [if_neg m]; unfold allocT; rw [if_neg hi, if_neg m]
  rw [if_pos m]
  by_cases mo : MayO o
  case neg => rw [if_neg mo]; unfold allocT; rw [if_neg hi, if_pos m, if_neg mo]
  rw [if_pos mo]
  by_cases hd : s.1 = true
  · rw [cond_of hd]
    unfold allocT
    rw [if_neg hi, if_pos m, if_pos mo, if_pos hd]
    obtain ⟨e1, e2⟩ := m.2.2 hd
    congr 1
    exact Prod.ext hd (Prod.ext e1 e2)
  obtain ⟨a1, a2, a3⟩ := alloc_mid hi m mo hd
  rw [cond_of' hd, ref_age s i h hk, bind_some, ref_rename7 o i hof, bind_some, ref_put _ _ _ haf (bd_few (rename_bd ho i) (by omega)), bind_some, ref_set _ _ _ (by rw [a1]; exact alloc_few h ho hk) (by simp), bind_some, a3]
end Go.PL
end
section
/- The fixed calls of law 09. -/
open Go Go.PG Go.PL
set_option linter.all false
namespace Go.PL
theorem at_rec9 (k : Nat) (i : Int) : law09_rec k i = some (4, i) := rfl
def s9 : Sta := (false, [(⟨#[120]⟩, [(4, 0)])], [((4, 0), ([(⟨#[112]⟩, true, [(2, 0)])], [(0, 0)]))])
def t9 : Sta := (false, [(⟨#[120]⟩, [(5, 0)]), (⟨#[121]⟩, [(4, 0)])], [((4, 0), ([], [(5, 0)])), ((5, 0), ([(⟨#[112]⟩, true, [(2, 0)])], [(0, 0)]))])
def u9 : Sta := (false, [(⟨#[120]⟩, [(5, 0)])], [((5, 0), ([(⟨#[112]⟩, true, [(2, 0)])], [(0, 0)]))])
theorem fixed9 : law09_fixed K () = some true := by
  unfold law09_fixed
  have hb : BdT 40 s9 := small_bdT (by decide)
  have ho : Bd 40 (([], [(4, 0)]) : Sp) := ⟨by decide, by decide, by decide⟩
  have e1 : demote_Alloc K ((false, [((ByteArray.mk #[120]), [((4 : Int), (0 : Int))])], [(((4 : Int), (0 : Int)), ([((ByteArray.mk #[112]), true, [((2 : Int), (0 : Int))])], [((0 : Int), (0 : Int))]))]), (ByteArray.mk #[121]), (0 : Int), [], [((4 : Int), (0 : Int))]) = some t9 := by
    rw [show (t9 : Sta) = allocT s9 ⟨#[121]⟩ 0 ([], [(4, 0)]) by decide +kernel]
    exact dm_alloc s9 _ 0 _ hb ho (by omega)
  have e2 : demote_Age K ((false, [((ByteArray.mk #[120]), [((4 : Int), (0 : Int))])], [(((4 : Int), (0 : Int)), ([((ByteArray.mk #[112]), true, [((2 : Int), (0 : Int))])], [((0 : Int), (0 : Int))]))]), (0 : Int)) = some u9 := by
    rw [show (u9 : Sta) = ageT s9 0 by decide +kernel]
    exact dm_age s9 0 hb (by omega)
  simp only [at_rec9, at_num, at_null, bind_some]
  rw [e1, bind_some, e2, bind_some]
  rw [show ref08_Text K t9 = some ⟨#[120, 58, 32, 115, 117, 109, 48, 10, 121, 58, 32, 114, 101, 99, 48, 10, 114, 101, 99, 48, 58, 32, 112, 114, 111, 116, 111, 32, 40, 115, 117, 109, 48, 41, 10, 115, 117, 109, 48, 58, 32, 112, 33, 40, 110, 117, 109, 41, 32, 112, 114, 111, 116, 111, 32, 40, 110, 117, 108, 108, 41, 10]⟩ by decide +kernel]
  rw [show ref08_Text K u9 = some ⟨#[120, 58, 32, 115, 117, 109, 48, 10, 115, 117, 109, 48, 58, 32, 112, 33, 40, 110, 117, 109, 41, 32, 112, 114, 111, 116, 111, 32, 40, 110, 117, 108, 108, 41, 10]⟩ by decide +kernel]
  simp only [bind_some, seq_refl, cond_true]
end Go.PL
end
section
/- Law 09: what it tells; others; turns. -/
open Go Go.PG Go.PL
set_option linter.all false
namespace Go.PL
theorem one_bd {o : Sp} (h : SmallT (false, [], [((0, 0), o)])) : Bd 40 o := by
  have := h.2.2.2 ((0, 0), o) (by simp)
  exact ⟨this.1, this.2.2, this.2.1⟩
theorem alloc_fewT {s : Sta} {x : ByteArray} {i : Int} {o : Sp} (h : BdT 40 s) (ho : Bd 40 o) : FewT (allocT s x i o) := by
  have e : FewT (false, [], []) := ⟨by simp, by simp, by simp, by simp⟩
  have e' : FewT (true, [], []) := ⟨by simp, by simp, by simp, by simp⟩
  unfold allocT
  split
  · exact e
  · split
    · split
      · split
        · exact e'
        · obtain ⟨f1, f2, f3, f4⟩ := alloc_few (i := i) h ho (by omega)
          have hle : (insB (s.2.1.map (renV i)) (x, [(4, i)])).length ≤ _ := insK_length (lt := ltS) (key := fun b : Bv => b.1) (s.2.1.map (renV i)) (x, [(4, i)])
          have hl : (s.2.1.map (renV i)).length ≤ 40 := by rw [List.length_map]; exact h.1
          refine ⟨by simp only; omega, fun b hb => ?_, f3, f4⟩
          rcases (insK_mem ordS).1 hb with rfl | ⟨g, _⟩
          · simp
          · exact f2 b g
      · exact e
    · exact e
theorem tells9 (x : Sta × (ByteArray × Int) × Sp) : law09_DemoteTells K x = some true := by
  obtain ⟨s, ⟨x, i⟩, o⟩ := x
  unfold law09_DemoteTells
  try dsimp only
  rw [ref_small8, bind_some, cond_ndec, ref_small8, bind_some, cond_ndec, fixed9, bind_some, bind_some, cond_true]
  by_cases h1 : SmallT s
  · rw [if_pos h1]
    by_cases h2 : SmallT (false, [], [((0, 0), o)])
    · have hb := small_bdT h1
      have ho := one_bd h2
      rw [if_pos h2, dm_age s i hb (by omega), bind_some, ref_age s i hb (by omega), bind_some, ref_same8 _ _ (bd_fewT (age_bd hb) (by omega)), bind_some, decide_eq_true rfl, cond_true,
        dm_alloc s x i o hb ho (by omega), bind_some, ref_alloc s x i o hb ho (by omega), bind_some, ref_same8 _ _ (alloc_fewT hb ho), bind_some, decide_eq_true rfl]
    · rw [if_neg h2]
  · rw [if_neg h1]
end Go.PL
end
section
/- Objects by what is at each place: grown old. -/
open Go Go.PG Go.PL
set_option linter.all false
namespace Go.PL
def gl (l : List Lc) (x : At) : Option Sp := (getL l x).map fun b => b.2
theorem gl_some {l : List Lc} {x : At} {o : Sp} : gl l x = some o → (x, o) ∈ l := by
  intro h
  unfold gl at h
  cases g : getL l x with
  | none => rw [g] at h; cases h
  | some b =>
    rw [g] at h
    injection h with h
    obtain ⟨h1, h2⟩ := getL_mem g
    rw [← h, ← h2]; exact h1
theorem gl_mem {l : List Lc} (h : RisesL l) {x : At} {o : Sp} (hm : (x, o) ∈ l) : gl l x = some o := by
  unfold gl
  rw [getL_of_mem h hm]; rfl
theorem gl_none {l : List Lc} {x : At} : gl l x = none ↔ ∀ b, b ∈ l → b.1 ≠ x := by
  constructor
  · intro h b hb
    unfold gl at h
    cases g : getL l x with
    | none => exact getL_none g hb
    | some b => rw [g] at h; cases h
  · intro h; unfold gl; rw [getL_no h]; rfl
theorem gl_ext {l m : List Lc} (hl : RisesL l) (hm : RisesL m) (h : ∀ x, gl l x = gl m x) : l = m :=
  up_ext (lt := ltA) (key := fun b : Lc => b.1) ordA hl hm fun b => ⟨fun hb => gl_some (x := b.1) (o := b.2) (by rw [← h]; exact gl_mem hl hb), fun hb => gl_some (x := b.1) (o := b.2) (by rw [h]; exact gl_mem hm hb)⟩
theorem gl_locR (l : List Lc) (x : At) : locR l x = match gl l x with
    | some o => (o, true)
    | none => (([], []), false) := by
  unfold locR gl
  cases getL l x <;> rfl
theorem gl_ins {l : List Lc} (h : RisesL l) (y : Lc) (x : At) : gl (insL l y) x = if x = y.1 then some y.2 else gl l x := by
  have hu := insK_up (lt := ltA) (key := fun b : Lc => b.1) ordA h y
  by_cases q : x = y.1
  · rw [if_pos q, q]
    exact gl_mem hu ((insK_mem ordA).2 (.inl rfl))
  · rw [if_neg q]
    cases g : gl l x with
    | none =>
      rw [gl_none] at g ⊢
      intro b hb
      rcases (insK_mem ordA).1 hb with rfl | ⟨h1, _⟩
      · exact fun z => q z.symm
      · exact g b h1
    | some o => exact gl_mem hu ((insK_mem ordA).2 (.inr ⟨gl_some g, q⟩))
theorem gl_base {i : Int} {l : List Lc} (h : RisesL l) (x : At) : gl (base i l) x = if x = (4, i) then none else (gl l x).map fun o => rename o i := by
  by_cases q : x = (4, i)
  · rw [if_pos q, gl_none]
    intro b hb
    obtain ⟨c, _, h2, rfl⟩ := mem_base.1 hb
    rw [q]; exact h2
  · rw [if_neg q]
    cases g : gl l x with
    | none =>
      rw [gl_none] at g
      show _ = none
      rw [gl_none]
      intro b hb
      obtain ⟨c, h1, _, rfl⟩ := mem_base.1 hb
      exact g c h1
    | some o => exact gl_mem (base_up h) (mem_base.2 ⟨(x, o), gl_some g, q, rfl⟩)
def comb (i : Int) : Option Sp → Option Sp → Option Sp
  | some o, some p => some (join (rename o i) (rename p i))
  | some o, none => some (rename o i)
  | none, q => q.map fun o => rename o i
theorem gl_age {i : Int} {l : List Lc} (h : RisesL l) (x : At) : gl (ageL i l) x = if x = (4, i) then none else if x = (5, i) then comb i (gl l (4, i)) (gl l (5, i)) else (gl l x).map fun o => rename o i := by
  have n54 : ((5 : Int), i) ≠ (4, i) := by simp
  unfold ageL oldO
  have e4 : gl l (4, i) = (getL l (4, i)).map fun b => b.2 := rfl
  have e5 : gl l (5, i) = (getL l (5, i)).map fun b => b.2 := rfl
  cases g4 : getL l (4, i) with
  | none =>
    rw [g4] at e4
    show gl (base i l) x = _
    rw [gl_base h]
    by_cases q : x = (4, i)
    · rw [if_pos q, if_pos q]
    · rw [if_neg q, if_neg q]
      by_cases q5 : x = (5, i)
      · rw [if_pos q5, e4, q5]; rfl
      · rw [if_neg q5]
  | some o =>
    rw [g4] at e4
    have n4 : ((4 : Int), i) ≠ (5, i) := by simp
    have fin : ∀ Z : Sp, comb i (gl l (4, i)) (gl l (5, i)) = some Z → gl (insL (base i l) ((5, i), Z)) x = if x = (4, i) then none else if x = (5, i) then comb i (gl l (4, i)) (gl l (5, i)) else (gl l x).map fun o => rename o i := by
      intro Z hZ
      rw [gl_ins (base_up h), gl_base h]
      by_cases q : x = (4, i)
      · rw [if_pos q, if_pos q, if_neg (by rw [q]; exact n4)]
      · rw [if_neg q, if_neg q]
        by_cases q5 : x = (5, i)
        · rw [if_pos q5, if_pos q5, hZ]
        · rw [if_neg q5, if_neg q5]
    cases g5 : getL l (5, i) with
    | none => rw [g5] at e5; exact fin _ (by rw [e4, e5]; rfl)
    | some p => rw [g5] at e5; exact fin _ (by rw [e4, e5]; rfl)
theorem renA_comm {a b : Int} (h : a ≠ b) (x : At) : renA b (renA a x) = renA a (renA b x) := by
  unfold renA
  obtain ⟨k, n⟩ := x
  simp only [Prod.mk.injEq]
  by_cases h1 : k = 4 ∧ n = a
  · obtain ⟨rfl, rfl⟩ := h1
    simp [h]
  · by_cases h2 : k = 4 ∧ n = b
    · obtain ⟨rfl, rfl⟩ := h2
      simp [Ne.symm h]
    · simp [h1, h2]
theorem ren_canon (l : List At) (i : Int) : Canon (norm (l.map (renA i))) := norm_canon _
theorem ren_comm {l : List At} (hl : Canon l) {a b : Int} (h : a ≠ b) : norm ((norm (l.map (renA a))).map (renA b)) = norm ((norm (l.map (renA b))).map (renA a)) := by
  refine canon_ext (norm_canon _) (norm_canon _) fun z => ?_
  rw [mem_ren (norm_canon _), mem_ren (norm_canon _)]
  constructor
  · rintro ⟨y, hy, rfl⟩
    obtain ⟨x, hx, rfl⟩ := (mem_ren hl).1 hy
    exact ⟨renA b x, (mem_ren hl).2 ⟨x, hx, rfl⟩, (renA_comm h x).symm⟩
  · rintro ⟨y, hy, rfl⟩
    obtain ⟨x, hx, rfl⟩ := (mem_ren hl).1 hy
    exact ⟨renA a x, (mem_ren hl).2 ⟨x, hx, rfl⟩, renA_comm h x⟩
theorem rename_comm {o : Sp} (m : MayO o) {a b : Int} (h : a ≠ b) : rename (rename o a) b = rename (rename o b) a := by
  rw [rename_eq (rename_may m a), rename_eq (rename_may m b), rename_eq m, rename_eq m]
  refine Prod.ext ?_ ?_
  · simp only [List.map_map]
    refine List.map_congr_left fun f hf => ?_
    have hc : Canon f.2.2 := canon_iff.1 (m.2.1 f hf)
    simp only [Function.comp, renF]
    rw [ren_comm hc h]
  · exact ren_comm (canon_iff.1 m.2.2) h
theorem gl_ok {l : List Lc} (h : ∀ b, b ∈ l → PlaceA b.1 ∧ MayO b.2) {x : At} {o : Sp} (g : gl l x = some o) : MayO o := (h _ (gl_some g)).2
theorem age_turn {l : List Lc} (hu : RisesL l) (h : ∀ b, b ∈ l → PlaceA b.1 ∧ MayO b.2) {a b : Int} (ne : a ≠ b) : ageL b (ageL a l) = ageL a (ageL b l) := by
  refine gl_ext (ageL_up (ageL_up hu)) (ageL_up (ageL_up hu)) fun x => ?_
  have n1 : ∀ k k' : Int, ((k, a) : At) ≠ (k', b) := fun k k' z => ne (by injection z)
  have n2 : ∀ k k' : Int, ((k, b) : At) ≠ (k', a) := fun k k' z => ne (by injection z with _ z; exact z.symm)
  have mm : ∀ (c d : Int) (ncd : c ≠ d) (y : At), ((gl l y).map fun o => rename o c).map (fun o => rename o d) = ((gl l y).map fun o => rename o d).map fun o => rename o c := fun c d ncd y => by
    cases g : gl l y with
    | none => rfl
    | some o => exact congrArg some (rename_comm (gl_ok h g) ncd)
  have cc : ∀ (c d : Int) (ncd : c ≠ d), comb d ((gl l (4, d)).map fun o => rename o c) ((gl l (5, d)).map fun o => rename o c) = (comb d (gl l (4, d)) (gl l (5, d))).map fun o => rename o c := fun c d ncd => by
    cases g4 : gl l (4, d) with
    | none =>
      have := mm c d ncd (5, d)
      show ((gl l (5, d)).map fun o => rename o c).map (fun o => rename o d) = _
      rw [this]; rfl
    | some o =>
      have mo := gl_ok h g4
      cases g5 : gl l (5, d) with
      | none => exact congrArg some (rename_comm mo ncd)
      | some p =>
        have mp := gl_ok h g5
        show some (join (rename (rename o c) d) (rename (rename p c) d)) = some (rename (join (rename o d) (rename p d)) c)
        rw [rename_join (rename_may mo d) (rename_may mp d), rename_comm mo ncd, rename_comm mp ncd]
  rw [gl_age (ageL_up hu), gl_age (ageL_up hu)]
  simp only [gl_age hu]
  rw [if_neg (n2 4 4), if_neg (n2 4 5), if_neg (n2 5 4), if_neg (n2 5 5), if_neg (n1 4 4), if_neg (n1 4 5), if_neg (n1 5 4), if_neg (n1 5 5)]
  by_cases q1 : x = (4, a)
  · subst q1
    rw [if_neg (n1 4 4), if_neg (n1 4 5), if_pos rfl, if_pos rfl]; rfl
  by_cases q2 : x = (4, b)
  · subst q2
    rw [if_pos rfl, if_neg (n2 4 4), if_neg (n2 4 5), if_pos rfl]; rfl
  by_cases q3 : x = (5, a)
  · subst q3
    rw [if_neg (n1 5 4), if_neg (n1 5 5), if_neg q1, if_pos rfl, if_neg q1, if_pos rfl]
    exact (cc b a (Ne.symm ne)).symm
  by_cases q4 : x = (5, b)
  · subst q4
    rw [if_neg q2, if_pos rfl, if_neg q1, if_neg q3, if_neg q2, if_pos rfl]
    exact cc a b ne
  rw [if_neg q2, if_neg q4, if_neg q1, if_neg q3, if_neg q1, if_neg q3, if_neg q2, if_neg q4]
  exact mm a b ne x
theorem turnT {s : Sta} (m : MayS s) {a b : Int} (ha : ¬ a < 0) (hb : ¬ b < 0) : ageT (ageT s a) b = ageT (ageT s b) a := by
  by_cases ne : a = b
  · rw [ne]
  by_cases hd : s.1 = true
  · have e : ∀ i : Int, ¬ i < 0 → ageT s i = (true, [], []) := fun i hi => by unfold ageT; rw [if_neg hi, if_pos m, if_pos hd]
    have m2 : MayS (true, [], []) := by rw [← e a ha]; exact age_may ha m
    have e2 : ∀ i : Int, ¬ i < 0 → ageT (true, [], []) i = (true, [], []) := fun i hi => by unfold ageT; rw [if_neg hi, if_pos m2, if_pos rfl]
    rw [e a ha, e b hb, e2 a ha, e2 b hb]
  · rw [ageT_ok hb (age_may ha m) (by rw [ageT_ok ha m hd]; simp), ageT_ok ha (age_may hb m) (by rw [ageT_ok hb m hd]; simp), ageT_ok ha m hd, ageT_ok hb m hd]
    refine Prod.ext rfl (Prod.ext ?_ (age_turn m.2.1.1 m.2.1.2 ne))
    simp only [List.map_map]
    refine List.map_congr_left fun v hv => ?_
    simp only [Function.comp, renV]
    rw [ren_comm (canon_iff.1 (m.1.2 v hv)) ne]
theorem turns9 (x : Sta × Int × Int) : law09_DemoteTurns K x = some true := by
  obtain ⟨s, a, b⟩ := x
  unfold law09_DemoteTurns
  try dsimp only
  rw [fixed9, bind_some, bind_some, not_true, cond_false, ref_small8, bind_some, cond_ndec]
  by_cases h1 : SmallT s
  case neg => rw [if_neg h1]
  have hb := small_bdT h1
  have hf := small_fewT h1
  rw [if_pos h1, ref_may8 s hf, bind_some, cond_ndec]
  by_cases m : MayS s
  case neg => rw [if_neg m]
  rw [if_pos m, ilt_dec, cond_dec, ilt_dec, cond_dec]
  by_cases ha : a < 0
  · rw [if_pos ha]
  by_cases hb2 : b < 0
  · rw [if_neg ha, if_pos hb2]
  rw [if_neg ha, if_neg hb2, dm_age s a hb (by omega), bind_some, dm_age _ b (age_bd hb) (by omega), bind_some, dm_age s b hb (by omega), bind_some, dm_age _ a (age_bd hb) (by omega), bind_some, ref_same8 _ _ (bd_fewT (age_bd (age_bd hb)) (by omega)), bind_some, turnT m ha hb2, decide_eq_true rfl]
end Go.PL
end
section
/- Law 09: others; whom a state speaks of. -/
open Go Go.PG Go.PL
set_option linter.all false
namespace Go.PL
def SpeakL (x : At) (l : Lc) : Prop := l.1 = x ∨ x ∈ l.2.2 ∨ ∃ f, f ∈ l.2.1 ∧ x ∈ f.2.2
instance (x : At) (l : Lc) : Decidable (SpeakL x l) := by unfold SpeakL; exact inferInstance
def Speaks (s : Sta) (x : At) : Prop := (∃ b, b ∈ s.2.1 ∧ x ∈ b.2) ∨ ∃ l, l ∈ s.2.2 ∧ SpeakL x l
instance (s : Sta) (x : At) : Decidable (Speaks s x) := by unfold Speaks; exact inferInstance
theorem not_speakL {x : At} {l : Lc} : ¬ SpeakL x l ↔ l.1 ≠ x ∧ x ∉ l.2.2 ∧ ∀ f, f ∈ l.2.1 → x ∉ f.2.2 := by
  unfold SpeakL
  constructor
  · intro h; exact ⟨fun z => h (.inl z), fun z => h (.inr (.inl z)), fun f hf z => h (.inr (.inr ⟨f, hf, z⟩))⟩
  · rintro ⟨h1, h2, h3⟩ (z | z | ⟨f, hf, z⟩)
    · exact h1 z
    · exact h2 z
    · exact h3 f hf z
theorem not_speaks {s : Sta} {x : At} : ¬ Speaks s x ↔ (∀ b, b ∈ s.2.1 → x ∉ b.2) ∧ ∀ l, l ∈ s.2.2 → ¬ SpeakL x l := by
  unfold Speaks
  constructor
  · intro h; exact ⟨fun b hb z => h (.inl ⟨b, hb, z⟩), fun l hl z => h (.inr ⟨l, hl, z⟩)⟩
  · rintro ⟨h1, h2⟩ (⟨b, hb, z⟩ | ⟨l, hl, z⟩)
    · exact h1 b hb z
    · exact h2 l hl z
theorem ref_speaks (s : Sta) (x : At) (h : FewT s) : ∃ b : Bool, law09_speaks K (s, x) = some b ∧ (b = true ↔ Speaks s x) := by
  refine ⟨decide (Speaks s x), ?_, decide_eq_true_iff⟩
  unfold law09_speaks
  try dsimp only
  obtain ⟨h1, h2, h3, h4⟩ := h
  rw [loop_all s.2.1.length (fun i => x ∉ (s.2.1.getD i dB).2) (r := true) (by omega) ?_ ?_]
  · rw [loop_all s.2.2.length (fun i => ¬ SpeakL x (s.2.2.getD i dL)) (r := true) (by omega) ?_ ?_]
    · have e1 := forall_getD (l := s.2.1) dB (p := fun b => x ∉ b.2)
      have e2 := forall_getD (l := s.2.2) dL (p := fun l => ¬ SpeakL x l)
      by_cases z1 : ∀ i, i < s.2.1.length → x ∉ (s.2.1.getD i dB).2
      · by_cases z2 : ∀ i, i < s.2.2.length → ¬ SpeakL x (s.2.2.getD i dL)
        · rw [if_pos z1, if_pos z2, decide_eq_false (not_speaks.2 ⟨e1.1 z1, e2.1 z2⟩)]
        · rw [if_pos z1, if_neg z2, decide_eq_true (Classical.byContradiction fun z => z2 (e2.2 (not_speaks.1 z).2))]
      · rw [if_neg z1, decide_eq_true (Classical.byContradiction fun z => z1 (e1.2 (not_speaks.1 z).1))]
    · intro i hi
      have hm := getD_mem hi dL
      obtain ⟨l1, l2, l3⟩ := h4 _ hm
      try dsimp only
      rw [ilt_len hi, cond_true, inb_len hi]
      simp only [cond_true, get_dL, eqA_dec]
      rw [cond_dec, wrap_succ (by omega)]
      generalize s.2.2.getD i dL = l at l1 l2 l3
      by_cases y1 : l.1 = x
      · rw [if_pos y1, if_neg (fun z => z (.inl y1))]
      · rw [if_neg y1, ref_has _ x (by omega), bind_some, cond_dec]
        by_cases y2 : x ∈ l.2.2
        · rw [if_pos y2, if_neg (fun z => z (.inr (.inl y2)))]
        · rw [if_neg y2, loop_all l.2.1.length (fun j => x ∉ (l.2.1.getD j dF).2.2) (r := .inr (.inr true)) (by omega) ?_ ?_]
          · have e3 := forall_getD (l := l.2.1) dF (p := fun f => x ∉ f.2.2)
            by_cases y3 : ∀ j, j < l.2.1.length → x ∉ (l.2.1.getD j dF).2.2
            · rw [if_pos y3, if_pos (not_speakL.2 ⟨y1, y2, e3.1 y3⟩)]
            · rw [if_neg y3, if_neg (fun z => y3 (e3.2 (not_speakL.1 z).2.2))]
          · intro j hj
            have hf := getD_mem hj dF
            have := l2 _ hf
            try dsimp only
            rw [ilt_len hj, cond_true, inb_len hj, cond_true, get_nat, ref_has _ x (Nat.le_trans this (by omega)), bind_some, cond_dec, wrap_succ (by omega)]
            by_cases y3 : x ∈ (l.2.1.getD j dF).2.2
            · rw [if_pos y3, if_neg (fun z => z y3)]
            · rw [if_neg y3, if_pos y3]
          · try dsimp only
            rw [ilt_end]; rfl
    · try dsimp only
      rw [ilt_end]; rfl
  · intro i hi
    have hm := getD_mem hi dB
    have := h2 _ hm
    try dsimp only
    rw [ilt_len hi, cond_true, inb_len hi, cond_true, get_dB, ref_has _ x (by omega), bind_some, cond_dec, wrap_succ (by omega)]
    by_cases y3 : x ∈ (s.2.1.getD i dB).2
    · rw [if_pos y3, if_neg (fun z => z y3)]
    · rw [if_neg y3, if_pos y3]
  · try dsimp only
    rw [ilt_end]; rfl
theorem renA_id {i : Int} {x : At} (h : x ≠ (4, i)) : renA i x = x := by unfold renA; rw [if_neg h]
theorem ren_id {l : List At} (hl : l = norm l) {i : Int} (h : (4, i) ∉ l) : norm (l.map (renA i)) = l := by
  have : l.map (renA i) = l := by
    conv => rhs; rw [← List.map_id l]
    exact List.map_congr_left fun x hx => renA_id fun z => h (by rw [← z]; exact hx)
  rw [this, ← hl]
theorem rename_id {o : Sp} (m : MayO o) {i : Int} (h1 : (4, i) ∉ o.2) (h2 : ∀ f, f ∈ o.1 → (4, i) ∉ f.2.2) : rename o i = o := by
  rw [rename_eq m]
  refine Prod.ext ?_ (ren_id m.2.2 h1)
  conv => rhs; rw [← List.map_id o.1]
  refine List.map_congr_left fun f hf => ?_
  unfold renF
  rw [ren_id (m.2.1 f hf) (h2 f hf)]; rfl
theorem age_id {s : Sta} (m : MayS s) {i : Int} (hi : ¬ i < 0) (h : ¬ Speaks s (4, i)) : ageT s i = s := by
  obtain ⟨h1, h2⟩ := not_speaks.1 h
  by_cases hd : s.1 = true
  · unfold ageT
    rw [if_neg hi, if_pos m, if_pos hd]
    obtain ⟨e1, e2⟩ := m.2.2 hd
    exact (Prod.ext hd (Prod.ext e1 e2)).symm
  · rw [ageT_ok hi m hd]
    have g4 : getL s.2.2 (4, i) = none := getL_no fun b hb => (not_speakL.1 (h2 b hb)).1
    refine Prod.ext (by simpa using Eq.symm (by simpa using hd : s.1 = false)) (Prod.ext ?_ ?_)
    · show s.2.1.map (renV i) = s.2.1
      conv => rhs; rw [← List.map_id s.2.1]
      refine List.map_congr_left fun b hb => ?_
      unfold renV
      rw [ren_id (m.1.2 b hb) (h1 b hb)]; rfl
    · show ageL i s.2.2 = s.2.2
      unfold ageL
      rw [g4]
      show base i s.2.2 = s.2.2
      unfold base
      rw [List.filter_eq_self.2 fun b hb => decide_eq_true (not_speakL.1 (h2 b hb)).1]
      conv => rhs; rw [← List.map_id s.2.2]
      refine List.map_congr_left fun b hb => ?_
      obtain ⟨y1, y2, y3⟩ := not_speakL.1 (h2 b hb)
      unfold renL
      rw [rename_id (m.2.1.2 b hb).2 y2 y3]; rfl
theorem others9 (x : Sta × Int) : law09_DemoteOthers K x = some true := by
  obtain ⟨s, i⟩ := x
  unfold law09_DemoteOthers
  try dsimp only
  rw [fixed9, bind_some, bind_some, not_true, cond_false, ref_small8, bind_some, cond_ndec]
  by_cases h1 : SmallT s
  case neg => rw [if_neg h1]
  have hb := small_bdT h1
  have hf := small_fewT h1
  have haf := bd_fewT (age_bd (i := i) hb) (by omega)
  rw [if_pos h1, ref_may8 s hf, bind_some, cond_ndec]
  by_cases m : MayS s
  case neg => rw [if_neg m]
  rw [if_pos m, ilt_dec, cond_dec]
  by_cases hi : i < 0
  · rw [if_pos hi]
  obtain ⟨bb, hbb, hsp⟩ := ref_speaks s (4, i) hf
  rw [if_neg hi, dm_age s i hb (by omega), bind_some, at_rec9, bind_some, hbb, bind_some]
  by_cases q : Speaks s (4, i)
  case neg =>
    have e : bb = false := by rw [Bool.eq_false_iff]; exact fun z => q (hsp.1 z)
    rw [e, not_false', cond_true, ref_same8 _ _ haf, bind_some, age_id m hi q, decide_eq_true rfl]
  rw [hsp.2 q, not_true, cond_false, loop_all s.2.2.length (fun _ => True) (r := false) (by have := h1.2.1; omega) ?_ ?_]
  · rw [if_pos (fun _ _ => trivial)]
    have e : (ageT s i).2.1.length = s.2.1.length := by
      by_cases hd : s.1 = true
      · unfold ageT; rw [if_neg hi, if_pos m, if_pos hd, (m.2.2 hd).1]
      · rw [ageT_ok hi m hd]; simp
    rw [len_eq, len_eq, e, ieq_eq, decide_eq_true rfl]
  · intro j hj
    have hm := getD_mem hj dL
    have hd : ¬ s.1 = true := fun z => by rw [(m.2.2 z).2] at hj; simp at hj
    have hlen := h1.2.1
    try dsimp only
    rw [ilt_len hj, cond_true, inb_len hj, cond_true, get_dL, ref_loc _ _ (by have := haf.2.2.1; omega), bind_some, cond_true, wrap_succ (by omega)]
    by_cases qn : (s.2.2.getD j dL).1.2 = i
    · rw [show P.ieq (s.2.2.getD j dL).1.2 i = true from ieq_iff.2 qn, not_true, cond_false, if_pos trivial]
    · have e : locR (ageT s i).2.2 (s.2.2.getD j dL).1 = (rename (s.2.2.getD j dL).2 i, true) := by
        rw [ageT_ok hi m hd, gl_locR, gl_age m.2.1.1, if_neg (fun z => qn (by rw [z])), if_neg (fun z => qn (by rw [z])), gl_mem m.2.1.1 (show ((s.2.2.getD j dL).1, (s.2.2.getD j dL).2) ∈ s.2.2 from hm)]
        rfl
      have hbd := hb.2.2.2 _ hm
      rw [show P.ieq (s.2.2.getD j dL).1.2 i = false from by rw [Bool.eq_false_iff, Ne, ieq_iff]; exact qn, not_false', cond_true, e, not_true, cond_false, ref_rename7 _ i (bd_few hbd (by omega)), bind_some, ref_same7 _ _ (bd_few (rename_bd hbd i) (by omega)), bind_some, decide_eq_true rfl, not_true, cond_false, if_pos trivial]
  · try dsimp only
    rw [ilt_end]; rfl
end Go.PL
end
section
/- Law 09: what is forgotten. -/
open Go Go.PG Go.PL
set_option linter.all false
namespace Go.PL
theorem lt_bytes9 {l : Nat} (h : l * BAtom TAtom ≤ reachBytes) : l ≤ 8796093022000 := by
  have e : BAtom TAtom = 16 := rfl
  rw [e] at h
  unfold reachBytes at h
  omega
theorem ref_may7B (s : Sp) (h1 : s.1.length < 9223372036854775808) (h2 : ∀ f, f ∈ s.1 → f.2.2.length ≤ 8796093022000) (h3 : s.2.length ≤ 8796093022000) : ref07_May K s = some (decide (MayO s)) := by
  unfold ref07_May
  try dsimp only
  rw [iter_all (n := s.1.length) (e := .inl ()) (r := .inr false) (fun i => StepO s.1 i) K ?_ ?_ (by unfold K; omega)]
  · rw [bind_some]
    by_cases q : ∀ i, i < s.1.length → StepO s.1 i
    · rw [if_pos q, either_inl, ref_may _ (by omega), bind_some]
      congr 1
      rw [Bool.eq_iff_iff, decide_eq_true_eq, decide_eq_true_eq]
      have := steps_iff.1 q
      exact ⟨fun z => ⟨this.1, this.2, z⟩, fun z => z.2.2⟩
    · rw [if_neg q, either_inr, decide_eq_false fun z => q (steps_iff.2 ⟨z.1, z.2.1⟩)]
  · intro i hi
    try dsimp only
    rw [show P.ilt (i : Int) (P.len s.1) = true from ilt_iff.2 (by rw [len_eq]; omega), cond_true, show P.inb (i : Int) (P.len s.1) = true from inb_iff.2 (by rw [len_eq]; omega), cond_true, get_nat, ref_may (s.1.getD i dF).2.2 (by have := h2 _ (mem_getD hi); omega), bind_some, wrap_succ (by omega)]
    by_cases q : (s.1.getD i dF).2.2 = norm (s.1.getD i dF).2.2
    · rw [decide_eq_true q, show P.not true = false from rfl, cond_false]
      by_cases h0 : 0 < i
      · rw [show P.ilt ((0 : Int)) (i : Int) = true from ilt_iff.2 (by omega), cond_true, wrap_pred h0 (by omega), show P.inb ((i - 1 : Nat) : Int) (P.len s.1) = true from inb_iff.2 (by rw [len_eq]; omega), cond_true, cond_true, get_nat]
        by_cases z : ltS (s.1.getD (i - 1) dF).1 (s.1.getD i dF).1
        · rw [show P.slt (s.1.getD (i - 1) dF).1 (s.1.getD i dF).1 = true from slt_iff.2 z, if_pos (show StepO s.1 i from ⟨q, fun _ => z⟩)]; rfl
        · rw [show P.slt (s.1.getD (i - 1) dF).1 (s.1.getD i dF).1 = false from by rw [Bool.eq_false_iff]; exact fun y => z (slt_iff.1 y), if_neg (show ¬ StepO s.1 i from fun y => z (y.2 h0))]; rfl
      · rw [show P.ilt ((0 : Int)) (i : Int) = false from by rw [Bool.eq_false_iff, Ne, ilt_iff]; omega, cond_false, if_pos (show StepO s.1 i from ⟨q, fun z => absurd z h0⟩)]
    · rw [decide_eq_false q, show P.not false = true from rfl, cond_true, if_neg (show ¬ StepO s.1 i from fun z => q z.1)]
  · try dsimp only
    rw [show P.ilt (s.1.length : Int) (P.len s.1) = false from by rw [Bool.eq_false_iff, Ne, ilt_iff, len_eq]; omega]; rfl
/-- Nothing in it is a site's newest object. -/
def Clean (i : Int) (o : Sp) : Prop := (4, i) ∉ o.2 ∧ ∀ n, (4, i) ∉ va o.1 n
theorem ren_clean (l : List At) (i : Int) : (4, i) ∉ norm (l.map (renA i)) := fun h => by
  obtain ⟨x, _, e⟩ := List.mem_map.1 (mem_norm.1 h).1
  unfold renA at e
  split at e
  · simp at e
  · rename_i q; exact q e
theorem rename_clean {o : Sp} (m : MayO o) (i : Int) : Clean i (rename o i) := by
  rw [rename_eq m]
  refine ⟨ren_clean _ _, fun n => ?_⟩
  rw [(ren_view o.1 i n).2.2]
  exact ren_clean _ _
theorem join_clean {a b : Sp} (ha : MayO a) (hb : MayO b) {i : Int} (h1 : Clean i a) (h2 : Clean i b) : Clean i (join a b) := by
  rw [join_eq ha hb]
  refine ⟨fun h => ?_, fun n h => ?_⟩
  · rcases List.mem_append.1 (mem_norm.1 h).1 with z | z
    · exact h1.1 z
    · exact h2.1 z
  · rw [(join_view a.1 b.1 n).2.2] at h
    rcases List.mem_append.1 (mem_norm.1 h).1 with z | z
    · exact h1.2 n z
    · exact h2.2 n z
theorem clean_fields {o : Sp} (m : MayO o) {i : Int} (h : Clean i o) : ∀ f, f ∈ o.1 → (4, i) ∉ f.2.2 := fun f hf => by
  have := h.2 f.1
  unfold va at this
  rw [view_mem m.1 hf] at this
  exact this
theorem age_clean {i : Int} {l : List Lc} (h : ∀ b, b ∈ l → PlaceA b.1 ∧ MayO b.2) : ∀ b, b ∈ ageL i l → b.1 ≠ (4, i) ∧ Clean i b.2 := fun x hx => by
  have hb : ∀ b, b ∈ base i l → b.1 ≠ (4, i) ∧ Clean i b.2 := fun x hx => by
    obtain ⟨b, h1, h2, rfl⟩ := mem_base.1 hx
    exact ⟨h2, rename_clean (h b h1).2 i⟩
  unfold ageL at hx
  split at hx
  · exact hb x hx
  · rename_i o ho
    rcases (insK_mem ordA).1 hx with rfl | ⟨h1, _⟩
    · refine ⟨by simp, ?_⟩
      have mo := (h o (getL_mem ho).1).2
      unfold oldO
      split
      · rename_i p hp
        have mp := (h p (getL_mem hp).1).2
        exact join_clean (rename_may mo i) (rename_may mp i) (rename_clean mo i) (rename_clean mp i)
      · exact rename_clean mo i
    · exact hb x h1
theorem age_quiet {s : Sta} {i : Int} (hi : ¬ i < 0) (m : MayS s) (hd : ¬ s.1 = true) : ¬ Speaks (ageT s i) (4, i) := by
  have hm := age_may hi m
  rw [ageT_ok hi m hd] at hm ⊢
  refine not_speaks.2 ⟨fun b hb => ?_, fun l hl => ?_⟩
  · obtain ⟨c, _, rfl⟩ := List.mem_map.1 hb
    exact ren_clean _ _
  · obtain ⟨h1, h2⟩ := age_clean m.2.1.2 l hl
    exact not_speakL.2 ⟨h1, h2.1, clean_fields (hm.2.1.2 l hl).2 h2⟩
theorem forgets9 (x : Sta × (ByteArray × Int) × Sp) (h1 : x.2.2.1.length < 9223372036854775808) (h2 : ∀ f, f ∈ x.2.2.1 → f.2.2.length ≤ 8796093022000) (h3 : x.2.2.2.length ≤ 8796093022000) : law09_DemoteForgets K x = some true := by
  obtain ⟨s, ⟨nm, i⟩, o⟩ := x
  unfold law09_DemoteForgets
  try dsimp only
  rw [fixed9, bind_some, bind_some, not_true, cond_false, ref_small8, bind_some, cond_ndec]
  by_cases z1 : SmallT s
  case neg => rw [if_neg z1]
  have hb := small_bdT z1
  have hf := small_fewT z1
  rw [if_pos z1, ref_may8 s hf, bind_some, cond_ndec]
  by_cases m : MayS s
  case neg => rw [if_neg m]
  rw [if_pos m, ref_may7B o h1 h2 h3, bind_some, cond_ndec]
  by_cases mo : MayO o
  case neg => rw [if_neg mo]
  rw [if_pos mo, ilt_dec, cond_dec]
  by_cases hi : i < 0
  · rw [if_pos hi]
  rw [if_neg hi]
  by_cases hd : s.1 = true
  · rw [cond_of hd]
  rw [cond_of' hd, ref_small8, bind_some, cond_ndec]
  by_cases z2 : SmallT (false, [], [((0, 0), o)])
  case neg => rw [if_neg z2]
  have ho := one_bd z2
  have hab := age_bd (i := i) hb
  have haf := bd_fewT hab (by omega)
  have ham := age_may hi m
  have hq := age_quiet hi m hd
  obtain ⟨bb, hbb, hsp⟩ := ref_speaks (ageT s i) (4, i) haf
  have ebb : bb = false := by rw [Bool.eq_false_iff]; exact fun z => hq (hsp.1 z)
  rw [if_pos z2, dm_age s i hb (by omega), bind_some, at_rec9, bind_some, hbb, bind_some, ebb, cond_false, dm_age _ i hab (by omega), bind_some, age_id ham hi hq, ref_same8 _ _ haf, bind_some, decide_eq_true rfl, not_true, cond_false, ref_may8 _ haf, bind_some, decide_eq_true ham, not_true, cond_false,
    dm_alloc s nm i o hb ho (by omega), bind_some]
  have hgf := alloc_fewT (x := nm) (i := i) hb ho
  obtain ⟨a1, a2, a3⟩ := alloc_mid hi m mo hd
  have eal : allocT s nm i o = (false, insB (s.2.1.map (renV i)) (nm, [(4, i)]), insL (ageL i s.2.2) ((4, i), rename o i)) := by
    unfold allocT; rw [if_neg hi, if_pos m, if_pos mo, if_neg hd]
  have hV := renV_ok (i := i) m.1.1
  have hmay : MayS (allocT s nm i o) := by
    rw [eal]
    refine mayS_mk ⟨insK_up ordS hV.1 _, fun b hb => ?_⟩ a2.2.1
    rcases (insK_mem ordS).1 hb with rfl | ⟨g, _⟩
    · exact (norm_rec hi).symm
    · exact hV.2 b g
  have hvars : ∀ b, b ∈ (allocT s nm i o).2.1 → ((4, i) ∈ b.2 ↔ b.1 = nm) := by
    rw [eal]
    intro b hb
    rcases (insK_mem ordS).1 hb with rfl | ⟨g, g2⟩
    · simp
    · obtain ⟨c, _, rfl⟩ := List.mem_map.1 g
      exact ⟨fun z => absurd z (ren_clean _ _), fun z => absurd z g2⟩
  have hlocs : ∀ l, l ∈ (allocT s nm i o).2.2 → Clean i l.2 ∧ MayO l.2 := by
    intro l hl
    refine ⟨?_, (hmay.2.1.2 l hl).2⟩
    rw [eal] at hl
    rcases (insK_mem ordA).1 hl with rfl | ⟨g, _⟩
    · exact rename_clean mo i
    · exact (age_clean m.2.1.2 l g).2
  have hloc : locR (allocT s nm i o).2.2 (4, i) = (rename o i, true) := by
    rw [eal, gl_locR, gl_ins (ageL_up m.2.1.1), if_pos rfl]
  have hvar : var (allocT s nm i o).2.1 nm = [(4, i)] := by
    have hm2 : (nm, [(4, i)]) ∈ (allocT s nm i o).2.1 := by rw [eal]; exact (insK_mem ordS).2 (.inl rfl)
    exact var_of_mem hmay.1.1 hm2
  generalize allocT s nm i o = b at hgf hmay hvars hlocs hloc hvar
  obtain ⟨f1, f2, f3, f4⟩ := hgf
  rw [loop_all b.2.1.length (fun _ => True) (r := false) (by omega) ?_ ?_]
  · rw [if_pos (fun _ _ => trivial), loop_all b.2.2.length (fun _ => True) (r := false) (by omega) ?_ ?_]
    · rw [if_pos (fun _ _ => trivial), bind_some, ref_loc b _ (by omega), bind_some, ref_may8 b ⟨f1, f2, f3, f4⟩, bind_some, decide_eq_true hmay, cond_true, hloc, cond_true, ref_rename7 o i (bd_few ho (by omega)), bind_some, ref_same7 _ _ (bd_few (rename_bd ho i) (by omega)), bind_some, decide_eq_true rfl, cond_true,
        ref_var b nm (by omega), bind_some, hvar, bind_some, ref_same _ _ (by simp), bind_some, decide_eq_true rfl]
    · intro j hj
      have hm := getD_mem hj dL
      obtain ⟨l1, l2, l3⟩ := f4 _ hm
      obtain ⟨c1, c2⟩ := hlocs _ hm
      have hcf := clean_fields c2 c1
      try dsimp only
      rw [ilt_len hj, cond_true, inb_len hj, cond_true, bind_some]
      simp only [get_dL]
      rw [wrap_succ (by omega)]
      generalize b.2.2.getD j dL = l at l1 l2 l3 c1 c2 hcf
      rw [ref_has _ _ (by omega), bind_some, decide_eq_false c1.1, cond_false, loop_all l.2.1.length (fun _ => True) (r := .inr (.inr false)) (by omega) ?_ ?_]
      · rw [if_pos (fun _ _ => trivial), if_pos trivial]
      · intro k hk
        have hfm := getD_mem hk dF
        have hbnd := l2 _ hfm
        have hno := hcf _ hfm
        try dsimp only
        rw [ilt_len hk, cond_true, inb_len hk, cond_true, bind_some, show P.get l.2.1 (k : Int) ((ByteArray.mk #[]), false, []) = l.2.1.getD k dF from get_nat _ _ _, ref_has _ _ (Nat.le_trans hbnd (by omega)), bind_some, decide_eq_false hno, cond_false, wrap_succ (by omega), if_pos trivial]
      · try dsimp only
        rw [ilt_end]; rfl
    · try dsimp only
      rw [ilt_end]; rfl
  · intro j hj
    have hm := getD_mem hj dB
    have hbnd := f2 _ hm
    have hv := hvars _ hm
    try dsimp only
    rw [ilt_len hj, cond_true, inb_len hj, cond_true, bind_some, get_dB, ref_has _ _ (by omega), bind_some, cond_true, seq_dec, wrap_succ (by omega), show P.beq (decide ((4, i) ∈ (b.2.1.getD j dB).2)) (decide ((b.2.1.getD j dB).1 = nm)) = true from beq_iff.2 (decide_eq_decide.2 hv), not_true, cond_false, if_pos trivial]
  · try dsimp only
    rw [ilt_end]; rfl
end Go.PL
end
section
/- States joined, as the document does it. -/
open Go Go.PG Go.PL
set_option linter.all false
namespace Go.PL
def gv (l : List Bv) (n : ByteArray) : Option (List At) := (getV l n).map fun b => b.2
theorem var_gv (l : List Bv) (n : ByteArray) : var l n = (gv l n).getD [(0, 0)] := by
  unfold var gv
  cases getV l n <;> rfl
theorem gv_some {l : List Bv} {n : ByteArray} {v : List At} (h : gv l n = some v) : (n, v) ∈ l := by
  unfold gv at h
  cases g : getV l n with
  | none => rw [g] at h; cases h
  | some b =>
    rw [g] at h
    injection h with h
    obtain ⟨h1, h2⟩ := getV_mem g
    rw [← h, ← h2]; exact h1
theorem gv_mem {l : List Bv} (h : RisesB l) {n : ByteArray} {v : List At} (hm : (n, v) ∈ l) : gv l n = some v := by
  unfold gv
  rw [getV_of_mem h hm]; rfl
theorem gv_none {l : List Bv} {n : ByteArray} : gv l n = none ↔ ∀ b, b ∈ l → b.1 ≠ n := by
  constructor
  · intro h b hb
    unfold gv at h
    cases g : getV l n with
    | none => exact getV_none g hb
    | some b => rw [g] at h; cases h
  · intro h
    unfold gv getV
    rw [List.find?_eq_none.2 fun b hb q => h b hb (of_decide_eq_true q)]; rfl
theorem gv_ext {l m : List Bv} (hl : RisesB l) (hm : RisesB m) (h : ∀ n, gv l n = gv m n) : l = m :=
  up_ext (lt := ltS) (key := fun b : Bv => b.1) ordS hl hm fun b => ⟨fun hb => gv_some (n := b.1) (v := b.2) (by rw [← h]; exact gv_mem hl hb), fun hb => gv_some (n := b.1) (v := b.2) (by rw [h]; exact gv_mem hm hb)⟩
theorem gv_ins {l : List Bv} (h : RisesB l) (y : Bv) (n : ByteArray) : gv (insB l y) n = if n = y.1 then some y.2 else gv l n := by
  have hu := insK_up (lt := ltS) (key := fun b : Bv => b.1) ordS h y
  by_cases q : n = y.1
  · rw [if_pos q, q]
    exact gv_mem hu ((insK_mem ordS).2 (.inl rfl))
  · rw [if_neg q]
    cases g : gv l n with
    | none =>
      rw [gv_none] at g ⊢
      intro b hb
      rcases (insK_mem ordS).1 hb with rfl | ⟨h1, _⟩
      · exact fun z => q z.symm
      · exact g b h1
    | some o => exact gv_mem hu ((insK_mem ordS).2 (.inr ⟨gv_some g, q⟩))
/-- Both's values of a name. -/
def both (a b : List Bv) (n : ByteArray) : List At := norm (var a n ++ var b n)
def setJ (a b : List Bv) (V l : List Bv) : List Bv := l.foldl (fun V v => insB V (v.1, both a b v.1)) V
theorem setJ_spec (a b : List Bv) : ∀ (l V : List Bv), RisesB V → RisesB (setJ a b V l) ∧ ∀ n, gv (setJ a b V l) n = if ∃ v, v ∈ l ∧ v.1 = n then some (both a b n) else gv V n := by
  intro l
  induction l with
  | nil => intro V h; exact ⟨h, fun n => by rw [if_neg (by simp)]; rfl⟩
  | cons y l ih =>
    intro V h
    obtain ⟨h1, h2⟩ := ih (insB V (y.1, both a b y.1)) (insK_up ordS h _)
    refine ⟨h1, fun n => ?_⟩
    show gv (setJ a b (insB V (y.1, both a b y.1)) l) n = _
    rw [h2, gv_ins h]
    by_cases q : ∃ v, v ∈ l ∧ v.1 = n
    · rw [if_pos q, if_pos (by obtain ⟨v, g1, g2⟩ := q; exact ⟨v, List.mem_cons_of_mem _ g1, g2⟩)]
    · rw [if_neg q]
      by_cases e : n = y.1
      · rw [if_pos e, if_pos ⟨y, by simp, e.symm⟩, e]
      · rw [if_neg e, if_neg]
        rintro ⟨v, g1, g2⟩
        rcases List.mem_cons.1 g1 with rfl | g1
        · exact e g2.symm
        · exact q ⟨v, g1, g2⟩
def oneJ (a : List Lc) (y : Lc) : Lc := (y.1, match gl a y.1 with
  | some o => join o y.2
  | none => y.2)
def putJ (a : List Lc) (L l : List Lc) : List Lc := l.foldl (fun L y => insL L (oneJ a y)) L
theorem putJ_up (a : List Lc) : ∀ (l L : List Lc), RisesL L → RisesL (putJ a L l) := by
  intro l
  induction l with
  | nil => intro L h; exact h
  | cons y l ih => intro L h; exact ih _ (insK_up ordA h _)
theorem putJ_spec (a : List Lc) : ∀ (l L : List Lc), RisesL L → RisesL l → ∀ x, gl (putJ a L l) x = match gl l x with
    | some o => some (oneJ a (x, o)).2
    | none => gl L x := by
  intro l
  induction l with
  | nil => intro L _ _ x; rfl
  | cons y l ih =>
    intro L h hl x
    obtain ⟨p1, p2⟩ := List.pairwise_cons.1 hl
    show gl (putJ a (insL L (oneJ a y)) l) x = _
    rw [ih _ (insK_up ordA h _) p2, gl_ins h]
    by_cases e : x = y.1
    · have g1 : gl l x = none := gl_none.2 fun b hb z => by
        have := p1 b hb
        rw [z, e] at this
        exact ltA_irrefl _ this
      have g2 : gl (y :: l) x = some y.2 := by rw [e]; exact gl_mem hl (by simp)
      rw [g1, g2]
      show (if x = y.1 then some (oneJ a y).2 else gl L x) = some (oneJ a (x, y.2)).2
      rw [if_pos e, e]
    · have g3 : gl (y :: l) x = gl l x := by
        unfold gl getL
        rw [List.find?_cons, decide_eq_false (fun z => e z.symm)]
      rw [g3]
      cases gl l x with
      | none => exact if_neg e
      | some o => rfl
def joinT (a b : Sta) : Sta := if MayS a then (if MayS b then (if a.1 = true then b else if b.1 = true then a else (false, setJ a.2.1 b.2.1 (setJ a.2.1 b.2.1 a.2.1 a.2.1) b.2.1, putJ a.2.2 a.2.2 b.2.2)) else (false, [], [])) else (false, [], [])
theorem setJ_app (a b V l : List Bv) (y : Bv) : setJ a b V (l ++ [y]) = insB (setJ a b V l) (y.1, both a b y.1) := by
  unfold setJ; rw [List.foldl_append]; rfl
theorem putJ_app (a L l : List Lc) (y : Lc) : putJ a L (l ++ [y]) = insL (putJ a L l) (oneJ a y) := by
  unfold putJ; rw [List.foldl_append]; rfl
end Go.PL
end
section
/- States joined: the document's function. -/
open Go Go.PG Go.PL
set_option linter.all false
namespace Go.PL
theorem insK_len1 {α κ : Type} {lt : κ → κ → Prop} [DecidableRel lt] {key : α → κ} (O : Ord lt) (l : List α) (x : α) : (insK lt key l x).length ≤ l.length + 1 := by
  have h : ∀ l : List α, (l.filter fun a => decide (lt (key a) (key x))).length + (l.filter fun a => decide (lt (key x) (key a))).length ≤ l.length := by
    intro l
    induction l with
    | nil => simp
    | cons a l ih =>
      by_cases h1 : lt (key a) (key x)
      · have h2 : ¬ lt (key x) (key a) := fun z => O.irr _ (O.tr h1 z)
        rw [List.filter_cons_of_pos (by simpa using h1), List.filter_cons_of_neg (by simpa using h2)]
        simp only [List.length_cons]; omega
      · by_cases h2 : lt (key x) (key a)
        · rw [List.filter_cons_of_neg (by simpa using h1), List.filter_cons_of_pos (by simpa using h2)]
          simp only [List.length_cons]; omega
        · rw [List.filter_cons_of_neg (by simpa using h1), List.filter_cons_of_neg (by simpa using h2)]
          simp only [List.length_cons]; omega
  have := h l
  unfold insK
  simp only [List.length_append, List.length_cons]
  omega
theorem setJ_len (a b : List Bv) : ∀ (l V : List Bv), (setJ a b V l).length ≤ V.length + l.length := by
  intro l
  induction l with
  | nil => intro V; exact Nat.le_refl _
  | cons y l ih =>
    intro V
    have h1 := ih (insB V (y.1, both a b y.1))
    have h2 : (insB V (y.1, both a b y.1)).length ≤ V.length + 1 := insK_len1 ordS V _
    show (setJ a b (insB V (y.1, both a b y.1)) l).length ≤ _
    simp only [List.length_cons]
    omega
theorem putJ_len (a : List Lc) : ∀ (l L : List Lc), (putJ a L l).length ≤ L.length + l.length := by
  intro l
  induction l with
  | nil => intro V; exact Nat.le_refl _
  | cons y l ih =>
    intro L
    have h1 := ih (insL L (oneJ a y))
    have h2 : (insL L (oneJ a y)).length ≤ L.length + 1 := insK_len1 ordA L _
    show (putJ a (insL L (oneJ a y)) l).length ≤ _
    simp only [List.length_cons]
    omega
theorem setJ_mem (a b : List Bv) : ∀ (l V : List Bv) (v : Bv), v ∈ setJ a b V l → v ∈ V ∨ v.2 = both a b v.1 := by
  intro l
  induction l with
  | nil => intro V v h; exact .inl h
  | cons y l ih =>
    intro V v h
    rcases ih _ v h with h | h
    · rcases (insK_mem ordS).1 h with rfl | ⟨h, _⟩
      · exact .inr rfl
      · exact .inl h
    · exact .inr h
theorem putJ_mem (a : List Lc) : ∀ (l L : List Lc) (v : Lc), v ∈ putJ a L l → v ∈ L ∨ ∃ y, y ∈ l ∧ v = oneJ a y := by
  intro l
  induction l with
  | nil => intro L v h; exact .inl h
  | cons y l ih =>
    intro L v h
    rcases ih _ v h with h | ⟨z, h1, h2⟩
    · rcases (insK_mem ordA).1 h with rfl | ⟨h, _⟩
      · exact .inr ⟨y, by simp, rfl⟩
      · exact .inl h
    · exact .inr ⟨z, List.mem_cons_of_mem _ h1, h2⟩
theorem var_bd {l : List Bv} {k : Nat} (h : ∀ b, b ∈ l → b.2.length ≤ k) (n : ByteArray) : (var l n).length ≤ k + 1 := by
  unfold var
  split
  · rename_i b hb
    have := h b (getV_mem hb).1
    omega
  · simp
theorem both_len {a b : List Bv} {k : Nat} (ha : ∀ v, v ∈ a → v.2.length ≤ k) (hb : ∀ v, v ∈ b → v.2.length ≤ k) (n : ByteArray) : (both a b n).length ≤ k + k + 2 := by
  have h1 := var_bd ha n
  have h2 := var_bd hb n
  have h3 := norm_length (var a n ++ var b n)
  rw [List.length_append] at h3
  unfold both
  omega
theorem oneJ_ok {a : List Lc} (ha : ∀ l, l ∈ a → PlaceA l.1 ∧ MayO l.2) {y : Lc} (hy : PlaceA y.1 ∧ MayO y.2) : PlaceA (oneJ a y).1 ∧ MayO (oneJ a y).2 := by
  refine ⟨hy.1, ?_⟩
  unfold oneJ
  cases g : gl a y.1 with
  | none => exact hy.2
  | some o => exact join_may (gl_ok ha g) hy.2
theorem bd_up {s : Sp} {k j : Nat} (h : Bd k s) (hk : k ≤ j) : Bd j s := ⟨Nat.le_trans h.1 hk, fun f hf => Nat.le_trans (h.2.1 f hf) hk, Nat.le_trans h.2.2 hk⟩
theorem oneJ_bd {a : List Lc} {k : Nat} (ha : ∀ l, l ∈ a → Bd k l.2) {y : Lc} (hy : Bd k y.2) : Bd (k + k) (oneJ a y).2 := by
  unfold oneJ
  cases g : gl a y.1 with
  | none => exact bd_up hy (by omega)
  | some o => exact join_bd (ha _ (gl_some g)) hy
theorem join_bdT {a b : Sta} {k : Nat} (ha : BdT k a) (hb : BdT k b) : BdT (k + k + k + 2) (joinT a b) := by
  have e : BdT (k + k + k + 2) (false, [], []) := ⟨by simp, by simp, by simp, by simp⟩
  have up : ∀ {s : Sta}, BdT k s → BdT (k + k + k + 2) s := fun h => ⟨by have := h.1; omega, fun b hb => by have := h.2.1 b hb; omega, by have := h.2.2.1; omega, fun l hl => bd_up (h.2.2.2 l hl) (by omega)⟩
  unfold joinT
  split
  · split
    · split
      · exact up hb
      · split
        · exact up ha
        · refine ⟨?_, fun v hv => ?_, ?_, fun l hl => ?_⟩
          · have h1 := setJ_len a.2.1 b.2.1 b.2.1 (setJ a.2.1 b.2.1 a.2.1 a.2.1)
            have h2 := setJ_len a.2.1 b.2.1 a.2.1 a.2.1
            have := ha.1; have := hb.1
            show (setJ a.2.1 b.2.1 (setJ a.2.1 b.2.1 a.2.1 a.2.1) b.2.1).length ≤ _
            omega
          · have hbl := both_len ha.2.1 hb.2.1 v.1
            rcases setJ_mem _ _ _ _ v hv with h | h
            · rcases setJ_mem _ _ _ _ v h with h | h
              · have := ha.2.1 v h; omega
              · rw [h]; omega
            · rw [h]; omega
          · have h1 := putJ_len a.2.2 b.2.2 a.2.2
            have := ha.2.2.1; have := hb.2.2.1
            show (putJ a.2.2 a.2.2 b.2.2).length ≤ _
            omega
          · rcases putJ_mem _ _ _ l hl with h | ⟨y, h1, rfl⟩
            · exact bd_up (ha.2.2.2 l h) (by omega)
            · exact bd_up (oneJ_bd ha.2.2.2 (hb.2.2.2 y h1)) (by omega)
    · exact e
  · exact e
end Go.PL
end
section
/- States joined: the function; by what is at each name and place. -/
open Go Go.PG Go.PL
set_option linter.all false
namespace Go.PL
theorem setJ_ok {a b V l : List Bv} (h : RisesB V ∧ ∀ v, v ∈ V → v.2 = norm v.2) : RisesB (setJ a b V l) ∧ ∀ v, v ∈ setJ a b V l → v.2 = norm v.2 := by
  refine ⟨(setJ_spec a b l V h.1).1, fun v hv => ?_⟩
  rcases setJ_mem a b l V v hv with q | q
  · exact h.2 v q
  · rw [q]; exact (norm_norm _).symm
theorem putJ_ok {a L l : List Lc} (h : RisesL L ∧ ∀ v, v ∈ L → PlaceA v.1 ∧ MayO v.2) (ha : ∀ v, v ∈ a → PlaceA v.1 ∧ MayO v.2) (hl : ∀ v, v ∈ l → PlaceA v.1 ∧ MayO v.2) : RisesL (putJ a L l) ∧ ∀ v, v ∈ putJ a L l → PlaceA v.1 ∧ MayO v.2 := by
  refine ⟨putJ_up a l L h.1, fun v hv => ?_⟩
  rcases putJ_mem a l L v hv with q | ⟨y, q, rfl⟩
  · exact h.2 v q
  · exact oneJ_ok ha (hl y q)
theorem joinT_ok {a b : Sta} (ma : MayS a) (mb : MayS b) (ha : ¬ a.1 = true) (hb : ¬ b.1 = true) : joinT a b = (false, setJ a.2.1 b.2.1 (setJ a.2.1 b.2.1 a.2.1 a.2.1) b.2.1, putJ a.2.2 a.2.2 b.2.2) := by
  unfold joinT; rw [if_pos ma, if_pos mb, if_neg ha, if_neg hb]
theorem joinT_may {a b : Sta} (ma : MayS a) (mb : MayS b) : MayS (joinT a b) := by
  by_cases ha : a.1 = true
  · unfold joinT; rw [if_pos ma, if_pos mb, if_pos ha]; exact mb
  by_cases hb : b.1 = true
  · unfold joinT; rw [if_pos ma, if_pos mb, if_neg ha, if_pos hb]; exact ma
  rw [joinT_ok ma mb ha hb]
  exact mayS_mk (setJ_ok (setJ_ok ma.1)) (putJ_ok ma.2.1 ma.2.1.2 mb.2.1.2)
theorem few_mk {V : List Bv} {L : List Lc} {k : Nat} (hk : k ≤ 100000) (h1 : V.length ≤ k) (h2 : ∀ b, b ∈ V → b.2.length ≤ k) (h3 : L.length ≤ k) (h4 : ∀ l, l ∈ L → Bd k l.2) : FewT (false, V, L) :=
  ⟨by simp only; omega, fun b hb => by have := h2 b hb; omega, by simp only; omega, fun l hl => bd_few (h4 l hl) hk⟩
theorem ref_join8 (a b : Sta) {k : Nat} (ha : BdT k a) (hb : BdT k b) (hk : k ≤ 1000) : ref08_Join K (a, b) = some (joinT a b) := by
  have haf := bd_fewT ha (by omega)
  have hbf := bd_fewT hb (by omega)
  unfold ref08_Join
  try dsimp only
  rw [ref_may8 a haf, bind_some, cond_ndec, ref_may8 b hbf, bind_some, cond_ndec]
  by_cases ma : MayS a
  case neg => rw [if_neg ma]; unfold joinT; rw [if_neg ma]
  by_cases mb : MayS b
  case neg => rw [if_pos ma, if_neg mb]; unfold joinT; rw [if_pos ma, if_neg mb]
  rw [if_pos ma, if_pos mb]
  by_cases da : a.1 = true
  · rw [cond_of da]; unfold joinT; rw [if_pos ma, if_pos mb, if_pos da]
  by_cases db : b.1 = true
  · rw [cond_of' da, cond_of db]; unfold joinT; rw [if_pos ma, if_pos mb, if_neg da, if_pos db]
  rw [cond_of' da, cond_of' db, joinT_ok ma mb da db]
  have da' : a.1 = false := by simpa using da
  obtain ⟨a1, a2, a3, a4⟩ := ha
  obtain ⟨b1, b2, b3, b4⟩ := hb
  have bl := both_len a2 b2
  have mA : RisesB a.2.1 ∧ ∀ v, v ∈ a.2.1 → v.2 = norm v.2 := ma.1
  have sv1 : ∀ l v, v ∈ setJ a.2.1 b.2.1 a.2.1 l → v.2.length ≤ 4 * k + 2 := fun l v hv => by
    rcases setJ_mem _ _ _ _ v hv with q | q
    · have := a2 v q; omega
    · rw [q]; have := bl v.1; omega
  have sv2 : ∀ l v, v ∈ setJ a.2.1 b.2.1 (setJ a.2.1 b.2.1 a.2.1 a.2.1) l → v.2.length ≤ 4 * k + 2 := fun l v hv => by
    rcases setJ_mem _ _ _ _ v hv with q | q
    · exact sv1 _ v q
    · rw [q]; have := bl v.1; omega
  have uni : ∀ n, ref06_Union K (var a.2.1 n, var b.2.1 n) = some (both a.2.1 b.2.1 n) := fun n => ref_union _ _ (by have := var_bd a2 n; have := var_bd b2 n; omega)
  rw [loop_st a.2.1.length (fun j => (false, setJ a.2.1 b.2.1 a.2.1 (a.2.1.take j), a.2.2)) _ (false, setJ a.2.1 b.2.1 a.2.1 a.2.1, a.2.2) (by omega) (by simp only [List.take_zero]; exact (Prod.ext da' rfl : a = (false, a.2.1, a.2.2)).symm) (by simp) ?_ ?_]
  · rw [loop_st b.2.1.length (fun j => (false, setJ a.2.1 b.2.1 (setJ a.2.1 b.2.1 a.2.1 a.2.1) (b.2.1.take j), a.2.2)) _ (false, setJ a.2.1 b.2.1 (setJ a.2.1 b.2.1 a.2.1 a.2.1) b.2.1, a.2.2) (by omega) (by simp only [List.take_zero]; rfl) (by simp) ?_ ?_]
    · have lV1 := setJ_len a.2.1 b.2.1 a.2.1 a.2.1
      have lV2 := setJ_len a.2.1 b.2.1 b.2.1 (setJ a.2.1 b.2.1 a.2.1 a.2.1)
      have sV := sv2 b.2.1
      have oV := setJ_ok (a := a.2.1) (b := b.2.1) (l := b.2.1) (setJ_ok (a := a.2.1) (b := b.2.1) (l := a.2.1) mA)
      generalize setJ a.2.1 b.2.1 (setJ a.2.1 b.2.1 a.2.1 a.2.1) b.2.1 = V at lV2 sV oV
      rw [loop_st b.2.2.length (fun j => (false, V, putJ a.2.2 a.2.2 (b.2.2.take j))) _ (false, V, putJ a.2.2 a.2.2 b.2.2) (by omega) (by simp only [List.take_zero]; rfl) (by simp) ?_ ?_]
      · intro j hj
        have hm := getD_mem hj dL
        have hy := mb.2.1.2 _ hm
        have hyb := b4 _ hm
        have hok := putJ_ok (a := a.2.2) (L := a.2.2) (l := b.2.2.take j) ma.2.1 ma.2.1.2 (take_all mb.2.1.2 j)
        have hlen := putJ_len a.2.2 (b.2.2.take j) a.2.2
        have htl : (b.2.2.take j).length ≤ k := by rw [List.length_take]; omega
        have hbd : ∀ l, l ∈ putJ a.2.2 a.2.2 (b.2.2.take j) → Bd (4 * k + 2) l.2 := fun l hl => by
          rcases putJ_mem _ _ _ l hl with q | ⟨y, q, rfl⟩
          · exact bd_up (a4 l q) (by omega)
          · exact bd_up (oneJ_bd a4 (take_all b4 j y q)) (by omega)
        have hfew := few_mk (k := 4 * k + 2) (by omega) (by omega) sV (by omega) hbd
        have h1 := oneJ_ok ma.2.1.2 hy
        have h2 := oneJ_bd a4 hyb
        try dsimp only
        rw [ilt_len hj, cond_true, inb_len hj, cond_true, get_dL, ref_loc a _ (by omega), bind_some, wrap_succ (by omega), cond_true, cond_true, take_getD' hj dL, putJ_app]
        have e : (b.2.2.getD j dL).1 = (oneJ a.2.2 (b.2.2.getD j dL)).1 := rfl
        have mk := mayS_mk oV hok
        rw [gl_locR]
        cases g : gl a.2.2 (b.2.2.getD j dL).1 with
        | none =>
          have e2 : oneJ a.2.2 (b.2.2.getD j dL) = ((b.2.2.getD j dL).1, (b.2.2.getD j dL).2) := by unfold oneJ; rw [g]
          rw [e2] at h2 ⊢
          try dsimp only
          rw [cond_false, ref_put _ _ _ hfew (bd_few hyb (by omega)), bind_some, putT_ok mk hy.1 hy.2]
          all_goals rfl
        | some o =>
          have e2 : oneJ a.2.2 (b.2.2.getD j dL) = ((b.2.2.getD j dL).1, join o (b.2.2.getD j dL).2) := by unfold oneJ; rw [g]
          rw [e2] at h1 h2 ⊢
          have ob := a4 _ (gl_some g)
          try dsimp only
          rw [cond_true, ref_join _ _ (bd_few ob (by omega)) (bd_few hyb (by omega)), bind_some, ref_put _ _ _ hfew (bd_few h2 (by omega)), bind_some, putT_ok mk hy.1 h1.2]
          all_goals rfl
      · try dsimp only
        rw [ilt_end]; rfl
    · intro j hj
      have hm := getD_mem hj dB
      have lV1 := setJ_len a.2.1 b.2.1 a.2.1 a.2.1
      have lV2 := setJ_len a.2.1 b.2.1 (b.2.1.take j) (setJ a.2.1 b.2.1 a.2.1 a.2.1)
      have htl : (b.2.1.take j).length ≤ k := by rw [List.length_take]; omega
      have oV := setJ_ok (a := a.2.1) (b := b.2.1) (l := b.2.1.take j) (setJ_ok (a := a.2.1) (b := b.2.1) (l := a.2.1) mA)
      have hfew := few_mk (k := 4 * k + 2) (by omega) (by omega) (sv2 (b.2.1.take j)) (by omega) (fun l hl => bd_up (a4 l hl) (by omega))
      have hbl := bl (b.2.1.getD j dB).1
      try dsimp only
      rw [ilt_len hj, cond_true, inb_len hj, cond_true, get_dB, ref_var a _ (by omega), bind_some, ref_var b _ (by omega), bind_some, uni, bind_some, ref_set _ _ _ hfew (by omega), bind_some, setT_ok (mayS_mk oV ma.2.1), wrap_succ (by omega), take_getD' hj dB, setJ_app, show norm (both a.2.1 b.2.1 (b.2.1.getD j dB).1) = both a.2.1 b.2.1 (b.2.1.getD j dB).1 from norm_norm _]
    · try dsimp only
      rw [ilt_end]; rfl
  · intro j hj
    have hm := getD_mem hj dB
    have lV1 := setJ_len a.2.1 b.2.1 (a.2.1.take j) a.2.1
    have htl : (a.2.1.take j).length ≤ k := by rw [List.length_take]; omega
    have oV := setJ_ok (a := a.2.1) (b := b.2.1) (l := a.2.1.take j) mA
    have hfew := few_mk (k := 4 * k + 2) (by omega) (by omega) (sv1 (a.2.1.take j)) (by omega) (fun l hl => bd_up (a4 l hl) (by omega))
    have hbl := bl (a.2.1.getD j dB).1
    try dsimp only
    rw [ilt_len hj, cond_true, inb_len hj, cond_true, get_dB, ref_var a _ (by omega), bind_some, ref_var b _ (by omega), bind_some, uni, bind_some, ref_set _ _ _ hfew (by omega), bind_some, setT_ok (mayS_mk oV ma.2.1), wrap_succ (by omega), take_getD' hj dB, setJ_app, show norm (both a.2.1 b.2.1 (a.2.1.getD j dB).1) = both a.2.1 b.2.1 (a.2.1.getD j dB).1 from norm_norm _]
  · try dsimp only
    rw [ilt_end]; rfl
end Go.PL
end
section
/- Law 09: what is kept. -/
open Go Go.PG Go.PL
set_option linter.all false
namespace Go.PL
def mj : Option Sp → Option Sp → Option Sp
  | some p, some o => some (join p o)
  | none, some o => some o
  | p, none => p
def OkO (p : Option Sp) : Prop := ∀ o, p = some o → MayO o
theorem mj_ok {p q : Option Sp} (hp : OkO p) (hq : OkO q) : OkO (mj p q) := by
  cases p with
  | none =>
    cases q with
    | none => exact hp
    | some o => exact hq
  | some p =>
    cases q with
    | none => exact hp
    | some o => intro z h; injection h with h; rw [← h]; exact join_may (hp p rfl) (hq o rfl)
theorem mj_comm {p q : Option Sp} (hp : OkO p) (hq : OkO q) : mj p q = mj q p := by
  cases p with
  | none => cases q <;> rfl
  | some p =>
    cases q with
    | none => rfl
    | some o => exact congrArg some (join_comm (hp p rfl) (hq o rfl))
theorem mj_assoc {p q r : Option Sp} (hp : OkO p) (hq : OkO q) (hr : OkO r) : mj (mj p q) r = mj p (mj q r) := by
  cases p with
  | none => cases q <;> cases r <;> rfl
  | some p =>
    cases q with
    | none => cases r <;> rfl
    | some o =>
      cases r with
      | none => rfl
      | some r => exact congrArg some (join_assoc (hp p rfl) (hq o rfl) (hr r rfl))
theorem mj_swap {a b c d : Option Sp} (ha : OkO a) (hb : OkO b) (hc : OkO c) (hd : OkO d) : mj (mj a b) (mj c d) = mj (mj a c) (mj b d) := by
  rw [mj_assoc ha hb (mj_ok hc hd), ← mj_assoc hb hc hd, mj_comm hb hc, mj_assoc hc hb hd, ← mj_assoc ha hc (mj_ok hb hd)]
abbrev renO (i : Int) (p : Option Sp) : Option Sp := p.map fun o => rename o i
theorem ren_mj {p q : Option Sp} (hp : OkO p) (hq : OkO q) (i : Int) : renO i (mj p q) = mj (renO i p) (renO i q) := by
  cases p with
  | none => cases q <;> rfl
  | some p =>
    cases q with
    | none => rfl
    | some o => exact congrArg some (rename_join (hp p rfl) (hq o rfl) i)
theorem ren_ok {p : Option Sp} (hp : OkO p) (i : Int) : OkO (renO i p) := by
  cases p with
  | none => intro o h; cases h
  | some p => intro z h; injection h with h; rw [← h]; exact rename_may (hp p rfl) i
theorem comb_mj (i : Int) (p q : Option Sp) : comb i p q = mj (renO i p) (renO i q) := by
  cases p <;> cases q <;> rfl
theorem gl_okO {l : List Lc} (h : ∀ b, b ∈ l → PlaceA b.1 ∧ MayO b.2) (x : At) : OkO (gl l x) := fun o g => gl_ok h g
theorem gl_put {a b : List Lc} (ha : RisesL a) (hb : RisesL b) (x : At) : gl (putJ a a b) x = mj (gl a x) (gl b x) := by
  rw [putJ_spec a b a ha hb x]
  cases g : gl b x with
  | none => cases gl a x <;> rfl
  | some o =>
    show some (oneJ a (x, o)).2 = _
    unfold oneJ
    try dsimp only
    cases gl a x <;> rfl
theorem age_put {a b : List Lc} {i : Int} (ha : RisesL a ∧ ∀ v, v ∈ a → PlaceA v.1 ∧ MayO v.2) (hb : RisesL b ∧ ∀ v, v ∈ b → PlaceA v.1 ∧ MayO v.2) : ageL i (putJ a a b) = putJ (ageL i a) (ageL i a) (ageL i b) := by
  have hj := putJ_ok (a := a) (L := a) (l := b) ha ha.2 hb.2
  refine gl_ext (ageL_up hj.1) (putJ_up _ _ _ (ageL_up ha.1)) fun x => ?_
  rw [gl_put (ageL_up ha.1) (ageL_up hb.1), gl_age hj.1, gl_age ha.1, gl_age hb.1]
  have oa := gl_okO ha.2
  have ob := gl_okO hb.2
  by_cases q : x = (4, i)
  · rw [if_pos q, if_pos q, if_pos q]; rfl
  rw [if_neg q, if_neg q, if_neg q]
  by_cases q5 : x = (5, i)
  · rw [if_pos q5, if_pos q5, if_pos q5, comb_mj, comb_mj, comb_mj, gl_put ha.1 hb.1, gl_put ha.1 hb.1, ren_mj (oa _) (ob _), ren_mj (oa _) (ob _)]
    exact mj_swap (ren_ok (oa _) i) (ren_ok (ob _) i) (ren_ok (oa _) i) (ren_ok (ob _) i)
  · rw [if_neg q5, if_neg q5, if_neg q5, gl_put ha.1 hb.1]
    exact ren_mj (oa _) (ob _) i
/-! ### variables -/
theorem canon_null : Canon [((0 : Int), (0 : Int))] := canon_iff.1 (norm_one.2 (by unfold RightA; omega))
theorem var_canon {l : List Bv} (h : ∀ v, v ∈ l → v.2 = norm v.2) (n : ByteArray) : Canon (var l n) := by
  unfold var
  split
  · rename_i b hb; exact canon_iff.1 (h b (getV_mem hb).1)
  · exact canon_null
theorem ren_null (i : Int) : norm ([((0 : Int), (0 : Int))].map (renA i)) = [((0 : Int), (0 : Int))] := by
  have : [((0 : Int), (0 : Int))].map (renA i) = [((0 : Int), (0 : Int))] := by simp [renA]
  rw [this]
  exact (canon_iff.2 canon_null).symm
theorem gv_ren {V : List Bv} (h : RisesB V) (i : Int) (n : ByteArray) : gv (V.map (renV i)) n = (gv V n).map fun v => norm (v.map (renA i)) := by
  have hu : RisesB (V.map (renV i)) := by rw [RisesB, List.pairwise_map]; exact h
  cases g : gv V n with
  | none =>
    rw [gv_none] at g
    show _ = none
    rw [gv_none]
    intro b hb
    obtain ⟨c, h1, rfl⟩ := List.mem_map.1 hb
    exact g c h1
  | some v => exact gv_mem hu (List.mem_map.2 ⟨(n, v), gv_some g, rfl⟩)
theorem var_ren {V : List Bv} (h : RisesB V) (i : Int) (n : ByteArray) : var (V.map (renV i)) n = norm ((var V n).map (renA i)) := by
  rw [var_gv, var_gv, gv_ren h]
  cases gv V n with
  | none => exact (ren_null i).symm
  | some v => rfl
theorem gv_join {a b : List Bv} (ha : RisesB a) (hb : RisesB b) (n : ByteArray) : gv (setJ a b (setJ a b a a) b) n = if (gv a n).isSome = true ∨ (gv b n).isSome = true then some (both a b n) else none := by
  have ex : ∀ l : List Bv, RisesB l → ((∃ v, v ∈ l ∧ v.1 = n) ↔ (gv l n).isSome = true) := fun l hl => by
    constructor
    · rintro ⟨v, h1, h2⟩
      have : gv l n = some v.2 := gv_mem hl (by rw [← h2]; exact h1)
      rw [this]; rfl
    · intro h
      cases g : gv l n with
      | none => rw [g] at h; cases h
      | some v => exact ⟨(n, v), gv_some g, rfl⟩
  obtain ⟨s1, s2⟩ := setJ_spec a b a a ha
  rw [(setJ_spec a b b _ s1).2, s2]
  by_cases q : (gv b n).isSome = true
  · rw [if_pos ((ex b hb).2 q), if_pos (.inr q)]
  · rw [if_neg (fun z => q ((ex b hb).1 z))]
    by_cases q2 : (gv a n).isSome = true
    · rw [if_pos ((ex a ha).2 q2), if_pos (.inl q2)]
    · rw [if_neg (fun z => q2 ((ex a ha).1 z)), if_neg (fun z => z.elim q2 q)]
      cases g : gv a n with
      | none => rfl
      | some v => rw [g] at q2; exact absurd rfl q2
theorem ren_both {a b : List Bv} (ha : RisesB a ∧ ∀ v, v ∈ a → v.2 = norm v.2) (hb : RisesB b ∧ ∀ v, v ∈ b → v.2 = norm v.2) (i : Int) (n : ByteArray) : norm ((both a b n).map (renA i)) = both (a.map (renV i)) (b.map (renV i)) n := by
  unfold both
  rw [var_ren ha.1, var_ren hb.1]
  exact ren_join (var_canon ha.2 n) (var_canon hb.2 n) i
theorem vars_join {a b : List Bv} (ha : RisesB a ∧ ∀ v, v ∈ a → v.2 = norm v.2) (hb : RisesB b ∧ ∀ v, v ∈ b → v.2 = norm v.2) (i : Int) : (setJ a b (setJ a b a a) b).map (renV i) = setJ (a.map (renV i)) (b.map (renV i)) (setJ (a.map (renV i)) (b.map (renV i)) (a.map (renV i)) (a.map (renV i))) (b.map (renV i)) := by
  have hj := setJ_ok (a := a) (b := b) (l := b) (setJ_ok (a := a) (b := b) (l := a) ha)
  have ra := (renV_ok (i := i) ha.1)
  have rb := (renV_ok (i := i) hb.1)
  refine gv_ext (renV_ok hj.1).1 (setJ_ok (setJ_ok ra)).1 fun n => ?_
  rw [gv_ren hj.1, gv_join ha.1 hb.1, gv_join ra.1 rb.1, gv_ren ha.1, gv_ren hb.1]
  simp only [Option.isSome_map]
  by_cases q : (gv a n).isSome = true ∨ (gv b n).isSome = true
  · rw [if_pos q, if_pos q, ← ren_both ha hb]; rfl
  · rw [if_neg q, if_neg q]; rfl
theorem age_dead {s : Sta} {i : Int} (hi : ¬ i < 0) (m : MayS s) (hd : s.1 = true) : ageT s i = (true, [], []) := by
  unfold ageT; rw [if_neg hi, if_pos m, if_pos hd]
theorem age_live {s : Sta} {i : Int} (hi : ¬ i < 0) (m : MayS s) (hd : ¬ s.1 = true) : ¬ (ageT s i).1 = true := by rw [ageT_ok hi m hd]; simp
theorem age_join {a b : Sta} {i : Int} (hi : ¬ i < 0) (ma : MayS a) (mb : MayS b) : ageT (joinT a b) i = joinT (ageT a i) (ageT b i) := by
  have aa := age_may hi ma
  have ab := age_may hi mb
  by_cases da : a.1 = true
  · have e1 : joinT a b = b := by unfold joinT; rw [if_pos ma, if_pos mb, if_pos da]
    have e2 : joinT (ageT a i) (ageT b i) = ageT b i := by unfold joinT; rw [if_pos aa, if_pos ab, if_pos (by rw [age_dead hi ma da])]
    rw [e1, e2]
  by_cases db : b.1 = true
  · have e1 : joinT a b = a := by unfold joinT; rw [if_pos ma, if_pos mb, if_neg da, if_pos db]
    have e2 : joinT (ageT a i) (ageT b i) = ageT a i := by unfold joinT; rw [if_pos aa, if_pos ab, if_neg (age_live hi ma da), if_pos (by rw [age_dead hi mb db])]
    rw [e1, e2]
  rw [ageT_ok hi (joinT_may ma mb) (by rw [joinT_ok ma mb da db]; simp), joinT_ok aa ab (age_live hi ma da) (age_live hi mb db), joinT_ok ma mb da db, ageT_ok hi ma da, ageT_ok hi mb db]
  exact Prod.ext rfl (Prod.ext (vars_join ma.1 mb.1 i) (age_put ma.2.1 mb.2.1))
end Go.PL
end
section
/- Law 09: what is within stays within. -/
open Go Go.PG Go.PL
set_option linter.all false
namespace Go.PL
def leO (p q : Option Sp) : Prop := ∀ o, p = some o → ∃ o', q = some o' ∧ WithinO o o'
theorem win_may {a b : Sp} (h : WithinO a b) : MayO a ∧ MayO b := ⟨(within_view.1 h).1, (within_view.1 h).2.1⟩
theorem leO_mj {p q p' q' : Option Sp} (oq : OkO q') (op : OkO p') (h1 : leO p p') (h2 : leO q q') : leO (mj p q) (mj p' q') := by
  have left : ∀ {u o : Sp}, WithinO u o → OkO (some o) → ∀ {r : Option Sp}, OkO r → ∃ o', mj (some o) r = some o' ∧ WithinO u o' := by
    intro u o hu ho r hr
    cases r with
    | none => exact ⟨o, rfl, hu⟩
    | some r => exact ⟨join o r, rfl, within_trans hu (within_join_left (ho o rfl) (hr r rfl))⟩
  have right : ∀ {u o : Sp}, WithinO u o → OkO (some o) → ∀ {r : Option Sp}, OkO r → ∃ o', mj r (some o) = some o' ∧ WithinO u o' := by
    intro u o hu ho r hr
    cases r with
    | none => exact ⟨o, rfl, hu⟩
    | some r => exact ⟨join r o, rfl, within_trans hu (within_join_right (hr r rfl) (ho o rfl))⟩
  intro o ho
  cases p with
  | none =>
    cases q with
    | none => cases ho
    | some q =>
      injection ho with ho
      subst ho
      obtain ⟨z, rfl, hz⟩ := h2 q rfl
      exact right hz oq op
  | some p =>
    obtain ⟨y, rfl, hy⟩ := h1 p rfl
    cases q with
    | none =>
      injection ho with ho
      subst ho
      exact left hy op oq
    | some q =>
      injection ho with ho
      subst ho
      obtain ⟨z, rfl, hz⟩ := h2 q rfl
      have my := op y rfl
      have mz := oq z rfl
      exact ⟨join y z, rfl, join_least (within_trans hy (within_join_left my mz)) (within_trans hz (within_join_right my mz))⟩
theorem leO_ren {p q : Option Sp} (h : leO p q) (i : Int) : leO (renO i p) (renO i q) := by
  cases p with
  | none => intro o ho; cases ho
  | some p =>
    obtain ⟨y, rfl, hy⟩ := h p rfl
    intro o ho
    injection ho with ho
    subst ho
    exact ⟨_, rfl, rename_within hy i⟩
/-- Within, by what is at each name and place. -/
def WinS (A B : List Bv) (L M : List Lc) : Prop := (∀ n, Within (var A n) (var B n)) ∧ ∀ x, leO (gl L x) (gl M x)
theorem within_views {a b : Sta} (ma : MayS a) (mb : MayS b) (da : ¬ a.1 = true) : WithinT a b ↔ b.1 = false ∧ WinS a.2.1 b.2.1 a.2.2 b.2.2 := by
  have hvar : ∀ {l : List Bv} {n : ByteArray}, gv l n = none → var l n = [(0, 0)] := fun h => by rw [var_gv, h]; rfl
  constructor
  · rintro ⟨_, _, h⟩
    obtain ⟨h1, h2, h3, h4⟩ := h.resolve_left da
    refine ⟨h1, fun n => ?_, fun x o g => ?_⟩
    · cases g : gv a.2.1 n with
      | some v => have := h2 _ (gv_some g); rw [var_gv, g]; exact this
      | none =>
        cases g2 : gv b.2.1 n with
        | some v => have := h3 _ (gv_some g2); rw [var_gv b.2.1, g2]; exact this
        | none => rw [hvar g, hvar g2]; exact fun _ z => z
    · obtain ⟨q1, q2⟩ := h4 _ (gl_some g)
      try dsimp only at q1 q2
      rw [gl_locR] at q1 q2
      cases g2 : gl b.2.2 x with
      | none => rw [g2] at q1; cases q1
      | some p => rw [g2] at q2; exact ⟨p, rfl, q2⟩
  · rintro ⟨h1, h2, h3⟩
    refine ⟨ma, mb, .inr ⟨h1, fun v hv => ?_, fun v hv => ?_, fun l hl => ?_⟩⟩
    · have := h2 v.1; rwa [var_of_mem ma.1.1 hv] at this
    · have := h2 v.1; rwa [var_of_mem mb.1.1 hv] at this
    · obtain ⟨p, g, q⟩ := h3 l.1 l.2 (gl_mem ma.2.1.1 hl)
      rw [gl_locR, g]
      exact ⟨rfl, q⟩
theorem winS_age {A B : List Bv} {L M : List Lc} (hA : RisesB A ∧ ∀ v, v ∈ A → v.2 = norm v.2) (hB : RisesB B ∧ ∀ v, v ∈ B → v.2 = norm v.2) (hL : RisesL L ∧ ∀ v, v ∈ L → PlaceA v.1 ∧ MayO v.2) (hM : RisesL M ∧ ∀ v, v ∈ M → PlaceA v.1 ∧ MayO v.2) (h : WinS A B L M) (i : Int) :
    WinS (A.map (renV i)) (B.map (renV i)) (ageL i L) (ageL i M) := by
  refine ⟨fun n => ?_, fun x => ?_⟩
  · rw [var_ren hA.1, var_ren hB.1]
    exact ren_within (var_canon hA.2 n) (var_canon hB.2 n) i (h.1 n)
  · rw [gl_age hL.1, gl_age hM.1]
    by_cases q : x = (4, i)
    · rw [if_pos q]; intro o z; cases z
    rw [if_neg q, if_neg q]
    by_cases q5 : x = (5, i)
    · rw [if_pos q5, if_pos q5, comb_mj, comb_mj]
      exact leO_mj (ren_ok (gl_okO hM.2 _) i) (ren_ok (gl_okO hM.2 _) i) (leO_ren (h.2 _) i) (leO_ren (h.2 _) i)
    · rw [if_neg q5, if_neg q5]
      exact leO_ren (h.2 x) i
theorem within_age {a b : Sta} {i : Int} (hi : ¬ i < 0) (h : WithinT a b) : WithinT (ageT a i) (ageT b i) := by
  have ma := h.1
  have mb := h.2.1
  have aa := age_may hi ma
  have ab := age_may hi mb
  by_cases da : a.1 = true
  · exact ⟨aa, ab, .inl (by rw [age_dead hi ma da])⟩
  obtain ⟨db, hv⟩ := (within_views ma mb da).1 h
  have db' : ¬ b.1 = true := by rw [db]; simp
  refine (within_views aa ab (age_live hi ma da)).2 ?_
  rw [ageT_ok hi ma da, ageT_ok hi mb db']
  exact ⟨rfl, winS_age ma.1 mb.1 ma.2.1 mb.2.1 hv i⟩
theorem alloc_ok {s : Sta} {x : ByteArray} {i : Int} {o : Sp} (hi : ¬ i < 0) (m : MayS s) (mo : MayO o) (hd : ¬ s.1 = true) : allocT s x i o = (false, insB (s.2.1.map (renV i)) (x, [(4, i)]), insL (ageL i s.2.2) ((4, i), rename o i)) ∧ MayS (allocT s x i o) := by
  have eal : allocT s x i o = (false, insB (s.2.1.map (renV i)) (x, [(4, i)]), insL (ageL i s.2.2) ((4, i), rename o i)) := by
    unfold allocT; rw [if_neg hi, if_pos m, if_pos mo, if_neg hd]
  refine ⟨eal, ?_⟩
  obtain ⟨a1, a2, a3⟩ := alloc_mid hi m mo hd
  have hV := renV_ok (i := i) m.1.1
  rw [eal]
  refine mayS_mk ⟨insK_up ordS hV.1 _, fun b hb => ?_⟩ a2.2.1
  rcases (insK_mem ordS).1 hb with rfl | ⟨g, _⟩
  · exact (norm_rec hi).symm
  · exact hV.2 b g
theorem within_alloc {a b : Sta} {x : ByteArray} {i : Int} {o : Sp} (hi : ¬ i < 0) (mo : MayO o) (h : WithinT a b) : WithinT (allocT a x i o) (allocT b x i o) := by
  have ma := h.1
  have mb := h.2.1
  have dead : ∀ {s : Sta}, MayS s → s.1 = true → allocT s x i o = (true, [], []) := fun m d => by unfold allocT; rw [if_neg hi, if_pos m, if_pos mo, if_pos d]
  have dm : MayS (true, [], []) := ⟨⟨List.Pairwise.nil, by simp⟩, ⟨List.Pairwise.nil, by simp⟩, fun _ => ⟨rfl, rfl⟩⟩
  by_cases da : a.1 = true
  · have e := dead ma da
    have mb2 : MayS (allocT b x i o) := by
      by_cases db : b.1 = true
      · rw [dead mb db]; exact dm
      · exact (alloc_ok hi mb mo db).2
    rw [e]
    exact ⟨dm, mb2, .inl rfl⟩
  obtain ⟨db, hv⟩ := (within_views ma mb da).1 h
  have db' : ¬ b.1 = true := by rw [db]; simp
  obtain ⟨e1, m1⟩ := alloc_ok (x := x) hi ma mo da
  obtain ⟨e2, m2⟩ := alloc_ok (x := x) hi mb mo db'
  refine (within_views m1 m2 (by rw [e1]; simp)).2 ?_
  rw [e1, e2]
  have w := winS_age ma.1 mb.1 ma.2.1 mb.2.1 hv i
  refine ⟨rfl, fun n => ?_, fun y => ?_⟩
  · show Within (var (insB (a.2.1.map (renV i)) (x, [(4, i)])) n) (var (insB (b.2.1.map (renV i)) (x, [(4, i)])) n)
    rw [var_gv, var_gv, gv_ins (renV_ok ma.1.1).1, gv_ins (renV_ok mb.1.1).1]
    by_cases q : n = x
    · rw [if_pos q, if_pos q]; exact fun _ z => z
    · rw [if_neg q, if_neg q, ← var_gv, ← var_gv]; exact w.1 n
  · show leO (gl (insL (ageL i a.2.2) ((4, i), rename o i)) y) (gl (insL (ageL i b.2.2) ((4, i), rename o i)) y)
    rw [gl_ins (ageL_up ma.2.1.1), gl_ins (ageL_up mb.2.1.1)]
    by_cases q : y = (4, i)
    · rw [if_pos q, if_pos q]
      intro z hz
      exact ⟨z, hz, by injection hz with hz; rw [← hz]; exact within_refl (rename_may mo i)⟩
    · rw [if_neg q, if_neg q]; exact w.2 y
theorem keeps9 (x : Sta × Sta × ByteArray × Int) : law09_DemoteKeeps K x = some true := by
  obtain ⟨s, t, nm, i⟩ := x
  unfold law09_DemoteKeeps
  try dsimp only
  rw [fixed9, bind_some, bind_some, not_true, cond_false, ref_small8, bind_some, cond_ndec]
  by_cases z1 : SmallT s
  case neg => rw [if_neg z1]
  rw [if_pos z1, ref_small8, bind_some, cond_ndec]
  by_cases z2 : SmallT t
  case neg => rw [if_neg z2]
  have hs := small_bdT z1
  have ht := small_bdT z2
  have fs := small_fewT z1
  have ft := small_fewT z2
  rw [if_pos z2, ref_may8 s fs, bind_some, cond_ndec]
  by_cases ms : MayS s
  case neg => rw [if_neg ms]
  rw [if_pos ms, ref_may8 t ft, bind_some, cond_ndec]
  by_cases mt : MayS t
  case neg => rw [if_neg mt]
  rw [if_pos mt, ilt_dec, cond_dec]
  by_cases hi : i < 0
  · rw [if_pos hi]
  have ho : Bd 40 (([], [(0, 0)]) : Sp) := ⟨by simp, by simp, by simp⟩
  have mo : MayO (([], [(0, 0)]) : Sp) := ⟨List.Pairwise.nil, by simp, canon_iff.2 canon_null⟩
  have gs := age_bd (i := i) hs
  have gt' := age_bd (i := i) ht
  have js := join_bdT hs ht
  have ja := join_bdT gs gt'
  have e1 := ref_within8 s t fs ft
  have e2 := ref_within8 _ _ (bd_fewT gs (by omega)) (bd_fewT gt' (by omega))
  have e3 := dm_alloc s nm i _ hs ho (by omega)
  have e4 := dm_alloc t nm i _ ht ho (by omega)
  have e5 := ref_within8 _ _ (alloc_fewT (x := nm) (i := i) hs ho) (alloc_fewT (x := nm) (i := i) ht ho)
  have e6 := ref_join8 s t hs ht (by omega)
  have e7 := dm_age _ i js (by omega)
  have e8 := ref_join8 _ _ gs gt' (by omega)
  have e9 := ref_same8 (ageT (joinT s t) i) (joinT (ageT s i) (ageT t i)) (bd_fewT (age_bd js) (by omega))
  rw [decide_eq_true (age_join hi ms mt)] at e9
  rw [if_neg hi, dm_age s i hs (by omega), bind_some, dm_age t i ht (by omega), bind_some]
  simp only [e1, e2, at_null, bind_some, e3, e4, e5, e6, e7, e8, e9]
  by_cases w : WithinT s t
  · rw [decide_eq_true w, decide_eq_true (within_age hi w), decide_eq_true (within_alloc (x := nm) hi mo w)]; rfl
  · rw [decide_eq_false w]; rfl
end Go.PL
end

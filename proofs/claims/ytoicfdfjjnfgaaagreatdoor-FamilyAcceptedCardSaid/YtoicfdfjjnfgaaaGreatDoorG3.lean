/- Lemmas for the claim. -/
import Derived.Test.YtoicfdfjjnfgaaaGreatDoorG2
set_option linter.all false
section
namespace Go.PG
open Go.RowKit
variable {Pg : Program} {G : World → Prop} {E : Env} {S : Nat → Prop} {B : Nat} {w0 w w' : World} {h h' : Hp} {M M' : Nat → Bk} {ρ : Type} {r : ρ} {K : AV → Hp → Option ρ} {st : St} {a : Act} {o : Oper}
structure DRow (Z : Nat → Prop) (w : World) (e : Ty) (xs : (drow e).D) (A : Option Addr) (n cap : Nat) (ex : Nat → Prop) (b : Nat) (ts : List DEnt) (ex0 : Nat → Prop) : Prop where
 len : n = ts.length
 le : n ≤ cap
 dm : DmIs w e.size b ts ex0
 one : ∀ (i : Nat) (t : DEnt), ts[i]? = some t → t.1.val.oneCell' = true
 rep : DEnts Z w (.st .unit) e ts xs
 own : cap = 0 ∧ (∀ c, ex c ↔ ex0 c) ∨ cap ≠ 0 ∧ ∃ o arr el, A = some ⟨b, o, none⟩ ∧ w.heap[b]? = some (.cells arr el (0, 0)) ∧ o + cap ≤ arr.size ∧
  (∀ (i : Nat) (t : DEnt), ts[i]? = some t → arr[o + i]? = some t.1.val) ∧ ∀ c, ex c ↔ c = b ∨ ex0 c
variable {e : Ty} {xs : (drow e).D} {A : Option Addr} {n cap : Nat} {ex ex' : Nat → Prop} {b : Nat} {ts : List DEnt} {ex0 : Nat → Prop} {id : Nat}
theorem DRow.ent {c : Cx} (d : DRow c.Z c.w e xs A n cap ex b ts ex0) (hM : c.M id = .rows A n cap ex) : EntOk c id (.box (.data (drow e) xs) (drow e)) :=
 ⟨b, [mapCell (ts.map DEnt.cell)], .inr ⟨A, n, cap, ex, hM, .inr ⟨ts, ex0, d.len, d.le, rfl, d.dm, d.one, d.own⟩⟩, by simp [fitsT], by simp only [RepC]; exact of_dents d.rep⟩
theorem dead_ent {c : Cx} (e : Ty) (hM : c.M id = .rows A n cap fun _ => False) : EntOk c id (.box .undef (drow e)) :=
 ⟨0, [.bool false], .inr ⟨A, n, cap, _, hM, .inl ⟨fun _ h => h, false, rfl⟩⟩, by simp [fitsT], by simp only [RepC]; exact ⟨_, rfl, rfl⟩⟩
theorem DRow.ex_of (d : DRow (cx S h M w).Z w e xs A n cap ex b ts ex0) {c : Nat} (hc : ex0 c) : ex c := by
 rcases d.own with ⟨_, q⟩ | ⟨_, _, _, _, _, _, _, _, q⟩
 ·exact (q c).2 hc
 ·exact (q c).2 (.inr hc)
theorem rowsOf_box (hx : rowsOf e h id = some xs) : ∃ L, h.e id = some (.box (.data (drow e) xs) L) := by
 unfold rowsOf at hx
 split at hx
 case h_2 => cases hx
 rename_i c k t' he
 cases c with
 | data t x =>
  simp only [toD] at hx
  split at hx
  ·rename_i q
   subst q
   injection hx with hx
   subst hx
   exact ⟨_, he⟩
  ·cases hx
 | _ => simp [toD] at hx
theorem drow_fits (H : HInv S B w0 h M w) (hx : rowsOf e h id = some xs) : h.e id = some (.box (.data (drow e) xs) (drow e)) := by
 obtain ⟨L, he⟩ := rowsOf_box hx
 obtain ⟨b, cs, hh, hf, hr⟩ := H.ent id _ he
 simp only [fitsT, decide_eq_true_eq] at hf
 subst hf
 exact he
theorem drow_of (H : HInv S B w0 h M w) (hx : rowsOf e h id = some xs) (hM : M id = .rows A n cap ex) : h.e id = some (.box (.data (drow e) xs) (drow e)) ∧ ∃ b ts ex0, DRow (cx S h M w).Z w e xs A n cap ex b ts ex0 := by
 have he := drow_fits H hx
 refine ⟨he, ?_⟩
 obtain ⟨b, cs, hh, hf, hr⟩ := H.ent id _ he
 have hh : _ ∨ _ := hh
 rcases hh with ⟨_, _, _, _, q, _⟩ | ⟨A', n', cap', ex', q, hh⟩
 ·simp only [cx] at q; rw [hM] at q; cases q
 ·simp only [cx] at q
  rw [hM] at q
  injection q with q1 q2 q3 q4
  subst q1; subst q2; subst q3; subst q4
  simp only [RepC] at hr
  rcases hh with ⟨_, u, rfl⟩ | ⟨ts, ex0, h1, h2, rfl, h3, h5, h4⟩
  ·simp only [RepD] at hr
   obtain ⟨gs, q, _⟩ := hr
   simp [mapCell] at q
  ·exact ⟨b, ts, ex0, h1, h2, h3, h5, dents_of hr, h4⟩
theorem dref_spec (H : HInv S B w0 h M w) (hx : rowsOf e h id = some xs) {v : Value} (hv : RepV (cx S h M w) (.dref id) v) : ∃ A n cap ex b ts ex0, v = .slice A n cap ∧ M id = .rows A n cap ex ∧
  h.e id = some (.box (.data (drow e) xs) (drow e)) ∧ DRow (cx S h M w).Z w e xs A n cap ex b ts ex0 := by
 simp only [RepV, Rep1] at hv
 obtain ⟨_, A, n, cap, hc, hv⟩ := hv
 injection hc with hc
 rcases hv with hv | ⟨ex, hM⟩
 ·obtain ⟨L, he⟩ := rowsOf_box hx
  simp only [cx] at hv
  rw [he] at hv
  cases hv
 ·obtain ⟨he, b, ts, ex0, d⟩ := drow_of H hx hM
  exact ⟨A, n, cap, ex, b, ts, ex0, hc, hM, he, d⟩
theorem dref_value {h' : Hp} {M' : Nat → Bk} (hid : id < h'.next) (hM : M' id = .rows A n cap ex) : RepV (cx S h' M' w') (.dref id) (.slice A n cap) := by
 simp only [RepV, Rep1]
 exact ⟨hid, A, n, cap, rfl, .inr ⟨ex, hM⟩⟩
theorem DmIs.append {sz b b2 : Nat} {ts us : List DEnt} {ex ey : Nat → Prop} (d : DmIs w sz b ts ex) (k : DmIs w sz b2 us ey) (hdis : ∀ c, ex c → ey c → False) (hb : ¬ ey b) : DmIs w sz b (ts ++ us) fun c => ex c ∨ ey c := by
 have at_ : ∀ {i s}, (ts ++ us)[i]? = some s → ts[i]? = some s ∨ (ts.length ≤ i ∧ us[i - ts.length]? = some s) := by
  intro i s h
  rw [List.getElem?_append] at h
  split at h
  ·exact .inl h
  ·exact .inr ⟨by omega, h⟩
 refine ⟨fun i s hs rows hr => ?_, fun i j s s' c hs hs' hc hc' => ?_, fun i s hs => ?_, fun c => ?_⟩
 ·rcases at_ hs with q | ⟨_, q⟩
  ·exact d.row i s q rows hr
  ·exact k.row _ s q rows hr
 ·rcases at_ hs with q | ⟨n1, q⟩ <;> rcases at_ hs' with q' | ⟨n2, q'⟩
  ·exact d.dist i j s s' c q q' hc hc'
  ·exact (hdis c ((d.ex c).2 ⟨_, _, q, hc⟩) ((k.ex c).2 ⟨_, _, q', hc'⟩)).elim
  ·exact (hdis c ((d.ex c).2 ⟨_, _, q', hc'⟩) ((k.ex c).2 ⟨_, _, q, hc⟩)).elim
  ·have := k.dist _ _ s s' c q q' hc hc'
   omega
 ·rcases at_ hs with q | ⟨_, q⟩
  ·exact d.ne i s q
  ·exact fun z => hb ((k.ex b).2 ⟨_, _, q, z⟩)
 ·constructor
  ·rintro (z | z)
   ·obtain ⟨i, s, hs, hc⟩ := (d.ex c).1 z
    exact ⟨i, s, by rw [List.getElem?_append_left (List.getElem?_eq_some_iff.1 hs).1]; exact hs, hc⟩
   ·obtain ⟨i, s, hs, hc⟩ := (k.ex c).1 z
    exact ⟨ts.length + i, s, by rw [List.getElem?_append_right (by omega), Nat.add_sub_cancel_left]; exact hs, hc⟩
  ·rintro ⟨i, s, hs, hc⟩
   rcases at_ hs with q | ⟨_, q⟩
   ·exact .inl ((d.ex c).2 ⟨i, s, q, hc⟩)
   ·exact .inr ((k.ex c).2 ⟨_, s, q, hc⟩)
theorem DmIs.move {sz b b2 : Nat} {ts : List DEnt} {ex : Nat → Prop} (d : DmIs w sz b ts ex) (hb : ¬ ex b2) : DmIs w sz b2 ts ex :=
 ⟨d.row, d.dist, fun i t ht q => hb ((d.ex b2).2 ⟨i, t, ht, q⟩), d.ex⟩
theorem DEnts.append {Z : Nat → Prop} {kt et : Ty} {ts us : List DEnt} {xs ys : List (kt.D × Option (List et.D))} (h : DEnts Z w kt et ts xs) (k : DEnts Z w kt et us ys) : DEnts Z w kt et (ts ++ us) (xs ++ ys) := by
 refine ⟨by simp [h.1, k.1], fun i p hp => ?_⟩
 rw [List.getElem?_append] at hp ⊢
 split at hp
 ·rename_i q; rw [if_pos (by rw [h.1]; exact q)]; exact h.2 i p hp
 ·rename_i q; rw [if_neg (by rw [h.1]; exact q), h.1]; exact k.2 _ p hp
theorem DRow.cells {Z : Nat → Prop} (d : DRow Z w e xs A n cap ex b ts ex0) : (ts.map (·.1.val) = [] ∨ ∃ b o, A = some ⟨b, o, none⟩ ∧ Mem w b o (ts.map (·.1.val))) ∧ ∀ v ∈ ts.map (·.1.val), v.oneCell' = true := by
 constructor
 ·rcases d.own with ⟨h0, _⟩ | ⟨_, o, arr, el, h1, h2, _, h3, _⟩
  ·left
   have := d.len
   have := d.le
   rw [List.eq_nil_of_length_eq_zero (l := ts) (by omega)]
   rfl
  ·right
   refine ⟨b, o, h1, fun j v hv => ?_⟩
   rw [List.getElem?_map, Option.map_eq_some_iff] at hv
   obtain ⟨t, ht, rfl⟩ := hv
   simp only [World.cell?, h2, Option.isSome_none, Bool.false_eq_true, if_false]
   exact h3 j t ht
 ·intro v hv
  obtain ⟨t, ht, rfl⟩ := List.mem_map.1 hv
  obtain ⟨i, hi, rfl⟩ := List.getElem_of_mem ht
  exact d.one i _ (List.getElem?_eq_getElem hi)
def drops (h : Hp) (e : Ty) (l : List Nat) : Hp := l.foldl (fun h i => h.drop e i) h
theorem drops_facts (e : Ty) : ∀ (l : List Nat) (h : Hp), (drops h e l).next = h.next ∧ (drops h e l).lk = h.lk ∧ ∀ j, (drops h e l).e j = if j ∈ l then some (.box .undef (drow e)) else h.e j := by
 intro l
 induction l with
 | nil => intro h; exact ⟨rfl, rfl, fun j => by simp [drops]⟩
 | cons i l ih =>
  intro h
  obtain ⟨h1, h2, h3⟩ := ih (h.drop e i)
  refine ⟨h1, h2, fun j => ?_⟩
  show (drops (h.drop e i) e l).e j = _
  rw [h3]
  by_cases hj : j ∈ l
  ·simp [hj]
  ·by_cases q : j = i
   ·subst q; simp [Hp.drop, Hp.put, set1, Nat.beq_refl]
   ·simp [hj, q, Hp.drop, Hp.put, set1, beq_false q]
def noex : Bk → Bk
 | .rows A n cap _ => .rows A n cap fun _ => False
 | k => k
theorem dr_new (H : HInv S B w0 h M w) {l : List Nat} (hl : ∀ i ∈ l, ∃ v A n cap ex, h.e i = some (.box v (drow e)) ∧ h.lk i = false ∧ M i = .rows A n cap ex) {zs : (drow e).D} {A' : Option Addr} {n' cap' : Nat}
  (hex : ∀ c, ex' c → (∃ i ∈ l, (M i).has c) ∨ w.heap.size ≤ c) (hheap : ∀ c, c < w.heap.size → (∀ i ∈ l, ¬ (M i).has c) → w'.heap[c]? = w.heap[c]?) (size : w.heap.size ≤ w'.heap.size) (bel : Below B w w')
  (q : ∀ c : Cx, c.w = w' → Tr (cx S h M w) c → DRow c.Z w' e zs A' n' cap' ex' b ts ex0) :
  ∃ M2, HInv S B w0 ((drops h e l).new (.box (.data (drow e) zs) (drow e))) M2 w' ∧ HStp S h M w ((drops h e l).new (.box (.data (drow e) zs) (drow e))) M2 w' ∧
   RepV (cx S ((drops h e l).new (.box (.data (drow e) zs) (drow e))) M2 w') (.dref h.next) (.slice A' n' cap') := by
 obtain ⟨dn, dl, de⟩ := drops_facts e l h
 have hlt : ∀ i ∈ l, i < h.next := fun i hi => by obtain ⟨v, _, _, _, _, he, _⟩ := hl i hi; exact H.lt he
 have e_nx : ((drops h e l).new (.box (.data (drow e) zs) (drow e))).e h.next = some (.box (.data (drow e) zs) (drow e)) := by simp [Hp.new, set1, dn, Nat.beq_refl]
 have e_j : ∀ j, j ≠ h.next → ((drops h e l).new (.box (.data (drow e) zs) (drow e))).e j = if j ∈ l then some (.box .undef (drow e)) else h.e j := fun j hj => by simp [Hp.new, set1, dn, beq_false hj, de]
 let M1 : Nat → Bk := fun j => if j ∈ l then noex (M j) else M j
 let M2 := set1 M1 h.next (.rows A' n' cap' ex')
 have m_nx : M2 h.next = .rows A' n' cap' ex' := by simp [M2, set1, Nat.beq_refl]
 have m_l : ∀ j, j ∈ l → ∃ A n cap ex, M j = .rows A n cap ex ∧ M2 j = .rows A n cap fun _ => False := fun j hj => by
  obtain ⟨v, A, n, cap, ex, _, _, hM⟩ := hl j hj
  exact ⟨A, n, cap, ex, hM, by simp [M2, M1, set1, beq_false (show j ≠ h.next by have := hlt j hj; omega), hj, hM, noex]⟩
 have m_j : ∀ j, j ∉ l → j ≠ h.next → M2 j = M j := fun j h1 h2 => by simp [M2, M1, set1, beq_false h2, h1]
 have nohas : ∀ j ∈ l, ∀ c, ¬ (M2 j).has c := fun j hj c hc => by
  obtain ⟨A, n, cap, ex, _, q⟩ := m_l j hj
  rw [q] at hc
  exact rows_has.1 hc
 have live : ∀ i ∈ l, h.e i ≠ none := fun i hi => by obtain ⟨v, _, _, _, _, he, _⟩ := hl i hi; rw [he]; simp
 have nx : ((drops h e l).new (.box (.data (drow e) zs) (drow e))).next = h.next + 1 := by simp [Hp.new, dn]
 obtain ⟨H', k⟩ := H.turn (h' := (drops h e l).new (.box (.data (drow e) zs) (drow e))) (M' := M2) (w' := w') (fun j => j ∈ l ∨ j = h.next)
  (by rw [nx]; omega) (by simp [Hp.new, dl])
  (fun j hj => by
   rw [nx] at hj
   rw [e_j j (by omega), if_neg (fun q => by have := hlt j q; omega)]
   exact H.fresh j (by omega))
  (fun j hj => by
   have h1 : j ∉ l := fun q => hj (.inl q)
   have h2 : j ≠ h.next := fun q => hj (.inr q)
   exact ⟨.inr (by rw [e_j j h2, if_neg h1]), m_j j h1 h2⟩)
  (fun j h1 h2 => by
   have n1 : j ∉ l := fun q => by obtain ⟨v, _, _, _, _, _, hk, _⟩ := hl j q; rw [hk] at h2; cases h2
   refine ⟨fun q => by rcases q with q | q; exact n1 q; omega, ?_⟩
   rw [e_j j (by omega), if_neg n1])
  (fun j hj hlj => by
   rcases hj with hj | hj
   ·obtain ⟨A, n, cap, ex, m1, m2⟩ := m_l j hj
    obtain ⟨v, _, _, _, _, he, _⟩ := hl j hj
    exact ⟨.inr (.inr ⟨A, n, cap, ex, _, m1, m2⟩), v, .undef, drow e, he, by rw [e_j j (by omega), if_pos hj]⟩
   ·omega)
  (fun j c hj _ hc => by
   rcases hj with hj | rfl
   ·exact (nohas j hj c hc).elim
   ·rw [m_nx] at hc
    rcases hex c (rows_has.1 hc) with ⟨i, i1, i2⟩ | q
    ·exact .inl ⟨i, live i i1, i2⟩
    ·exact .inr q)
  (fun i j c hi _ hj ci cj => by
   rcases hi with hi | rfl
   ·exact (nohas i hi c ci).elim
   ·by_cases n1 : j = h.next
    ·exact n1.symm
    ·by_cases n2 : j ∈ l
     ·exact (nohas j n2 c cj).elim
     ·exfalso
      rw [m_nx] at ci
      rw [m_j j n2 n1] at cj
      rw [e_j j n1, if_neg n2] at hj
      rcases hex c (rows_has.1 ci) with ⟨i, i1, i2⟩ | q
      ·have := H.dist j i c hj (live i i1) cj i2
       subst this
       exact n2 i1
      ·have := blk_lt H hj cj
       omega)
  (fun c hc hn => hheap c hc fun i hi => hn i (live i hi))
  (fun j c hj hn hc => by
   have h1 : j ∉ l := fun q => hj (.inl q)
   have h2 : j ≠ h.next := fun q => hj (.inr q)
   rw [e_j j h2, if_neg h1] at hn
   refine hheap c (blk_lt H hn hc) fun i hi z => ?_
   have := H.dist j i c hn (live i hi) hc z
   subst this
   exact h1 hi)
  size bel
  (fun k j f hj hje => by
   rcases hj with hj | rfl
   ·rw [e_j j (by have := hlt j hj; omega), if_pos hj] at hje
    injection hje with hje
    subst hje
    obtain ⟨A, n, cap, ex, _, m2⟩ := m_l j hj
    exact dead_ent e m2
   ·rw [e_nx] at hje
    injection hje with hje
    subst hje
    exact (q _ rfl k).ent m_nx)
 exact ⟨M2, H', k, dref_value (by rw [nx]; omega) m_nx⟩
theorem dr_split (H : HInv S B w0 h M w) (he : h.e id = some (.box (.data (drow e) xs) (drow e))) (hlk : h.lk id = false) (hM : M id = .rows A n cap ex) (hsub : ∀ c, ex' c → ex c) {ys : List e.D} {v : Value} {rows : List (List Value)}
  (hrow : RowOwn w e.size v rows) (hys : RowsRep (cx S h M w).Z w e ys rows) (hblk : ∀ g, valBlk v = some g → ex g ∧ ¬ ex' g) {xs' : (drow e).D} (d' : DRow (cx S h M w).Z w e xs' A n cap ex' b ts ex0) :
  ∃ M2, HInv S B w0 ((h.put id (.box (.data (drow e) xs') (drow e))).new (.row e ys)) M2 w ∧ HStp S h M w ((h.put id (.box (.data (drow e) xs') (drow e))).new (.row e ys)) M2 w ∧
   RepV (cx S ((h.put id (.box (.data (drow e) xs') (drow e))).new (.row e ys)) M2 w) (.own h.next) v := by
 obtain ⟨A0, cap0, rfl, hle, hcap⟩ := hrow
 have hlt : id < h.next := H.lt he
 have hlen : rows.length = ys.length := hys.1
 have e_id : ((h.put id (.box (.data (drow e) xs') (drow e))).new (.row e ys)).e id = some (.box (.data (drow e) xs') (drow e)) := by
  simp [Hp.new, Hp.put, set1, beq_false (show id ≠ h.next by omega), Nat.beq_refl]
 have e_nx : ((h.put id (.box (.data (drow e) xs') (drow e))).new (.row e ys)).e h.next = some (.row e ys) := by
  simp [Hp.new, Hp.put, set1, Nat.beq_refl]
 have e_j : ∀ j, j ≠ id → j ≠ h.next → ((h.put id (.box (.data (drow e) xs') (drow e))).new (.row e ys)).e j = h.e j := fun j h1 h2 => by
  simp [Hp.new, Hp.put, set1, beq_false h1, beq_false h2]
 have m_id : set1 (set1 M id (.rows A n cap ex')) h.next (.row A0 ys.length cap0) id = .rows A n cap ex' := by simp [set1, beq_false (show id ≠ h.next by omega), Nat.beq_refl]
 have m_nx : set1 (set1 M id (.rows A n cap ex')) h.next (.row A0 ys.length cap0) h.next = .row A0 ys.length cap0 := by simp [set1, Nat.beq_refl]
 have m_j : ∀ j, j ≠ id → j ≠ h.next → set1 (set1 M id (.rows A n cap ex')) h.next (.row A0 ys.length cap0) j = M j := fun j h1 h2 => by simp [set1, beq_false h1, beq_false h2]
 have hnow : ∀ {g}, (Bk.row A0 ys.length cap0).has g → ex g ∧ ¬ ex' g := fun {g} hg => by
  rcases hg with hg | hg
  ·exact hblk g (by rw [← row_blk (n := ys.length)]; exact hg)
  ·exact hg.elim
 have hid : h.e id ≠ none := by rw [he]; simp
 have hold : ∀ {g}, ex g → (M id).has g := fun {g} hg => by rw [hM]; exact rows_has.2 hg
 obtain ⟨H', k⟩ := H.turn (h' := (h.put id (.box (.data (drow e) xs') (drow e))).new (.row e ys)) (M' := set1 (set1 M id (.rows A n cap ex')) h.next (.row A0 ys.length cap0)) (w' := w) (fun j => j = id ∨ j = h.next)
  (Nat.le_succ _) rfl (fun j hj => by
   have hj : h.next + 1 ≤ j := hj
   rw [e_j j (by omega) (by omega)]; exact H.fresh j (by omega))
  (fun j hj => ⟨.inr (e_j j (fun q => hj (.inl q)) (fun q => hj (.inr q))), m_j j (fun q => hj (.inl q)) (fun q => hj (.inr q))⟩)
  (fun j h1 h2 => by
   have n1 : j ≠ id := fun q => by rw [q, hlk] at h2; cases h2
   exact ⟨fun q => by rcases q with q | q; exact n1 q; omega, e_j j n1 (by omega)⟩)
  (fun j hj hl => by
   rcases hj with rfl | hj
   ·exact ⟨.inr (.inr ⟨A, n, cap, ex, ex', hM, m_id⟩), _, _, _, he, e_id⟩
   ·omega)
  (fun j g hj _ hg => by
   rcases hj with rfl | rfl
   ·rw [m_id] at hg
    exact .inl ⟨j, hid, hold (hsub g (rows_has.1 hg))⟩
   ·rw [m_nx] at hg
    exact .inl ⟨id, hid, hold (hnow hg).1⟩)
  (fun i j g hi _ hj gi gj => by
   have other : ∀ {u}, u ≠ id → u ≠ h.next → ((h.put id (.box (.data (drow e) xs') (drow e))).new (.row e ys)).e u ≠ none → (set1 (set1 M id (.rows A n cap ex')) h.next (.row A0 ys.length cap0) u).has g → (M id).has g → False := fun {u} n1 n2 hu hg hg' => by
    rw [e_j u n1 n2] at hu
    rw [m_j u n1 n2] at hg
    exact n1 (H.dist u id g hu hid hg hg')
   rcases hi with rfl | rfl
   ·rw [m_id] at gi
    have gM : (M i).has g := hold (hsub g (rows_has.1 gi))
    by_cases n1 : j = i
    ·exact n1.symm
    ·by_cases n2 : j = h.next
     ·subst n2
      rw [m_nx] at gj
      exact absurd (rows_has.1 gi) (hnow gj).2
     ·exact (other n1 n2 hj gj gM).elim
   ·rw [m_nx] at gi
    have gM := hold (hnow gi).1
    by_cases n1 : j = id
    ·subst n1
     rw [m_id] at gj
     exact absurd (rows_has.1 gj) (hnow gi).2
    ·by_cases n2 : j = h.next
     ·exact n2.symm
     ·exact (other n1 n2 hj gj gM).elim)
  (fun _ _ _ => rfl) (fun _ _ _ _ _ => rfl) (Nat.le_refl _) (Below.refl _ _)
  (fun k j f hj hje => by
   rcases hj with rfl | rfl
   ·rw [e_id] at hje
    injection hje with hje
    subst hje
    exact DRow.ent (c := cx S _ _ w) ⟨d'.len, d'.le, d'.dm, d'.one, d'.rep.held k.held, d'.own⟩ m_id
   ·rw [e_nx] at hje
    injection hje with hje
    subst hje
    refine ⟨A0, cap0, m_nx, by rw [← hlen]; exact hle, ?_⟩
    rcases hcap with q | ⟨q, b2, o2, cs, el, rfl, q1, q2, q3⟩
    ·exact .inl q
    ·refine .inr ⟨q, b2, o2, cs, el, rfl, q1, q2, fun i x hx => ?_⟩
     obtain ⟨d, d1, d2⟩ := hys.2 i x hx
     exact ⟨d, d2.held k.held, q3 i d d1⟩)
 refine ⟨_, H', k, ?_⟩
 simp only [RepV, Rep1]
 exact ⟨Nat.lt_succ_self _, A0, ys.length, cap0, by rw [hlen], .inr m_nx⟩
theorem dr_merge (H : HInv S B w0 h M w) (he : h.e id = some (.box (.data (drow e) xs) (drow e))) (hlk : h.lk id = false) (hM : M id = .rows A n cap ex) {l : List Nat} (hl : unlocked h l = true) (hil : id ∉ l)
  (hex : ∀ g, ex' g → ex g ∨ ∃ i ∈ l, h.e i ≠ none ∧ (M i).has g) (hheap : ∀ c, c < w.heap.size → ¬ ex c → (∀ i, i ∈ l → h.e i ≠ none → ¬ (M i).has c) → w'.heap[c]? = w.heap[c]?) (size : w.heap.size ≤ w'.heap.size) (bel : Below B w w') {xs' : (drow e).D}
  (q : ∀ c : Cx, c.w = w' → Tr (cx S h M w) c → DRow c.Z w' e xs' A n cap ex' b ts ex0) :
  HInv S B w0 ((h.kills l).put id (.box (.data (drow e) xs') (drow e))) (set1 M id (.rows A n cap ex')) w' ∧ HStp S h M w ((h.kills l).put id (.box (.data (drow e) xs') (drow e))) (set1 M id (.rows A n cap ex')) w' := by
 have hid : h.e id ≠ none := by rw [he]; simp
 have e_id : ((h.kills l).put id (.box (.data (drow e) xs') (drow e))).e id = some (.box (.data (drow e) xs') (drow e)) := by simp [Hp.put, set1, Nat.beq_refl]
 have e_j : ∀ j, j ≠ id → ((h.kills l).put id (.box (.data (drow e) xs') (drow e))).e j = if j ∈ l then none else h.e j := fun j q => by
  simp only [Hp.put, set1, beq_false q, kills_e]
 have m_id : set1 M id (.rows A n cap ex') id = .rows A n cap ex' := by simp [set1, Nat.beq_refl]
 have m_j : ∀ j, j ≠ id → set1 M id (.rows A n cap ex') j = M j := fun j q => by simp [set1, beq_false q]
 have ul := unlocked_mem hl
 have lives : ∀ {j}, j ≠ id → ((h.kills l).put id (.box (.data (drow e) xs') (drow e))).e j ≠ none → j ∉ l ∧ h.e j ≠ none := fun {j} q hn => by
  rw [e_j j q] at hn
  split at hn
  ·exact absurd rfl hn
  ·rename_i z; exact ⟨z, hn⟩
 have hold : ∀ {g}, ex g → (M id).has g := fun {g} hg => by rw [hM]; exact rows_has.2 hg
 have hne : ∀ {j}, j ≠ id → ((h.kills l).put id (.box (.data (drow e) xs') (drow e))).e j ≠ none → ∀ g, (M j).has g → ¬ ex' g := fun {j} q hn g hg hg' => by
  obtain ⟨n1, n2⟩ := lives q hn
  rcases hex g hg' with z | ⟨i, i1, i2, i3⟩
  ·exact q (H.dist j id g n2 hid hg (hold z))
  ·have := H.dist j i g n2 i2 hg i3
   subst this
   exact n1 i1
 refine H.turn (fun j => j = id) (Nat.le_of_eq (kills_next l h).symm) (kills_lk l h) (fun j hj => ?_) (fun j hj => ?_) (fun j h1 h2 => ?_) (fun j hj hl => ?_) (fun j g hj _ hg => ?_) (fun i j g hi _ hj gi gj => ?_) (fun g hg hn => ?_) (fun j g hj hn hg => ?_) size bel (fun k j f hj hje => ?_)
 ·have hj : (h.kills l).next ≤ j := hj
  rw [kills_next] at hj
  have := H.lt he
  rw [e_j j (by omega), H.fresh j hj]
  simp
 ·rw [e_j j hj]
  refine ⟨?_, m_j j hj⟩
  split
  ·exact .inl rfl
  ·exact .inr rfl
 ·have n1 : j ≠ id := fun q => by rw [q, hlk] at h2; cases h2
  refine ⟨n1, ?_⟩
  rw [e_j j n1, if_neg fun z => by rw [ul j z] at h2; cases h2]
 ·subst hj
  exact ⟨.inr (.inr ⟨A, n, cap, ex, ex', hM, m_id⟩), _, _, _, he, e_id⟩
 ·subst hj
  rw [m_id] at hg
  rcases hex g (rows_has.1 hg) with z | ⟨i, _, i2, i3⟩
  ·exact .inl ⟨j, hid, hold z⟩
  ·exact .inl ⟨i, i2, i3⟩
 ·subst hi
  rw [m_id] at gi
  by_cases q : j = i
  ·exact q.symm
  ·rw [m_j j q] at gj
   exact absurd (rows_has.1 gi) (hne q hj g gj)
 ·exact hheap g hg (fun q => hn id hid (hold q)) fun i _ hi => hn i hi
 ·obtain ⟨n1, n2⟩ := lives hj hn
  refine hheap g (blk_lt H n2 hg) (fun q => hj (H.dist j id g n2 hid hg (hold q))) fun i hi hi' z => ?_
  have := H.dist j i g n2 hi' hg z
  subst this
  exact n1 hi
 ·subst hj
  rw [e_id] at hje
  injection hje with hje
  subst hje
  exact (q _ rfl k).ent m_id
theorem repDV_unit {Z : Nat → Prop} : RepDV Z w (.st .unit) () (.agg #[]) := .inl ⟨rfl, #[], rfl, by simp [RepD]⟩
theorem dlit_ok (HE : EnvOk Pg G E) (F : ∀ t, RepV (cx S st.h M w) (st.fr t) (a.tmps.getD t undef)) (H : HInv S B w0 st.h M w) {t : TypeId} {ps : Array (Nat × Operand)} (ho : o.op = .buildSlice t 1 ps) {bytes : Nat} (ht : look E.drows t = some (e, bytes)) {x : Operand} (hps : ps.toList = [(0, x)])
  (hr : evDlit e (opnd (some (.slice e)) st.fr x) st.h K = some r) : Does Pg o a w (Post K r S B w0 st.h M w) := by
 obtain ⟨e', ie, hu, hi, hb, hb0, hok, hty⟩ := HE.drows t e bytes ht
 unfold evDlit at hr
 split at hr
 case h_2 => cases hr
 rename_i ys hy
 obtain ⟨rows, hrow, hrep, hul, hbl, hrows⟩ := rowOf_spec H hy (opnd_rep F (some (.slice e)) (fun a b q => by cases q) x)
 obtain ⟨i', z, hi1, hi2, hi3, hz⟩ := ok_zeroD (Z := (cx S st.h M w).Z) (w := w) hok rfl
 rw [hi] at hi1
 injection hi1 with hi1
 subst hi1
 have hi2 : ie.size = 1 := hi2
 have hrow' := hrow
 obtain ⟨A0, cap0, hval, hle0, hcap0⟩ := hrow'
 have hone : (a.eval x).oneCell' = true := by rw [hval]; rfl
 have hcells : (a.eval x).cells.toList = [a.eval x] := by rw [oneCell_cells hone]
 have hps' : ps = #[(0, x)] := Array.toList_inj.1 (by simpa using hps)
 have hzl : z.cells.size = 1 := by have := hz.len; simpa [Ty.size] using this
 have hfill : Instr.fill (fun i => some (i * ie.size, ie.size)) ((Array.range (1 * ie.size)).map (z.cells[· % z.cells.size]!)) (ps.map fun (i, x) => (i, a.eval x)).toList = some #[a.eval x] := by
  rw [hps', hi2]
  rw [show ((#[(0, x)] : Array (Nat × Operand)).map fun (i, x) => (i, a.eval x)).toList = [(0, a.eval x)] by simp]
  rw [fill_step (off := 0) (size := 1) (c1 := []) (c2 := []) (e := ((Array.range (1 * 1)).map (z.cells[· % z.cells.size]!)).toList) (by simp) (by simp) rfl (by simp) (by rw [hcells]; rfl)]
  rw [hcells]
  simp [Instr.fill]
 have hrun := run_buildSlice (P := Pg) w t e' 1 (ps.map fun (i, x) => (i, a.eval x)) #[a.eval x] ie z hu hi hi3 (by rw [hi2]; decide) (by rw [hi2]; decide) hfill
 have hlt : ∀ c, valBlk (a.eval x) = some c → c < w.heap.size := fun c hc => hrow.lt hc
 obtain ⟨H', k⟩ := H.renew hul (.box (.data (drow e) [((), some ys)]) (drow e)) (.rows (some ⟨w.heap.size, 0, none⟩) 1 1 fun c => c = w.heap.size ∨ valBlk (a.eval x) = some c) (w' := w.alloc (.cells #[a.eval x] e' (0, 0)))
  (fun b hb _ => alloc_old w _ b hb) (by rw [alloc_size]; omega) (below_alloc' H _)
  (fun b hb => by
   rcases rows_has.1 hb with rfl | q
   ·exact .inl (Nat.le_refl _)
   ·exact .inr (hbl b q))
  (fun k => by
   have hd := (DmIs.nil (w := w.alloc (.cells #[a.eval x] e' (0, 0))) (sz := e.size) (b := w.heap.size)).snoc (u := ({ key := .agg #[], val := a.eval x, born := 0 }, some rows))
    (fun rs hr => by injection hr with hr; subst hr; exact hrow.stay fun c hc => alloc_old w _ c (hlt c hc)) (fun q => by have := hlt _ q; omega) (fun _ _ z => z)
   refine DRow.ent (c := cx S _ _ (w.alloc (.cells #[a.eval x] e' (0, 0)))) (A := some ⟨w.heap.size, 0, none⟩) (n := 1) (cap := 1) (ex := fun c => c = w.heap.size ∨ valBlk (a.eval x) = some c) (b := w.heap.size) (ts := [({ key := .agg #[], val := a.eval x, born := 0 }, some rows)]) (ex0 := fun c => False ∨ valBlk (a.eval x) = some c) ⟨rfl, Nat.le_refl _, hd, ?_, ?_, .inr ⟨by simp, 0, #[a.eval x], e', rfl, alloc_get w _, by simp, ?_, ?_⟩⟩ (by simp [cx, set1, Nat.beq_refl])
   ·intro i t hi
    cases i with
    | zero => simp only [List.getElem?_cons_zero, Option.some.injEq] at hi; subst hi; exact hone
    | succ i => simp at hi
   ·exact DEnts.nil.snoc (xs := []) repDV_unit ⟨fun q => (by cases q), fun l hl => ⟨rows, rfl, by injection hl with hl; subst hl; exact hrep.held k.held⟩⟩
   ·intro i t hi
    cases i with
    | zero => simp only [List.getElem?_cons_zero, Option.some.injEq] at hi; subst hi; rfl
    | succ i => simp at hi
   ·intro c; simp)
 refine Does.value (v := .slice (some ⟨w.heap.size, 0, none⟩) 1 1) (w' := w.alloc (.cells #[a.eval x] e' (0, 0))) ?_ ⟨_, _, _, hr, H', k, ?_⟩
 ·simp only [execOp, ho, Sem.run_bind, hrun, Result.andThen_ok, Sem.run_pure]
 ·exact dref_value (ex := fun c => c = w.heap.size ∨ valBlk (a.eval x) = some c) (by simp [Hp.new, kills_next]) (by simp [set1, Nat.beq_refl])
theorem didx_ok (HE : EnvOk Pg G E) (F : ∀ t, RepV (cx S st.h M w) (st.fr t) (a.tmps.getD t undef)) (H : HInv S B w0 st.h M w) {t : TypeId} {x i : Operand} (ho : o.op = .indexAddr t x i) {bytes : Nat} (ht : look E.drows t = some (e, bytes)) {k : IntKind} {m : Int}
  (e1 : opnd none st.fr x = .dref id) (e2 : opnd none st.fr i = .data (.int k) m) (hr : evDidx e id m st.h K = some r) : Does Pg o a w (Post K r S B w0 st.h M w) := by
 obtain ⟨e', ie, hu, hi, hb, hb0, hok, hty⟩ := HE.drows t e bytes ht
 have hx := opnd_rep F none (by intros; simp) x
 have hi := opnd_rep F none (by intros; simp) i
 rw [e1] at hx
 rw [e2] at hi
 have hi := repV_int hi
 unfold evDidx at hr
 split at hr
 case h_2 => cases hr
 rename_i xs hxs
 obtain ⟨hin, hr⟩ := test_some hr
 obtain ⟨h0, h1⟩ := inb_spec hin
 obtain ⟨A, n, cap, ex, b, ts, ex0, hv, hM, he, d⟩ := dref_spec H hxs hx
 have hn : n = xs.length := d.len.trans d.rep.1
 unfold P.len at h1
 have hlt : m.toNat < n := by omega
 have := d.le
 rcases d.own with ⟨h2, _⟩ | ⟨_, of, arr, el, rfl, _⟩
 ·omega
 refine Does.value (v := .pointer (some ⟨b, of + m.toNat, none⟩)) (w' := w) ?_ (Post.same H hr ?_)
 ·have := run_indexSlice hu (.inl hok) b of n cap m k h0 (by omega) w
  simp only [Ty.size, Nat.mul_one] at this
  simp only [execOp, ho, hv, hi, Sem.run_bind, this, Result.andThen_ok, Sem.run_pure]
 ·simp only [RepV, Rep1]
  exact ⟨H.lt he, _, rfl, .inr ⟨b, of, n, cap, ex, hM, h0, hlt, rfl⟩⟩
theorem dlen_ok (HE : EnvOk Pg G E) (F : ∀ t, RepV (cx S st.h M w) (st.fr t) (a.tmps.getD t undef)) (H : HInv S B w0 st.h M w) {c : Call} (ho : o.op = .call c) (hc : c.callee = .builtin .len) {t : TypeId} {tl : List TypeId} (hat : c.argTypes.toList = t :: tl) {bytes : Nat} (ht : look E.drows t = some (e, bytes))
  (ha : c.args.toList.map (opnd none st.fr) = [.dref id]) (hxs : rowsOf e st.h id = some xs) (hr : K (.data (.int .i64) (P.len xs)) st.h = some r) : Does Pg o a w (Post K r S B w0 st.h M w) := by
 obtain ⟨e', ie, hu, hi, hb, hb0, hok, hty⟩ := HE.drows t e bytes ht
 obtain ⟨y, hy, hyo⟩ : ∃ y, c.args.toList = [y] ∧ opnd none st.fr y = .dref id := by
  cases q : c.args.toList with
  | nil => rw [q] at ha; cases ha
  | cons y l => cases l with
   | nil => rw [q] at ha; simp at ha; exact ⟨y, rfl, ha⟩
   | cons z l => rw [q] at ha; simp at ha
 have hca : c.args = #[y] := by apply Array.toList_inj.1; simpa using hy
 have hat' : c.argTypes = (t :: tl).toArray := by apply Array.toList_inj.1; simpa using hat
 have hx := opnd_rep F none (by intros; simp) y
 rw [hyo] at hx
 obtain ⟨A, n, cap, ex, b, ts, ex0, hv, hM, he, d⟩ := dref_spec H hxs hx
 have hn : n = xs.length := d.len.trans d.rep.1
 refine Does.value (builtin_run ho hc (fun _ _ _ _ => rfl) (z := .int .i64 (P.len xs)) ?_) (Post.same H hr (rep_int _ _ _))
 simp [Builtin.len_, hca, hat', hv, run_underlying hu, goInt, hn, P.len]
theorem dptr_spec (H : HInv S B w0 h M w) (hx : rowsOf e h id = some xs) {i : Int} {v : Value} (hv : RepV (cx S h M w) (.dptr id i) v) : ∃ b o n cap ex ts ex0 arr el, v = .pointer (some ⟨b, o + i.toNat, none⟩) ∧ M id = .rows (some ⟨b, o, none⟩) n cap ex ∧ 0 ≤ i ∧ i.toNat < n ∧
  h.e id = some (.box (.data (drow e) xs) (drow e)) ∧ DRow (cx S h M w).Z w e xs (some ⟨b, o, none⟩) n cap ex b ts ex0 ∧ cap ≠ 0 ∧ w.heap[b]? = some (.cells arr el (0, 0)) ∧ o + cap ≤ arr.size ∧ (∀ (i : Nat) (t : DEnt), ts[i]? = some t → arr[o + i]? = some t.1.val) ∧ ∀ c, ex c ↔ c = b ∨ ex0 c := by
 simp only [RepV, Rep1] at hv
 obtain ⟨_, z, hc, hv⟩ := hv
 injection hc with hc
 rcases hv with hv | ⟨b, o, n, cap, ex, hM, h0, h1, rfl⟩
 ·obtain ⟨L, he⟩ := rowsOf_box hx
  simp only [cx] at hv
  rw [he] at hv
  cases hv
 ·obtain ⟨he, b', ts, ex0, d⟩ := drow_of H hx hM
  have := d.le
  rcases d.own with ⟨h2, _⟩ | ⟨h2, of, arr, el, hA, h3, h4, h5, h6⟩
  ·omega
  ·injection hA with hA
   injection hA with q1 q2
   subst q1; subst q2
   exact ⟨b, o, n, cap, ex, ts, ex0, arr, el, hc, hM, h0, h1, he, d, h2, h3, h4, h5, h6⟩
theorem dload_ok (HE : EnvOk Pg G E) (F : ∀ t, RepV (cx S st.h M w) (st.fr t) (a.tmps.getD t undef)) (H : HInv S B w0 st.h M w) {t : TypeId} {x : Operand} (ho : o.op = .load t x) (hty : E.ty t = some (.slice e)) {i : Int} (e1 : opnd none st.fr x = .dptr id i)
  (hr : evDload e id i st.h K = some r) : Does Pg o a w (Post K r S B w0 st.h M w) := by
 have hx := opnd_rep F none (by intros; simp) x
 rw [e1] at hx
 unfold evDload at hr
 split at hr
 case h_2 => cases hr
 rename_i xs hxs hlk
 obtain ⟨ys, hys, hr⟩ := bind_some hr
 obtain ⟨b, of, n, cap, ex, ts, ex0, arr, el, hv, hM, h0, h1, he, d, hc, hheap, hfit, hcel, hex⟩ := dptr_spec H hxs hx
 have hn := d.len
 obtain ⟨t0, ht0⟩ : ∃ t0, ts[i.toNat]? = some t0 := ⟨_, List.getElem?_eq_getElem (by omega)⟩
 have hj : i.toNat < ts.length := by omega
 unfold P.dent at hys
 split at hys
 case h_2 => cases hys
 rename_i p hp
 obtain ⟨t1, g1, g2, g3, g4⟩ := d.rep.2 _ p hp
 rw [ht0] at g1
 injection g1 with g1
 subst g1
 obtain ⟨rows, q1, q2⟩ := g4 ys hys
 have hrow := d.dm.row _ t0 ht0 rows q1
 have hm : Mem w b (of + i.toNat) [t0.1.val] := fun j v hv => by
  cases j with
  | zero =>
   simp only [List.getElem?_cons_zero, Option.some.injEq] at hv
   subst hv
   simp only [World.cell?, hheap, Option.isSome_none, Bool.false_eq_true, if_false, Nat.add_zero]
   exact hcel _ _ ht0
  | succ j => simp at hv
 obtain ⟨v, g5, g6⟩ := run_load_ok (HE.ty t _ hty) hm rfl
 have hv' : t0.1.val = v := by simpa [valOf, isSt] using g6
 subst hv'
 have hdm := d.dm.set (u := (t0.1, none)) ht0 (fun _ hr => by cases hr) (by simp [DEnt.blk]) (fun c hc => by cases hc)
 have hb' : ∀ g, valBlk t0.1.val = some g → t0.blk = some g := fun g hg => by rw [DEnt.blk, q1]; exact hg
 obtain ⟨M2, H', k', hv2⟩ := dr_split (ex' := fun c => c = b ∨ (ex0 c ∧ t0.blk ≠ some c) ∨ DEnt.blk (t0.1, none) = some c) (ts := ts.set i.toNat (t0.1, none)) (xs' := P.dhole xs i ()) H he hlk hM
  (fun c q => by
   rcases q with q | ⟨q, _⟩ | q
   ·exact (hex c).2 (.inl q)
   ·exact (hex c).2 (.inr q)
   ·cases q)
  hrow q2
  (fun g hg => by
   have hg' := hb' g hg
   refine ⟨(hex g).2 (.inr ((d.dm.ex g).2 ⟨_, t0, ht0, hg'⟩)), ?_⟩
   rintro (q | ⟨_, q⟩ | q)
   ·exact d.dm.ne _ t0 ht0 (by rw [← q]; exact hg')
   ·exact q hg'
   ·cases q)
  ⟨by rw [List.length_set]; exact hn, d.le, hdm, fun j t hj' => by
   rw [List.getElem?_set] at hj'
   by_cases q : i.toNat = j
   ·subst q
    simp only [if_true, hj] at hj'
    injection hj' with hj'
    subst hj'
    show t0.1.val.oneCell' = true
    exact d.one _ _ ht0
   ·simp only [q, if_false] at hj'
    exact d.one _ _ hj', d.rep.set hj g2 ⟨fun _ => rfl, fun l hl => by cases hl⟩, .inr ⟨hc, of, arr, el, rfl, hheap, hfit, fun j t hj' => by
   rw [List.getElem?_set] at hj'
   by_cases q : i.toNat = j
   ·subst q
    simp only [if_true, hj] at hj'
    injection hj' with hj'
    subst hj'
    show _ = some t0.1.val
    exact hcel _ _ ht0
   ·simp only [q, if_false] at hj'
    exact hcel _ _ hj', fun c => Iff.rfl⟩⟩
 refine Does.value (v := t0.1.val) (w' := w) ?_ ⟨_, _, M2, hr, H', k', hv2⟩
 simp only [execOp, ho, hv, Sem.run_bind, g5]
 rfl
theorem dstore_ok (HE : EnvOk Pg G E) (F : ∀ t, RepV (cx S st.h M w) (st.fr t) (a.tmps.getD t undef)) (H : HInv S B w0 st.h M w) {t : TypeId} {x y : Operand} (ho : o.op = .store t x y) (hty : E.ty t = some (.slice e)) {i : Int} (e1 : opnd none st.fr x = .dptr id i)
  (hr : evDstore e id i (opnd (some (.slice e)) st.fr y) st.h K = some r) : Does Pg o a w (Post K r S B w0 st.h M w) := by
 have hx := opnd_rep F none (by intros; simp) x
 rw [e1] at hx
 unfold evDstore at hr
 split at hr
 case h_2 => cases hr
 rename_i xs ys hxs hlk hy
 obtain ⟨b, of, n, cap, ex, ts, ex0, arr, el, hv, hM, h0, h1, he, d, hc, hheap, hfit, hcel, hex⟩ := dptr_spec H hxs hx
 obtain ⟨rows, hrow, hrep, hul, hbl, hrows⟩ := rowOf_spec H hy (opnd_rep F (some (.slice e)) (fun a b q => by cases q) y)
 have hn := d.len
 have hle := d.le
 have hj : i.toNat < ts.length := by omega
 obtain ⟨t0, ht0⟩ : ∃ t0, ts[i.toNat]? = some t0 := ⟨_, List.getElem?_eq_getElem hj⟩
 obtain ⟨p, hp⟩ : ∃ p, xs[i.toNat]? = some p := ⟨_, List.getElem?_eq_getElem (by rw [← d.rep.1]; exact hj)⟩
 obtain ⟨t1, g1, g2, _⟩ := d.rep.2 _ p hp
 rw [ht0] at g1
 injection g1 with g1
 subst g1
 have hil : id ∉ (opnd (some (.slice e)) st.fr y).owns := fun q => by
  obtain ⟨e0, zs, q⟩ := hrows id q
  rw [he] at q
  cases q
 have hid : st.h.e id ≠ none := by rw [he]; simp
 have apart : ∀ g, valBlk (a.eval y) = some g → ¬ ex g := fun g hg hx => by
  obtain ⟨j, j1, j2, j3⟩ := hbl g hg
  have := H.dist j id g j2 hid j3 (by rw [hM]; exact rows_has.2 hx)
  subst this
  exact hil j1
 have hrow' := hrow
 obtain ⟨A0, cap0, hval, hle0, hcap0⟩ := hrow'
 have hone : (a.eval y).oneCell' = true := by rw [hval]; rfl
 have hcells : (a.eval y).cells.toList = [a.eval y] := by rw [oneCell_cells hone]
 have hrun := run_store_ok (HE.ty t _ hty) (o := of + i.toNat) (v := a.eval y) hheap (by rw [hcells]; rfl) (by simp only [Ty.size]; omega) (by rw [hcells]; simpa using hone)
 rw [hcells] at hrun
 simp only [Ty.size] at hrun
 have hnew := setRow_heap w b arr (arr.toList.take (of + i.toNat) ++ [a.eval y] ++ arr.toList.drop (of + i.toNat + 1)).toArray el (0, 0) hheap
 have hB : B ≤ b := H.own id b hid (by rw [hM]; exact rows_has.2 ((hex b).2 (.inl rfl)))
 have hdm := d.dm.set (u := ({ t0.1 with val := a.eval y }, some rows)) ht0 (fun rs hr => by injection hr with hr; subst hr; exact hrow) (fun q => apart b q ((hex b).2 (.inl rfl))) (fun c hc hx => absurd (d.ex_of hx) (apart c hc))
 have hnb : ∀ c, ((ex0 c ∧ t0.blk ≠ some c) ∨ DEnt.blk ({ t0.1 with val := a.eval y }, some rows) = some c) → c ≠ b := fun c q => hdm.ne_ex q
 obtain ⟨H', k'⟩ := dr_merge (w' := w.setRow b (arr.toList.take (of + i.toNat) ++ [a.eval y] ++ arr.toList.drop (of + i.toNat + 1)).toArray) (ex' := fun c => c = b ∨ (ex0 c ∧ t0.blk ≠ some c) ∨ DEnt.blk ({ t0.1 with val := a.eval y }, some rows) = some c)
  (ts := ts.set i.toNat ({ t0.1 with val := a.eval y }, some rows)) (xs' := P.dgive xs i () ys) H he hlk hM hul hil
  (fun c q => by
   rcases q with q | ⟨q, _⟩ | q
   ·exact .inl ((hex c).2 (.inl q))
   ·exact .inl ((hex c).2 (.inr q))
   ·exact .inr (hbl c q))
  (fun c _ hc _ => setRow_other w b c _ fun q => hc ((hex c).2 (.inl q))) (by simp) (setRow_below H hB _)
  (fun c2 hc2 k => ⟨by rw [List.length_set]; exact hn, hle, hdm.stay' fun c hc => setRow_other w b c _ (hnb c hc), fun j t hj' => by
   rw [List.getElem?_set] at hj'
   by_cases q : i.toNat = j
   ·subst q
    simp only [if_true, hj] at hj'
    injection hj' with hj'
    subst hj'
    exact hone
   ·simp only [q, if_false] at hj'
    exact d.one _ _ hj', by
   have hrep' : DEnts (cx S st.h M w).Z w (.st .unit) e (ts.set i.toNat ({ t0.1 with val := a.eval y }, some rows)) (P.dgive xs i () ys) :=
    d.rep.set (u := ({ t0.1 with val := a.eval y }, some rows)) hj g2 ⟨fun q => (by cases q), fun l hl => ⟨rows, rfl, by injection hl with hl; subst hl; exact hrep⟩⟩
   have := hrep'.held k.held
   rw [hc2] at this
   exact this, .inr ⟨hc, of, _, el, rfl, hnew, by simp <;> omega, fun j t hj' => by
   rw [List.getElem?_set] at hj'
   rw [List.getElem?_toArray]
   by_cases q : i.toNat = j
   ·subst q
    simp only [if_true, hj] at hj'
    injection hj' with hj'
    subst hj'
    have hl : (arr.toList.take (of + i.toNat)).length = of + i.toNat := by simp <;> omega
    rw [List.append_assoc, List.getElem?_append_right (by omega), hl, Nat.sub_self]
    rfl
   ·simp only [q, if_false] at hj'
    have hold := hcel _ _ hj'
    rw [cell_splice (e := (arr.toList.drop (of + i.toNat)).take 1) (by simp <;> omega)]
    have hcs : arr.toList.take (of + i.toNat) ++ (arr.toList.drop (of + i.toNat)).take 1 ++ arr.toList.drop (of + i.toNat + 1) = arr.toList := by
     have h1 := List.take_append_drop (of + i.toNat) arr.toList
     have h2 := List.take_append_drop 1 (arr.toList.drop (of + i.toNat))
     rw [List.drop_drop] at h2
     rw [List.append_assoc, h2, h1]
    rw [hcs, Array.getElem?_toList]
    have hl : (arr.toList.take (of + i.toNat)).length = of + i.toNat := by simp <;> omega
    rw [hl]
    rcases Nat.lt_or_gt_of_ne q with hlt | hgt
    ·rw [if_neg (by omega), if_neg (by simp <;> omega)]
     exact hold
    ·rw [if_pos (by omega)]
     exact hold, fun c => Iff.rfl⟩⟩)
 ·refine Does.skip (w' := _) ?_ ⟨.undef, _, _, hr, H', k', by simp only [RepV]⟩
  simp only [execOp, ho, hv, Sem.run_bind, hrun, Result.andThen_ok, Sem.run_pure]
theorem DRow.nil {Z : Nat → Prop} (e : Ty) (A : Option Addr) (b : Nat) : DRow Z w e [] A 0 0 (fun _ => False) b [] fun _ => False :=
 ⟨rfl, Nat.le_refl _, DmIs.nil, by simp, DEnts.nil, .inl ⟨rfl, fun _ => Iff.rfl⟩⟩
theorem dapp_core (H : HInv S B w0 h M w) {sT xT e' xe : TypeId} {info : TypeInfo} (ty : TypeId) (hu : Pg.underlying sT = some (.slice e')) (hux : Pg.underlying xT = some (.slice xe)) (hi : Pg.info? e' = some info) {bytes : Nat} (hb : info.bytes = bytes) (hb0 : 0 < bytes) (hok : Ok Pg (.slice e) (.typ e'))
  {l : List Nat} (hl : ∀ i ∈ l, ∃ v A n cap ex, h.e i = some (.box v (drow e)) ∧ h.lk i = false ∧ M i = .rows A n cap ex)
  {A A2 : Option Addr} {n m cap cap2 b b2 : Nat} {ex ey ex0 ey0 : Nat → Prop} {ts us : List DEnt} {xs ys : (drow e).D} (d : DRow (cx S h M w).Z w e xs A n cap ex b ts ex0) (k : DRow (cx S h M w).Z w e ys A2 m cap2 ey b2 us ey0)
  (h1 : ∀ c, ex c → ∃ i ∈ l, (M i).has c) (h2 : ∀ c, ey c → ∃ i ∈ l, (M i).has c) (hdis : ∀ c, ex c → ey c → False) (hroom : (n + m) * bytes ≤ 140737488355328)
  (hr : K (.dref h.next) ((drops h e l).new (.box (.data (drow e) (P.app xs ys)) (drow e))) = some r) :
  ∃ v w', (Builtin.append_ #[sT, xT] ty #[.slice A n cap, .slice A2 m cap2]).run Pg w = .ok v w' ∧ Post K r S B w0 h M w v w' := by
 have hbig : n + m ≤ 9223372036854775807 := by
  have := Nat.le_mul_of_pos_right (n + m) hb0
  omega
 have hsz : info.size = 1 := by
  obtain ⟨i, q1, q2⟩ := ok_size hok
  rw [hi] at q1; injection q1 with q1; subst q1; exact q2
 have hn := d.len
 have hm := k.len
 have hle := d.le
 have live : ∀ i ∈ l, h.e i ≠ none := fun i hi => by obtain ⟨v, _, _, _, _, he, _⟩ := hl i hi; rw [he]; simp
 have hlt : ∀ c, (∃ i ∈ l, (M i).has c) → c < w.heap.size ∧ B ≤ c := fun c ⟨i, i1, i2⟩ => ⟨blk_lt H (live i i1) i2, H.own i c (live i i1) i2⟩
 obtain ⟨c1, c2⟩ := d.cells
 obtain ⟨k1, k2⟩ := k.cells
 have hfx : ∀ w' : World, w'.heap = w.heap → (Builtin.firstCells info.size m (.slice A2 m cap2)).run Pg w' = .ok (us.map (·.1.val)).toArray w' := fun w' hw => by
  rw [hsz]
  exact run_firstCells (by simp [hm]) (k1.imp id fun ⟨b, of, q, m⟩ => ⟨b, of, q, fun j v hv => (cell_of_heap (by rw [hw])).trans (m j v hv)⟩)
 have hfs : ∀ w' : World, w'.heap = w.heap → (Builtin.firstCells info.size n (.slice A n cap)).run Pg w' = .ok (ts.map (·.1.val)).toArray w' := fun w' hw => by
  rw [hsz]
  exact run_firstCells (by simp [hn]) (c1.imp id fun ⟨b, of, q, m⟩ => ⟨b, of, q, fun j v hv => (cell_of_heap (by rw [hw])).trans (m j v hv)⟩)
 have hone : ∀ (i : Nat) (t : DEnt), (ts ++ us)[i]? = some t → t.1.val.oneCell' = true := fun i t ht => by
  rw [List.getElem?_append] at ht
  split at ht
  ·exact d.one i t ht
  ·exact k.one _ t ht
 have hdis0 : ∀ c, ex0 c → ey0 c → False := fun c q1 q2 => hdis c (d.ex_of q1) (k.ex_of q2)
 have fin : ∀ (A' : Option Addr) (cap' b' : Nat) (w' : World), (Builtin.append_ #[sT, xT] ty #[.slice A n cap, .slice A2 m cap2]).run Pg w = .ok (.slice A' (n + m) cap') w' → n + m ≤ cap' → w.heap.size ≤ w'.heap.size → Below B w w' →
   (∀ c, c < w.heap.size → c ≠ b' ∨ (∀ i ∈ l, ¬ (M i).has c) → w'.heap[c]? = w.heap[c]?) → ¬ ex0 b' → ¬ ey0 b' →
   (cap' = 0 ∨ cap' ≠ 0 ∧ ((∃ i ∈ l, (M i).has b') ∨ w.heap.size ≤ b') ∧ ∃ o arr el, A' = some ⟨b', o, none⟩ ∧ w'.heap[b']? = some (.cells arr el (0, 0)) ∧ o + cap' ≤ arr.size ∧ ∀ (i : Nat) (t : DEnt), (ts ++ us)[i]? = some t → arr[o + i]? = some t.1.val) →
   ∃ v w', (Builtin.append_ #[sT, xT] ty #[.slice A n cap, .slice A2 m cap2]).run Pg w = .ok v w' ∧ Post K r S B w0 h M w v w' := by
  intro A' cap' b' w' hrun hle' hs bel hheap nb1 nb2 hown
  have stay : ∀ c, (ex0 c ∨ ey0 c) → w'.heap[c]? = w.heap[c]? := fun c hc => by
   have hin : ∃ i ∈ l, (M i).has c := by
    rcases hc with q | q
    ·exact h1 c (d.ex_of q)
    ·exact h2 c (k.ex_of q)
   exact hheap c (hlt c hin).1 (.inl fun q => by subst q; rcases hc with q | q; exact nb1 q; exact nb2 q)
  have hdm := ((d.dm.move nb1).append (b2 := b') (k.dm.move nb2) hdis0 nb2).stay' (w' := w') stay
  obtain ⟨M2, H', s, hv⟩ := dr_new (w' := w') (e := e) (ex' := fun c => (cap' ≠ 0 ∧ c = b') ∨ ex0 c ∨ ey0 c) (A' := A') (n' := n + m) (cap' := cap') (zs := P.app xs ys) (ts := ts ++ us) (b := b') (ex0 := fun c => ex0 c ∨ ey0 c) H hl
   (fun c q => by
    rcases q with ⟨q0, rfl⟩ | q | q
    ·rcases hown with q | ⟨_, q, _⟩
     ·exact absurd q q0
     ·exact q
    ·exact .inl (h1 c (d.ex_of q))
    ·exact .inl (h2 c (k.ex_of q)))
   (fun c hc hn => hheap c hc (.inr hn)) hs bel
   (fun c hc kk => ⟨by simp [hn, hm], hle', hdm, hone, by
    have := (d.rep.append k.rep).held kk.held
    rw [hc] at this
    exact this, by
    rcases hown with q | ⟨q0, _, o, arr, el, q1, q2, q3, q4⟩
    ·exact .inl ⟨q, fun c => by simp [q]⟩
    ·exact .inr ⟨q0, o, arr, el, q1, q2, q3, q4, fun c => by simp [q0]⟩⟩)
  exact ⟨_, _, hrun, .dref h.next, _, M2, hr, H', s, hv⟩
 by_cases hin : n + m ≤ cap
 ·rcases d.own with ⟨h0, _⟩ | ⟨h0, of, arr, el, rfl, hheap, hfit, hcel, hexb⟩
  ·have hus : us.map (·.1.val) = [] := by
    rw [List.eq_nil_of_length_eq_zero (l := us) (by omega)]; rfl
   have hnob : ∀ c, ¬ ex0 c := fun c q => by
    obtain ⟨i, t, q1, _⟩ := (d.dm.ex c).1 q
    have := (List.getElem?_eq_some_iff.1 q1).1
    omega
   have hnob2 : ∀ c, ¬ ey0 c := fun c q => by
    obtain ⟨i, t, q1, _⟩ := (k.dm.ex c).1 q
    have := (List.getElem?_eq_some_iff.1 q1).1
    omega
   exact fin A cap 0 w (run_append_stay ty hu hux hi (hfx w rfl) hin (.inr hus)) hin (Nat.le_refl _) (Below.refl _ _) (fun _ _ _ => rfl) (hnob 0) (hnob2 0) (.inl h0)
  ·have hbl : ∃ i ∈ l, (M i).has b := h1 b ((hexb b).2 (.inl rfl))
   have hrun := run_append_room (Pg := Pg) (w := w) (n := n) (m := m) (ds := us.map (·.1.val)) ty hu hux hi (o := of) (hfx w rfl) hin hheap (by rw [hsz]; simp [hm]) (by rw [hsz]; omega) k2
   have hnew := setRow_heap w b arr (arr.toList.take (of + n * info.size) ++ us.map (·.1.val) ++ arr.toList.drop (of + n * info.size + m * info.size)).toArray el (0, 0) hheap
   rw [hsz] at hrun hnew
   simp only [Nat.mul_one] at hrun hnew
   refine fin _ cap b _ hrun hin (by simp) ⟨rfl, rfl, rfl, by simp, fun c hc => setRow_other w b c _ (by have := (hlt b hbl).2; omega)⟩ (fun c _ hc => setRow_other w b c _ (by
     rcases hc with q | q
     ·exact q
     ·rintro rfl
      obtain ⟨i, i1, i2⟩ := hbl
      exact q i i1 i2)) (fun q => (d.dm.ne_ex q) rfl) (fun q => hdis b ((hexb b).2 (.inl rfl)) (k.ex_of q)) (.inr ⟨h0, .inl hbl, of, _, el, rfl, hnew, ?_, fun i t ht => ?_⟩)
   ·simp; omega
   ·rw [List.getElem?_toArray]
    have hl1 : (arr.toList.take (of + n)).length = of + n := by simp <;> omega
    rw [List.getElem?_append] at ht
    split at ht
    ·rename_i q
     rw [List.append_assoc, List.getElem?_append_left (by omega), List.getElem?_take, if_pos (by omega), Array.getElem?_toList]
     exact hcel i t ht
    ·rename_i q
     have hlt2 := (List.getElem?_eq_some_iff.1 ht).1
     rw [List.append_assoc, List.getElem?_append_right (by omega), List.getElem?_append_left (by simp <;> omega), hl1, List.getElem?_map, show of + i - (of + n) = i - ts.length by omega, ht]
     rfl
 ·obtain ⟨zz, hz1, hz2⟩ : ∃ zz, info.zero = some zz ∧ zz.cells.size = info.size := by
   obtain ⟨i, z, q1, q2, q3, q4⟩ := ok_zeroD (Z := (cx S h M w).Z) (w := w) hok rfl
   rw [hi] at q1
   injection q1 with q1
   subst q1
   exact ⟨z, q3, by rw [q2]; simpa using q4.len⟩
  obtain ⟨newCap, rest, g1, g2, g3⟩ := run_append_new (Pg := Pg) (w := w) (cs := ts.map (·.1.val)) (ds := us.map (·.1.val)) ty hu hux hi hz1 hz2 hfs hfx (by omega) (by rw [hb]; exact hroom) hbig
  have hb1 : Below B w { w with drawn := w.drawn + 1 } := ⟨rfl, rfl, rfl, Nat.le_refl _, fun _ _ => rfl⟩
  refine fin _ newCap w.heap.size _ g3 g1 (by rw [alloc_size]; simp) (hb1.alloc H.bsz _) (fun c hc _ => alloc_old _ _ c hc) (fun q => by have := (hlt _ (h1 _ (d.ex_of q))).1; omega) (fun q => by have := (hlt _ (h2 _ (k.ex_of q))).1; omega)
   (.inr ⟨by omega, .inr (Nat.le_refl _), 0, _, e', rfl, alloc_get _ _, ?_, fun i t ht => ?_⟩)
  ·simp only [List.size_toArray, List.length_append, List.length_map]
   rw [g2, hsz]
   omega
  ·rw [List.getElem?_toArray, Nat.zero_add, ← List.map_append]
   have := (List.getElem?_eq_some_iff.1 ht).1
   rw [List.getElem?_append_left (by simpa using this), List.getElem?_map, ht]
   rfl
theorem dapp_ok (HE : EnvOk Pg G E) (H : HInv S B w0 h M w) {t u : TypeId} (ty : TypeId) {bytes : Nat} (ht : look E.drows t = some (e, bytes)) (htu : E.ty u = E.ty t) {s x : AV} {sv xv : Value} (hs : RepV (cx S h M w) s sv) (hx : RepV (cx S h M w) x xv)
  (hr : evDapp e bytes s x h K = some r) : ∃ v w', (Builtin.append_ #[t, u] ty #[sv, xv]).run Pg w = .ok v w' ∧ Post K r S B w0 h M w v w' := by
 obtain ⟨e', ie, hu, hi, hb, hb0, hok, hty⟩ := HE.drows t e bytes ht
 obtain ⟨⟨xe, hux, _⟩, _⟩ := HE.ty u (.slice (.slice e)) (by rw [htu]; exact hty)
 unfold evDapp at hr
 split at hr
 ·rename_i e0 j
  split at hr
  case h_2 => cases hr
  rename_i ys hys hlk
  obtain ⟨hroom, hr⟩ := test_some hr
  obtain ⟨A2, m, cap2, ey, b2, us, ey0, rfl, hM, he, k⟩ := dref_spec H hys hx
  simp only [RepV, Rep1] at hs
  obtain ⟨A, hs⟩ := hs
  injection hs with hs
  subst hs
  refine dapp_core H ty hu hux hi hb hb0 hok (l := [j]) (fun i hi => ?_) (DRow.nil e A 0) k (fun _ q => q.elim) (fun c q => ⟨j, by simp, by rw [hM]; exact rows_has.2 q⟩) (fun _ q _ => q) ?_ hr
  ·simp only [List.mem_singleton] at hi
   subst hi
   exact ⟨_, _, _, _, _, he, hlk, hM⟩
  ·have hm : m = ys.length := k.len.trans k.rep.1
   simp only [P.room_def, P.len] at hroom
   have := of_decide_eq_true hroom
   rw [Nat.zero_add, hm]
   simpa using this
 ·rename_i i j
  split at hr
  case h_2 => cases hr
  rename_i xs ys hij hxs hlk hys hlk2
  obtain ⟨hroom, hr⟩ := test_some hr
  obtain ⟨A2, m, cap2, ey, b2, us, ey0, rfl, hM2, he2, k⟩ := dref_spec H hys hx
  obtain ⟨A, n, cap, ex, b, ts, ex0, rfl, hM, he, d⟩ := dref_spec H hxs hs
  have hne : i ≠ j := fun q => by rw [q, Nat.beq_refl] at hij; cases hij
  refine dapp_core H ty hu hux hi hb hb0 hok (l := [i, j]) (fun c hc => ?_) d k (fun c q => ⟨i, by simp, by rw [hM]; exact rows_has.2 q⟩) (fun c q => ⟨j, by simp, by rw [hM2]; exact rows_has.2 q⟩) (fun c q1 q2 => hne ?_) ?_ hr
  ·simp only [List.mem_cons, List.not_mem_nil, or_false] at hc
   rcases hc with rfl | rfl
   ·exact ⟨_, _, _, _, _, he, hlk, hM⟩
   ·exact ⟨_, _, _, _, _, he2, hlk2, hM2⟩
  ·exact H.dist i j c (by rw [he]; simp) (by rw [he2]; simp) (by rw [hM]; exact rows_has.2 q1) (by rw [hM2]; exact rows_has.2 q2)
  ·have hm : m = ys.length := k.len.trans k.rep.1
   have hn : n = xs.length := d.len.trans d.rep.1
   simp only [P.room_def, P.add, P.len] at hroom
   have := of_decide_eq_true hroom
   rw [hn, hm]
   have e1 : ((List.length xs : Int) + (List.length ys : Int)).toNat = List.length xs + List.length ys := by omega
   rwa [e1] at this
 ·cases hr
end Go.PG
end
section
namespace Go.PG
open Go.RowKit
variable {Pg : Program} {G : World → Prop} {E : Env} {S : Nat → Prop} {B : Nat} {w0 w w' : World} {h h' : Hp} {M M' : Nat → Bk} {ρ : Type} {r : ρ} {K : AV → Hp → Option ρ} {st : St} {a : Act} {o : Oper}
abbrev eO (e t : Ty) : Ty := .st (.pair (.slice e) t)
abbrev tsOf (gs : List Value) : List DEnt := gs.map fun g => (({ key := g, val := .bool false, born := 0 } : MapEntry), none)
theorem tsOf_cells (gs : List Value) : (tsOf gs).map DEnt.cell = gs.map fun g => (g, rowCell none) := by
 unfold tsOf
 rw [List.map_map]
 rfl
theorem toD_int {h : Hp} {k : IntKind} {v : AV} {n : Int} (hx : toD h v (.int k) = some n) : v = .data (.int k) n := by
 cases v with
 | data t x =>
  simp only [toD] at hx
  split at hx
  ·rename_i q; subst q; injection hx with hx; subst hx; rfl
  ·cases hx
 | _ => simp [toD] at hx
theorem toD_bool' {h : Hp} {v : AV} {n : Bool} (hx : toD h v .bool = some n) : v = .data .bool n := by
 cases v with
 | data t x =>
  simp only [toD] at hx
  split at hx
  ·rename_i q; subst q; injection hx with hx; subst hx; rfl
  ·cases hx
 | _ => simp [toD] at hx
theorem toD_dmap {h : Hp} {k e : Ty} {v : AV} {n : (Ty.dmap k e).D} (hx : toD h v (.dmap k e) = some n) : v = .data (.dmap k e) n := by
 cases v with
 | data t x =>
  simp only [toD] at hx
  split at hx
  ·rename_i q; subst q; injection hx with hx; subst hx; rfl
  ·cases hx
 | _ => simp [toD] at hx
theorem tie_box {e t : Ty} {v : AV} {n : Int} {b : Bool} {l : (tieL e t).D} {id : Nat} (hx : tieOf e t h id = some (v, n, b, l)) : h.e id = some (.box (tieV e t v n b l) (tieT e t)) := by
 unfold tieOf at hx
 split at hx
 case h_2 => cases hx
 rename_i v' a c d L he
 split at hx
 case h_2 => cases hx
 rename_i n' b' l' hL ha hc hd
 injection hx with hx
 injection hx with q1 hx
 injection hx with q2 hx
 injection hx with q3 q4
 subst q1; subst q2; subst q3; subst q4
 rw [he, toD_int ha, toD_bool' hc, toD_dmap hd, of_decide_eq_true hL]
 rfl
structure TRow (Z : Nat → Prop) (w : World) (e t : Ty) (hd : Value) (n : Int) (b : Bool) (l : (tieL e t).D) (A : Option Addr) (m cap : Nat) (ex : Nat → Prop) (bk : Nat) (gs : List Value) : Prop where
 len : m = gs.length
 le : m ≤ cap
 rep : DEnts Z w (eO e t) e (tsOf gs) l
 own : cap = 0 ∧ (∀ c, ¬ ex c) ∨ cap ≠ 0 ∧ ∃ o arr el, A = some ⟨bk, o, none⟩ ∧ w.heap[bk]? = some (.cells arr el (0, 0)) ∧ o + cap * (eO e t).size ≤ arr.size ∧ (∀ c, ex c ↔ c = bk) ∧
  ∀ (i : Nat) (g : Value), gs[i]? = some g → ∃ c0 rest, g = .agg (c0 :: rest).toArray ∧ rest.length + 1 = (eO e t).size ∧ Mem w bk (o + i * (eO e t).size) ((if b = true ∧ (i : Int) = n then hd else c0) :: rest)
variable {e t : Ty} {v : AV} {n : Int} {b : Bool} {l : (tieL e t).D} {A : Option Addr} {m cap : Nat} {ex : Nat → Prop} {bk : Nat} {gs : List Value} {hd : Value} {id : Nat}
theorem TRow.ent {c : Cx} (d : TRow c.Z c.w e t hd n b l A m cap ex bk gs) (hM : c.M id = .rows A m cap ex) (hf : fitsT v (.slice e) = true) (hv : RepC c v [hd]) : EntOk c id (.box (tieV e t v n b l) (tieT e t)) := by
 refine ⟨bk, [hd, .int .i64 n, .bool b, mapCell (gs.map fun g => (g, rowCell none))], ⟨A, m, cap, ex, hd, n, b, gs, hM, rfl, d.len, d.le, d.own⟩, by simp [tieV, fitsT, hf], ?_⟩
 have hr : RepD c.Z c.w (tieL e t) l [mapCell ((tsOf gs).map DEnt.cell)] := of_dents d.rep
 rw [tsOf_cells] at hr
 simp only [tieV, RepC]
 exact ⟨[hd], _, rfl, hv, [.int .i64 n], _, rfl, by simp only [RepD], [.bool b], _, rfl, by simp only [RepD], hr⟩
theorem tie_of (H : HInv S B w0 h M w) (hx : tieOf e t h id = some (v, n, b, l)) : h.e id = some (.box (tieV e t v n b l) (tieT e t)) ∧ fitsT v (.slice e) = true ∧ ∃ A m cap ex bk hd gs, M id = .rows A m cap ex ∧ RepC (cx S h M w) v [hd] ∧ TRow (cx S h M w).Z w e t hd n b l A m cap ex bk gs := by
 have he := tie_box hx
 obtain ⟨bk, cs, hh, hf, hr⟩ := H.ent id _ he
 have hh : TieIs w (M id) bk (eO e t).size cs := hh
 simp only [tieV, fitsT] at hf
 have hf1 : fitsT v (.slice e) = true := by
  split at hf
  ·assumption
  ·cases hf
 refine ⟨he, hf1, ?_⟩
 obtain ⟨A, m, cap, ex, hd, n', b', gs, hM, rfl, h1, h2, h3⟩ := hh
 simp only [tieV, RepC] at hr
 obtain ⟨c1, c2, q1, r1, c3, c4, rfl, r3, c5, c6, rfl, r5, r6⟩ := hr
 have l1 : c1.length = 1 := fits_len v (.slice e) c1 hf1 r1
 simp only [RepD] at r3 r5
 subst r3; subst r5
 obtain ⟨u, rfl⟩ := List.length_eq_one_iff.1 l1
 simp only [List.singleton_append, List.cons_append, List.nil_append, List.cons.injEq] at q1
 obtain ⟨rfl, q2, q3, rfl⟩ := q1
 injection q2 with _ q2
 injection q3 with q3
 subst q2; subst q3
 refine ⟨A, m, cap, ex, bk, hd, gs, hM, r1, h1, h2, ?_, h3⟩
 rw [← tsOf_cells] at r6
 exact dents_of r6
theorem TRow.at {Z : Nat → Prop} (d : TRow Z w e t hd n b l A m cap ex bk gs) {i : Nat} (hi : i < m) : ∃ p c0 rest o arr el, l[i]? = some p ∧ gs[i]? = some (.agg (c0 :: rest).toArray) ∧ RepD Z w (.slice e) p.1.1 [c0] ∧ RepD Z w t p.1.2 rest ∧ rest.length + 1 = (eO e t).size ∧ A = some ⟨bk, o, none⟩ ∧ w.heap[bk]? = some (.cells arr el (0, 0)) ∧
  o + cap * (eO e t).size ≤ arr.size ∧ (∀ c, ex c ↔ c = bk) ∧ Mem w bk (o + i * (eO e t).size) ((if b = true ∧ (i : Int) = n then hd else c0) :: rest) := by
 have hlen : gs.length = l.length := by have := d.rep.1; simpa using this
 have h1 := d.len
 have hil : i < l.length := by omega
 obtain ⟨u, g1, g2, _⟩ := d.rep.2 i l[i] (List.getElem?_eq_getElem hil)
 rcases d.own with ⟨h0, _⟩ | ⟨h0, o, arr, el, hA, hh, hs, hex, hc⟩
 ·have := d.le; omega
 obtain ⟨c0, rest, k1, k2, k3⟩ := hc i gs[i] (List.getElem?_eq_getElem (by omega))
 rw [List.getElem?_map, List.getElem?_eq_getElem (by omega), Option.map_some] at g1
 injection g1 with g1
 subst g1
 simp only at g2
 rw [k1] at g2
 rcases g2 with ⟨_, cs, q, r⟩ | ⟨q, _⟩
 ·injection q with q
  subst q
  have r : RepD Z w (eO e t) l[i].1 (c0 :: rest) := r
  simp only [RepD] at r
  obtain ⟨c1, c2, q, r1, r2⟩ := r
  have l1 : c1.length = 1 := by
   obtain ⟨_, _, z, _⟩ := r1
   rw [z]; rfl
  obtain ⟨u, rfl⟩ := List.length_eq_one_iff.1 l1
  simp only [List.singleton_append, List.cons.injEq] at q
  obtain ⟨rfl, rfl⟩ := q
  exact ⟨l[i], c0, rest, o, arr, el, List.getElem?_eq_getElem hil, by rw [List.getElem?_eq_getElem (by omega), k1], by simp only [RepD]; exact r1, r2, k2, hA, hh, hs, hex, k3⟩
 ·simp [isSt] at q
theorem tptr_spec (H : HInv S B w0 h M w) (hx : tieOf e t h id = some (v, n, b, l)) {i : Int} {s : Nat} {u : Value} (hv : RepV (cx S h M w) (.tptr id i s) u) : ∃ bk o m cap ex hd gs, u = .pointer (some ⟨bk, o + i.toNat * s, none⟩) ∧ M id = .rows (some ⟨bk, o, none⟩) m cap ex ∧ 0 ≤ i ∧ i.toNat < m ∧
  RepC (cx S h M w) v [hd] ∧ TRow (cx S h M w).Z w e t hd n b l (some ⟨bk, o, none⟩) m cap ex bk gs := by
 simp only [RepV, Rep1] at hv
 obtain ⟨_, z, hc, hv⟩ := hv
 injection hc with hc
 obtain ⟨he, hf, A, m, cap, ex, bk, hd, gs, hM, r1, d⟩ := tie_of H hx
 rcases hv with hv | ⟨b', o, m', cap', ex', hM', h0, h1, rfl⟩
 ·simp only [cx] at hv
  rw [he] at hv
  cases hv
 ·simp only [cx] at hM'
  rw [hM] at hM'
  injection hM' with q1 q2 q3 q4
  subst q1; subst q2; subst q3; subst q4
  have hbk : b' = bk := by
   rcases d.own with ⟨z, _⟩ | ⟨_, o2, _, _, hA, _⟩
   ·have := d.le; omega
   ·injection hA with hA; injection hA
  subst hbk
  exact ⟨b', o, m, cap, ex, hd, gs, hc, hM, h0, h1, r1, d⟩
theorem tidx_ok (HE : EnvOk Pg G E) (F : ∀ t, RepV (cx S st.h M w) (st.fr t) (a.tmps.getD t undef)) (H : HInv S B w0 st.h M w) {ty : TypeId} {x i : Operand} (ho : o.op = .indexAddr ty x i) (hty : E.ty ty = some (.slice (eO e t))) {k : IntKind} {p : Int}
  (e1 : opnd none st.fr x = .dref id) (e2 : opnd none st.fr i = .data (.int k) p) (hr : evTidx e t id p st.h K = some r) : Does Pg o a w (Post K r S B w0 st.h M w) := by
 obtain ⟨⟨e', hu, hok⟩, _⟩ := HE.ty ty _ hty
 have hx := opnd_rep F none (by intros; simp) x
 have hi := opnd_rep F none (by intros; simp) i
 rw [e1] at hx
 rw [e2] at hi
 have hi := repV_int hi
 unfold evTidx at hr
 split at hr
 case h_2 => cases hr
 rename_i v n b l hxs
 obtain ⟨hin, hr⟩ := test_some hr
 obtain ⟨h0, h1⟩ := inb_spec hin
 obtain ⟨he, hf, A, m, cap, ex, bk, hd, gs, hM, r1, d⟩ := tie_of H hxs
 simp only [RepV, Rep1] at hx
 obtain ⟨_, A', m', cap', hc, hx⟩ := hx
 injection hc with hc
 rcases hx with hx | ⟨ex', hM'⟩
 ·simp only [cx] at hx; rw [he] at hx; cases hx
 simp only [cx] at hM'
 rw [hM] at hM'
 injection hM' with q1 q2 q3 q4
 subst q1; subst q2; subst q3; subst q4
 have hlen : gs.length = l.length := by have := d.rep.1; simpa using this
 have hl := d.len
 unfold P.len at h1
 have hlt : p.toNat < m := by omega
 have := d.le
 rcases d.own with ⟨h2, _⟩ | ⟨_, of, arr, el, rfl, _⟩
 ·omega
 refine Does.value (v := .pointer (some ⟨bk, of + p.toNat * (eO e t).size, none⟩)) (w' := w) ?_ (Post.same H hr ?_)
 ·have := run_indexSlice hu hok bk of m cap p k h0 (by omega) w
  simp only [execOp, ho, hc, hi, Sem.run_bind, this, Result.andThen_ok, Sem.run_pure]
 ·simp only [RepV, Rep1]
  exact ⟨H.lt he, _, rfl, .inr ⟨bk, of, m, cap, ex, hM, h0, hlt, rfl⟩⟩
theorem tlen_ok (HE : EnvOk Pg G E) (F : ∀ t, RepV (cx S st.h M w) (st.fr t) (a.tmps.getD t undef)) (H : HInv S B w0 st.h M w) {c : Call} (ho : o.op = .call c) (hc : c.callee = .builtin .len) {ty : TypeId} {tl : List TypeId} (hat : c.argTypes.toList = ty :: tl) (hty : E.ty ty = some (.slice (eO e t)))
  (ha : c.args.toList.map (opnd none st.fr) = [.dref id]) (hxs : tieOf e t st.h id = some (v, n, b, l)) (hr : K (.data (.int .i64) (P.len l)) st.h = some r) : Does Pg o a w (Post K r S B w0 st.h M w) := by
 obtain ⟨⟨e', hu, hok⟩, _⟩ := HE.ty ty _ hty
 obtain ⟨y, hy, hyo⟩ : ∃ y, c.args.toList = [y] ∧ opnd none st.fr y = .dref id := by
  cases q : c.args.toList with
  | nil => rw [q] at ha; cases ha
  | cons y l => cases l with
   | nil => rw [q] at ha; simp at ha; exact ⟨y, rfl, ha⟩
   | cons z l => rw [q] at ha; simp at ha
 have hca : c.args = #[y] := by apply Array.toList_inj.1; simpa using hy
 have hat' : c.argTypes = (ty :: tl).toArray := by apply Array.toList_inj.1; simpa using hat
 have hx := opnd_rep F none (by intros; simp) y
 rw [hyo] at hx
 obtain ⟨he, hf, A, m, cap, ex, bk, hd, gs, hM, r1, d⟩ := tie_of H hxs
 simp only [RepV, Rep1] at hx
 obtain ⟨_, A', m', cap', hcc, hx⟩ := hx
 injection hcc with hcc
 rcases hx with hx | ⟨ex', hM'⟩
 ·simp only [cx] at hx; rw [he] at hx; cases hx
 simp only [cx] at hM'
 rw [hM] at hM'
 injection hM' with q1 q2 q3 q4
 subst q1; subst q2; subst q3; subst q4
 have hlen : gs.length = l.length := by have := d.rep.1; simpa using this
 have hl := d.len
 refine Does.value (builtin_run ho hc (fun _ _ _ _ => rfl) (z := .int .i64 (P.len l)) ?_) (Post.same H hr (rep_int _ _ _))
 simp [Builtin.len_, hca, hat', hcc, run_underlying hu, goInt, hl, hlen, P.len]
theorem tget_some {i : Nat} {p : (List e.D × t.D) × Option (List e.D)} (hp : l[i]? = some p) {q : Int} (hq : q.toNat = i) (d : List e.D × t.D) : P.tget l q d = p.1 := by
 unfold P.tget
 rw [hq, hp]
theorem tload_ok (HE : EnvOk Pg G E) (F : ∀ t, RepV (cx S st.h M w) (st.fr t) (a.tmps.getD t undef)) (H : HInv S B w0 st.h M w) {ty : TypeId} {x : Operand} (ho : o.op = .load ty x) {whole lent : Bool} (hty : E.ty ty = some (if whole then eO e t else .slice e)) {i : Int} (e1 : opnd none st.fr x = .tptr id i (eO e t).size)
  (hr : evTload e t id i whole lent st.h K = some r) : Does Pg o a w (Post K r S B w0 st.h M w) := by
 have hx := opnd_rep F none (by intros; simp) x
 rw [e1] at hx
 unfold evTload at hr
 split at hr
 case h_2 => cases hr
 rename_i v n b l hxs
 obtain ⟨bk, of, m, cap, ex, hd, gs, hv, hM, h0, h1, r1, d⟩ := tptr_spec H hxs hx
 obtain ⟨_, hf, _⟩ := tie_of H hxs
 obtain ⟨p, c0, rest, of', arr, el, g1, g2, g3, g4, g5, hA, g6, g7, g8, hm⟩ := d.at h1
 injection hA with hA
 injection hA with _ hA
 subst hA
 have hp := tget_some g1 (q := i) rfl
 have hi : ((i.toNat : Nat) : Int) = i := by omega
 rw [hi] at hm
 split at hr
 ·
  obtain ⟨hb, hr⟩ := test_some hr
  have hb : b = true ∧ i = n := by simpa [P.and, P.ieq_def] using hb
  rw [if_pos hb] at hm
  obtain ⟨u, k1, k2⟩ := run_load_ok (HE.ty ty _ hty) hm (by simp only [if_true]; simpa using g5)
  refine Does.value (v := u) (w' := w) (by simp only [execOp, ho, hv, Sem.run_bind, k1]; rfl) (Post.same H hr ?_)
  rcases k2 with ⟨_, rfl⟩ | ⟨q, _⟩
  ·simp only [RepV]
   refine ⟨_, rfl, ?_⟩
   simp only [RepC]
   exact ⟨[hd], rest, rfl, r1, by rw [hp]; exact g4⟩
  ·simp [isSt] at q
 ·
  obtain ⟨hb, hr⟩ := test_some hr
  have hb : ¬ (b = true ∧ i = n) := by
   rintro ⟨rfl, rfl⟩
   simp [P.and, P.ieq_def, P.not] at hb
  rw [if_neg hb] at hm
  obtain ⟨u, k1, k2⟩ := run_load_ok (HE.ty ty _ hty) hm (by simp only [if_true]; simpa using g5)
  refine Does.value (v := u) (w' := w) (by simp only [execOp, ho, hv, Sem.run_bind, k1]; rfl) (Post.same H hr ?_)
  rcases k2 with ⟨_, rfl⟩ | ⟨q, _⟩
  ·simp only [RepV]
   refine .inl ⟨rfl, _, rfl, ?_⟩
   have z : RepD (cx S st.h M w).Z w (eO e t) p.1 (c0 :: rest) := by
    simp only [RepD] at g3 ⊢
    exact ⟨[c0], rest, rfl, g3, g4⟩
   rw [hp]
   exact z
  ·simp [isSt] at q
 ·
  obtain ⟨hb, hr⟩ := test_some hr
  have hb : b = true ∧ i = n := by simpa [P.and, P.ieq_def] using hb
  rw [if_pos hb] at hm
  have hm1 : Mem w bk (of + i.toNat * (eO e t).size) [hd] := fun j u hu => hm j u (by
   cases j with
   | zero => simpa using hu
   | succ j => simp at hu)
  obtain ⟨u, k1, k2⟩ := run_load_ok (HE.ty ty _ hty) hm1 rfl
  refine Does.value (v := u) (w' := w) (by simp only [execOp, ho, hv, Sem.run_bind, k1]; rfl) (Post.same H hr ?_)
  exact repC_repV hf (by simp) r1 k2
 ·cases hr
theorem cell_at {arr : Array Value} {p q : Nat} {u : Value} (hp : p < arr.size) : ((arr.toList.take p ++ [u] ++ arr.toList.drop (p + 1)).toArray)[q]? = if q = p then some u else arr[q]? := by
 rw [List.getElem?_toArray]
 have hl : (arr.toList.take p).length = p := by simp <;> omega
 by_cases h : q = p
 ·subst h
  rw [if_pos rfl, List.append_assoc, List.getElem?_append_right (by omega), hl, Nat.sub_self]
  rfl
 ·rw [if_neg h]
  rw [cell_splice (e := (arr.toList.drop p).take 1) (by simp <;> omega)]
  have hcs : arr.toList.take p ++ (arr.toList.drop p).take 1 ++ arr.toList.drop (p + 1) = arr.toList := by
   have h1 := List.take_append_drop p arr.toList
   have h2 := List.take_append_drop 1 (arr.toList.drop p)
   rw [List.drop_drop] at h2
   rw [List.append_assoc, h2, h1]
  rw [hcs, Array.getElem?_toList, hl]
  rcases Nat.lt_or_gt_of_ne h with z | z
  ·rw [if_pos z]
  ·rw [if_neg (by omega), if_neg (by simp <;> omega)]
theorem mem_set {bk : Nat} {arr : Array Value} {el : TypeId} {p : Nat} {u : Value} (hh : w.heap[bk]? = some (.cells arr el (0, 0))) (hp : p < arr.size) {q : Nat} {cs : List Value} (hm : Mem w bk q cs) :
  Mem (w.setRow bk (arr.toList.take p ++ [u] ++ arr.toList.drop (p + 1)).toArray) bk q (if p < q ∨ q + cs.length ≤ p then cs else cs.set (p - q) u) := by
 have hnew := setRow_heap w bk arr (arr.toList.take p ++ [u] ++ arr.toList.drop (p + 1)).toArray el (0, 0) hh
 intro j v hv
 simp only [World.cell?, hnew, Option.isSome_none, Bool.false_eq_true, if_false]
 rw [cell_at hp]
 have old : ∀ j v, cs[j]? = some v → arr[q + j]? = some v := fun j v hv => by
  have := hm j v hv
  simpa only [World.cell?, hh, Option.isSome_none, Bool.false_eq_true, if_false] using this
 by_cases c : p < q ∨ q + cs.length ≤ p
 ·rw [if_pos c] at hv
  have := (List.getElem?_eq_some_iff.1 hv).1
  rw [if_neg (by omega)]
  exact old j v hv
 ·rw [if_neg c, List.getElem?_set] at hv
  by_cases z : p - q = j
  ·rw [if_pos z, if_pos (by omega)] at hv
   rw [if_pos (by omega)]
   exact hv
  ·rw [if_neg z] at hv
   rw [if_neg (by omega)]
   exact old j v hv
theorem far {i k s o : Nat} (h : i ≠ k) (hs : 0 < s) (n : Nat) (hn : n = s) : o + i * s < o + k * s ∨ o + k * s + n ≤ o + i * s := by
 subst hn
 rcases Nat.lt_or_gt_of_ne h with q | q
 ·left
  have : (i + 1) * n ≤ k * n := Nat.mul_le_mul_right n q
  rw [Nat.add_mul, Nat.one_mul] at this
  omega
 ·right
  have : (k + 1) * n ≤ i * n := Nat.mul_le_mul_right n q
  rw [Nat.add_mul, Nat.one_mul] at this
  omega
theorem eO_pos (e t : Ty) : 0 < (eO e t).size := by
 show 0 < 1 + t.size
 omega
theorem tstore_ok (HE : EnvOk Pg G E) (F : ∀ t, RepV (cx S st.h M w) (st.fr t) (a.tmps.getD t undef)) (H : HInv S B w0 st.h M w) {ty : TypeId} {x y : Operand} (ho : o.op = .store ty x y) (hty : E.ty ty = some (.slice e)) {i : Int} (e1 : opnd none st.fr x = .tptr id i (eO e t).size)
  (hr : evTstore e t id i (opnd (some (.slice e)) st.fr y) st.h K = some r) : Does Pg o a w (Post K r S B w0 st.h M w) := by
 have hx := opnd_rep F none (by intros; simp) x
 rw [e1] at hx
 have hy := opnd_rep F (some (.slice e)) (fun a b q => by cases q) y
 unfold evTstore at hr
 split at hr
 case h_2 => cases hr
 rename_i v n b l j hxs hlk hyj
 split at hr
 case h_2 => cases hr
 rename_i ys hys hlj hji
 have hji : j ≠ id := fun q => by rw [q, Nat.beq_refl] at hji; cases hji
 rw [hyj] at hy
 obtain ⟨bk, of, m, cap, ex, hd, gs, hv, hM, h0, h1, r1, d⟩ := tptr_spec H hxs hx
 obtain ⟨he, hf, _⟩ := tie_of H hxs
 obtain ⟨p, c0, rest, of', arr, el, g1, g2, g3, g4, g5, hA, hheap, hfit, hex, hm⟩ := d.at h1
 injection hA with hA
 injection hA with _ hA
 subst hA
 have hi : ((i.toNat : Nat) : Int) = i := by omega
 have hpos := eO_pos e t
 have hle := d.le
 have hlen := d.len
 have hin : of + i.toNat * (eO e t).size < arr.size := by
  have h2 : (i.toNat + 1) * (eO e t).size ≤ cap * (eO e t).size := Nat.mul_le_mul_right _ (by omega)
  rw [Nat.add_mul, Nat.one_mul] at h2
  omega
 -- the value that is written
 have hyc : RepC (cx S st.h M w) (.own j) [a.eval y] := by simpa only [RepC, RepV] using hy
 have hone : (a.eval y).oneCell' = true := by
  simp only [RepV, Rep1] at hy
  obtain ⟨_, A0, n0, cap0, q, _⟩ := hy
  injection q with q
  rw [q]; rfl
 have hcells : (a.eval y).cells.toList = [a.eval y] := by rw [oneCell_cells hone]
 have hrun := run_store_ok (HE.ty ty _ hty) (o := of + i.toNat * (eO e t).size) (v := a.eval y) hheap (by rw [hcells]; rfl) (by show _ + 1 ≤ _; omega) (by rw [hcells]; simpa using hone)
 rw [hcells] at hrun
 rw [show (Ty.slice e).size = 1 from rfl] at hrun
 have hnew := setRow_heap w bk arr (arr.toList.take (of + i.toNat * (eO e t).size) ++ [a.eval y] ++ arr.toList.drop (of + i.toNat * (eO e t).size + 1)).toArray el (0, 0) hheap
 have hid : st.h.e id ≠ none := by rw [he]; simp
 have hB : B ≤ bk := H.own id bk hid (by rw [hM]; exact rows_has.2 ((hex bk).2 rfl))
 have hhas : ∀ c, (M id).has c ↔ c = bk := fun c => by rw [hM]; exact ⟨fun q => (hex c).1 (rows_has.1 q), fun q => rows_has.2 ((hex c).2 q)⟩
 have hsz : (arr.toList.take (of + i.toNat * (eO e t).size) ++ [a.eval y] ++ arr.toList.drop (of + i.toNat * (eO e t).size + 1)).toArray.size = arr.size := by simp <;> omega
 generalize hW : w.setRow bk (arr.toList.take (of + i.toNat * (eO e t).size) ++ [a.eval y] ++ arr.toList.drop (of + i.toNat * (eO e t).size + 1)).toArray = W at *
 have hWb : ∀ c, c < w.heap.size → ¬ (M id).has c → W.heap[c]? = w.heap[c]? := fun c _ hc => by
  rw [← hW]; exact setRow_other w bk c _ fun q => hc ((hhas c).2 q)
 have hWs : w.heap.size ≤ W.heap.size := by rw [← hW]; simp
 have hWB : Below B w W := by rw [← hW]; exact setRow_below H hB _
 -- the cells
 have cells : ∀ (k : Nat) (c : List Value), Mem w bk (of + k * (eO e t).size) c → c.length = (eO e t).size → Mem W bk (of + k * (eO e t).size) (if i.toNat = k then c.set 0 (a.eval y) else c) := fun k c hc hl => by
  have := mem_set (u := a.eval y) hheap hin hc
  rw [hW] at this
  by_cases z : i.toNat = k
  ·subst z
   rw [if_pos rfl]
   rw [if_neg (by omega), Nat.sub_self] at this
   exact this
  ·rw [if_neg z]
   rw [if_pos (far z hpos _ hl)] at this
   exact this
 cases hc : P.ieq i n with
 | true =>
  rw [hc] at hr
  have hr : K .undef (st.h.put id (.box (tieV e t (.own j) n true l) (tieT e t))) = some r := hr
  have hin' : i = n := by simpa [P.ieq_def] using hc
  obtain ⟨H', k'⟩ := H.upd (w' := W) (e' := .box (tieV e t (.own j) n true l) (tieT e t)) he hlk (.inl ⟨_, _, _, rfl, rfl⟩) hWb hWs hWB (fun k => by
   refine TRow.ent (c := cx S _ M W) (hd := a.eval y) (A := some ⟨bk, of, none⟩) (m := m) (cap := cap) (ex := ex) (bk := bk) (gs := gs) ⟨hlen, hle, d.rep.held k.held, .inr ⟨by omega, of, _, el, rfl, hnew, by rw [hsz]; exact hfit, hex, fun q g hg => ?_⟩⟩ hM rfl (RepC.tr k _ _ hyc)
   rcases d.own with ⟨z, _⟩ | ⟨_, of2, _, _, hA2, _, _, _, hmm⟩
   ·omega
   injection hA2 with hA2
   injection hA2 with _ hA2
   subst hA2
   obtain ⟨d0, rs, q1, q2, q3⟩ := hmm q g hg
   refine ⟨d0, rs, q1, q2, ?_⟩
   have := cells q _ q3 (by simpa using q2)
   by_cases z : i.toNat = q
   ·rw [if_pos z] at this
    rw [if_pos ⟨rfl, by omega⟩]
    exact this
   ·rw [if_neg z] at this
    rw [if_neg (by intro y; omega)]
    rw [if_neg (by intro y; omega)] at this
    exact this)
  refine Does.skip (w' := W) ?_ ⟨.undef, _, _, hr, H', k', by simp only [RepV]⟩
  simp only [execOp, ho, hv, Sem.run_bind, hrun, Result.andThen_ok, Sem.run_pure]
 | false =>
  rw [hc] at hr
  have hr : K .undef ((st.h.kills [j]).put id (.box (tieV e t v n b (P.tput l i ys (eO e t).zero)) (tieT e t))) = some r := hr
  have hin' : ¬ i = n := by simpa [P.ieq_def] using hc
  have hul : unlocked st.h [j] = true := by simp [unlocked, hlj]
  have hfr := freeze_rep H (v := .own j) (t := .slice e) (x := ys) (cs := [a.eval y]) hys hyc
  have hown : (AV.own j).owns = [j] := rfl
  rw [hown] at hfr
  obtain ⟨H1, k1⟩ := H.kills hul
  have he1 : (st.h.kills [j]).e id = some (.box (tieV e t v n b l) (tieT e t)) := by
   rw [kills_e, if_neg (by simp; exact fun q => hji q.symm)]
   exact he
  have hlk1 : (st.h.kills [j]).lk id = false := by rw [kills_lk]; exact hlk
  have hgl : i.toNat < gs.length := by omega
  obtain ⟨H', k'⟩ := H1.upd (w' := W) (e' := .box (tieV e t v n b (P.tput l i ys (eO e t).zero)) (tieT e t)) he1 hlk1 (.inl ⟨_, _, _, rfl, rfl⟩) hWb hWs hWB (fun k => by
   have rep1 : DEnts (cx S (st.h.kills [j]) M w).Z w (eO e t) e (tsOf gs) l := d.rep.held k1.tr.held
   have g4' : RepD (cx S (st.h.kills [j]) M w).Z w t p.1.2 rest := g4.held k1.tr.held
   have hz : RepD (cx S (st.h.kills [j]) M w).Z w (eO e t) (ys, p.1.2) (a.eval y :: rest) := by
    simp only [RepD] at hfr ⊢
    exact ⟨[a.eval y], rest, rfl, hfr, g4'⟩
   have hset : DEnts (cx S (st.h.kills [j]) M w).Z w (eO e t) e (tsOf (gs.set i.toNat (.agg (a.eval y :: rest).toArray))) (P.tput l i ys (eO e t).zero) := by
    have := rep1.set (j := i.toNat) (by simpa using hgl) (x := (ys, p.1.2)) (y := none) (u := (({ key := .agg (a.eval y :: rest).toArray, val := .bool false, born := 0 } : MapEntry), none)) (.inl ⟨rfl, _, rfl, by simpa using hz⟩) ⟨fun _ => rfl, fun l hl => by cases hl⟩
    have e3 : tsOf (gs.set i.toNat (.agg (a.eval y :: rest).toArray)) = (tsOf gs).set i.toNat (({ key := .agg (a.eval y :: rest).toArray, val := .bool false, born := 0 } : MapEntry), none) := by
     unfold tsOf
     rw [List.map_set]
    have e4 : P.tput l i ys (eO e t).zero = l.set i.toNat ((ys, p.1.2), none) := by
     unfold P.tput
     rw [tget_some g1 rfl]
    rw [e3, e4]
    exact this
   have hZ : (cx S ((st.h.kills [j]).put id (.box (tieV e t v n b (P.tput l i ys (eO e t).zero)) (tieT e t))) M W).w = W := rfl
   refine TRow.ent (c := cx S _ M W) (hd := hd) (A := some ⟨bk, of, none⟩) (m := m) (cap := cap) (ex := ex) (bk := bk) (gs := gs.set i.toNat (.agg (a.eval y :: rest).toArray)) ⟨by rw [List.length_set]; exact hlen, hle, hset.held k.held, .inr ⟨by omega, of, _, el, rfl, hnew, by rw [hsz]; exact hfit, hex, fun q g hg => ?_⟩⟩ hM hf (RepC.tr k _ _ (RepC.tr k1.tr _ _ r1))
   rcases d.own with ⟨z, _⟩ | ⟨_, of2, _, _, hA2, _, _, _, hmm⟩
   ·omega
   injection hA2 with hA2
   injection hA2 with _ hA2
   subst hA2
   rw [List.getElem?_set] at hg
   by_cases z : i.toNat = q
   ·rw [if_pos z, if_pos hgl] at hg
    injection hg with hg
    subst hg
    refine ⟨a.eval y, rest, rfl, g5, ?_⟩
    rw [if_neg (by rintro ⟨_, y2⟩; omega)]
    have := cells q _ (by rw [← z]; exact hm) (by simpa using g5)
    rw [if_pos z] at this
    exact this
   ·rw [if_neg z] at hg
    obtain ⟨d0, rs, q1, q2, q3⟩ := hmm q g hg
    refine ⟨d0, rs, q1, q2, ?_⟩
    have := cells q _ q3 (by simpa using q2)
    rw [if_neg z] at this
    exact this)
  refine Does.skip (w' := W) ?_ ⟨.undef, _, _, hr, H', k1.trans k', by simp only [RepV]⟩
  simp only [execOp, ho, hv, Sem.run_bind, hrun, Result.andThen_ok, Sem.run_pure]
theorem tconv_ok {T : Tie} {v : AV} {u : Value} (H : HInv S B w0 h M w) (hv : RepV (cx S h M w) v u) (hr : evTconv T v h K = some r) : Post K r S B w0 h M w u w := by
 unfold evTconv at hr
 split at hr
 case h_2 => cases hr
 rename_i xs hxs
 obtain ⟨rows, hrow, hrep, hul, hbl, hrows⟩ := rowOf_spec H hxs hv
 obtain ⟨A, cap, hu, hle, hcap⟩ := hrow
 let gs : List Value := rows.map fun d => .agg d.toArray
 have hgl : gs.length = rows.length := by simp [gs]
 have hxl : rows.length = xs.length := hrep.1
 obtain ⟨bk, hbk⟩ : ∃ bk, cap = 0 ∨ ∃ o, A = some ⟨bk, o, none⟩ := by
  rcases hcap with q | ⟨_, b, o, _, _, q, _⟩
  ·exact ⟨0, .inl q⟩
  ·exact ⟨b, .inr ⟨o, q⟩⟩
 have hcov : ∀ c, (c = bk ∧ cap ≠ 0) → rows.length ≠ 0 → valBlk u = some c := fun c ⟨q1, q2⟩ q3 => by
  rcases hbk with z | ⟨o, z⟩
  ·exact absurd z q2
  ·rw [hu, z, q1]
   cases q : rows.length with
   | zero => exact absurd q q3
   | succ k =>
    cases cap with
    | zero => exact absurd rfl q2
    | succ c0 => rfl
 obtain ⟨H', k⟩ := H.renew hul (.box (tieV T.e T.r (.nilS T.e) T.n false (P.twrap xs)) (tieT T.e T.r)) (.rows A rows.length cap fun c => c = bk ∧ cap ≠ 0) (w' := w)
  (fun _ _ _ => rfl) (Nat.le_refl _) (Below.refl _ _)
  (fun c hc => by
   have hc := rows_has.1 hc
   exact .inr (hbl c (by
    rcases hbk with z | ⟨o, z⟩
    ·exact absurd z hc.2
    ·rw [hu, z, hc.1]
     cases cap with
     | zero => exact absurd rfl hc.2
     | succ c0 => rfl)))
  (fun k => by
   refine TRow.ent (c := cx S _ _ w) (hd := .slice none 0 0) (A := A) (m := rows.length) (cap := cap) (ex := fun c => c = bk ∧ cap ≠ 0) (bk := bk) (gs := gs) ⟨hgl.symm, hle, ?_, ?_⟩ (by simp [cx, set1, Nat.beq_refl]) rfl (by simp only [RepC, Rep1]; exact ⟨none, rfl⟩)
   ·refine ⟨by simp [gs, P.twrap, hxl], fun i p hp => ?_⟩
    unfold P.twrap at hp
    rw [List.getElem?_map, Option.map_eq_some_iff] at hp
    obtain ⟨x, hx, rfl⟩ := hp
    obtain ⟨d, d1, d2⟩ := hrep.2 i x hx
    refine ⟨_, by rw [List.getElem?_map, List.getElem?_map, d1]; rfl, .inl ⟨rfl, d.toArray, rfl, by simpa using d2.held k.held⟩, fun _ => rfl, fun l hl => by cases hl⟩
   ·rcases hcap with q | ⟨q, b, o, cs, el, q1, q2, q3, q4⟩
    ·exact .inl ⟨q, fun c hc => hc.2 q⟩
    ·have hb : b = bk := by
      rcases hbk with z | ⟨o2, z⟩
      ·exact absurd z q
      ·rw [q1] at z; injection z with z; injection z
     subst hb
     refine .inr ⟨q, o, cs, el, q1, q2, q3, fun c => ⟨fun z => z.1, fun z => ⟨z, q⟩⟩, fun i g hg => ?_⟩
     have hg : (rows.map fun d => Value.agg d.toArray)[i]? = some g := hg
     rw [List.getElem?_map, Option.map_eq_some_iff] at hg
     obtain ⟨d, hd, rfl⟩ := hg
     have hil : i < xs.length := by rw [← hxl]; exact (List.getElem?_eq_some_iff.1 hd).1
     obtain ⟨d', d1, d2⟩ := hrep.2 i xs[i] (List.getElem?_eq_getElem hil)
     rw [hd] at d1
     injection d1 with d1
     subst d1
     have hl := d2.len
     cases d with
     | nil =>
      have h0 : 0 < (Ty.st (.pair (.slice T.e) T.r)).size := eO_pos T.e T.r
      rw [← hl] at h0
      exact absurd h0 (by simp)
     | cons c0 rest =>
      refine ⟨c0, rest, rfl, by simpa using hl, ?_⟩
      rw [if_neg (by simp)]
      exact q4 i _ hd)
 refine ⟨.dref h.next, _, _, hr, H', k, ?_⟩
 rw [hu]
 simp only [RepV, Rep1]
 exact ⟨by simp [cx, Hp.new, kills_next], A, rows.length, cap, rfl, .inr ⟨fun c => c = bk ∧ cap ≠ 0, by simp [cx, set1, Nat.beq_refl]⟩⟩
end Go.PG
end
section
namespace Go.PG
open Go.RowKit
variable {Pg : Program} {G : World → Prop} {E : Env} {S : Nat → Prop} {B : Nat} {w0 w w' : World} {h : Hp} {M : Nat → Bk} {ρ : Type} {K : AV → Hp → Option ρ} {r : ρ} {st : St} {a : Act} {o : Oper}
theorem cond_some {α : Type} {b : Bool} {x y : Option α} {r : α} (h : P.cond b x y = some r) : (if b then x else y) = some r := by
 cases b <;> simpa [P.cond_def] using h
theorem run_part_ok {t : Ty} {id : TypeId} (h : Ok Pg t (.typ id)) {xs : Array Value} {p c s : List Value} (e : xs.toList = p ++ c ++ s) (hl : c.length = t.size) (w : World) :
  ∃ v, (part id xs p.length).run Pg w = .ok v w ∧ valOf t c v := by
 have ha := ok_agg h w
 cases q : isSt t with
 | true =>
  rw [q] at ha
  refine ⟨.agg c.toArray, ?_, .inl ⟨q, rfl⟩⟩
  have hs := run_sizeOf_ok h w
  have hx : xs.extract p.length (p.length + t.size) = c.toArray := by
   apply Array.toList_inj.1
   rw [Array.toList_extract, e]
   simp [List.extract, ← hl]
  simp [part, ha, hs, hx]
 | false =>
  rw [q] at ha
  have h1 : t.size = 1 := by cases t <;> first | rfl | exact h.elim | cases q
  obtain ⟨v, rfl⟩ : ∃ v, c = [v] := List.length_eq_one_iff.1 (by omega)
  refine ⟨v, ?_, .inr ⟨q, rfl⟩⟩
  have : xs[p.length]? = some v := by
   rw [← Array.getElem?_toList, e]; simp
  simp [part, ha, this]
theorem repV_agg {c : Cx} {v : AV} {b : Ty} {u : Value} (f : fitsT v (.st b) = true) (h : RepV c v u) : ∃ cs, u = .agg cs ∧ RepC c v cs.toList := by
 cases v with
 | data t x =>
  simp only [fitsT, decide_eq_true_eq] at f
  subst f
  rcases repV_data h with ⟨_, cs, rfl, h'⟩ | ⟨q, _⟩
  ·exact ⟨cs, rfl, by simpa only [RepC] using h'⟩
  ·simp [isSt] at q
 | st a =>
  simp only [RepV] at h
  obtain ⟨cs, rfl, h⟩ := h
  exact ⟨cs, rfl, by simpa only [RepC] using h⟩
 | _ => simp [fitsT] at f
theorem repT_one {c : Cx} {v : AV} {vs : List Value} (h1 : v ≠ .unit) (h2 : ∀ p q, v ≠ .pr p q) (h : RepT c v vs) : ∃ u, vs = [u] ∧ RepV c v u := by
 cases v with
 | unit => exact absurd rfl h1
 | pr p q => exact absurd rfl (h2 p q)
 | undef => simp only [RepT] at h; obtain ⟨u, rfl⟩ := h; exact ⟨u, rfl, by simp only [RepV]⟩
 | tup b => simp only [RepT] at h; obtain ⟨us, rfl, h⟩ := h; exact ⟨_, rfl, by simp only [RepV]; exact ⟨us, rfl, h⟩⟩
 | data t x => simp only [RepT] at h; obtain ⟨u, rfl, h⟩ := h; exact ⟨u, rfl, by simp only [RepV]; exact h⟩
 | st b => simp only [RepT] at h; obtain ⟨us, rfl, h⟩ := h; exact ⟨_, rfl, by simp only [RepV]; exact ⟨us, rfl, h⟩⟩
 | fn f d => simp only [RepT] at h; obtain ⟨us, rfl, h⟩ := h; exact ⟨_, rfl, by simp only [RepV]; exact ⟨us, rfl, h⟩⟩
 | nilS e => simp only [RepT] at h; obtain ⟨u, rfl, h⟩ := h; exact ⟨u, rfl, by simp only [RepV]; exact h⟩
 | own id => simp only [RepT] at h; obtain ⟨u, rfl, h⟩ := h; exact ⟨u, rfl, by simp only [RepV]; exact h⟩
 | ptr id p => simp only [RepT] at h; obtain ⟨u, rfl, h⟩ := h; exact ⟨u, rfl, by simp only [RepV]; exact h⟩
 | rptr t x => simp only [RepT] at h; obtain ⟨u, rfl, h⟩ := h; exact ⟨u, rfl, by simp only [RepV]; exact h⟩
 | eptr id i p => simp only [RepT] at h; obtain ⟨u, rfl, h⟩ := h; exact ⟨u, rfl, by simp only [RepV]; exact h⟩
 | view id a n => simp only [RepT] at h; obtain ⟨u, rfl, h⟩ := h; exact ⟨u, rfl, by simp only [RepV]; exact h⟩
 | unkB => simp only [RepT] at h; obtain ⟨u, rfl, h⟩ := h; exact ⟨u, rfl, by simp only [RepV]; exact h⟩
 | mref id => simp only [RepT] at h; obtain ⟨u, rfl, h⟩ := h; exact ⟨u, rfl, by simp only [RepV]; exact h⟩
 | dref id => simp only [RepT] at h; obtain ⟨u, rfl, h⟩ := h; exact ⟨u, rfl, by simp only [RepV]; exact h⟩
 | dptr id i => simp only [RepT] at h; obtain ⟨u, rfl, h⟩ := h; exact ⟨u, rfl, by simp only [RepV]; exact h⟩
 | tptr id i m => simp only [RepT] at h; obtain ⟨u, rfl, h⟩ := h; exact ⟨u, rfl, by simp only [RepV]; exact h⟩
theorem tupP_rep {c : Cx} : ∀ (v : AV) (j : Nat) (u : AV) (vs : List Value), tupP v j = some u → RepT c v vs → ∃ z, vs[j]? = some z ∧ RepV c u z := by
 have one : ∀ (v : AV) (j : Nat) (u : AV) (vs : List Value), v ≠ .unit → (∀ p q, v ≠ .pr p q) → tupP v j = some u → RepT c v vs → ∃ z, vs[j]? = some z ∧ RepV c u z := by
  intro v j u vs h1 h2 hu h
  obtain ⟨z, rfl, hz⟩ := repT_one h1 h2 h
  cases j with
  | zero =>
   have : tupP v 0 = some v := by cases v <;> first | rfl | exact absurd rfl h1 | exact absurd rfl (h2 _ _)
   rw [this] at hu
   injection hu with hu
   subst hu
   exact ⟨z, rfl, hz⟩
  | succ j =>
   have : tupP v (j + 1) = none := by cases v <;> first | rfl | exact absurd rfl h1 | exact absurd rfl (h2 _ _)
   rw [this] at hu
   cases hu
 intro v
 induction v with
 | pr p q _ ihq =>
  intro j u vs hu h
  simp only [RepT] at h
  obtain ⟨z, vs', rfl, h1, h2⟩ := h
  cases j with
  | zero => simp only [tupP] at hu; injection hu with hu; subst hu; exact ⟨z, rfl, h1⟩
  | succ j =>
   simp only [tupP] at hu
   exact ihq j u vs' hu h2
 | unit => intro j u vs hu h; simp [tupP] at hu
 | _ => intro j u vs hu h; exact one _ j u vs (by simp) (by simp) hu h
theorem capsOf_rep {c : Cx} {fr : Nat → AV} {a : Act} (F : ∀ t, RepV c (fr t) (a.tmps.getD t undef)) : ∀ (l : List Operand), RepT c (capsOf (l.map (opnd none fr))) (l.map a.eval)
 | [] => by simp [capsOf, RepT]
 | x :: l => by
  simp only [List.map_cons, capsOf, RepT]
  exact ⟨_, _, rfl, opnd_rep F none (by intros; simp) x, capsOf_rep F l⟩
theorem sat_spec {s : ByteArray} {n : Int} (h0 : 0 ≤ n) (h1 : n < P.slen s) : ∃ b, s[n.toNat]? = some b ∧ P.sat s n = ((b.toNat : Nat) : Int) := by
 have hl : n.toNat < s.size := by unfold P.slen at h1; omega
 refine ⟨s[n.toNat], getElem?_pos s n.toNat hl, ?_⟩
 have : s.data.toList[n.toNat]? = some s[n.toNat] := by
  rw [Array.getElem?_toList]
  exact Array.getElem?_eq_getElem hl
 rw [P.sat_def, List.getD_eq_getElem?_getD, this]
 rfl
theorem evIdx_spec {v : AV} {n : Int} {h : Hp} {K : AV → Hp → Option ρ} : ∀ (m j : Nat), evIdx v n h K m j = some r →
  ∃ (i : Nat) (u : AV), n = (i : Int) ∧ v.comp i = some u ∧ K u h = some r ∧ ∀ {σ : Type} (h2 : Hp) (K' : AV → Hp → Option σ), evIdx v n h2 K' m j = K' u h2 := by
 intro m
 induction m with
 | zero => intro j hr; simp [evIdx] at hr
 | succ m ih =>
  intro j hr
  simp only [evIdx] at hr
  split at hr
  case h_2 => cases hr
  rename_i u hu
  cases hb : P.ieq n (Int.ofNat j) with
  | true =>
   rw [hb] at hr
   have : n = Int.ofNat j := by simpa [P.ieq_def] using hb
   exact ⟨j, u, this, hu, hr, fun h2 K' => by simp only [evIdx, hu, hb, P.cond_def]⟩
  | false =>
   rw [hb] at hr
   obtain ⟨i, u', q1, q2, q3, q4⟩ := ih (j + 1) hr
   exact ⟨i, u', q1, q2, q3, fun h2 K' => by simp only [evIdx, hu, hb, P.cond_def]; exact q4 h2 K'⟩
theorem evOp0_ok (HE : EnvOk Pg G E) (hG : G w0) {call : Handler} (HC : HandlerOk Pg G S B w0 call) (F : ∀ t, RepV (cx S st.h M w) (st.fr t) (a.tmps.getD t undef)) (H : HInv S B w0 st.h M w)
  (hr : evOp0 E call o st K = some r) : Does Pg o a w (Post K r S B w0 st.h M w) := by
 unfold evOp0 at hr
 simp only at hr
 split at hr
 ·
  rename_i x ho
  exact Does.value (v := a.eval x) (w' := w) (by simp [execOp, ho]) (Post.same H hr (opnd_rep F _ (HE.noPair _) x))
 ·rename_i x ho
  exact Does.value (v := a.eval x) (w' := w) (by simp [execOp, ho]) (Post.same H hr (opnd_rep F _ (HE.noPair _) x))
 ·
  rename_i c x y ho
  have hc := opnd_rep F none (by intros; simp) c
  split at hr
  case h_2 => cases hr
  rename_i t e
  rw [e] at hc
  have hc := repV_bool hc
  have hr := cond_some hr
  cases t with
  | true => exact Does.value (v := a.eval x) (w' := w) (by simp [execOp, ho, hc, asBool]) (Post.same H (by simpa using hr) (opnd_rep F _ (HE.noPair _) x))
  | false => exact Does.value (v := a.eval y) (w' := w) (by simp [execOp, ho, hc, asBool]) (Post.same H (by simpa using hr) (opnd_rep F _ (HE.noPair _) y))
 ·
  rename_i t ho
  split at hr
  case h_2 =>
   split at hr
   case h_2 => cases hr
   rename_i e hb
   exact alloc_bld HE H ho hb hr
  rename_i L hL
  obtain ⟨z, hz, hrep, hfit⟩ := ok_zero (c := cx S st.h M w) (HE.ty t _ hL) w
  refine Does.value (v := .pointer (some ⟨w.heap.size, 0, none⟩)) (w' := w.alloc (.cells z.cells t (0, 0))) ?_ (new_box H t (plain_of_ok (HE.ty t _ hL)) hfit hrep hr)
  simp [execOp, ho, Instr.alloc, hz, newVar, newRow]
 ·
  rename_i t n ho
  split at hr
  ·exact makeMap_ok H ho hr
  ·split at hr
   ·exact makeDmap_ok H ho hr
   ·cases hr
  ·cases hr
 ·
  rename_i t m k ok ho
  split at hr
  case h_2 =>
   split at hr
   case h_2 => cases hr
   rename_i kt et ht
   exact dlookup_ok HE F H ho ht hr
  rename_i kt vt ht
  exact lookup_ok HE F H ho ht hr
 ·
  rename_i t m k v ho
  split at hr
  case h_2 =>
   split at hr
   case h_2 => cases hr
   rename_i kt et ht
   exact dmapUpdate_ok HE F H ho ht hr
  rename_i kt vt ht
  exact mapUpdate_ok HE F H (.inl ho) ht hr
 ·
  rename_i t m k v ho
  split at hr
  case h_2 => cases hr
  rename_i kt vt ht
  exact mapUpdate_ok HE F H (.inr ho) ht hr
 ·
  rename_i t x ho
  split at hr
  case h_2 => cases hr
  rename_i L hL
  split at hr
  case h_2 => cases hr
  rename_i hsol hfit
  have hx := opnd_rep F (some L) (by intro p q e; exact HE.noPair t p q (hL.trans e)) x
  refine Does.value (v := .pointer (some ⟨w.heap.size, 0, none⟩)) (w' := w.alloc (.cells (a.eval x).cells t (0, 0))) ?_ (new_box H t (plain_of_ok (HE.ty t _ hL)) hfit (repV_cells _ _ hsol hx) hr)
  simp [execOp, ho, Instr.box, newVar, newRow]
 ·
  rename_i t ps ho
  exact build_ok HE F H ho hr
 ·
  rename_i t n ps ho
  split at hr
  case h_2 => cases hr
  rename_i e hty
  split at hr
  case h_2 => cases hr
  rename_i xs hf hd hs
  split at hr
  ·split at hr
   case h_2 => cases hr
   rename_i hnb
   refine buildSliceD_ok HE F H ho hty hf hd hs ?_ hr
   cases q : ps.toList.flatMap (fun p => (opnd (some e.un) st.fr p.2).owns) with
   | nil => rfl
   | cons i l => rw [q] at hnb; simp [nobody] at hnb
  ·split at hr
   case h_2 => cases hr
   rename_i hul
   exact buildSlice_ok HE F H ho hty hf hd hs hul hr
 ·
  rename_i t x ho
  exact load_ok HE F H ho hr
 ·
  rename_i t x y ho
  split at hr
  ·rename_i id p e
   split at hr
   ·rename_i v L he hlk
    split at hr
    ·rename_i off u hoff
     split at hr
     ·rename_i hty hs hf
      split at hr
      ·rename_i v' hv'
       exact store_box HE F H ho e he hlk hoff (by simpa using hty) hs hf hv' hr
      ·cases hr
     ·cases hr
    ·cases hr
   ·cases hr
  ·rename_i id i p e
   split at hr
   ·rename_i et xs he hlk
    split at hr
    ·rename_i off u hoff
     split at hr
     ·rename_i hty hm
      exact store_row HE F H ho e he hlk hoff (by simpa using hty) hm hr
     ·cases hr
    ·cases hr
   ·cases hr
  ·cases hr
 ·
  rename_i x ho
  have hx := opnd_rep F none (by intros; simp) x
  split at hr
  ·rename_i id p e
   split at hr
   case h_2 => cases hr
   rename_i en he
   rw [e] at hx
   have hx0 := hx
   simp only [RepV, Rep1] at hx
   obtain ⟨_, q, hv, hx⟩ := hx
   rcases hx with hx | ⟨b, v, L, of, u, h1, h2, h3, rfl⟩
   ·simp only [cx] at hx; rw [he] at hx; cases hx
   ·injection hv with hv _
    exact Does.value (v := a.eval x) (w' := w) (by simp [execOp, ho, hv]) (Post.same H hr hx0)
  ·rename_i t y e
   rw [e] at hx
   have hx0 := hx
   simp only [RepV, Rep1] at hx
   obtain ⟨b, of, d, hv, _⟩ := hx
   injection hv with hv _
   exact Does.value (v := a.eval x) (w' := w) (by simp [execOp, ho, hv]) (Post.same H hr hx0)
  ·rename_i id i p e
   split at hr
   case h_2 => cases hr
   rename_i en he
   rw [e] at hx
   have hx0 := hx
   simp only [RepV, Rep1] at hx
   obtain ⟨_, q, hv, hx⟩ := hx
   rcases hx with hx | ⟨b, of, n, cap, et, xs, qq, u, h1, h2, h3, h4, h5, rfl⟩
   ·simp only [cx] at hx; rw [he] at hx; cases hx
   ·injection hv with hv _
    exact Does.value (v := a.eval x) (w' := w) (by simp [execOp, ho, hv]) (Post.same H hr hx0)
  ·rename_i f c e
   rw [e] at hx
   have hx0 := hx
   simp only [RepV] at hx
   obtain ⟨vs, hv, _⟩ := hx
   exact Does.value (v := a.eval x) (w' := w) (by simp [execOp, ho, hv]) (Post.same H hr hx0)
  ·rename_i id i m e
   split at hr
   case h_2 => cases hr
   rename_i en he
   rw [e] at hx
   have hx0 := hx
   simp only [RepV, Rep1] at hx
   obtain ⟨_, q, hv, hx⟩ := hx
   rcases hx with hx | ⟨b, of, n, cap, ex, h1, h2, h3, rfl⟩
   ·simp only [cx] at hx; rw [he] at hx; cases hx
   ·injection hv with hv _
    exact Does.value (v := a.eval x) (w' := w) (by simp [execOp, ho, hv]) (Post.same H hr hx0)
  ·cases hr
 ·rename_i op t x y u ho
  split at hr
  ·rename_i b e1 hn1 hn2 hn3
   split at hr
   case h_2 => cases hr
   rename_i n hn
   exact nil_ok HE F H ho hn1 hn2 hn3 hn (cond_some hr)
  split at hr
  ·rename_i b v hh
   obtain ⟨ht, hr⟩ := test_some hr
   exact hard_ok HE F H ho hh ht hr
  ·exact binOp_ok HE F H ho hr
 ·rename_i op t x ho
  exact unOp_ok F H ho hr
 ·rename_i s t x ho
  exact convert_ok HE F H ho hr
 ·
  rename_i s x j ho
  split at hr
  ·cases hr
  ·rename_i ha
   exact fieldAddr_ok HE F H ho ha hr
 ·
  rename_i s x j ho
  split at hr
  ·cases hr
  rename_i har
  split at hr
  case h_2 => cases hr
  rename_i L hL
  split at hr
  case h_2 => cases hr
  rename_i u hfit hcomp
  have hx := opnd_rep F (some L) (by intro p q e; exact HE.noPair s p q (hL.trans e)) x
  have hLs : ∃ b, L = .st b := by
   cases q : opnd (some L) st.fr x with
   | data t y => rw [q] at hcomp hfit; cases t with
    | st b => simp only [fitsT, decide_eq_true_eq] at hfit; exact ⟨b, hfit.symm⟩
    | _ => simp [AV.comp] at hcomp
   | st b => rw [q] at hfit; cases L with
    | st c => exact ⟨c, rfl⟩
    | _ => simp [fitsT] at hfit
   | _ => rw [q] at hcomp; simp [AV.comp] at hcomp
  obtain ⟨b, rfl⟩ := hLs
  obtain ⟨cs, hv, hrep⟩ := repV_agg hfit hx
  obtain ⟨b', t, eb, hn, hfu, c1, d, c2, ecs, hl, hd⟩ := av_comp hcomp hfit hrep
  injection eb with eb
  subst eb
  obtain ⟨fs, hu⟩ := HE.struct hL har
  have hok := HE.ty s _ hL
  obtain ⟨hk, _⟩ := hok
  have hfl : Ok Pg b (.flds fs.toList 0) := by
   rcases hk with ⟨fs', h1, h2⟩ | ⟨n, e', h1, _⟩
   ·rw [hu] at h1; injection h1 with h1; injection h1 with h1; subst h1; exact h2
   ·rw [hu] at h1; cases h1
  obtain ⟨f, hf, hoff, hft⟩ := ok_field b fs.toList 0 j t hfl hn
  have hnp : ∀ p q, t ≠ .pair p q := by rintro p q rfl; exact hft
  obtain ⟨z, hz, hvz⟩ := run_part_ok hft ecs (fits_len u t d hfu hd) w
  refine Does.value (v := z) (w' := w) ?_ (Post.same H hr (repC_repV hfu hnp hd hvz))
  have hf' : fs[j]? = some f := by rw [← Array.getElem?_toList]; exact hf
  have ho' : f.offset = c1.length := by rw [hoff, hl]; omega
  simp only [execOp, ho, hv, Instr.field, Sem.run_bind, run_underlying hu, Result.andThen_ok, hf', asAgg, Sem.run_pure, ho', hz]
 ·
  rename_i t x i ho
  split at hr
  ·split at hr
   case h_2 => cases hr
   rename_i s k n hL e1 e2
   obtain ⟨hin, hr⟩ := test_some hr
   obtain ⟨h0, h1⟩ := inb_spec hin
   have hx := opnd_rep F (some .str) (by intros; simp) x
   have hi := opnd_rep F none (by intros; simp) i
   rw [e1] at hx
   rw [e2] at hi
   have hx := repV_str hx
   have hi := repV_int hi
   obtain ⟨b, hb1, hb2⟩ := sat_spec h0 h1
   obtain ⟨hu, _⟩ := HE.ty t _ hL
   refine Does.value (v := .int .u8 b.toNat) (w' := w) ?_ (Post.same H hr (by rw [hb2]; exact rep_int _ _ _))
   simp [execOp, ho, hx, hi, Instr.index, asIntOf, run_underlying hu, h0, hb1]
  rename_i har
  split at hr
  case h_2 => cases hr
  rename_i b hL
  split at hr
  case h_2 => cases hr
  rename_i k n hfit hn
  obtain ⟨j, u, rfl, hcomp, hr, _⟩ := evIdx_spec _ _ hr
  have hx := opnd_rep F (some (.st b)) (by intro p q e; exact HE.noPair t p q (hL.trans e)) x
  have hi := opnd_rep F none (by intros; simp) i
  rw [hn] at hi
  have hi := repV_int hi
  obtain ⟨cs, hv, hrep⟩ := repV_agg hfit hx
  obtain ⟨b', ty, eb, hnth, hfu, c1, d, c2, ecs, hl, hd⟩ := av_comp hcomp hfit hrep
  injection eb with eb
  subst eb
  obtain ⟨len, e, hu⟩ := HE.array hL har
  obtain ⟨hk, _⟩ := HE.ty t _ hL
  have hae : Ok Pg b (.arr len e) := by
   rcases hk with ⟨fs, h1, _⟩ | ⟨n', e', h1, h2⟩
   ·rw [hu] at h1; cases h1
   ·rw [hu] at h1; injection h1 with h1; injection h1 with h1 h1'; subst h1; subst h1'; exact h2
  obtain ⟨hj, hft, hoff⟩ := ok_elem b len j e ty hae hnth
  have hnp : ∀ p q, ty ≠ .pair p q := by rintro p q rfl; exact hft
  obtain ⟨z, hz, hvz⟩ := run_part_ok hft ecs (fits_len u ty d hfu hd) w
  obtain ⟨inf, hi1, hi2⟩ := ok_size hft
  refine Does.value (v := z) (w' := w) ?_ (Post.same H hr (repC_repV hfu hnp hd hvz))
  have hof : j * inf.size = c1.length := by rw [hl]; exact (hoff inf hi1).symm
  simp [execOp, ho, hv, hi, Instr.index, asIntOf, run_underlying hu, sizeOf, typeInfo, hi1, hj, hof, hz]
 ·
  rename_i t x i ho
  split at hr
  ·exact indexS_ok HE F H ho hr
  ·rename_i ha
   exact indexA_ok HE F H ho (fun b hb => HE.array hb ha) hr
 ·rename_i t x lo hi mx ho
  exact slice_ok HE F H ho hr
 ·
  rename_i f first caps ho
  split at hr
  case h_2 => cases hr
  rename_i hfirst
  have h0 : first = #[] := by apply Array.toList_inj.1; simpa using hfirst
  subst h0
  refine Does.value (v := .func (.func f) #[] (caps.map a.eval)) (w' := w) (by simp [execOp, ho, Instr.makeFunc]) (Post.same H hr ?_)
  simp only [RepV]
  refine ⟨_, rfl, ?_⟩
  rw [Array.toList_map]
  exact capsOf_rep F caps.toList
 ·
  rename_i t j ho
  have ht := opnd_rep F none (by intros; simp) t
  split at hr
  case h_2 => cases hr
  rename_i b e
  split at hr
  case h_2 => cases hr
  rename_i u hu
  rw [e] at ht
  simp only [RepV] at ht
  obtain ⟨vs, hv, hT⟩ := ht
  obtain ⟨z, hz, hrz⟩ := tupP_rep b j u _ hu hT
  refine Does.value (v := z) (w' := w) ?_ (Post.same H hr hrz)
  have hz' : vs[j]? = some z := by rw [← Array.getElem?_toList]; exact hz
  simp [execOp, ho, hv, Instr.extract, hz']
 ·
  rename_i c ho
  split at hr
  ·rename_i b hc
   exact evBuiltin_ok HE F H ho hc hr
  ·rename_i f hc
   split at hr
   case h_2 => cases hr
   rename_i g caps hf
   split at hr
   ·cases hr
   ·rename_i hlen
    exact call_ok HE hG HC F H ho hc hf hlen hr
  ·cases hr
 ·cases hr
theorem evDeep0_ok (HE : EnvOk Pg G E) (hG : G w0) {call : Handler} (HC : HandlerOk Pg G S B w0 call) (F : ∀ t, RepV (cx S st.h M w) (st.fr t) (a.tmps.getD t undef)) (H : HInv S B w0 st.h M w)
  (hr : evDeep0 E call o st K = some r) : Does Pg o a w (Post K r S B w0 st.h M w) := by
 unfold evDeep0 at hr
 split at hr
 ·rename_i t n ps ho
  split at hr
  case h_2 => cases hr
  rename_i e bytes x ht hps
  exact dlit_ok HE F H ho ht hps hr
 ·rename_i t x i ho
  split at hr
  ·rename_i e bytes id k n ht e1 e2
   exact didx_ok HE F H ho ht e1 e2 hr
  ·exact evOp0_ok HE hG HC F H hr
  ·cases hr
 ·rename_i t x ho
  split at hr
  case h_2 => cases hr
  rename_i e id i hty e1
  exact dload_ok HE F H ho hty e1 hr
 ·rename_i t x y ho
  split at hr
  case h_2 => cases hr
  rename_i e id i hty e1
  exact dstore_ok HE F H ho hty e1 hr
 ·rename_i c ho
  split at hr
  ·rename_i t u s x hc hat hargs
   split at hr
   case h_2 => cases hr
   rename_i e bytes ht htu
   obtain ⟨y, z, hyz, rfl, rfl⟩ : ∃ y z, c.args.toList = [y, z] ∧ s = opnd none st.fr y ∧ x = opnd none st.fr z := by
    cases q : c.args.toList with
    | nil => rw [q] at hargs; cases hargs
    | cons y l => cases l with
     | nil => rw [q] at hargs; simp at hargs
     | cons z l => cases l with
      | nil => rw [q] at hargs; simp at hargs; exact ⟨y, z, rfl, hargs.1.symm, hargs.2.symm⟩
      | cons _ _ => rw [q] at hargs; simp at hargs
   have hca : c.args = #[y, z] := by apply Array.toList_inj.1; simpa using hyz
   have hat' : c.argTypes = #[t, u] := by apply Array.toList_inj.1; simpa using hat
   obtain ⟨v, w', h1, h2⟩ := dapp_ok HE H o.type ht (of_decide_eq_true htu) (opnd_rep F none (by intros; simp) y) (opnd_rep F none (by intros; simp) z) hr
   exact Does.value (builtin_run ho hc (fun _ _ _ _ => rfl) (by simpa [hca, hat'] using h1)) h2
  ·rename_i t tl id hc hat hargs
   split at hr
   case h_2 => cases hr
   rename_i e bytes ht
   split at hr
   case h_2 => cases hr
   rename_i xs hxs
   exact dlen_ok HE F H ho hc hat ht hargs hxs hr
  ·exact evOp0_ok HE hG HC F H hr
  ·cases hr
 ·cases hr
theorem Does.imp {Q Q' : Value → World → Prop} (h : ∀ v w', Q v w' → Q' v w') (d : Does Pg o a w Q) : Does Pg o a w Q' := by
 intro next R hn
 exact d next R fun v w' hq => hn v w' (h v w' hq)
theorem evTie_ok (HE : EnvOk Pg G E) (hG : G w0) {call : Handler} (HC : HandlerOk Pg G S B w0 call) (F : ∀ t, RepV (cx S st.h M w) (st.fr t) (a.tmps.getD t undef)) (H : HInv S B w0 st.h M w)
  (hr : evTie E call o st K = some r) : Does Pg o a w (Post K r S B w0 st.h M w) := by
 unfold evTie at hr
 split at hr
 ·cases hr
 rename_i T hT
 split at hr
 ·rename_i t x i ho
  split at hr
  ·rename_i id k n e1 e2
   split at hr
   case h_2 => cases hr
   rename_i hty
   exact tidx_ok HE F H ho (of_decide_eq_true hty) e1 e2 hr
  ·exact evOp0_ok HE hG HC F H hr
 ·rename_i t x ho
  split at hr
  ·rename_i id i s e1
   split at hr
   ·rename_i _ hs hty
    have hs := Nat.eq_of_beq_eq_true hs
    subst hs
    exact tload_ok HE F H ho (whole := true) (by simpa using of_decide_eq_true hty) e1 hr
   ·rename_i hs _ hty
    have hs := Nat.eq_of_beq_eq_true hs
    subst hs
    exact tload_ok HE F H ho (whole := false) (by simpa using of_decide_eq_true hty) e1 hr
   ·cases hr
  ·exact evOp0_ok HE hG HC F H hr
 ·rename_i t x y ho
  split at hr
  ·rename_i id i s e1
   split at hr
   case h_2 => cases hr
   rename_i hs hty
   have hs := Nat.eq_of_beq_eq_true hs
   subst hs
   exact tstore_ok HE F H ho (of_decide_eq_true hty) e1 hr
  ·cases hr
 ·exact evOp0_ok HE hG HC F H hr
 ·rename_i c ho
  split at hr
  ·rename_i id hc ha
   split at hr
   case h_2 => cases hr
   rename_i v n b l t tl hx hat
   split at hr
   case h_2 => cases hr
   rename_i hty
   exact tlen_ok HE F H ho hc hat (of_decide_eq_true hty) ha hx hr
  ·exact evOp0_ok HE hG HC F H hr
  ·refine Does.imp (fun v w' h => ?_) (evOp0_ok HE hG HC F H hr)
   obtain ⟨av, h', M', k1, k2, k3, k4⟩ := h
   obtain ⟨av2, h2, M2, q1, q2, q3, q4⟩ := tconv_ok k2 k4 k1
   exact ⟨av2, h2, M2, q1, q2, k3.trans q3, q4⟩
  ·cases hr
 ·cases hr
theorem evDeep_ok (HE : EnvOk Pg G E) (hG : G w0) {call : Handler} (HC : HandlerOk Pg G S B w0 call) (F : ∀ t, RepV (cx S st.h M w) (st.fr t) (a.tmps.getD t undef)) (H : HInv S B w0 st.h M w)
  (hr : evDeep E call o st K = some r) : Does Pg o a w (Post K r S B w0 st.h M w) := by
 unfold evDeep at hr
 split at hr
 ·exact evTie_ok HE hG HC F H hr
 ·exact evDeep0_ok HE hG HC F H hr
theorem evOp_ok (HE : EnvOk Pg G E) (hG : G w0) {call : Handler} (HC : HandlerOk Pg G S B w0 call) (F : ∀ t, RepV (cx S st.h M w) (st.fr t) (a.tmps.getD t undef)) (H : HInv S B w0 st.h M w)
  (hr : evOp E call o st K = some r) : Does Pg o a w (Post K r S B w0 st.h M w) := by
 unfold evOp at hr
 split at hr
 ·exact evDeep_ok HE hG HC F H hr
 ·exact evOp0_ok HE hG HC F H hr
end Go.PG
end
section
namespace Go.PG
open Go.RowKit
variable {Pg : Program} {G : World → Prop} {E : Env} {S : Nat → Prop} {B : Nat} {w0 w w' w'' : World} {h : Hp} {M M' M'' : Nat → Bk} {ρ : Type} {r : ρ} {st st' st'' : St} {a a' a'' : Act} {o : Oper}
structure Good (S : Nat → Prop) (B : Nat) (w0 : World) (st : St) (a : Act) (M : Nat → Bk) (w : World) : Prop where
 H : HInv S B w0 st.h M w
 F : ∀ t, RepV (cx S st.h M w) (st.fr t) (a.tmps.getD t undef)
 n : st.n ≤ a.tmps.size
 d : a.defers = []
structure Stp (S : Nat → Prop) (st : St) (a : Act) (M : Nat → Bk) (w : World) (st' : St) (a' : Act) (M' : Nat → Bk) (w' : World) : Prop where
 k : HStp S st.h M w st'.h M' w'
 ro : st'.ro = st.ro
 n : st'.n = st.n
 keep : ∀ t, st.ro t = true → a'.tmps.getD t undef = a.tmps.getD t undef
theorem Stp.refl (g : Good S B w0 st a M w) : Stp S st a M w st a M w := ⟨HStp.refl g.H, rfl, rfl, fun _ _ => rfl⟩
theorem Stp.trans (k : Stp S st a M w st' a' M' w') (l : Stp S st' a' M' w' st'' a'' M'' w'') : Stp S st a M w st'' a'' M'' w'' :=
 ⟨k.k.trans l.k, l.ro.trans k.ro, l.n.trans k.n, fun t ht => (l.keep t (by rw [k.ro]; exact ht)).trans (k.keep t ht)⟩
theorem put_none {st st' : St} {v : AV} (h : st.put none v = some st') : st' = st := by
 simp only [St.put] at h
 injection h with h
 exact h.symm
theorem put_some {st st' : St} {t : Tmp} {v : AV} (h : st.put (some t) v = some st') : st.ro t = false ∧ t < st.n ∧ st' = { st with fr := set1 st.fr t v } := by
 simp only [St.put] at h
 split at h
 ·rename_i h1 h2
  injection h with h
  exact ⟨h1, by simpa [Nat.blt_eq] using h2, h.symm⟩
 ·cases h
theorem getD_put (a : Act) (t u : Nat) (v : Value) : (a.put (some t) v).tmps.getD u undef = if u = t ∧ t < a.tmps.size then v else a.tmps.getD u undef := by
 simp only [Act.put, Array.getD_eq_getD_getElem?, Array.getElem?_setIfInBounds]
 by_cases h : t = u
 ·subst h
  by_cases h2 : t < a.tmps.size
  ·simp [h2]
  ·simp [h2]
 ·simp [h, Ne.symm h]
theorem put_ok (g : Good S B w0 st a M w) {h' : Hp} (H' : HInv S B w0 h' M' w') (k : HStp S st.h M w h' M' w') {dst : Option Tmp} {av : AV} {v : Value} (hv : RepV (cx S h' M' w') av v)
  (hp : ({ st with h := h' } : St).put dst av = some st') : Good S B w0 st' (a.put dst v) M' w' ∧ Stp S st a M w st' (a.put dst v) M' w' := by
 have F' : ∀ t, RepV (cx S h' M' w') (st.fr t) (a.tmps.getD t undef) := fun t => RepV.tr k.tr _ _ (g.F t)
 cases dst with
 | none =>
  have := put_none hp
  subst this
  exact ⟨⟨H', F', g.n, g.d⟩, ⟨k, rfl, rfl, fun _ _ => rfl⟩⟩
 | some t =>
  obtain ⟨h1, h2, rfl⟩ := put_some hp
  simp only at h1 h2
  have hsz : t < a.tmps.size := Nat.lt_of_lt_of_le h2 g.n
  refine ⟨⟨H', fun u => ?_, by simpa [Act.put] using g.n, by simpa [Act.put] using g.d⟩, ⟨k, rfl, rfl, fun u hu => ?_⟩⟩
  ·rw [getD_put]
   by_cases hut : u = t
   ·subst hut
    simpa [hsz, set1, Nat.beq_refl] using hv
   ·simp only [hut, false_and, if_false, set1, beq_false hut]
    exact F' u
  ·rw [getD_put]
   have : u ≠ t := by rintro rfl; rw [h1] at hu; cases hu
   simp [this]
theorem refine1_eq {t : Nat} {b : Bool} (h : st.fr t = .data .bool b) : refine1 st t b = st := by
 obtain ⟨n, fr, ro, hp⟩ := st
 simp only [refine1]
 congr 1
 funext u
 simp only [set1]
 split
 ·rename_i e
  have := Nat.eq_of_beq_eq_true e
  subst this
  exact h.symm
 ·rfl
def Then (S : Nat → Prop) (B : Nat) (w0 : World) (st : St) (a : Act) (M : Nat → Bk) (w : World) (K : St → Option ρ) (r : ρ) (X : Act → World → Prop) : Prop :=
 ∀ st' a' M' w', Good S B w0 st' a' M' w' → Stp S st a M w st' a' M' w' → K st' = some r → X a' w'
theorem Then.after {K : St → Option ρ} {X : Act → World → Prop} (h : Then S B w0 st a M w K r X) (k : Stp S st a M w st' a' M' w') : Then S B w0 st' a' M' w' K r X :=
 fun st'' a'' M'' w'' g l hk => h st'' a'' M'' w'' g (k.trans l) hk
theorem doOp_ok (HE : EnvOk Pg G E) (hG : G w0) {call : Handler} (HC : HandlerOk Pg G S B w0 call) (g : Good S B w0 st a M w) {K : St → Option ρ} (hr : doOp E call o st K = some r)
  {X : Act → World → Prop} {Q : Exit → Act → World → Prop} (hX : Then S B w0 st a M w K r X) : o.wp Pg a w X Q := by
 refine evOp_ok HE hG HC g.F g.H hr X Q fun v w' ⟨av, h', M', hk, H', k, hv⟩ => ?_
 simp only at hk
 split at hk
 ·rename_i st' hp
  obtain ⟨g', s'⟩ := put_ok g H' k hv hp
  exact hX _ _ _ _ g' s' hk
 ·cases hk
theorem skipOp_ok (g : Good S B w0 st a M w) {K : St → Option ρ} (hr : skipOp o st K = some r) {X : Act → World → Prop} (hX : Then S B w0 st a M w K r X) : X (a.put o.dst undef) w := by
 unfold skipOp at hr
 split at hr
 ·rename_i st' hp
  obtain ⟨g', s'⟩ := put_ok g g.H (HStp.refl g.H) (dst := o.dst) (av := .tup .unit) (v := undef) (by simp only [RepV, RepT]; exact ⟨#[], rfl, rfl⟩) hp
  exact hX _ _ _ _ g' s' hr
 ·cases hr
theorem getD_bool {a : Act} {t : Nat} {b : Bool} (h : a.tmps.getD t undef = .bool b) : a.tmps[t]? = some (.bool b) := by
 rw [Array.getD_eq_getD_getElem?] at h
 cases q : a.tmps[t]? with
 | none => rw [q] at h; simp [undef] at h
 | some v => rw [q] at h; simp only [Option.getD_some] at h; rw [h]
theorem evOps_ok (HE : EnvOk Pg G E) (hG : G w0) {call : Handler} (HC : HandlerOk Pg G S B w0 call) {ops : Array Oper} {Q : Exit → Act → World → Prop} : ∀ (rest : List Oper) (i : Nat) (st : St) (a : Act) (M : Nat → Bk) (w : World) (K : St → Option ρ), ops.toList.drop i = rest →
  Good S B w0 st a M w → evOps E call ops.toList rest st K = some r → Then S B w0 st a M w K r (Q .normal) → wpOps Pg ops Q (List.range' i rest.length) a w := by
 intro rest
 induction rest with
 | nil =>
  intro i st a M w K _ g hr hX
  exact hX st a M w g (Stp.refl g) hr
 | cons o rest ih =>
  intro i st a M w K hd g hr hX
  have ho : ops[i]? = some o := by
   rw [← Array.getElem?_toList]
   have : (ops.toList.drop i)[0]? = some o := by rw [hd]; rfl
   simpa using this
  have hd' : ops.toList.drop (i + 1) = rest := by
   rw [← List.drop_drop, hd]; rfl
  have next : ∀ {st' a' M' w'}, Good S B w0 st' a' M' w' → Stp S st a M w st' a' M' w' → evOps E call ops.toList rest st' K = some r → wpOps Pg ops Q (List.range' (i + 1) rest.length) a' w' :=
   fun g' s' hk => ih (i + 1) _ _ _ _ K hd' g' hk (hX.after s')
  have hwp : Region.wanted o (yielded ops a.tmps) = true → doOp E call o st (fun st' => evOps E call ops.toList rest st' K) = some r → wpOps Pg ops Q (List.range' i (rest.length + 1)) a w := by
   intro hw hk
   rw [List.range'_succ]
   simp only [wpOps, ho, hw, if_true]
   exact .inl (doOp_ok HE hG HC g hk fun st' a' M' w' g' s' hk' => next g' s' hk')
  have hsk : Region.wanted o (yielded ops a.tmps) = false → skipOp o st (fun st' => evOps E call ops.toList rest st' K) = some r → wpOps Pg ops Q (List.range' i (rest.length + 1)) a w := by
   intro hw hk
   rw [List.range'_succ]
   simp only [wpOps, ho, hw, Bool.false_eq_true, if_false]
   exact skipOp_ok (o := o) g hk fun st' a' M' w' g' s' hk' => next g' s' hk'
  simp only [evOps] at hr
  simp only [List.length_cons]
  cases hg : o.guard with
  | none =>
   simp only [hg] at hr
   exact hwp (by simp [Region.wanted, hg]) hr
  | some p =>
   obtain ⟨j, want⟩ := p
   simp only [hg] at hr
   split at hr
   case h_2 => cases hr
   rename_i oj hoj
   split at hr
   case h_2 => cases hr
   rename_i t ht
   have hoj' : ops[j]? = some oj := by rw [← Array.getElem?_toList]; exact hoj
   split at hr
   ·rename_i b hb
    have hF := g.F t
    rw [hb] at hF
    have hF := getD_bool (repV_bool hF)
    have hy : yielded ops a.tmps j = some b := by simp [yielded, hoj', ht, hF]
    have hr := cond_some hr
    cases b with
    | true =>
     simp only [if_true] at hr
     rw [refine1_eq hb] at hr
     cases want with
     | true => exact hwp (by simp [Region.wanted, hg, hy]) hr
     | false => exact hsk (by simp [Region.wanted, hg, hy]) hr
    | false =>
     simp only [Bool.false_eq_true, if_false] at hr
     rw [refine1_eq hb] at hr
     cases want with
     | true => exact hsk (by simp [Region.wanted, hg, hy]) hr
     | false => exact hwp (by simp [Region.wanted, hg, hy]) hr
   ·rename_i hb
    have hF := g.F t
    rw [hb] at hF
    simp only [RepV, RepT] at hF
    obtain ⟨vs, hv, hvs⟩ := hF
    have hy : yielded ops a.tmps j = none := by
     simp only [yielded, hoj', ht, Option.bind_some]
     rw [Array.getD_eq_getD_getElem?] at hv
     cases q : a.tmps[t]? with
     | none => rfl
     | some u => rw [q] at hv; simp only [Option.getD_some] at hv; rw [hv]
    exact hsk (by simp [Region.wanted, hg, hy]) hr
   ·cases hr
theorem region_ok (HE : EnvOk Pg G E) (hG : G w0) {call : Handler} (HC : HandlerOk Pg G S B w0 call) {ops : Array Oper} {Q : Exit → Act → World → Prop} {id : Nat} {K : St → Option ρ}
  (g : Good S B w0 st a M w) (hr : evOps E call ops.toList ops.toList st K = some r) (hX : Then S B w0 st a M w K r (Q .normal)) : (Code.region id ops false).wp Pg Q a w := by
 apply wp_region
 have := evOps_ok HE hG HC (Q := Q) ops.toList 0 st a M w K (by simp) g hr hX
 rwa [List.range_eq_range', ← Array.length_toList]
end Go.PG
end
section
namespace Go.PG
open Go.RowKit
variable {Pg : Program} {G : World → Prop} {E : Env} {S : Nat → Prop} {B : Nat} {w0 w w' w'' : World} {h h' : Hp} {M M' M'' : Nat → Bk} {ρ : Type} {r : ρ} {st st' st'' b s s2 : St} {a a' a'' : Act} {o : Oper}
structure Fin (S : Nat → Prop) (h' : Hp) (M' : Nat → Bk) (w' : World) (c0 c : Cx) (ds : List Nat) (lo hi : Nat) (e : Nat → Option Ent) (M : Nat → Bk) : Prop where
 w : c.w = w'
 Z : ∀ b, c.Z b → (cx S h' M' w').Z b
 ds : ∀ id ∈ ds, ∀ b, h'.e id ≠ none → (M' id).has b → ¬ c.Z b
 new : ∀ i, lo ≤ i → i < hi → c.h i = e i ∧ c.M i = M i
 nx : hi ≤ c.nx
 tr : Tr c0 c
def RowPart {t : Ty} (k' : Bk) (ys : List t.D) (k : Bk) (xs : List t.D) : Prop :=
 (k = k' ∧ xs = ys) ∨ ∃ (A z : Option Addr) (len cap a m : Nat), k' = .row A len cap ∧ k = .row z m (cap - a) ∧ xs = (ys.take (a + m)).drop a ∧ a + m ≤ ys.length ∧ m ≤ cap - a ∧ (cap - a = 0 ∨ z = A.map (·.add (a * t.size)))
theorem RowPart.has {t : Ty} {k' : Bk} {ys : List t.D} {k : Bk} {xs : List t.D} (h : RowPart k' ys k xs) {b : Nat} (hb : k.has b) : k'.has b := by
 rcases h with ⟨rfl, _⟩ | ⟨A, z, len, cap, a, m, rfl, rfl, _, _, _, hz⟩
 ·exact hb
 ·obtain ⟨hc, ad, e1, e2⟩ := has_some hb
  rcases hz with hz | hz
  ·exact absurd hz hc
  ·rw [hz] at e1
   cases A with
   | none => simp at e1
   | some ad' =>
    simp only [Option.map_some, Option.some.injEq] at e1
    subst e1
    left
    obtain ⟨n, rfl⟩ : ∃ n, cap = n + 1 := ⟨cap - 1, by omega⟩
    simp only [Bk.blk, Option.map_some]
    rw [← e2]
    unfold Addr.add
    split <;> rfl
def RowIs (c : Cx) (k : Bk) {e : Ty} (xs : List e.D) : Prop :=
 ∃ A cap, k = .row A (List.length xs) cap ∧ List.length xs ≤ cap ∧ (cap = 0 ∨
   cap ≠ 0 ∧ ∃ b o cs el, A = some ⟨b, o, none⟩ ∧ c.w.heap[b]? = some (.cells cs el (0, 0)) ∧ o + cap * e.size ≤ cs.size ∧
    ∀ i x, xs[i]? = some x → ∃ d, RepD c.Z c.w e x d ∧ Mem c.w b (o + i * e.size) d)
theorem RowPart.is {c : Cx} {t : Ty} {k' : Bk} {ys : List t.D} {k : Bk} {xs : List t.D} (h : RowPart k' ys k xs) (H : RowIs c k' ys) : RowIs c k xs := by
 rcases h with ⟨rfl, rfl⟩ | ⟨A, z, len, cap, a, m, rfl, rfl, rfl, hle, hm, hz⟩
 ·exact H
 ·obtain ⟨A', cap', h1, h2, h3⟩ := H
  injection h1 with q1 q2 q3
  subst q1; subst q2; subst q3
  have hlen : ((ys.take (a + m)).drop a).length = m := by simp <;> omega
  refine ⟨z, cap - a, by rw [hlen], by rw [hlen]; exact hm, ?_⟩
  by_cases hc : cap - a = 0
  ·exact .inl hc
  right
  rcases hz with hz | hz
  ·exact absurd hz hc
  rcases h3 with h3 | ⟨h3, b, o, cs, el, rfl, g1, g2, g3⟩
  ·omega
  refine ⟨hc, b, o + a * t.size, cs, el, by rw [hz]; simp [Addr.add_mid], g1, ?_, fun i x hx => ?_⟩
  ·have : cap * t.size = a * t.size + (cap - a) * t.size := by rw [← Nat.add_mul]; congr 1; omega
   omega
  ·rw [List.getElem?_drop, List.getElem?_take] at hx
   split at hx
   ·obtain ⟨d, d1, d2⟩ := g3 _ _ hx
    refine ⟨d, d1, ?_⟩
    have e1 : o + a * t.size + i * t.size = o + (a + i) * t.size := by rw [Nat.add_mul]; omega
    rw [e1]; exact d2
   ·cases hx
def NewE (h' : Hp) (M' : Nat → Bk) (ent : Option Ent) (k : Bk) (g : Option Nat) (os : List Nat) : Prop :=
 (∃ t xs, ent = some (.row t xs) ∧ ((∃ (id : Nat) (ys : List t.D), id ∈ os ∧ g = some id ∧ h'.e id = some (.row t ys) ∧ RowPart (M' id) ys k xs) ∨ (g = none ∧ xs = [] ∧ ∃ A, k = .row A 0 0))) ∨
 ∃ (t : Ty) (xs : (drow t).D), ent = some (.box (.data (drow t) xs) (drow t)) ∧ ((∃ id : Nat, id ∈ os ∧ g = some id ∧ h'.e id = ent ∧ k = M' id) ∨ (g = none ∧ xs = [] ∧ ∃ A, k = .rows A 0 0 fun _ => False))
theorem NewE.mem {h' : Hp} {M' : Nat → Bk} {ent : Option Ent} {k : Bk} {id : Nat} {g : Option Nat} {os : List Nat} (n : NewE h' M' ent k g os) (hg : g = some id) : id ∈ os := by
 rcases n with ⟨t, xs, _, ⟨id', _, m, q, _⟩ | ⟨q, _⟩⟩ | ⟨t, xs, _, ⟨id', m, q, _⟩ | ⟨q, _⟩⟩
 ·rw [hg] at q; injection q with q; subst q; exact m
 ·rw [hg] at q; cases q
 ·rw [hg] at q; injection q with q; subst q; exact m
 ·rw [hg] at q; cases q
theorem NewE.mono {h' : Hp} {M' : Nat → Bk} {ent : Option Ent} {k : Bk} {g : Option Nat} {os os' : List Nat} (n : NewE h' M' ent k g os) (ho : ∀ i ∈ os, i ∈ os') : NewE h' M' ent k g os' := by
 rcases n with ⟨t, xs, q0, ⟨id', ys, m, q⟩ | q⟩ | ⟨t, xs, q0, ⟨id', m, q⟩ | q⟩
 ·exact .inl ⟨t, xs, q0, .inl ⟨id', ys, ho _ m, q⟩⟩
 ·exact .inl ⟨t, xs, q0, .inr q⟩
 ·exact .inr ⟨t, xs, q0, .inl ⟨id', ho _ m, q⟩⟩
 ·exact .inr ⟨t, xs, q0, .inr q⟩
theorem NewE.has {h' : Hp} {M' : Nat → Bk} {ent : Option Ent} {k : Bk} {g : Option Nat} {os : List Nat} (n : NewE h' M' ent k g os) {b : Nat} (hb : k.has b) : ∃ id, id ∈ os ∧ g = some id ∧ h'.e id ≠ none ∧ (M' id).has b := by
 rcases n with ⟨t, xs, q0, ⟨id', ys, m, q1, q2, q3⟩ | ⟨_, _, A, rfl⟩⟩ | ⟨t, xs, q0, ⟨id', m, q1, q2, q3⟩ | ⟨_, _, A, rfl⟩⟩
 ·exact ⟨id', m, q1, by rw [q2]; simp, q3.has hb⟩
 ·exact absurd rfl (has_some hb).1
 ·exact ⟨id', m, q1, by rw [q2, q0]; simp, by rw [← q3]; exact hb⟩
 ·exact (rows_has.1 hb).elim
structure New (h' : Hp) (M' : Nat → Bk) (lo hi : Nat) (e : Nat → Option Ent) (M : Nat → Bk) (g : Nat → Option Nat) (os : List Nat) : Prop where
 row : ∀ i, lo ≤ i → i < hi → NewE h' M' (e i) (M i) (g i) os
 inj : os.Nodup → ∀ i j id, lo ≤ i → i < hi → lo ≤ j → j < hi → g i = some id → g j = some id → i = j
theorem New.empty (h' : Hp) (M' : Nat → Bk) (lo : Nat) (e : Nat → Option Ent) (M : Nat → Bk) (g : Nat → Option Nat) (os : List Nat) : New h' M' lo lo e M g os :=
 ⟨fun i h1 h2 => by omega, fun _ i j id h1 h2 => by omega⟩
theorem New.join {lo mi hi : Nat} {e1 e : Nat → Option Ent} {M1 M : Nat → Bk} {g1 g2 : Nat → Option Nat} {o1 o2 : List Nat} (n1 : New h' M' lo mi e1 M1 g1 o1) (n2 : New h' M' mi hi e M g2 o2)
  (h1 : lo ≤ mi) (h2 : mi ≤ hi) (he : ∀ i, i < mi → e i = e1 i) (hM : ∀ i, i < mi → M i = M1 i) : New h' M' lo hi e M (fun i => if i < mi then g1 i else g2 i) (o1 ++ o2) := by
 have mem1 : ∀ i id, lo ≤ i → i < mi → g1 i = some id → id ∈ o1 := by
  intro i id a b q
  exact (n1.row i a b).mem q
 have mem2 : ∀ i id, mi ≤ i → i < hi → g2 i = some id → id ∈ o2 := by
  intro i id a b q
  exact (n2.row i a b).mem q
 refine ⟨fun i a b => ?_, fun nd i j id a1 b1 a2 b2 q1 q2 => ?_⟩
 ·by_cases hi : i < mi
  ·have := (n1.row i a hi).mono (os' := o1 ++ o2) fun _ m => List.mem_append_left _ m
   simp only [hi, if_true]
   rw [he i hi, hM i hi]
   exact this
  ·have := (n2.row i (by omega) b).mono (os' := o1 ++ o2) fun _ m => List.mem_append_right _ m
   simp only [hi, if_false]
   exact this
 ·obtain ⟨nd1, nd2, nd3⟩ := List.nodup_append.1 nd
  by_cases hi : i < mi
  ·by_cases hj : j < mi
   ·simp only [hi, hj, if_true] at q1 q2
    exact n1.inj nd1 i j id a1 hi a2 hj q1 q2
   ·simp only [hi, hj, if_true, if_false] at q1 q2
    exact absurd rfl (nd3 id (mem1 i id a1 hi q1) id (mem2 j id (by omega) b2 q2))
  ·by_cases hj : j < mi
   ·simp only [hi, hj, if_true, if_false] at q1 q2
    exact absurd rfl (nd3 id (mem1 j id a2 hj q2) id (mem2 i id (by omega) b1 q1))
   ·simp only [hi, hj, if_false] at q1 q2
    exact n2.inj nd2 i j id (by omega) b1 (by omega) b2 q1 q2
theorem Fin.sub {c0 c : Cx} {ds ds1 : List Nat} {lo lo1 hi hi1 : Nat} {e e1 : Nat → Option Ent} {M1 : Nat → Bk} (f : Fin S h' M' w' c0 c ds lo hi e M) (hd : ∀ i ∈ ds1, i ∈ ds) (h1 : lo ≤ lo1) (h2 : hi1 ≤ hi)
  (he : ∀ i, i < hi1 → e i = e1 i) (hM : ∀ i, i < hi1 → M i = M1 i) : Fin S h' M' w' c0 c ds1 lo1 hi1 e1 M1 :=
 ⟨f.w, f.Z, fun id q => f.ds id (hd id q), fun i a b => by
  obtain ⟨q1, q2⟩ := f.new i (by omega) (by omega)
  exact ⟨q1.trans (he i b), q2.trans (hM i b)⟩, Nat.le_trans h2 f.nx, f.tr⟩
theorem packSh_ok (H' : HInv S B w0 h' M' w') {c0 : Cx} : ∀ (sh : Sh) (v : AV) (x : sh.D) (os ds : List Nat) (h : Hp) (M : Nat → Bk) (cs : List Value), unSh h' sh v = some (x, os, ds) → RepC (cx S h' M' w') v cs →
  ∃ M2 g, h.next ≤ (packSh sh x h).2.next ∧ (packSh sh x h).2.lk = h.lk ∧ (∀ i, i < h.next → M2 i = M i ∧ (packSh sh x h).2.e i = h.e i) ∧ ((∀ i, h.next ≤ i → h.e i = none) → ∀ i, (packSh sh x h).2.next ≤ i → (packSh sh x h).2.e i = none) ∧
   New h' M' h.next (packSh sh x h).2.next (packSh sh x h).2.e M2 g os ∧ ∀ c, Fin S h' M' w' c0 c ds h.next (packSh sh x h).2.next (packSh sh x h).2.e M2 → RepC c (packSh sh x h).1 cs := by
 intro sh
 induction sh with
 | d t =>
  intro v x os ds h M cs hu hr
  simp only [unSh] at hu
  split at hu
  case h_2 => cases hu
  rename_i x' hx
  injection hu with hu
  injection hu with h1 h2
  injection h2 with h2 h3
  subst h1; subst h2; subst h3
  refine ⟨M, fun _ => none, Nat.le_refl _, rfl, fun _ _ => ⟨rfl, rfl⟩, fun q => q, New.empty _ _ _ _ _ _ _, fun c f => ?_⟩
  simp only [packSh, RepC]
  rw [f.w]
  exact toD_rep H' f.Z v t _ cs f.ds hx hr
 | o e =>
  intro v x os ds h M cs hu hr
  simp only [unSh] at hu
  split at hu
  ·rename_i xs id hx
   injection hu with hu
   injection hu with h1 h2
   injection h2 with h2 h3
   subst h1; subst h2; subst h3
   have hrow : h'.e id = some (.row e xs) := by
    simp only [toD] at hx
    split at hx
    ·rename_i e' ys q
     split at hx
     ·rename_i qq
      subst qq
      injection hx with hx
      subst hx
      exact q
     ·cases hx
    ·cases hx
   simp only [RepC, Rep1] at hr
   obtain ⟨_, A, n, cap, rfl, hM⟩ := hr
   have hM : M' id = .row A n cap := by
    rcases hM with q | q
    ·simp only [cx] at q; rw [hrow] at q; cases q
    ·exact q
   refine ⟨set1 M h.next (M' id), fun _ => some id, Nat.le_succ _, rfl, fun i hi => ?_, fun q i hi => ?_, ⟨fun i h1 h2 => ?_, fun _ i j _ h1 h2 h3 h4 _ _ => ?_⟩, fun c f => ?_⟩
   ·simp [packSh, Hp.new, set1, beq_false (Nat.ne_of_lt hi)]
   ·simp only [packSh, Hp.new] at hi
    simp [packSh, Hp.new, set1, beq_false (show i ≠ h.next by omega), q i (by omega)]
   ·simp only [packSh, Hp.new] at h2
    have : i = h.next := by omega
    subst this
    exact .inl ⟨e, xs, by simp [packSh, Hp.new, set1, Nat.beq_refl], .inl ⟨id, xs, by simp, rfl, hrow, .inl ⟨by simp [set1, Nat.beq_refl], rfl⟩⟩⟩
   ·simp only [packSh, Hp.new] at h2 h4
    omega
   ·have h1 := f.new h.next (Nat.le_refl _) (by simp [packSh, Hp.new])
    have h2 := f.nx
    simp only [packSh, Hp.new] at h2
    simp only [packSh, RepC, Rep1]
    refine ⟨by omega, A, n, cap, rfl, .inr ?_⟩
    rw [h1.2, ← hM]
    simp [set1, Nat.beq_refl]
  ·rename_i xs id va vn hx
   injection hu with hu
   injection hu with h1 h2
   injection h2 with h2 h3
   subst h1; subst h2; subst h3
   obtain ⟨ys, hrow, hxs⟩ : ∃ ys : List e.D, h'.e id = some (.row e ys) ∧ xs = P.sub_ ys va (P.add va vn) := by
    simp only [toD] at hx
    split at hx
    ·rename_i e' ys q
     split at hx
     ·rename_i qq
      subst qq
      injection hx with hx
      exact ⟨ys, q, hx.symm⟩
     ·cases hx
    ·cases hx
   simp only [RepC, Rep1] at hr
   obtain ⟨_, z, m, cap', rfl, hn, ha, hm', hr⟩ := hr
   rcases hr with hr | ⟨A, len, cap, e', ys', g1, g2, g3, g4, g5⟩
   ·simp only [cx] at hr; rw [hrow] at hr; cases hr
   have g2 : h'.e id = some (.row e' ys') := g2
   rw [hrow] at g2
   injection g2 with g2
   injection g2 with q1 q2
   subst q1
   have q2 := eq_of_heq q2
   subst q2
   have hxl : xs = (ys.take (va.toNat + m)).drop va.toNat := by
    rw [hxs, hn]
    unfold P.sub_ P.add
    rw [show (va + (m : Int)).toNat = va.toNat + m by omega]
   have hpart : RowPart (M' id) ys (.row z m cap') xs := .inr ⟨A, z, len, cap, va.toNat, m, g1, by rw [g4], hxl, g3, by rw [← g4]; exact hm', by rw [← g4]; exact g5⟩
   refine ⟨set1 M h.next (.row z m cap'), fun _ => some id, Nat.le_succ _, rfl, fun i hi => ?_, fun q i hi => ?_, ⟨fun i h1 h2 => ?_, fun _ i j _ h1 h2 h3 h4 _ _ => ?_⟩, fun c f => ?_⟩
   ·simp [packSh, Hp.new, set1, beq_false (Nat.ne_of_lt hi)]
   ·simp only [packSh, Hp.new] at hi
    simp [packSh, Hp.new, set1, beq_false (show i ≠ h.next by omega), q i (by omega)]
   ·simp only [packSh, Hp.new] at h2
    have : i = h.next := by omega
    subst this
    exact .inl ⟨e, xs, by simp [packSh, Hp.new, set1, Nat.beq_refl], .inl ⟨id, ys, by simp, rfl, hrow, by simpa [set1, Nat.beq_refl] using hpart⟩⟩
   ·simp only [packSh, Hp.new] at h2 h4
    omega
   ·have h1 := f.new h.next (Nat.le_refl _) (by simp [packSh, Hp.new])
    have h2 := f.nx
    simp only [packSh, Hp.new] at h2
    simp only [packSh, RepC, Rep1]
    refine ⟨by omega, z, m, cap', rfl, .inr ?_⟩
    rw [h1.2]
    simp [set1, Nat.beq_refl]
  ·rename_i xs e' hx
   injection hu with hu
   injection hu with h1 h2
   injection h2 with h2 h3
   subst h1; subst h2; subst h3
   have hnil : xs = [] := by
    simp only [toD] at hx
    injection hx with hx
    exact hx.symm
   subst hnil
   simp only [RepC, Rep1] at hr
   obtain ⟨A, rfl⟩ := hr
   refine ⟨set1 M h.next (.row A 0 0), fun _ => none, Nat.le_succ _, rfl, fun i hi => ?_, fun q i hi => ?_, ⟨fun i h1 h2 => ?_, fun _ i j _ h1 h2 h3 h4 _ _ => ?_⟩, fun c f => ?_⟩
   ·simp [packSh, Hp.new, set1, beq_false (Nat.ne_of_lt hi)]
   ·simp only [packSh, Hp.new] at hi
    simp [packSh, Hp.new, set1, beq_false (show i ≠ h.next by omega), q i (by omega)]
   ·simp only [packSh, Hp.new] at h2
    have : i = h.next := by omega
    subst this
    exact .inl ⟨e, [], by simp [packSh, Hp.new, set1, Nat.beq_refl], .inr ⟨rfl, rfl, A, by simp [set1, Nat.beq_refl]⟩⟩
   ·simp only [packSh, Hp.new] at h2 h4
    omega
   ·have h1 := f.new h.next (Nat.le_refl _) (by simp [packSh, Hp.new])
    have h2 := f.nx
    simp only [packSh, Hp.new] at h2
    simp only [packSh, RepC, Rep1]
    refine ⟨by omega, A, 0, 0, rfl, .inr ?_⟩
    rw [h1.2]
    simp [set1, Nat.beq_refl]
  ·cases hu
 | r e =>
  intro v x os ds h M cs hu hr
  cases v with
  | dref id =>
   simp only [unSh] at hu
   split at hu
   case h_2 => cases hu
   rename_i xs hxs
   injection hu with hu
   injection hu with h1 h2
   injection h2 with h2 h3
   subst h1; subst h2; subst h3
   have hbox := drow_fits H' hxs
   simp only [RepC, Rep1] at hr
   obtain ⟨_, A, n, cap, rfl, hM⟩ := hr
   obtain ⟨ex, hM⟩ : ∃ ex, M' id = .rows A n cap ex := by
    rcases hM with q | q
    ·simp only [cx] at q; rw [hbox] at q; cases q
    ·exact q
   refine ⟨set1 M h.next (M' id), fun _ => some id, Nat.le_succ _, rfl, fun i hi => ?_, fun q i hi => ?_, ⟨fun i h1 h2 => ?_, fun _ i j _ h1 h2 h3 h4 _ _ => ?_⟩, fun c f => ?_⟩
   ·simp [packSh, Hp.new, set1, beq_false (Nat.ne_of_lt hi)]
   ·simp only [packSh, Hp.new] at hi
    simp [packSh, Hp.new, set1, beq_false (show i ≠ h.next by omega), q i (by omega)]
   ·simp only [packSh, Hp.new] at h2
    have : i = h.next := by omega
    subst this
    exact .inr ⟨e, xs, by simp [packSh, Hp.new, set1, Nat.beq_refl], .inl ⟨id, by simp, rfl, by simp [packSh, Hp.new, set1, Nat.beq_refl, hbox], by simp [set1, Nat.beq_refl]⟩⟩
   ·simp only [packSh, Hp.new] at h2 h4
    omega
   ·have h1 := f.new h.next (Nat.le_refl _) (by simp [packSh, Hp.new])
    have h2 := f.nx
    simp only [packSh, Hp.new] at h2
    simp only [packSh, RepC, Rep1]
    refine ⟨by omega, A, n, cap, rfl, .inr ⟨ex, ?_⟩⟩
    rw [h1.2, ← hM]
    simp [set1, Nat.beq_refl]
  | nilS e' =>
   simp only [unSh] at hu
   injection hu with hu
   injection hu with h1 h2
   injection h2 with h2 h3
   subst h1; subst h2; subst h3
   simp only [RepC, Rep1] at hr
   obtain ⟨A, rfl⟩ := hr
   refine ⟨set1 M h.next (.rows A 0 0 fun _ => False), fun _ => none, Nat.le_succ _, rfl, fun i hi => ?_, fun q i hi => ?_, ⟨fun i h1 h2 => ?_, fun _ i j _ h1 h2 h3 h4 _ _ => ?_⟩, fun c f => ?_⟩
   ·simp [packSh, Hp.new, set1, beq_false (Nat.ne_of_lt hi)]
   ·simp only [packSh, Hp.new] at hi
    simp [packSh, Hp.new, set1, beq_false (show i ≠ h.next by omega), q i (by omega)]
   ·simp only [packSh, Hp.new] at h2
    have : i = h.next := by omega
    subst this
    exact .inr ⟨e, [], by simp [packSh, Hp.new, set1, Nat.beq_refl], .inr ⟨rfl, rfl, A, by simp [set1, Nat.beq_refl]⟩⟩
   ·simp only [packSh, Hp.new] at h2 h4
    omega
   ·have h1 := f.new h.next (Nat.le_refl _) (by simp [packSh, Hp.new])
    have h2 := f.nx
    simp only [packSh, Hp.new] at h2
    simp only [packSh, RepC, Rep1]
    refine ⟨by omega, A, 0, 0, rfl, .inr ⟨fun _ => False, ?_⟩⟩
    rw [h1.2]
    simp only [set1, Nat.beq_refl]
  | _ => simp [unSh] at hu
 | p p q ihp ihq =>
  intro v x os ds h M cs hu hr
  cases v with
  | pr u v =>
   simp only [unSh] at hu
   split at hu
   case h_2 => cases hu
   rename_i x1 o1 d1 hx1
   split at hu
   case h_2 => cases hu
   rename_i x2 o2 d2 hx2
   injection hu with hu
   injection hu with h1 h2
   injection h2 with h2 h3
   subst h1; subst h2; subst h3
   simp only [RepC] at hr
   obtain ⟨c1, c2, rfl, hr1, hr2⟩ := hr
   obtain ⟨M1, g1, a1, a2, a3, a4, a5, a6⟩ := ihp u x1 o1 d1 h M c1 hx1 hr1
   obtain ⟨M2, g2, b1, b2, b3, b4, b5, b6⟩ := ihq v x2 o2 d2 (packSh p x1 h).2 M1 c2 hx2 hr2
   refine ⟨M2, _, Nat.le_trans a1 b1, b2.trans a2, fun i hi => ?_, fun z => b4 (a4 z), New.join a5 b5 a1 b1 (fun i hi => (b3 i hi).2) (fun i hi => (b3 i hi).1), fun c f => ?_⟩
   ·obtain ⟨q1, q2⟩ := a3 i hi
    obtain ⟨q3, q4⟩ := b3 i (Nat.lt_of_lt_of_le hi a1)
    exact ⟨q3.trans q1, q4.trans q2⟩
   ·simp only [packSh, RepC]
    refine ⟨c1, c2, rfl, a6 c (f.sub (fun i q => List.mem_append_left _ q) (Nat.le_refl _) b1 (fun i hi => (b3 i hi).2) (fun i hi => (b3 i hi).1)), b6 c (f.sub (fun i q => List.mem_append_right _ q) a1 (Nat.le_refl _) (fun _ _ => rfl) (fun _ _ => rfl))⟩
  | _ => simp [unSh] at hu
 | s p ih =>
  intro v x os ds h M cs hu hr
  cases v with
  | st v =>
   simp only [unSh] at hu
   simp only [RepC] at hr
   obtain ⟨M2, g, a1, a2, a3, a4, a5, a6⟩ := ih v x os ds h M cs hu hr
   refine ⟨M2, g, a1, a2, a3, a4, a5, fun c f => ?_⟩
   simp only [packSh, RepC]
   exact a6 c f
  | _ => simp [unSh] at hu
theorem packSh_okV (H' : HInv S B w0 h' M' w') {c0 : Cx} : ∀ (sh : Sh) (v : AV) (x : sh.D) (os ds : List Nat) (h : Hp) (M : Nat → Bk) (u : Value), unSh h' sh v = some (x, os, ds) → RepV (cx S h' M' w') v u →
  ∃ M2 g, h.next ≤ (packSh sh x h).2.next ∧ (packSh sh x h).2.lk = h.lk ∧ (∀ i, i < h.next → M2 i = M i ∧ (packSh sh x h).2.e i = h.e i) ∧ ((∀ i, h.next ≤ i → h.e i = none) → ∀ i, (packSh sh x h).2.next ≤ i → (packSh sh x h).2.e i = none) ∧
   New h' M' h.next (packSh sh x h).2.next (packSh sh x h).2.e M2 g os ∧ ∀ c, Fin S h' M' w' c0 c ds h.next (packSh sh x h).2.next (packSh sh x h).2.e M2 → RepV c (packSh sh x h).1 u := by
 intro sh v x os ds h M u hu hr
 cases sh with
 | d t =>
  simp only [unSh] at hu
  split at hu
  case h_2 => cases hu
  rename_i x' hx
  injection hu with hu
  injection hu with h1 h2
  injection h2 with h2 h3
  subst h1; subst h2; subst h3
  refine ⟨M, fun _ => none, Nat.le_refl _, rfl, fun _ _ => ⟨rfl, rfl⟩, fun q => q, New.empty _ _ _ _ _ _ _, fun c f => ?_⟩
  simp only [packSh, RepV]
  have := toD_V H' f.Z f.ds hx hr
  rw [f.w]
  exact this
 | o e =>
  have hone : RepC (cx S h' M' w') v [u] := by
   simp only [unSh] at hu
   split at hu
   ·simp only [RepV] at hr; simpa only [RepC] using hr
   ·simp only [RepV] at hr; simpa only [RepC] using hr
   ·simp only [RepV] at hr; simpa only [RepC] using hr
   ·cases hu
  have hC := hone
  obtain ⟨M2, g, a1, a2, a3, a4, a5, a6⟩ := packSh_ok H' (c0 := c0) (.o e) v x os ds h M [u] hu hC
  refine ⟨M2, g, a1, a2, a3, a4, a5, fun c f => ?_⟩
  have := a6 c f
  simpa only [packSh, RepV, RepC] using this
 | r e =>
  have hC : RepC (cx S h' M' w') v [u] := by
   cases v with
   | dref id => simp only [RepV] at hr; simpa only [RepC] using hr
   | nilS e' => simp only [RepV] at hr; simpa only [RepC] using hr
   | _ => simp [unSh] at hu
  obtain ⟨M2, g, a1, a2, a3, a4, a5, a6⟩ := packSh_ok H' (c0 := c0) (.r e) v x os ds h M [u] hu hC
  refine ⟨M2, g, a1, a2, a3, a4, a5, fun c f => ?_⟩
  have := a6 c f
  simpa only [packSh, RepV, RepC] using this
 | p p q =>
  cases v with
  | pr y z => simp only [RepV] at hr
  | _ => simp [unSh] at hu
 | s p =>
  cases v with
  | st v =>
   simp only [RepV] at hr
   obtain ⟨cs, rfl, hr⟩ := hr
   obtain ⟨M2, g, a1, a2, a3, a4, a5, a6⟩ := packSh_ok H' (c0 := c0) (.s p) (.st v) x os ds h M cs.toList hu (by simpa only [RepC] using hr)
   refine ⟨M2, g, a1, a2, a3, a4, a5, fun c f => ?_⟩
   have := a6 c f
   simp only [packSh, RepC] at this
   simp only [packSh, RepV]
   exact ⟨cs, rfl, this⟩
  | _ => simp [unSh] at hu
end Go.PG
end
section
namespace Go.PG
open Go.RowKit
variable {Pg : Program} {G : World → Prop} {E : Env} {S : Nat → Prop} {B : Nat} {w0 w w' w'' : World} {h h' : Hp} {M0 M M' M'' : Nat → Bk} {ρ : Type} {r : ρ} {st st' st'' b s s2 s' : St} {a a' a'' : Act} {o : Oper}
def Seen (c : Cx) (v : AV) : Prop := (∃ u, RepV c v u) ∨ ∃ cs L, fitsT v L = true ∧ RepC c v cs
theorem follow_rep (H : HInv S B w0 h M w) : ∀ (p : List Nat) (v x : AV), follow h p v = some x → Seen (cx S h M w) v → Seen (cx S h M w) x := by
 intro p
 induction p with
 | nil => intro v x h hr; simp only [follow] at h; injection h with h; subst h; exact hr
 | cons j p ih =>
  intro v x hf hr
  cases v with
  | fn f cc =>
   simp only [follow] at hf
   split at hf
   case h_2 => cases hf
   rename_i y hy
   have : ∃ vs : List Value, RepT (cx S h M w) cc vs := by
    rcases hr with ⟨u, hr⟩ | ⟨cs, L, _, hr⟩
    ·simp only [RepV] at hr; obtain ⟨vs, _, hT⟩ := hr; exact ⟨_, hT⟩
    ·simp only [RepC] at hr; obtain ⟨vs, _, hT⟩ := hr; exact ⟨_, hT⟩
   obtain ⟨vs, hT⟩ := this
   obtain ⟨z, _, hz⟩ := tupP_rep cc j y _ hy hT
   exact ih y x hf (.inl ⟨z, hz⟩)
  | ptr id q =>
   cases q with
   | cons => simp [follow] at hf
   | nil =>
    simp only [follow] at hf
    split at hf
    case h_2 => cases hf
    rename_i v L he
    obtain ⟨b, cs, _, hfit, hrep⟩ := H.ent id _ he
    cases j with
    | zero => exact ih v x hf (.inr ⟨cs, L, hfit, hrep⟩)
    | succ j =>
     simp only at hf
     split at hf
     case h_2 => cases hf
     rename_i u hu
     obtain ⟨_, t, _, _, fu, _, d, _, _, _, hd⟩ := av_comp hu hfit hrep
     exact ih u x hf (.inr ⟨d, t, fu, hd⟩)
  | _ => simp [follow] at hf
structure Laid (S : Nat → Prop) (c0 : Cx) (n0 : Nat) (b : St) (a' : Act) (h' : Hp) (M' : Nat → Bk) (w' : World) (s : St) (M : Nat → Bk) (g : Nat → Option Nat) (os ds ks : List Nat) : Prop where
 le : n0 ≤ s.h.next
 lk : s.h.lk = b.h.lk
 ro : s.ro = b.ro
 n : s.n = b.n
 old : ∀ i, i < n0 → M i = M' i
 keep : ∀ i, i < n0 → i ∉ ks → s.h.e i = b.h.e i
 laid : ∀ i, i ∈ ks → i < n0 ∧ ((∃ t xs, s.h.e i = some (.row t xs) ∧ h'.e i = some (.row t xs)) ∨ (∃ v2 L v0 v1 L1 bl cs, s.h.e i = some (.box v2 L) ∧ b.h.e i = some (.box v0 L) ∧ h'.e i = some (.box v1 L1) ∧ Holds w' (M' i) bl L1 cs ∧ fitsT v2 L = true ∧
  ∀ c, Fin S h' M' w' c0 c ds n0 s.h.next s.h.e M → RepC c v2 cs))
 new : New h' M' n0 s.h.next s.h.e M g os
 fresh : ∀ i, s.h.next ≤ i → s.h.e i = none
 slot : ∀ t c, Fin S h' M' w' c0 c ds n0 s.h.next s.h.e M → RepV c (s.fr t) (a'.tmps.getD t undef)
theorem laid_start {c0 : Cx} {n0 : Nat} (hb : b.h.next = n0) (hfresh : ∀ i, n0 ≤ i → b.h.e i = none) (hs : ∀ t c, Tr c0 c → RepV c (b.fr t) (a'.tmps.getD t undef)) :
  Laid S c0 n0 b a' h' M' w' b M' (fun _ => none) [] [] [] :=
 ⟨by omega, rfl, rfl, rfl, fun _ _ => rfl, fun _ _ _ => rfl, fun i hi => absurd hi (by simp), by rw [hb]; exact New.empty _ _ _ _ _ _ _, by rw [hb]; exact hfresh, fun t c f => hs t c f.tr⟩
theorem seen_own {c : Cx} {id : Nat} (h : Seen c (.own id)) : id < c.nx := by
 rcases h with ⟨u, h⟩ | ⟨cs, _, _, h⟩
 ·simp only [RepV, Rep1] at h; exact h.1
 ·simp only [RepC, Rep1] at h; exact h.1
theorem kept_box {c0 : Cx} {fr0 : Nat → List Nat → Option AV} (h0 : ∀ t p x, fr0 t p = some x → Seen c0 x) {t : Nat} {p : List Nat} {id : Nat} (hf : (fr0 t p).bind boxId = some id) : id < c0.nx := by
 cases q : fr0 t p with
 | none => rw [q] at hf; cases hf
 | some x =>
  rw [q] at hf
  simp only [Option.bind_some] at hf
  have hx := h0 t p x q
  unfold boxId at hf
  split at hf
  ·injection hf with hf
   subst hf
   rcases hx with ⟨u, h⟩ | ⟨cs, _, _, h⟩
   ·simp only [RepV, Rep1] at h; exact h.1
   ·simp only [RepC, Rep1] at h; exact h.1
  ·injection hf with hf
   subst hf
   rcases hx with ⟨u, h⟩ | ⟨cs, _, _, h⟩
   ·simp only [RepV, Rep1] at h; exact h.1
   ·simp only [RepC, Rep1] at h; exact h.1
  ·injection hf with hf
   subst hf
   rcases hx with ⟨u, h⟩ | ⟨cs, _, _, h⟩
   ·simp only [RepV, Rep1] at h; exact h.1
   ·simp only [RepC, Rep1] at h; exact h.1
  ·cases hf
theorem laid_item (H' : HInv S B w0 h' M' w') {c0 : Cx} {fr0 : Nat → List Nat → Option AV} (h0 : ∀ t p x, fr0 t p = some x → Seen c0 x) {n0 : Nat} (hn0 : c0.nx = n0) (hs' : s'.h = h') (F' : ∀ t, RepV (cx S h' M' w') (s'.fr t) (a'.tmps.getD t undef))
  {g : Nat → Option Nat} {os ds ks : List Nat} (L : Laid S c0 n0 b a' h' M' w' s M g os ds ks) (i : Item) {x : i.D} {o1 d1 k1 : List Nat}
  (hu : unItem fr0 s' i = some (x, o1, d1)) (hk : kept1 fr0 i = some k1) (hnd : ∀ j, j ∈ ks → j ∉ k1) (hp : packItem fr0 i x s = some s2) :
  ∃ M2 g2, Laid S c0 n0 b a' h' M' w' s2 M2 g2 (os ++ o1) (ds ++ d1) (ks ++ k1) := by
 cases i with
 | var t sh =>
  simp only [kept1] at hk
  injection hk with hk
  subst hk
  simp only [unItem, hs'] at hu
  simp only [packItem] at hp
  injection hp with hp
  subst hp
  obtain ⟨M2, g2, a1, a2, a3, a4, a5, a6⟩ := packSh_okV H' (c0 := c0) sh (s'.fr t) x o1 d1 s.h M _ hu (F' t)
  have sub1 : ∀ {c}, Fin S h' M' w' c0 c (ds ++ d1) n0 (packSh sh x s.h).2.next (packSh sh x s.h).2.e M2 → Fin S h' M' w' c0 c ds n0 s.h.next s.h.e M :=
   fun f => f.sub (fun i q => List.mem_append_left _ q) (Nat.le_refl _) a1 (fun i hi => (a3 i hi).2) (fun i hi => (a3 i hi).1)
  refine ⟨M2, _, ⟨Nat.le_trans L.le a1, a2.trans L.lk, L.ro, L.n, fun i hi => ?_, fun i hi hik => ?_, fun i hi => ?_, New.join L.new a5 L.le a1 (fun i hi => (a3 i hi).2) (fun i hi => (a3 i hi).1), a4 L.fresh, fun u c f => ?_⟩⟩
  ·exact (a3 i (Nat.lt_of_lt_of_le hi L.le)).1.trans (L.old i hi)
  ·simp only [List.append_nil] at hik
   exact (a3 i (Nat.lt_of_lt_of_le hi L.le)).2.trans (L.keep i hi hik)
  ·simp only [List.append_nil] at hi
   obtain ⟨h1, h2⟩ := L.laid i hi
   refine ⟨h1, ?_⟩
   have e := (a3 i (Nat.lt_of_lt_of_le h1 L.le)).2
   rcases h2 with ⟨t, xs, q1, q2⟩ | ⟨v2, L', v0, v1, L1, bl, cs, q1, q2, q3, q4, q6, q7⟩
   ·exact .inl ⟨t, xs, e.trans q1, q2⟩
   ·exact .inr ⟨v2, L', v0, v1, L1, bl, cs, e.trans q1, q2, q3, q4, q6, fun c f => q7 c (sub1 f)⟩
  ·simp only [set1]
   split
   ·rename_i e
    have := Nat.eq_of_beq_eq_true e
    subst this
    exact a6 c (f.sub (fun i q => List.mem_append_right _ q) L.le (Nat.le_refl _) (fun _ _ => rfl) (fun _ _ => rfl))
   ·exact L.slot u c (sub1 f)
 | cel t p e =>
  simp only [kept1] at hk
  simp only [unItem, hs'] at hu
  simp only [packItem] at hp
  split at hk
  case h_3 => cases hk
  case h_2 =>
   rename_i _ hid
   injection hk with hk
   subst hk
   simp only [hid] at hu hp
   injection hu with hu
   injection hu with h1 h2
   injection h2 with h2 h3
   subst h1; subst h2; subst h3
   injection hp with hp
   subst hp
   exact ⟨M, g, by simpa using L⟩
  rename_i id hid
  injection hk with hk
  subst hk
  simp only [hid] at hu hp
  split at hu
  case h_2 => cases hu
  rename_i e' xs hrow
  split at hu
  case isFalse => cases hu
  rename_i q
  subst q
  injection hu with hu
  injection hu with h1 h2
  injection h2 with h2 h3
  subst h1; subst h2; subst h3
  injection hp with hp
  subst hp
  have hlt : id < n0 := by rw [← hn0]; exact seen_own (h0 _ _ _ hid)
  have ne : ∀ j, j ≠ id → (s.h.put id (.row e' xs)).e j = s.h.e j := fun j q => by simp [Hp.put, set1, beq_false q]
  have at_ : (s.h.put id (.row e' xs)).e id = some (.row e' xs) := by simp [Hp.put, set1, Nat.beq_refl]
  have sub1 : ∀ {c}, Fin S h' M' w' c0 c (ds ++ []) n0 s.h.next (s.h.put id (.row e' xs)).e M → Fin S h' M' w' c0 c ds n0 s.h.next s.h.e M := by
   intro c f
   exact ⟨f.w, f.Z, fun i hi => f.ds i (by simpa using hi), fun i h1 h2 => by
    have := f.new i h1 h2
    rw [ne i (by omega)] at this
    exact this, f.nx, f.tr⟩
  refine ⟨M, g, ⟨L.le, L.lk, L.ro, L.n, L.old, fun i hi hik => ?_, fun i hi => ?_, ?_, fun i hi => ?_, fun u c f => L.slot u c (sub1 f)⟩⟩
  ·have : i ≠ id := by rintro rfl; simp at hik
   show (s.h.put id (.row e' xs)).e i = _
   rw [ne i this]
   exact L.keep i hi (fun z => hik (List.mem_append_left _ z))
  ·rcases List.mem_append.1 hi with hj | hi
   ·have hne : i ≠ id := fun z => hnd i hj (by simp [z])
    obtain ⟨h1, h2⟩ := L.laid i hj
    refine ⟨h1, ?_⟩
    have e := ne i hne
    rcases h2 with ⟨t, xs, q1, q2⟩ | ⟨v2, L', v0, v1, L1, bl, cs, q1, q2, q3, q4, q6, q7⟩
    ·exact .inl ⟨t, xs, e.trans q1, q2⟩
    ·exact .inr ⟨v2, L', v0, v1, L1, bl, cs, e.trans q1, q2, q3, q4, q6, fun c f => q7 c (sub1 f)⟩
   ·simp only [List.mem_singleton] at hi
    subst hi
    exact ⟨hlt, .inl ⟨e', xs, at_, hrow⟩⟩
  ·refine ⟨fun i h1 h2 => ?_, fun nd => L.new.inj (by simpa using nd)⟩
   have q := L.new.row i h1 h2
   rw [← ne i (by omega)] at q
   simpa using q
  ·show (s.h.put id (.row e' xs)).e i = none
   have hi : s.h.next ≤ i := hi
   rw [ne i (by have := L.le; omega)]
   exact L.fresh i hi
 | box t p sh =>
  simp only [kept1] at hk
  simp only [unItem, hs'] at hu
  simp only [packItem] at hp
  split at hk
  case h_2 => cases hk
  rename_i id hid
  injection hk with hk
  subst hk
  simp only [hid] at hu hp
  split at hu
  case h_2 => cases hu
  rename_i v1 L1 hbox
  split at hp
  case h_2 => cases hp
  rename_i v3 L3 hs3
  split at hp
  case h_2 => cases hp
  rename_i hfit
  injection hp with hp
  subst hp
  have hlt : id < n0 := by rw [← hn0]; exact kept_box h0 hid
  have hnk : id ∉ ks := fun z => hnd id z (by simp)
  have hb3 := (L.keep id hlt hnk).symm.trans hs3
  obtain ⟨bl, cs, e1, e3, e4⟩ := H'.ent id _ hbox
  obtain ⟨M2, g2, a1, a2, a3, a4, a5, a6⟩ := packSh_ok H' (c0 := c0) sh v1 x o1 d1 s.h M cs hu e4
  have ne : ∀ j, j ≠ id → ((packSh sh x s.h).2.put id (.box (packSh sh x s.h).1 L3)).e j = (packSh sh x s.h).2.e j := fun j q => by simp [Hp.put, set1, beq_false q]
  have at_ : ((packSh sh x s.h).2.put id (.box (packSh sh x s.h).1 L3)).e id = some (.box (packSh sh x s.h).1 L3) := by simp [Hp.put, set1, Nat.beq_refl]
  have sub0 : ∀ {c}, Fin S h' M' w' c0 c (ds ++ d1) n0 (packSh sh x s.h).2.next ((packSh sh x s.h).2.put id (.box (packSh sh x s.h).1 L3)).e M2 → Fin S h' M' w' c0 c (ds ++ d1) n0 (packSh sh x s.h).2.next (packSh sh x s.h).2.e M2 := by
   intro c f
   exact ⟨f.w, f.Z, f.ds, fun i h1 h2 => by
    have := f.new i h1 h2
    rw [ne i (by omega)] at this
    exact this, f.nx, f.tr⟩
  have sub1 : ∀ {c}, Fin S h' M' w' c0 c (ds ++ d1) n0 (packSh sh x s.h).2.next ((packSh sh x s.h).2.put id (.box (packSh sh x s.h).1 L3)).e M2 → Fin S h' M' w' c0 c ds n0 s.h.next s.h.e M :=
   fun f => (sub0 f).sub (fun i q => List.mem_append_left _ q) (Nat.le_refl _) a1 (fun i hi => (a3 i hi).2) (fun i hi => (a3 i hi).1)
  have jn := New.join L.new a5 L.le a1 (fun i hi => (a3 i hi).2) (fun i hi => (a3 i hi).1)
  refine ⟨M2, _, ⟨Nat.le_trans L.le a1, a2.trans L.lk, L.ro, L.n, fun i hi => ?_, fun i hi hik => ?_, fun i hi => ?_, ⟨fun i h1 h2 => ?_, jn.inj⟩, fun i hi => ?_, fun u c f => L.slot u c (sub1 f)⟩⟩
  ·exact (a3 i (Nat.lt_of_lt_of_le hi L.le)).1.trans (L.old i hi)
  ·have : i ≠ id := by rintro rfl; simp at hik
   show ((packSh sh x s.h).2.put id (.box (packSh sh x s.h).1 L3)).e i = _
   rw [ne i this]
   exact (a3 i (Nat.lt_of_lt_of_le hi L.le)).2.trans (L.keep i hi (fun z => hik (List.mem_append_left _ z)))
  ·rcases List.mem_append.1 hi with hj | hi
   ·have hne : i ≠ id := fun z => hnk (z ▸ hj)
    obtain ⟨h1, h2⟩ := L.laid i hj
    refine ⟨h1, ?_⟩
    have e := (ne i hne).trans (a3 i (Nat.lt_of_lt_of_le h1 L.le)).2
    rcases h2 with ⟨t, xs, q1, q2⟩ | ⟨v2, L', v0, v1, L1, bl, cs, q1, q2, q3, q4, q6, q7⟩
    ·exact .inl ⟨t, xs, e.trans q1, q2⟩
    ·exact .inr ⟨v2, L', v0, v1, L1, bl, cs, e.trans q1, q2, q3, q4, q6, fun c f => q7 c (sub1 f)⟩
   ·simp only [List.mem_singleton] at hi
    subst hi
    exact ⟨hlt, .inr ⟨_, L3, v3, v1, L1, bl, cs, at_, hb3, hbox, e1, hfit, fun c f => a6 c ((sub0 f).sub (fun i q => List.mem_append_right _ q) L.le (Nat.le_refl _) (fun _ _ => rfl) (fun _ _ => rfl))⟩⟩
  ·have q := jn.row i h1 h2
   rw [← ne i (by omega)] at q
   exact q
  ·have hi : (packSh sh x s.h).2.next ≤ i := hi
   show ((packSh sh x s.h).2.put id (.box (packSh sh x s.h).1 L3)).e i = none
   rw [ne i (by have := L.le; omega)]
   exact a4 L.fresh i hi
theorem laid_items (H' : HInv S B w0 h' M' w') {c0 : Cx} {fr0 : Nat → List Nat → Option AV} (h0 : ∀ t p x, fr0 t p = some x → Seen c0 x) {n0 : Nat} (hn0 : c0.nx = n0) (hs' : s'.h = h') (F' : ∀ t, RepV (cx S h' M' w') (s'.fr t) (a'.tmps.getD t undef)) :
  ∀ (l : List Item) (x : ItemsD l) (o1 d1 k1 : List Nat) (s s2 : St) (M : Nat → Bk) (g : Nat → Option Nat) (os ds ks : List Nat), Laid S c0 n0 b a' h' M' w' s M g os ds ks →
   unItems fr0 s' l = some (x, o1, d1) → kept fr0 l = some k1 → (ks ++ k1).Nodup → packItems fr0 l x s = some s2 →
   ∃ M2 g2, Laid S c0 n0 b a' h' M' w' s2 M2 g2 (os ++ o1) (ds ++ d1) (ks ++ k1) := by
 intro l
 induction l with
 | nil =>
  intro x o1 d1 k1 s s2 M g os ds ks L hu hk hnd hp
  simp only [unItems] at hu
  injection hu with hu
  injection hu with _ hu
  injection hu with h2 h3
  subst h2; subst h3
  simp only [kept] at hk
  injection hk with hk
  subst hk
  simp only [packItems] at hp
  injection hp with hp
  subst hp
  exact ⟨M, g, by simpa using L⟩
 | cons i l ih =>
  intro x o1 d1 k1 s s2 M g os ds ks L hu hk hnd hp
  simp only [kept] at hk
  split at hk
  case h_2 => cases hk
  rename_i ka hka
  split at hk
  case h_2 => cases hk
  rename_i kb hkb
  injection hk with hk
  subst hk
  have hdis : ∀ j, j ∈ ks → j ∉ ka := by
   intro j hj hj'
   obtain ⟨_, _, h3⟩ := List.nodup_append.1 hnd
   exact h3 j hj j (List.mem_append_left _ hj') rfl
  cases l with
  | nil =>
   simp only [kept] at hkb
   injection hkb with hkb
   subst hkb
   simp only [unItems] at hu
   simp only [packItems] at hp
   simp only [List.append_nil]
   exact laid_item H' h0 hn0 hs' F' L i hu hka hdis hp
  | cons j l =>
   simp only [unItems] at hu
   split at hu
   case h_2 => cases hu
   rename_i x1 oa da hx1
   split at hu
   case h_2 => cases hu
   rename_i x2 ob db hx2
   injection hu with hu
   injection hu with h1 h2
   injection h2 with h2 h3
   subst h1; subst h2; subst h3
   simp only [packItems] at hp
   split at hp
   case h_2 => cases hp
   rename_i s1 hs1
   obtain ⟨M1, g1, L1⟩ := laid_item H' h0 hn0 hs' F' L i hx1 hka hdis hs1
   obtain ⟨M2, g2, L2⟩ := ih x2 ob db kb s1 s2 M1 g1 _ _ _ L1 hx2 hkb (by simpa [List.append_assoc] using hnd) hp
   exact ⟨M2, g2, by simpa [List.append_assoc] using L2⟩
end Go.PG
end
section
namespace Go.PG
open Go.RowKit
variable {Pg : Program} {G : World → Prop} {E : Env} {S : Nat → Prop} {B : Nat} {w0 w w' w'' : World} {h h' : Hp} {M0 M M' M'' : Nat → Bk} {ρ : Type} {r : ρ} {st st' st'' b s s2 s' : St} {a a' a'' : Act} {o : Oper}
def Cx.low (c : Cx) (n : Nat) : Cx := { c with nx := n }
theorem Rep1.low {c d : Cx} {v : AV} {cs ds : List Value} (h : Rep1 c v cs) (k : Rep1 d v ds) : Rep1 (d.low c.nx) v ds := by
 cases v with
 | nilS e => exact k
 | own id => obtain ⟨_, k⟩ := k; exact ⟨h.1, k⟩
 | ptr id p => obtain ⟨_, k⟩ := k; exact ⟨h.1, k⟩
 | rptr t x => exact k
 | eptr id i p => obtain ⟨_, k⟩ := k; exact ⟨h.1, k⟩
 | view id a n => obtain ⟨_, k⟩ := k; exact ⟨h.1, k⟩
 | unkB => exact k
 | mref id => obtain ⟨_, k⟩ := k; exact ⟨h.1, k⟩
 | dref id => obtain ⟨_, k⟩ := k; exact ⟨h.1, k⟩
 | dptr id i => obtain ⟨_, k⟩ := k; exact ⟨h.1, k⟩
 | tptr id i m => obtain ⟨_, k⟩ := k; exact ⟨h.1, k⟩
 | _ => exact h.elim
mutual
theorem RepC.low {c d : Cx} : ∀ (v : AV) (cs ds : List Value), RepC c v cs → RepC d v ds → RepC (d.low c.nx) v ds
 | .undef, _, _, _, k => by simp only [RepC] at k ⊢; exact k
 | .unit, _, _, _, k => by simp only [RepC] at k ⊢; exact k
 | .data t x, _, _, _, k => by simp only [RepC] at k ⊢; exact k
 | .fn f a, _, _, h, k => by
  simp only [RepC] at h k ⊢
  obtain ⟨vs, _, h⟩ := h
  obtain ⟨us, e, k⟩ := k
  exact ⟨us, e, RepT.low a _ _ h k⟩
 | .st b, _, _, h, k => by simp only [RepC] at h k ⊢; exact RepC.low b _ _ h k
 | .pr a r, _, _, h, k => by
  simp only [RepC] at h k ⊢
  obtain ⟨c1, c2, _, h1, h2⟩ := h
  obtain ⟨d1, d2, e, k1, k2⟩ := k
  exact ⟨d1, d2, e, RepC.low a _ _ h1 k1, RepC.low r _ _ h2 k2⟩
 | .tup _, _, _, h, _ => by simp only [RepC] at h
 | .nilS _, _, _, h, k => by simp only [RepC] at h k ⊢; exact h.low k
 | .own _, _, _, h, k => by simp only [RepC] at h k ⊢; exact h.low k
 | .ptr _ _, _, _, h, k => by simp only [RepC] at h k ⊢; exact h.low k
 | .rptr _ _, _, _, h, k => by simp only [RepC] at h k ⊢; exact h.low k
 | .eptr _ _ _, _, _, h, k => by simp only [RepC] at h k ⊢; exact h.low k
 | .view _ _ _, _, _, h, k => by simp only [RepC] at h k ⊢; exact h.low k
 | .unkB, _, _, h, k => by simp only [RepC] at h k ⊢; exact h.low k
 | .mref _, _, _, h, k => by simp only [RepC] at h k ⊢; exact h.low k
 | .dref _, _, _, h, k => by simp only [RepC] at h k ⊢; exact h.low k
 | .dptr _ _, _, _, h, k => by simp only [RepC] at h k ⊢; exact h.low k
 | .tptr _ _ _, _, _, h, k => by simp only [RepC] at h k ⊢; exact h.low k
theorem RepV.low {c d : Cx} : ∀ (v : AV) (u z : Value), RepV c v u → RepV d v z → RepV (d.low c.nx) v z
 | .undef, _, _, _, _ => by simp only [RepV]
 | .unit, _, _, h, _ => by simp only [RepV] at h
 | .data t x, _, _, _, k => by simp only [RepV] at k ⊢; exact k
 | .fn f a, _, _, h, k => by
  simp only [RepV] at h k ⊢
  obtain ⟨vs, _, h⟩ := h
  obtain ⟨us, e, k⟩ := k
  exact ⟨us, e, RepT.low a _ _ h k⟩
 | .st b, _, _, h, k => by
  simp only [RepV] at h k ⊢
  obtain ⟨vs, _, h⟩ := h
  obtain ⟨us, e, k⟩ := k
  exact ⟨us, e, RepC.low b _ _ h k⟩
 | .pr _ _, _, _, h, _ => by simp only [RepV] at h
 | .tup b, _, _, h, k => by
  simp only [RepV] at h k ⊢
  obtain ⟨vs, _, h⟩ := h
  obtain ⟨us, e, k⟩ := k
  exact ⟨us, e, RepT.low b _ _ h k⟩
 | .nilS _, _, _, h, k => by simp only [RepV] at h k ⊢; exact h.low k
 | .own _, _, _, h, k => by simp only [RepV] at h k ⊢; exact h.low k
 | .ptr _ _, _, _, h, k => by simp only [RepV] at h k ⊢; exact h.low k
 | .rptr _ _, _, _, h, k => by simp only [RepV] at h k ⊢; exact h.low k
 | .eptr _ _ _, _, _, h, k => by simp only [RepV] at h k ⊢; exact h.low k
 | .view _ _ _, _, _, h, k => by simp only [RepV] at h k ⊢; exact h.low k
 | .unkB, _, _, h, k => by simp only [RepV] at h k ⊢; exact h.low k
 | .mref _, _, _, h, k => by simp only [RepV] at h k ⊢; exact h.low k
 | .dref _, _, _, h, k => by simp only [RepV] at h k ⊢; exact h.low k
 | .dptr _ _, _, _, h, k => by simp only [RepV] at h k ⊢; exact h.low k
 | .tptr _ _ _, _, _, h, k => by simp only [RepV] at h k ⊢; exact h.low k
theorem RepT.low {c d : Cx} : ∀ (v : AV) (us zs : List Value), RepT c v us → RepT d v zs → RepT (d.low c.nx) v zs
 | .unit, _, _, _, k => by simp only [RepT] at k ⊢; exact k
 | .pr a r, _, _, h, k => by
  simp only [RepT] at h k ⊢
  obtain ⟨v, vs, _, h1, h2⟩ := h
  obtain ⟨u, us, e, k1, k2⟩ := k
  exact ⟨u, us, e, RepV.low a _ _ h1 k1, RepT.low r _ _ h2 k2⟩
 | .undef, _, _, _, k => by simp only [RepT] at k ⊢; exact k
 | .tup b, _, _, h, k => by
  simp only [RepT] at h k ⊢
  obtain ⟨vs, _, h⟩ := h
  obtain ⟨us, e, k⟩ := k
  exact ⟨us, e, RepT.low b _ _ h k⟩
 | .data t x, _, _, _, k => by simp only [RepT] at k ⊢; exact k
 | .st b, _, _, h, k => by
  simp only [RepT] at h k ⊢
  obtain ⟨vs, _, h⟩ := h
  obtain ⟨us, e, k⟩ := k
  exact ⟨us, e, RepC.low b _ _ h k⟩
 | .fn f a, _, _, h, k => by
  simp only [RepT] at h k ⊢
  obtain ⟨vs, _, h⟩ := h
  obtain ⟨us, e, k⟩ := k
  exact ⟨us, e, RepT.low a _ _ h k⟩
 | .nilS _, _, _, h, k => by simp only [RepT] at h k ⊢; obtain ⟨_, _, h⟩ := h; obtain ⟨u, e, k⟩ := k; exact ⟨u, e, h.low k⟩
 | .own _, _, _, h, k => by simp only [RepT] at h k ⊢; obtain ⟨_, _, h⟩ := h; obtain ⟨u, e, k⟩ := k; exact ⟨u, e, h.low k⟩
 | .ptr _ _, _, _, h, k => by simp only [RepT] at h k ⊢; obtain ⟨_, _, h⟩ := h; obtain ⟨u, e, k⟩ := k; exact ⟨u, e, h.low k⟩
 | .rptr _ _, _, _, h, k => by simp only [RepT] at h k ⊢; obtain ⟨_, _, h⟩ := h; obtain ⟨u, e, k⟩ := k; exact ⟨u, e, h.low k⟩
 | .eptr _ _ _, _, _, h, k => by simp only [RepT] at h k ⊢; obtain ⟨_, _, h⟩ := h; obtain ⟨u, e, k⟩ := k; exact ⟨u, e, h.low k⟩
 | .view _ _ _, _, _, h, k => by simp only [RepT] at h k ⊢; obtain ⟨_, _, h⟩ := h; obtain ⟨u, e, k⟩ := k; exact ⟨u, e, h.low k⟩
 | .unkB, _, _, h, k => by simp only [RepT] at h k ⊢; obtain ⟨_, _, h⟩ := h; obtain ⟨u, e, k⟩ := k; exact ⟨u, e, h.low k⟩
 | .mref _, _, _, h, k => by simp only [RepT] at h k ⊢; obtain ⟨_, _, h⟩ := h; obtain ⟨u, e, k⟩ := k; exact ⟨u, e, h.low k⟩
 | .dref _, _, _, h, k => by simp only [RepT] at h k ⊢; obtain ⟨_, _, h⟩ := h; obtain ⟨u, e, k⟩ := k; exact ⟨u, e, h.low k⟩
 | .dptr _ _, _, _, h, k => by simp only [RepT] at h k ⊢; obtain ⟨_, _, h⟩ := h; obtain ⟨u, e, k⟩ := k; exact ⟨u, e, h.low k⟩
 | .tptr _ _ _, _, _, h, k => by simp only [RepT] at h k ⊢; obtain ⟨_, _, h⟩ := h; obtain ⟨u, e, k⟩ := k; exact ⟨u, e, h.low k⟩
end
theorem undefOf_rep {c d : Cx} : ∀ (L : Ty) (v : AV) (cs : List Value), fitsT v L = true → RepC c v cs → RepC d (undefOf L) cs := by
 have leaf : ∀ (L : Ty) (v : AV) (cs : List Value), L.size = 1 → undefOf L = .undef → fitsT v L = true → RepC c v cs → RepC d (undefOf L) cs := by
  intro L v cs hs he f h
  have hl := fits_len v L cs f h
  rw [hs] at hl
  obtain ⟨u, rfl⟩ := List.length_eq_one_iff.1 hl
  rw [he]
  simp only [RepC]
  exact ⟨u, rfl, RepC.one v _ h u (by simp)⟩
 intro L
 induction L with
 | unit =>
  intro v cs f h
  cases v with
  | data t x =>
   simp only [fitsT, decide_eq_true_eq] at f
   subst f
   simp only [RepC, RepD] at h
   simp only [undefOf, RepC]; exact h
  | _ => simp [fitsT] at f
 | st b ih =>
  intro v cs f h
  simp only [undefOf, RepC]
  cases v with
  | data t x =>
   simp only [fitsT, decide_eq_true_eq] at f
   subst f
   simp only [RepC, RepD] at h
   exact ih (.data b x) cs (by simp [fitsT]) (by simp only [RepC]; exact h)
  | st u => simp only [fitsT] at f; simp only [RepC] at h; exact ih u cs f h
  | _ => simp [fitsT] at f
 | pair p q ihp ihq =>
  intro v cs f h
  simp only [undefOf, RepC]
  cases v with
  | data t x =>
   simp only [fitsT, decide_eq_true_eq] at f
   subst f
   simp only [RepC, RepD] at h
   obtain ⟨c1, c2, e, h1, h2⟩ := h
   exact ⟨c1, c2, e, ihp (.data p x.1) c1 (by simp [fitsT]) (by simp only [RepC]; exact h1), ihq (.data q x.2) c2 (by simp [fitsT]) (by simp only [RepC]; exact h2)⟩
  | pr u z =>
   simp only [fitsT] at f
   split at f
   case h_2 => cases f
   rename_i f1
   simp only [RepC] at h
   obtain ⟨c1, c2, e, h1, h2⟩ := h
   exact ⟨c1, c2, e, ihp u c1 f1 h1, ihq z c2 f h2⟩
  | _ => simp [fitsT] at f
 | bool => intro v cs; exact leaf _ v cs rfl rfl
 | str => intro v cs; exact leaf _ v cs rfl rfl
 | opq => intro v cs; exact leaf _ v cs rfl rfl
 | int k => intro v cs; exact leaf _ v cs rfl rfl
 | slice e => intro v cs; exact leaf _ v cs rfl rfl
 | map _ _ _ _ => intro v cs; exact leaf _ v cs rfl rfl
 | dmap _ _ _ _ => intro v cs; exact leaf _ v cs rfl rfl
 | slf =>
  intro v cs f h
  have hl := fits_len v .slf cs f h
  have h1 := RepC.one v _ h
  have cell : ∀ u, u ∈ cs → RepC d .undef [u] := fun u hu => by simp only [RepC]; exact ⟨u, rfl, h1 u hu⟩
  obtain ⟨a0, r0, rfl⟩ : ∃ a r, cs = a :: r := by cases cs with | nil => cases hl | cons a r => exact ⟨a, r, rfl⟩
  obtain ⟨a1, r1, rfl⟩ : ∃ a r, r0 = a :: r := by cases r0 with | nil => cases hl | cons a r => exact ⟨a, r, rfl⟩
  obtain ⟨a2, r2, rfl⟩ : ∃ a r, r1 = a :: r := by cases r1 with | nil => cases hl | cons a r => exact ⟨a, r, rfl⟩
  obtain ⟨a3, r3, rfl⟩ : ∃ a r, r2 = a :: r := by cases r2 with | nil => cases hl | cons a r => exact ⟨a, r, rfl⟩
  obtain ⟨a4, r4, rfl⟩ : ∃ a r, r3 = a :: r := by cases r3 with | nil => cases hl | cons a r => exact ⟨a, r, rfl⟩
  obtain ⟨a5, r5, rfl⟩ : ∃ a r, r4 = a :: r := by cases r4 with | nil => cases hl | cons a r => exact ⟨a, r, rfl⟩
  obtain ⟨a6, r6, rfl⟩ : ∃ a r, r5 = a :: r := by cases r5 with | nil => cases hl | cons a r => exact ⟨a, r, rfl⟩
  obtain ⟨a7, r7, rfl⟩ : ∃ a r, r6 = a :: r := by cases r6 with | nil => cases hl | cons a r => exact ⟨a, r, rfl⟩
  obtain rfl : r7 = [] := by cases r7 with | nil => rfl | cons a r => simp [Ty.size] at hl
  have pr : ∀ {u : Value} {b : AV} {r : List Value}, RepC d .undef [u] → RepC d b r → RepC d (.pr .undef b) (u :: r) := fun h g => by simp only [RepC] at h ⊢; exact ⟨_, _, rfl, h, g⟩
  exact pr (cell _ (by simp)) (pr (cell _ (by simp)) (pr (cell _ (by simp)) (pr (cell _ (by simp)) (pr (cell _ (by simp)) (pr (cell _ (by simp)) (pr (cell _ (by simp)) (cell _ (by simp))))))))
 | bld _ _ => intro v cs; exact leaf _ v cs rfl rfl
structure Base (st b : St) (c : List Nat) : Prop where
 nx : b.h.next = st.h.next
 fresh : ∀ i, st.h.next ≤ i → b.h.e i = none
 inc : ∀ i, i ∈ c → b.h.e i = none ∨ ∃ v L, st.h.e i = some (.box v L) ∧ b.h.e i = some (.box (undefOf L) L) ∧ fitsT (undefOf L) L = true
 out : ∀ i, i ∉ c → b.h.e i = none ∨ b.h.e i = st.h.e i
theorem lay (g0 : Good S B w0 st a M0 w) {c : List Nat} (hb : Base st b c) (H' : HInv S B w0 s'.h M' w') (F' : ∀ t, RepV (cx S s'.h M' w') (s'.fr t) (a'.tmps.getD t undef)) (T : Tr (cx S st.h M0 w) (cx S s'.h M' w'))
  (U : ∀ i, i < st.h.next → i ∉ c → (b.h.e i ≠ none → s'.h.e i = b.h.e i) ∧ M' i = M0 i)
  (alv : ∀ i, i ∈ c → ∀ v L, b.h.e i = some (.box v L) → ∃ v' L', s'.h.e i = some (.box v' L'))
  (hfr : ∀ t, b.fr t = .undef ∨ b.fr t = st.fr t ∧ a'.tmps.getD t undef = a.tmps.getD t undef)
  {l : List Item} {x : ItemsD l} {os ds ks : List Nat} (hu : unItems (finder st) s' l = some (x, os, ds)) (hk : kept (finder st) l = some ks) (hnd : (ks ++ (os ++ ds)).Nodup) (hsub : ∀ i, i ∈ ks → i ∈ c)
  (hdead : ∀ i, i ∈ os ++ ds → b.h.e i = none) (hp : packItems (finder st) l x b = some s2) (hsz : b.n ≤ a'.tmps.size) (hdf : a'.defers = []) :
  ∃ M2, Good S B w0 s2 a' M2 w' ∧ Tr (cx S st.h M0 w) (cx S s2.h M2 w') ∧ (∀ i, i < st.h.next → i ∉ c → s2.h.e i = b.h.e i ∧ M2 i = M0 i) ∧ s2.h.lk = b.h.lk ∧ s2.ro = b.ro ∧ s2.n = b.n ∧ st.h.next ≤ s2.h.next := by
 obtain ⟨nk, nod, ndis⟩ := List.nodup_append.1 hnd
 have h0 : ∀ t p x, finder st t p = some x → Seen (cx S st.h M0 w) x := fun t p x hx => follow_rep g0.H p _ _ hx (.inl ⟨_, g0.F t⟩)
 obtain ⟨M2, g, L⟩ := laid_items (c0 := cx S st.h M0 w) (a' := a') (S := S) (b := b) (fr0 := finder st) H' h0 (n0 := st.h.next) rfl rfl F' l x os ds ks b s2 M' (fun _ => none) [] [] []
  (laid_start (h' := s'.h) (M' := M') (w' := w') hb.nx hb.fresh (fun t c tr => by
   rcases hfr t with e | ⟨e1, e2⟩
   ·rw [e]; simp only [RepV]
   ·rw [e1, e2]; exact RepV.tr tr _ _ (g0.F t))) hu hk (by simpa using nk) hp
 simp only [List.nil_append] at L
 have hold : ∀ i, i < st.h.next → M2 i = M' i := L.old
 -- where a live id comes from
 have live : ∀ i e, s2.h.e i = some e → (i < st.h.next ∧ s'.h.e i ≠ none ∧ (i ∈ ks ∨ b.h.e i ≠ none)) ∨ (st.h.next ≤ i ∧ i < s2.h.next) := by
  intro i e he
  rcases Nat.lt_or_ge i st.h.next with hi | hi
  ·left
   by_cases hik : i ∈ ks
   ·refine ⟨hi, ?_, .inl hik⟩
    obtain ⟨_, ⟨t, xs, _, q⟩ | ⟨v2, L', v0, v1, L1, bl, cs, _, _, q, _⟩⟩ := L.laid i hik <;> (rw [q]; simp)
   ·have hbe : b.h.e i = some e := (L.keep i hi hik).symm.trans he
    refine ⟨hi, ?_, .inr (by rw [hbe]; simp)⟩
    by_cases hic : i ∈ c
    ·rcases hb.inc i hic with q | ⟨v, L', q1, q2, q3⟩
     ·rw [q] at hbe; cases hbe
     ·obtain ⟨v', L'', q⟩ := alv i hic _ _ q2
      rw [q]; simp
    ·rw [(U i hi hic).1 (by rw [hbe]; simp), hbe]; simp
  ·right
   refine ⟨hi, ?_⟩
   rcases Nat.lt_or_ge i s2.h.next with q | q
   ·exact q
   ·rw [L.fresh i q] at he; cases he
 have from_ : ∀ i bb, s2.h.e i ≠ none → (M2 i).has bb → ∃ j, s'.h.e j ≠ none ∧ (M' j).has bb ∧ ((i < st.h.next ∧ j = i ∧ (i ∈ ks ∨ b.h.e i ≠ none)) ∨ (st.h.next ≤ i ∧ i < s2.h.next ∧ g i = some j ∧ j ∈ os)) := by
  intro i bb hne hbb
  cases he : s2.h.e i with
  | none => exact absurd he hne
  | some e =>
   rcases live i e he with ⟨h1, h2, h3⟩ | ⟨h1, h2⟩
   ·exact ⟨i, h2, by rw [← hold i h1]; exact hbb, .inl ⟨h1, rfl, h3⟩⟩
   ·obtain ⟨id, m, q2, q3, q4⟩ := (L.new.row i h1 h2).has hbb
    exact ⟨id, q3, q4, .inr ⟨h1, h2, q2, m⟩⟩
 have hZ : ∀ bb, (cx S s2.h M2 w').Z bb → (cx S s'.h M' w').Z bb := by
  rintro bb (z | ⟨i, e, q1, q2⟩)
  ·exact .inl z
  ·obtain ⟨j, h1, h2, _⟩ := from_ i bb (by rw [show s2.h.e i = some e from q1]; simp) q2
   cases q : s'.h.e j with
   | none => exact absurd q h1
   | some f => exact .inr ⟨j, f, q, h2⟩
 have hT : ∀ i, i < st.h.next → _ := T.ids
 have tr : Tr (cx S st.h M0 w) (cx S s2.h M2 w') := by
  refine ⟨T.held.trans (Held.of_le w' hZ), L.le, fun i hi => ?_⟩
  have hi : i < st.h.next := hi
  have hTi := T.ids i hi
  simp only [cx] at hTi ⊢
  by_cases hik : i ∈ ks
  ·obtain ⟨_, ⟨t, xs, q1, q2⟩ | ⟨v2, L', v0, v1, L1, bl, cs, q1, q2, q3, q4, _⟩⟩ := L.laid i hik
   ·rcases hTi with r | r | ⟨r1, r⟩
    ·rw [q2] at r; cases r
    ·exact .inr (.inl r)
    ·refine .inr (.inr ⟨(by rw [hold i hi]; exact r1), ?_⟩)
     rcases r with ⟨_, _, _, _, r⟩ | ⟨t', ys, zs, r2, r3, r4⟩
     ·rw [q2] at r; cases r
     ·rw [q2] at r3
      injection r3 with r3
      injection r3 with e1 e2
      subst e1
      have e2 := eq_of_heq e2
      subst e2
      exact .inr ⟨t, ys, xs, r2, q1, r4⟩
   ·have hbox : ∃ v, st.h.e i = some (.box v L') := by
     rcases hb.inc i (hsub i hik) with z | ⟨v, L2, z1, z2, _⟩
     ·rw [q2] at z; cases z
     ·rw [q2] at z2
      injection z2 with z2
      injection z2 with _ z2
      subst z2
      exact ⟨v, z1⟩
    obtain ⟨v, hv⟩ := hbox
    rcases hTi with r | ⟨r, _⟩ | ⟨r1, _⟩
    ·rw [q3] at r; cases r
    ·rw [hv] at r; cases r
    ·exact .inr (.inr ⟨(by rw [hold i hi]; exact r1), .inl ⟨v, v2, L', hv, q1⟩⟩)
  ·have hkp := L.keep i hi hik
   cases hbe : b.h.e i with
   | none => exact .inl (hkp.trans hbe)
   | some e =>
    by_cases hic : i ∈ c
    ·rcases hb.inc i hic with z | ⟨v, L', z1, z2, _⟩
     ·rw [z] at hbe; cases hbe
     ·obtain ⟨v', L'', q⟩ := alv i hic _ _ z2
      rcases hTi with r | ⟨r, _⟩ | ⟨r1, _⟩
      ·rw [q] at r; cases r
      ·rw [z1] at r; cases r
      ·exact .inr (.inr ⟨(by rw [hold i hi]; exact r1), .inl ⟨v, _, L', z1, hkp.trans z2⟩⟩)
    ·obtain ⟨_, u2⟩ := U i hi hic
     have hst : b.h.e i = st.h.e i := by
      rcases hb.out i hic with z | z
      ·rw [z] at hbe; cases hbe
      ·exact z
     rw [hkp, hst, hold i hi, u2]
     exact ids_self g0.H i
 have fin : Fin S s'.h M' w' (cx S st.h M0 w) (cx S s2.h M2 w') ds st.h.next s2.h.next s2.h.e M2 := by
  refine ⟨rfl, hZ, fun id hid bb hl hbb z => ?_, fun i _ _ => ⟨rfl, rfl⟩, Nat.le_refl _, tr⟩
  rcases z with z | ⟨i, e, q1, q2⟩
  ·have := H'.own id bb hl hbb
   have := H'.old bb z
   omega
  ·obtain ⟨j, h1, h2, h3⟩ := from_ i bb (by rw [show s2.h.e i = some e from q1]; simp) q2
   have hij := H'.dist j id bb h1 hl h2 hbb
   subst hij
   rcases h3 with ⟨_, rfl, h4 | h4⟩ | ⟨_, _, _, h4⟩
   ·exact ndis _ h4 _ (List.mem_append_right _ hid) rfl
   ·exact h4 (hdead _ (List.mem_append_right _ hid))
   ·exact (List.nodup_append.1 nod).2.2 _ h4 _ hid rfl
 have hid : ∀ i, i ∈ os → i ∈ os ++ ds := fun i q => List.mem_append_left _ q
 refine ⟨M2, ⟨⟨fun i e he => ?_, L.fresh, fun i j bb hi hj h1 h2 => ?_, fun i bb hi hbb => ?_, H'.bel, H'.bsz, H'.old, H'.bw⟩, fun t => L.slot t _ fin, by rw [L.n]; exact hsz, hdf⟩, tr, fun i hi hic => ?_, L.lk, L.ro, L.n, L.le⟩
 ·
  have rowok : ∀ (id : Nat) (t : Ty) (ys xs : List t.D), RowPart (M' id) ys (M2 i) xs → s'.h.e id = some (.row t ys) → EntOk (cx S s2.h M2 w') i (.row t xs) := by
   intro id t ys xs e1 e2
   have h1 : RowIs (cx S s'.h M' w') (M' id) ys := H'.ent id _ e2
   obtain ⟨A, cap, q1, q2, q3⟩ := e1.is h1
   refine ⟨A, cap, q1, q2, ?_⟩
   rcases q3 with q3 | ⟨q3, bl, of, cs, el, q4, q5, q6, q7⟩
   ·exact .inl q3
   ·refine .inr ⟨q3, bl, of, cs, el, q4, q5, q6, fun j y hy => ?_⟩
    obtain ⟨d, q8, q9⟩ := q7 j y hy
    exact ⟨d, q8.held (Held.of_le w' hZ), q9⟩
  rcases live i e he with ⟨hi, hl, _⟩ | ⟨hi, hi2⟩
  ·by_cases hik : i ∈ ks
   ·obtain ⟨_, ⟨t, xs, q1, q2⟩ | ⟨v2, L', v0, v1, L1, bl, cs, q1, q2, q3, q4, q6, q7⟩⟩ := L.laid i hik
    ·rw [q1] at he; injection he with he; subst he
     exact rowok i t xs xs (.inl ⟨hold i hi, rfl⟩) q2
    ·rw [q1] at he; injection he with he; subst he
     have hLL : L1 = L' := by
      rcases hb.inc i (hsub i hik) with z | ⟨v, L2, z1, z2, _⟩
      ·rw [q2] at z; cases z
      ·rw [q2] at z2
       injection z2 with z2
       injection z2 with _ z2
       subst z2
       rcases T.ids i hi with r | ⟨r, _⟩ | ⟨_, ⟨u1, u2, L5, r1, r2⟩ | ⟨t, xs, ys, r1, r2, _⟩⟩
       ·simp only [cx] at r; rw [q3] at r; cases r
       ·simp only [cx] at r; rw [z1] at r; cases r
       ·simp only [cx] at r1 r2
        rw [z1] at r1; rw [q3] at r2
        injection r1 with r1; injection r1 with _ r1
        injection r2 with r2; injection r2 with _ r2
        exact r2.trans r1.symm
       ·simp only [cx] at r1; rw [z1] at r1; cases r1
     subst hLL
     exact ⟨bl, cs, by simp only [cx]; rw [hold i hi]; exact q4, q6, q7 _ fin⟩
   ·have hbe : b.h.e i = some e := (L.keep i hi hik).symm.trans he
    by_cases hic : i ∈ c
    ·rcases hb.inc i hic with z | ⟨v, L', z1, z2, z3⟩
     ·rw [z] at hbe; cases hbe
     ·obtain ⟨v', L'', q⟩ := alv i hic _ _ z2
      rw [z2] at hbe; injection hbe with hbe; subst hbe
      have hLL : L'' = L' := by
       rcases T.ids i hi with r | ⟨r, _⟩ | ⟨_, ⟨u1, u2, L3, r1, r2⟩ | ⟨t, xs, ys, r1, r2, _⟩⟩
       ·simp only [cx] at r; rw [q] at r; cases r
       ·simp only [cx] at r; rw [z1] at r; cases r
       ·simp only [cx] at r1 r2
        rw [z1] at r1; rw [q] at r2
        injection r1 with r1; injection r1 with _ r1
        injection r2 with r2; injection r2 with _ r2
        exact r2.trans r1.symm
       ·simp only [cx] at r1; rw [z1] at r1; cases r1
      subst hLL
      obtain ⟨bl, cs, e1, e3, e4⟩ := H'.ent i _ q
      exact ⟨bl, cs, by simp only [cx]; rw [hold i hi]; exact e1, z3, undefOf_rep L'' v' cs e3 e4⟩
    ·have u1 := (U i hi hic).1 (by rw [hbe]; simp)
     have hse : s'.h.e i = some e := u1.trans hbe
     have hst : st.h.e i = some e := by
      rcases hb.out i hic with z | z
      ·rw [z] at hbe; cases hbe
      ·rw [← z]; exact hbe
     cases e with
     | row t xs => exact rowok i t xs xs (.inl ⟨hold i hi, rfl⟩) hse
     | rsv => exact (hold i hi).trans (H'.ent i _ hse)
     | box v L' =>
      obtain ⟨bl, cs, e1, e3, e4⟩ := H'.ent i _ hse
      obtain ⟨bl0, cs0, _, _, e40⟩ := g0.H.ent i _ hst
      have hlow := RepC.low v cs0 cs e40 e4
      have trl : Tr ((cx S s'.h M' w').low st.h.next) (cx S s2.h M2 w') := by
       refine ⟨Held.of_le w' hZ, L.le, fun j hj => ?_⟩
       have hj : j < st.h.next := hj
       show s2.h.e j = none ∨ (s'.h.e j = some .rsv ∧ M' j = .nil) ∨ _
       by_cases hjk : j ∈ ks
       ·obtain ⟨_, ⟨t, xs, q1, q2⟩ | ⟨v2, L3, v0, v1, L1, bl, cs, q1, q2, q3, q4, _⟩⟩ := L.laid j hjk
        ·exact .inr (.inr ⟨SameB.of (hold j hj), .inr ⟨t, xs, xs, q2, q1, rfl⟩⟩)
        ·have hLL : L1 = L3 := by
          rcases hb.inc j (hsub j hjk) with z | ⟨v, L2, z1, z2, _⟩
          ·rw [q2] at z; cases z
          ·rw [q2] at z2
           injection z2 with z2
           injection z2 with _ z2
           subst z2
           rcases T.ids j hj with r | ⟨r, _⟩ | ⟨_, ⟨u1, u2, L5, r1, r2⟩ | ⟨t, xs, ys, r1, r2, _⟩⟩
           ·simp only [cx] at r; rw [q3] at r; cases r
           ·simp only [cx] at r; rw [z1] at r; cases r
           ·simp only [cx] at r1 r2
            rw [z1] at r1; rw [q3] at r2
            injection r1 with r1; injection r1 with _ r1
            injection r2 with r2; injection r2 with _ r2
            exact r2.trans r1.symm
           ·simp only [cx] at r1; rw [z1] at r1; cases r1
         subst hLL
         exact .inr (.inr ⟨SameB.of (hold j hj), .inl ⟨v1, v2, L1, q3, q1⟩⟩)
       ·have hkp := L.keep j hj hjk
        cases hbe2 : b.h.e j with
        | none => exact .inl (hkp.trans hbe2)
        | some f =>
         by_cases hjc : j ∈ c
         ·rcases hb.inc j hjc with z | ⟨v5, L5, z1, z2, _⟩
          ·rw [z] at hbe2; cases hbe2
          ·obtain ⟨v6, L6, q⟩ := alv j hjc _ _ z2
           have hLL : L6 = L5 := by
            rcases T.ids j hj with r | ⟨r, _⟩ | ⟨_, ⟨u1, u2, L7, r1, r2⟩ | ⟨t, xs, ys, r1, r2, _⟩⟩
            ·simp only [cx] at r; rw [q] at r; cases r
            ·simp only [cx] at r; rw [z1] at r; cases r
            ·simp only [cx] at r1 r2
             rw [z1] at r1; rw [q] at r2
             injection r1 with r1; injection r1 with _ r1
             injection r2 with r2; injection r2 with _ r2
             exact r2.trans r1.symm
            ·simp only [cx] at r1; rw [z1] at r1; cases r1
           subst hLL
           exact .inr (.inr ⟨SameB.of (hold j hj), .inl ⟨v6, _, L6, q, hkp.trans z2⟩⟩)
         ·have y1 := (U j hj hjc).1 (by rw [hbe2]; simp)
          have y2 : s'.h.e j = some f := y1.trans hbe2
          have y3 : s2.h.e j = some f := hkp.trans hbe2
          cases f with
          | box v L => exact .inr (.inr ⟨SameB.of (hold j hj), .inl ⟨v, v, L, y2, y3⟩⟩)
          | row t xs => exact .inr (.inr ⟨SameB.of (hold j hj), .inr ⟨t, xs, xs, y2, y3, rfl⟩⟩)
          | rsv => exact .inr (.inl ⟨y2, H'.ent j _ y2⟩)
      exact ⟨bl, cs, by simp only [cx]; rw [hold i hi]; exact e1, e3, RepC.tr trl v _ hlow⟩
  ·rcases L.new.row i hi hi2 with ⟨t, xs, q1, ⟨id, ys, m, q2, q3, q4⟩ | ⟨q2, q3, A, q4⟩⟩ | ⟨t, xs, q1, ⟨id, m, q2, q3, q4⟩ | ⟨q2, q3, A, q4⟩⟩
   ·rw [q1] at he; injection he with he; subst he
    exact rowok id t ys xs q4 q3
   ·rw [q1] at he; injection he with he; subst he
    subst q3
    exact ⟨A, 0, q4, Nat.le_refl _, .inl rfl⟩
   ·rw [q1] at he; injection he with he; subst he
    rw [q1] at q3
    obtain ⟨bl, cs, g1, g2, g3⟩ := H'.ent id _ q3
    refine ⟨bl, cs, by simp only [cx]; rw [q4]; exact g1, g2, ?_⟩
    simp only [RepC] at g3 ⊢
    exact g3.held (Held.of_le w' hZ)
   ·rw [q1] at he; injection he with he; subst he
    subst q3
    exact (DRow.nil (Z := (cx S s2.h M2 w').Z) (w := w') t A 0).ent (c := cx S s2.h M2 w') q4
 ·
  obtain ⟨i', a1, a2, a3⟩ := from_ i bb hi h1
  obtain ⟨j', b1, b2, b3⟩ := from_ j bb hj h2
  have hij := H'.dist i' j' bb a1 b1 a2 b2
  subst hij
  rcases a3 with ⟨_, rfl, a4⟩ | ⟨a4, a5, a6, a7⟩
  ·rcases b3 with ⟨_, rfl, _⟩ | ⟨_, _, _, b4⟩
   ·rfl
   ·rcases a4 with a4 | a4
    ·exact absurd rfl (ndis _ a4 _ (hid _ b4))
    ·exact absurd (hdead _ (hid _ b4)) a4
  ·rcases b3 with ⟨_, rfl, b4⟩ | ⟨b4, b5, b6, _⟩
   ·rcases b4 with b4 | b4
    ·exact absurd rfl (ndis _ b4 _ (hid _ a7))
    ·exact absurd (hdead _ (hid _ a7)) b4
   ·exact L.new.inj (List.nodup_append.1 nod).1 i j i' a4 a5 b4 b5 a6 b6
 ·obtain ⟨j, h1, h2, _⟩ := from_ i bb hi hbb
  exact H'.own j bb h1 h2
 ·have hik : i ∉ ks := fun z => hic (hsub i z)
  exact ⟨L.keep i hi hik, (hold i hi).trans (U i hi hic).2⟩
end Go.PG
end
section
namespace Go.PG
open Go.RowKit
variable {Pg : Program} {G : World → Prop} {E : Env} {S : Nat → Prop} {B : Nat} {w0 w w' w'' w1 : World} {h h' : Hp} {M0 M M' M'' M1 : Nat → Bk} {ρ : Type} {r : ρ} {st st' st'' b s s2 s' : St} {a a' a'' a1 : Act} {o : Oper}
theorem memb_mem {i : Nat} : ∀ {l : List Nat}, memb i l = true ↔ i ∈ l
 | [] => by simp [memb]
 | j :: l => by
  simp only [memb]
  split
  ·rename_i e
   have := Nat.eq_of_beq_eq_true e
   subst this
   simp
  ·rename_i e
   have hne : i ≠ j := by rintro rfl; simp [Nat.beq_refl] at e
   rw [memb_mem]
   simp [hne]
theorem memb_not {i : Nat} {l : List Nat} : memb i l = false ↔ i ∉ l := by
 rw [← memb_mem]; simp
theorem nodup_spec : ∀ {l : List Nat}, nodup l = true → l.Nodup
 | [], _ => List.nodup_nil
 | i :: l, h => by
  simp only [nodup] at h
  split at h
  ·cases h
  ·rename_i e
   exact List.nodup_cons.2 ⟨memb_not.1 e, nodup_spec h⟩
theorem subs_spec {m : List Nat} : ∀ {l : List Nat}, subs l m = true → ∀ i, i ∈ l → i ∈ m
 | [], _ => by simp
 | j :: l, h => by
  simp only [subs] at h
  split at h
  ·rename_i e
   intro i hi
   rcases List.mem_cons.1 hi with rfl | hi
   ·exact memb_mem.1 e
   ·exact subs_spec h i hi
  ·cases h
theorem above_spec {n : Nat} : ∀ {l : List Nat}, above n l = true → ∀ i, i ∈ l → n ≤ i
 | [], _ => by simp
 | j :: l, h => by
  simp only [above] at h
  split at h
  ·rename_i e
   intro i hi
   rcases List.mem_cons.1 hi with rfl | hi
   ·exact Nat.le_of_ble_eq_true e
   ·exact above_spec h i hi
  ·cases h
theorem alive_spec {h h' : Hp} : ∀ {l : List Nat}, alive h h' l = true → ∀ i, i ∈ l → ∀ v L, h.e i = some (.box v L) → ∃ v' L', h'.e i = some (.box v' L')
 | [], _ => by simp
 | j :: l, q => by
  simp only [alive] at q
  intro i hi v L he
  rcases List.mem_cons.1 hi with rfl | hi
  ·split at q
   ·split at q
    ·rename_i v' L' e; exact ⟨v', L', e⟩
    ·cases q
   ·rename_i hno
    exact absurd he (hno v L)
  ·split at q
   ·split at q
    ·exact alive_spec q i hi v L he
    ·cases q
   ·exact alive_spec q i hi v L he
def loopBase (asx : List Nat) (st : St) (ls c : List Nat) : St := inner asx { st with h := st.h.kills ls } c
theorem loopBase_ok (asx : List Nat) (st : St) (ls c : List Nat) (hf : ∀ i, st.h.next ≤ i → st.h.e i = none) (hu : unlocked st.h c = true) : Base st (loopBase asx st ls c) c := by
 have hk := kills_e ls st.h
 have hk0 : ∀ i, st.h.e i = none → (st.h.kills ls).e i = none := fun i q => by rw [hk]; split <;> first | rfl | exact q
 refine ⟨kills_next ls st.h, fun i hi => ?_, fun i hi => ?_, fun i hi => ?_⟩
 ·simp only [loopBase, inner, clr]
  have := hk0 i (hf i hi)
  split
  ·simp [this]
  ·exact this
 ·simp only [loopBase, inner, clr, memb_mem.2 hi]
  rw [hk]
  by_cases hl : i ∈ ls
  ·simp [hl]
  ·simp only [hl, if_false]
   split
   ·rename_i v L e
    split
    ·rename_i q
     exact .inr ⟨v, L, e, rfl, q⟩
    ·exact .inl rfl
   ·exact .inl rfl
 ·simp only [loopBase, inner, clr, memb_not.2 hi]
  rw [hk]
  split
  ·exact .inl rfl
  ·exact .inr rfl
structure LoopRel (S : Nat → Prop) (st : St) (a : Act) (M0 : Nat → Bk) (w : World) (b : St) (c : List Nat) (s : St) (a1 : Act) (M1 : Nat → Bk) (w1 : World) : Prop where
 tr : Tr (cx S st.h M0 w) (cx S s.h M1 w1)
 same : ∀ i, i < st.h.next → i ∉ c → s.h.e i = b.h.e i ∧ M1 i = M0 i
 lk : s.h.lk = b.h.lk
 ro : s.ro = b.ro
 n : s.n = b.n
 le : st.h.next ≤ s.h.next
 keep : ∀ t, b.ro t = true → a1.tmps.getD t undef = a.tmps.getD t undef
theorem LoopRel.step {asx ls c : List Nat} (R : LoopRel S st a M0 w (loopBase asx st ls c) c s a1 M1 w1) (k : Stp S s a1 M1 w1 s' a' M' w') : LoopRel S st a M0 w (loopBase asx st ls c) c s' a' M' w' := by
 refine ⟨R.tr.trans k.k.tr, fun i hi hic => ?_, k.k.lk.trans R.lk, k.ro.trans R.ro, k.n.trans R.n, Nat.le_trans R.le k.k.tr.nx, fun t ht => (k.keep t (by rw [R.ro]; exact ht)).trans (R.keep t ht)⟩
 obtain ⟨e1, e2⟩ := R.same i hi hic
 obtain ⟨e3, e4⟩ := k.k.lock i (Nat.lt_of_lt_of_le hi R.le) (by
  rw [R.lk]
  simp only [loopBase, inner, clr, memb_not.2 hic]
  rw [kills_next]
  simpa [Nat.blt_eq] using hi)
 exact ⟨e3.trans e1, e4.trans e2⟩
theorem outer_ok {asx ls c : List Nat} (g : Good S B w0 s' a' M' w') (R : LoopRel S st a M0 w (loopBase asx st ls c) c s' a' M' w') (hc : unlocked st.h c = true) (hl : unlocked st.h ls = true) :
  Good S B w0 (outer st s') a' M' w' ∧ Stp S st a M0 w (outer st s') a' M' w' := by
 refine ⟨⟨⟨g.H.ent, g.H.fresh, g.H.dist, g.H.own, g.H.bel, g.H.bsz, g.H.old, g.H.bw⟩, g.F, g.n, g.d⟩, ⟨⟨R.tr, rfl, fun i hi hlk => ?_⟩, rfl, R.n, fun t ht => R.keep t ?_⟩⟩
 ·have hic : i ∉ c := fun z => by have := unlocked_mem hc i z; rw [hlk] at this; cases this
  have hil : i ∉ ls := fun z => by have := unlocked_mem hl i z; rw [hlk] at this; cases this
  obtain ⟨e1, e2⟩ := R.same i hi hic
  refine ⟨?_, e2⟩
  show s'.h.e i = st.h.e i
  rw [e1]
  simp only [loopBase, inner, clr, memb_not.2 hic]
  rw [kills_e]
  simp [hil]
 ·simp only [loopBase, inner]
  split
  ·exact ht
  ·rfl
theorem again_ok {asx ls c : List Nat} (g0 : Good S B w0 st a M0 w) (hc : unlocked st.h c = true) (g : Good S B w0 s' a' M' w') (R : LoopRel S st a M0 w (loopBase asx st ls c) c s' a' M' w') {l : List Item} {z : ItemsD l}
  (ha : again st (loopBase asx st ls c) c s' l = some z) (hp : packItems (finder st) l z (loopBase asx st ls c) = some s2) :
  ∃ M2, Good S B w0 s2 a' M2 w' ∧ LoopRel S st a M0 w (loopBase asx st ls c) c s2 a' M2 w' := by
 have hb := loopBase_ok asx st ls c g0.H.fresh hc
 unfold again at ha
 split at ha
 ·cases ha
 rename_i hal
 split at ha
 case h_2 => cases ha
 rename_i z' os ds ks hu hk
 split at ha
 case h_2 => cases ha
 rename_i h1 h2 h3 h4
 injection ha with ha
 subst ha
 obtain ⟨M2, q1, q2, q3, q4, q5, q6, q7⟩ := lay g0 hb g.H g.F R.tr (fun i hi hic => ⟨fun _ => (R.same i hi hic).1, (R.same i hi hic).2⟩) (fun i hi v L e => alive_spec hal i hi v L e) (fun t => by
   simp only [loopBase, inner]
   split
   ·exact .inl rfl
   ·rename_i e
    exact .inr ⟨rfl, R.keep t (by simp only [loopBase, inner, e])⟩) hu hk (nodup_spec h1) (subs_spec h2) (fun i hi => hb.fresh i (above_spec h4 i hi)) hp (by rw [← R.n]; exact g.n) g.d
 exact ⟨M2, q1, ⟨q2, q3, q4, q5, q6, q7, R.keep⟩⟩
theorem start_ok {asx c : List Nat} (g0 : Good S B w0 st a M0 w) (hc : unlocked st.h c = true) {l : List Item} {z : ItemsD l} {os ds ks : List Nat} (hu : unItems (finder st) st l = some (z, os, ds)) (hk : kept (finder st) l = some ks)
  (hnd : nodup (ks ++ (os ++ ds)) = true) (hsub : ∀ i, i ∈ ks → i ∈ c) (hp : packItems (finder st) l z (loopBase asx st (os ++ ds) c) = some s2) :
  ∃ M2, Good S B w0 s2 a M2 w ∧ LoopRel S st a M0 w (loopBase asx st (os ++ ds) c) c s2 a M2 w := by
 have hb := loopBase_ok asx st (os ++ ds) c g0.H.fresh hc
 obtain ⟨M2, q1, q2, q3, q4, q5, q6, q7⟩ := lay (s' := st) g0 hb g0.H g0.F (HStp.refl g0.H).tr (fun i hi hic => ⟨fun hne => by
   rcases hb.out i hic with q | q
   ·exact absurd q hne
   ·exact q.symm, rfl⟩) (fun i hi v L e => by
   rcases hb.inc i hi with q | ⟨v', L', q1, _⟩
   ·rw [q] at e; cases e
   ·exact ⟨v', L', q1⟩) (fun t => by
   simp only [loopBase, inner]
   split
   ·exact .inl rfl
   ·exact .inr ⟨rfl, trivial⟩) hu hk (nodup_spec hnd) hsub (fun i hi => by
   simp only [loopBase, inner, clr]
   rw [kills_e]
   simp only [hi, if_true]
   split <;> rfl) hp g0.n g0.d
 exact ⟨M2, q1, ⟨q2, q3, q4, q5, q6, q7, fun _ _ => rfl⟩⟩
theorem iter_succ {τ ρ : Type} {k : Nat} {f : τ → Option (τ ⊕ ρ)} {x : τ} : P.iter (k + 1) f x = (match f x with
  | none => none
  | some (.inl y) => P.iter k f y
  | some (.inr r) => some r) := by
 show Option.rec (motive := fun _ => Option ρ) none (fun s => Sum.rec (motive := fun _ => Option ρ) (fun y => P.iter k f y) some s) (f x) = _
 cases f x with
 | none => rfl
 | some s => cases s <;> rfl
theorem map_some {α β : Type} {f : α → β} {x : Option α} {y : β} (h : P.map f x = some y) : ∃ z, x = some z ∧ f z = y := by
 cases x with
 | none => cases h
 | some z => injection h with h; exact ⟨z, rfl, h⟩
def CodeOk (Pg : Program) (E : Env) (S : Nat → Prop) (B : Nat) (w0 : World) (call : Handler) (hs : List (Nat × Hint)) (c : Code) : Prop :=
 ∀ {ρ : Type} (st : St) (kn : St → Option ρ) (ke : Nat → St → Option ρ) (kr : St → Option ρ) (r : ρ) (a : Act) (M : Nat → Bk) (w : World) (Q : Exit → Act → World → Prop),
  Good S B w0 st a M w → evC E call hs c st kn ke kr = some r → Then S B w0 st a M w kn r (Q .normal) → (∀ i, Then S B w0 st a M w (ke i) r (Q (.exit i))) → Then S B w0 st a M w kr r (Q .ret) → c.wp Pg Q a w
theorem rounds_ok {asx c : List Nat} {code : Code} {ls : List Nat} (g0 : Good S B w0 st a M0 w) (hc : unlocked st.h c = true) {hd : List Item} {σ : Type} {Q : Exit → Act → World → Prop} {R : σ} {k : Nat} {x : ItemsD hd}
  (body : ItemsD hd → St → Option (ItemsD hd ⊕ σ)) (hbody : ∀ y s q a1 M1 w1, Good S B w0 s a1 M1 w1 → LoopRel S st a M0 w (loopBase asx st ls c) c s a1 M1 w1 → body y s = some q →
   ∀ X : Act → World → Prop, (∀ z s' a' M' w', q = .inl z → again st (loopBase asx st ls c) c s' hd = some z → Good S B w0 s' a' M' w' → LoopRel S st a M0 w (loopBase asx st ls c) c s' a' M' w' → X a' w') → (∀ R', q = .inr R' → R' = R) → code.wp Pg (Exit.then X Q) a1 w1)
  (hit : P.iter k (fun y => match packItems (finder st) hd y (loopBase asx st ls c) with
    | none => none
    | some s => body y s) x = some R)
  (h0 : ∀ s, packItems (finder st) hd x (loopBase asx st ls c) = some s → ∃ M2, Good S B w0 s a M2 w ∧ LoopRel S st a M0 w (loopBase asx st ls c) c s a M2 w) : (Code.loop code).wp Pg Q a w := by
 let f : ItemsD hd → Option (ItemsD hd ⊕ σ) := fun y => match packItems (finder st) hd y (loopBase asx st ls c) with
    | none => none
    | some s => body y s
 have open_ : ∀ n y, P.iter n f y = some R → ∃ m s q, n = m + 1 ∧ packItems (finder st) hd y (loopBase asx st ls c) = some s ∧ body y s = some q ∧ (∀ z, q = .inl z → P.iter m f z = some R) ∧ (∀ R', q = .inr R' → R' = R) := by
  intro n y hn
  cases n with
  | zero => cases hn
  | succ m =>
   rw [iter_succ] at hn
   cases hs : packItems (finder st) hd y (loopBase asx st ls c) with
   | none => simp only [f, hs] at hn; cases hn
   | some s =>
    cases hq : body y s with
    | none => simp only [f, hs, hq] at hn; cases hn
    | some q =>
     refine ⟨m, s, q, rfl, rfl, hq, ?_, ?_⟩
     ·rintro z rfl
      simpa only [f, hs, hq] using hn
     ·rintro R' rfl
      simp only [f, hs, hq] at hn
      injection hn
 refine wp_loop_ghost (fun n a1 w1 => ∃ y s M1, packItems (finder st) hd y (loopBase asx st ls c) = some s ∧ P.iter n f y = some R ∧ Good S B w0 s a1 M1 w1 ∧ LoopRel S st a M0 w (loopBase asx st ls c) c s a1 M1 w1) k ?_ ?_
 ·obtain ⟨m, s, q, _, hs, _⟩ := open_ k x hit
  obtain ⟨M2, q1, q2⟩ := h0 s hs
  exact ⟨x, s, M2, hs, hit, q1, q2⟩
 ·rintro n a1 w1 ⟨y, s, M1, hs, hn, g1, R1⟩
  obtain ⟨m, s', q, rfl, hs', hq, hl, hr⟩ := open_ n y hn
  rw [hs] at hs'
  injection hs' with hs'
  subst hs'
  refine hbody y s q a1 M1 w1 g1 R1 hq _ ?_ hr
  intro z s2 a2 M2 w2 e ha g2 R2
  have hz := hl z e
  obtain ⟨m2, s3, q3, rfl, hs3, _⟩ := open_ m z hz
  obtain ⟨M3, q4, q5⟩ := again_ok g0 hc g2 R2 ha hs3
  exact ⟨m2 + 1, by omega, z, s3, M3, hs3, hz, q4, q5⟩
theorem evLoop_ok {E : Env} {call : Handler} {hs : List (Nat × Hint)} {code : Code} (hcode : CodeOk Pg E S B w0 call hs code) {k : Nat} {hint : Option Hint} {asx : List Nat} {ke : Nat → St → Option ρ} {kr : St → Option ρ} {Q : Exit → Act → World → Prop}
  (g0 : Good S B w0 st a M0 w) (hr : evLoop k hint asx st (fun s kn' ke' kr' => evC E call hs code s kn' ke' kr') ke kr = some r)
  (hke : ∀ i, Then S B w0 st a M0 w (ke i) r (Q (.exit i))) (hkr : Then S B w0 st a M0 w kr r (Q .ret)) : (Code.loop code).wp Pg Q a w := by
 unfold evLoop at hr
 split at hr
 ·cases hr
 rename_i hd scr out
 split at hr
 case h_2 => cases hr
 rename_i sc ks x os ds hsc hks hun
 split at hr
 case h_2 => cases hr
 rename_i hc hls hnd
 have h0 : ∀ s, packItems (finder st) hd x (loopBase asx st (os ++ ds) (sc ++ ks)) = some s → ∃ M2, Good S B w0 s a M2 w ∧ LoopRel S st a M0 w (loopBase asx st (os ++ ds) (sc ++ ks)) (sc ++ ks) s a M2 w :=
  fun s hp => start_ok g0 hc hun hks hnd (fun i hi => List.mem_append_right _ hi) hp
 simp only at hr
 split at hr
 ·
  refine rounds_ok (R := r) g0 hc (fun y s => evC E call hs code s (fun s' => match again st (loopBase asx st (os ++ ds) (sc ++ ks)) (sc ++ ks) s' hd with
        | some z => some (Sum.inl z)
        | none => none) (fun i s' => P.map .inr (ke i (outer st s'))) (fun s' => P.map .inr (kr (outer st s')))) ?_ hr h0
  intro y s q a1 M1 w1 g1 R1 hq X hX hR
  refine hcode s _ _ _ q a1 M1 w1 _ g1 hq ?_ ?_ ?_
  ·intro s' a' M' w' g' k' hk
   simp only at hk
   split at hk
   ·rename_i z hz
    injection hk with hk
    exact hX z s' a' M' w' hk.symm hz g' (R1.step k')
   ·cases hk
  ·intro i s' a' M' w' g' k' hk
   obtain ⟨r', h1, h2⟩ := map_some hk
   have h3 := hR r' h2.symm
   subst h3
   obtain ⟨h4, h5⟩ := outer_ok g' (R1.step k') hc hls
   exact hke i _ _ _ _ h4 h5 h1
  ·intro s' a' M' w' g' k' hk
   obtain ⟨r', h1, h2⟩ := map_some hk
   have h3 := hR r' h2.symm
   subst h3
   obtain ⟨h4, h5⟩ := outer_ok g' (R1.step k') hc hls
   exact hkr _ _ _ _ h4 h5 h1
 ·rename_i i0 tl
  obtain ⟨R, hR1, hR2⟩ := bind_some hr
  refine rounds_ok (R := R) g0 hc (fun y s => evC E call hs code s (fun s' => match again st (loopBase asx st (os ++ ds) (sc ++ ks)) (sc ++ ks) s' hd with
        | some z => some (Sum.inl z)
        | none => none)
       (fun i s' => match Nat.beq i i0 with
        | true => match again st (loopBase asx st (os ++ ds) (sc ++ ks)) (sc ++ ks) s' tl with
         | some z => some (Sum.inr (Sum.inl z))
         | none => none
        | false => P.map (fun r => .inr (.inr r)) (ke i (outer st s')))
       (fun s' => P.map (fun r => .inr (.inr r)) (kr (outer st s')))) ?_ hR1 h0
  intro y s q a1 M1 w1 g1 R1 hq X hX hR
  have fin : ∀ r', q = .inr (.inr r') → r' = r := by
   intro r' e
   have := hR _ e
   subst this
   simp only [P.either_def] at hR2
   injection hR2
  refine hcode s _ _ _ q a1 M1 w1 _ g1 hq ?_ ?_ ?_
  ·intro s' a' M' w' g' k' hk
   simp only at hk
   split at hk
   ·rename_i z hz
    injection hk with hk
    exact hX z s' a' M' w' hk.symm hz g' (R1.step k')
   ·cases hk
  ·intro i s' a' M' w' g' k' hk
   simp only at hk
   split at hk
   ·rename_i hi
    have := Nat.eq_of_beq_eq_true hi
    subst this
    split at hk
    ·rename_i z hz
     injection hk with hk
     have := hR _ hk.symm
     subst this
     simp only [P.either_def] at hR2
     split at hR2
     ·cases hR2
     ·rename_i s3 hs3
      obtain ⟨M3, q4, q5⟩ := again_ok g0 hc g' (R1.step k') hz hs3
      obtain ⟨h4, h5⟩ := outer_ok q4 q5 hc hls
      exact hke i _ _ _ _ h4 h5 hR2
    ·cases hk
   ·obtain ⟨r', h1, h2⟩ := map_some hk
    have h3 := fin r' h2.symm
    subst h3
    obtain ⟨h4, h5⟩ := outer_ok g' (R1.step k') hc hls
    exact hke i _ _ _ _ h4 h5 h1
  ·intro s' a' M' w' g' k' hk
   obtain ⟨r', h1, h2⟩ := map_some hk
   have h3 := fin r' h2.symm
   subst h3
   obtain ⟨h4, h5⟩ := outer_ok g' (R1.step k') hc hls
   exact hkr _ _ _ _ h4 h5 h1
end Go.PG
end
section
namespace Go.PG
open Go.RowKit
variable {Pg : Program} {G : World → Prop} {E : Env} {S : Nat → Prop} {B : Nat} {w0 w w' w'' : World} {h h' : Hp} {M M' M'' : Nat → Bk} {ρ : Type} {r : ρ} {st st' st'' : St} {a a' a'' : Act} {o : Oper}
def Closed (ops : List Oper) (L : Nat → Prop) : Prop := ∀ (j : Nat) (o : Oper), ops[j]? = some o → L j → ∀ e, e ∈ o.after → Region.binds .any e = true → L e.on
def Ahead (ops : List Oper) (j i : Nat) : Prop := ∀ L, Closed ops L → L j → L i
def keyOf (L : List Bool) (n i : Nat) : Nat := if lateB L i then n + i else i
structure DrawOk (E : Env) (ops : List Oper) (L : List Bool) : Prop where
 edge : ∀ (j : Nat) (o : Oper), ops[j]? = some o → ∀ e, e ∈ o.after → Region.binds .any e = true → e.on < j ∧ after L e.on j = false
 pair : ∀ (i j : Nat) (oi oj : Oper), ops[i]? = some oi → ops[j]? = some oj → i ≠ j → keyOf L ops.length i < keyOf L ops.length j → Ahead ops j i ∨ indep E ops oi oj = true
theorem after_spec {L : List Bool} {i j : Nat} : after L i j = (lateB L i && !lateB L j) := by
 unfold after
 cases lateB L i <;> cases lateB L j <;> rfl
theorem edgesOk_spec {L : List Bool} {j : Nat} : ∀ (l : List Edge), edgesOk L j l = true → ∀ e, e ∈ l → Region.binds .any e = true → after L e.on j = false := by
 intro l
 induction l with
 | nil => intro _ e he; cases he
 | cons x l ih =>
  intro h e he hb
  simp only [edgesOk] at h
  split at h
  ·cases h
  ·rename_i hno
   rcases List.mem_cons.1 he with rfl | he
   ·cases q : after L e.on j
    ·rfl
    ·exact (hno hb q).elim
   ·exact ih h e he hb
theorem edgeMask_spec {acc : List Nat} {j : Nat} : ∀ (l : List Edge) (m : Nat), edgeMask acc j l = some m →
  (∀ e, e ∈ l → Region.binds .any e = true → e.on < j) ∧ ∀ i, m.testBit i = true → ∃ e, e ∈ l ∧ Region.binds .any e = true ∧ (e.on = i ∨ (acc.getD e.on 0).testBit i = true) := by
 intro l
 induction l with
 | nil =>
  intro m h
  simp only [edgeMask] at h
  injection h with h
  subst h
  simp
 | cons e l ih =>
  intro m h
  simp only [edgeMask] at h
  split at h
  ·rename_i hb
   obtain ⟨h1, h2⟩ := ih m h
   refine ⟨fun f hf hbf => ?_, fun i hi => ?_⟩
   ·rcases List.mem_cons.1 hf with rfl | hf
    ·rw [hb] at hbf; cases hbf
    ·exact h1 f hf hbf
   ·obtain ⟨f, hf, q⟩ := h2 i hi
    exact ⟨f, List.mem_cons_of_mem _ hf, q⟩
  ·rename_i hb
   split at h
   case h_2 => cases h
   rename_i hlt
   split at h
   case h_2 => cases h
   rename_i m' hm'
   injection h with h
   subst h
   obtain ⟨h1, h2⟩ := ih m' hm'
   refine ⟨fun f hf hbf => ?_, fun i hi => ?_⟩
   ·rcases List.mem_cons.1 hf with rfl | hf
    ·simpa [Nat.blt_eq] using hlt
    ·exact h1 f hf hbf
   ·have hi : (((1 <<< e.on) ||| acc.getD e.on 0) ||| m').testBit i = true := hi
    rw [Nat.testBit_or, Nat.testBit_or, Nat.one_shiftLeft, Nat.testBit_two_pow, Bool.or_eq_true, Bool.or_eq_true, decide_eq_true_eq] at hi
    rcases hi with (hi | hi) | hi
    ·exact ⟨e, by simp, hb, .inl hi⟩
    ·exact ⟨e, by simp, hb, .inr hi⟩
    ·obtain ⟨f, hf, q⟩ := h2 i hi
     exact ⟨f, List.mem_cons_of_mem _ hf, q⟩
theorem masks_spec {ops : List Oper} : ∀ (rest : List Oper) (acc : List Nat) (j : Nat) (ms : List Nat), ops.drop j = rest → acc.length = j →
  (∀ k m, acc[k]? = some m → ∀ i, m.testBit i = true → Ahead ops k i) → (∀ k o, k < j → ops[k]? = some o → ∀ e, e ∈ o.after → Region.binds .any e = true → e.on < k) → masks acc j rest = some ms →
  (∀ (k m : Nat), ms[k]? = some m → ∀ i, m.testBit i = true → Ahead ops k i) ∧ (∀ (k : Nat) (o : Oper), ops[k]? = some o → ∀ e, e ∈ o.after → Region.binds .any e = true → e.on < k) := by
 intro rest
 induction rest with
 | nil =>
  intro acc j ms hd hl ha he h
  simp only [masks] at h
  injection h with h
  subst h
  refine ⟨ha, fun k o hk => he k o ?_ hk⟩
  have := List.drop_eq_nil_iff.1 hd
  have hk' := (List.getElem?_eq_some_iff.1 hk).1
  omega
 | cons o rest ih =>
  intro acc j ms hd hl ha he h
  have ho : ops[j]? = some o := by
   have : (ops.drop j)[0]? = some o := by rw [hd]; rfl
   simpa using this
  have hd' : ops.drop (j + 1) = rest := by rw [← List.drop_drop, hd]; rfl
  simp only [masks] at h
  split at h
  case h_2 => cases h
  rename_i m hm
  obtain ⟨h1, h2⟩ := edgeMask_spec _ _ hm
  refine ih (acc ++ [m]) (j + 1) ms hd' (by simp [hl]) (fun k m' hk i hi => ?_) (fun k o' hk ho' => ?_) h
  ·rcases Nat.lt_or_ge k acc.length with q | q
   ·rw [List.getElem?_append_left q] at hk
    exact ha k m' hk i hi
   ·rw [List.getElem?_append_right q] at hk
    have hkj : k = j := by
     have := (List.getElem?_eq_some_iff.1 hk).1
     simp at this
     omega
    subst hkj
    simp only [hl, Nat.sub_self, List.getElem?_cons_zero, Option.some.injEq] at hk
    subst hk
    obtain ⟨e, q1, q2, q3⟩ := h2 i hi
    intro L hL hk
    have hon : L e.on := hL k o ho hk e (by simpa using q1) q2
    rcases q3 with q3 | q3
    ·rw [← q3]; exact hon
    ·have hlt := h1 e q1 q2
     have : acc[e.on]? = some (acc.getD e.on 0) := by
      rw [List.getD_eq_getElem?_getD, List.getElem?_eq_getElem (by omega)]
      rfl
     exact ha e.on _ this i q3 L hL hon
  ·rcases Nat.lt_or_ge k j with q | q
   ·exact he k o' q ho'
   ·have hkj : k = j := by omega
    subst hkj
    rw [ho] at ho'
    injection ho' with ho'
    subst ho'
    exact fun e q => h1 e (by simpa using q)
theorem rowOk_spec {all : List Oper} {L : List Bool} {j m : Nat} {oj : Oper} : ∀ (rest : List Oper) (i : Nat), all.drop i = rest → rowOk E all L j oj m i rest = true → ∀ (k : Nat) (ok : Oper), i ≤ k → k < j → all[k]? = some ok →
  (m.testBit k = true ∧ after L k j = false) ∨ (after L k j = false ∧ indep E all ok oj = true) ∨ (after L k j = true ∧ indep E all oj ok = true) := by
 intro rest
 induction rest with
 | nil =>
  intro i hd _ k ok hk _ hok
  have := List.drop_eq_nil_iff.1 hd
  have := (List.getElem?_eq_some_iff.1 hok).1
  omega
 | cons o rest ih =>
  intro i hd h k ok hk hkj hok
  have ho : all[i]? = some o := by
   have : (all.drop i)[0]? = some o := by rw [hd]; rfl
   simpa using this
  have hd' : all.drop (i + 1) = rest := by rw [← List.drop_drop, hd]; rfl
  simp only [rowOk] at h
  split at h
  ·rename_i q
   have : ¬ i < j := by intro z; rw [← Nat.blt_eq] at z; rw [z] at q; cases q
   omega
  ·have step : rowOk E all L j oj m (i + 1) rest = true ∧ ((m.testBit i = true ∧ after L i j = false) ∨ (after L i j = false ∧ indep E all o oj = true) ∨ (after L i j = true ∧ indep E all oj o = true)) := by
    split at h
    ·rename_i q1 q2
     exact ⟨h, .inl ⟨q1, q2⟩⟩
    ·cases h
    ·rename_i q1 q2
     split at h
     ·rename_i q3; exact ⟨h, .inr (.inl ⟨q2, q3⟩)⟩
     ·cases h
    ·rename_i q1 q2
     split at h
     ·rename_i q3; exact ⟨h, .inr (.inr ⟨q2, q3⟩)⟩
     ·cases h
   rcases Nat.lt_or_ge i k with q | q
   ·exact ih (i + 1) hd' step.1 k ok q hkj hok
   ·have : k = i := by omega
    subst this
    rw [ho] at hok
    injection hok with hok
    subst hok
    exact step.2
theorem rowsOk_spec {all : List Oper} {L : List Bool} : ∀ (rest : List Oper) (j : Nat) (ms : List Nat), all.drop j = rest → rowsOk E all L j rest ms = true → ∀ (k : Nat) (ok : Oper), j ≤ k → all[k]? = some ok → (∃ m, ms[k - j]? = some m ∧ rowOk E all L k ok m 0 all = true) ∧ edgesOk L k ok.after.toList = true := by
 intro rest
 induction rest with
 | nil =>
  intro j ms hd _ k ok hk hok
  have := List.drop_eq_nil_iff.1 hd
  have := (List.getElem?_eq_some_iff.1 hok).1
  omega
 | cons o rest ih =>
  intro j ms hd h k ok hk hok
  have ho : all[j]? = some o := by
   have : (all.drop j)[0]? = some o := by rw [hd]; rfl
   simpa using this
  have hd' : all.drop (j + 1) = rest := by rw [← List.drop_drop, hd]; rfl
  cases ms with
  | nil => simp [rowsOk] at h
  | cons m ms =>
   simp only [rowsOk] at h
   split at h
   case h_2 => cases h
   rename_i hr he
   rcases Nat.lt_or_ge j k with q | q
   ·obtain ⟨⟨m', h1, h2⟩, h3⟩ := ih (j + 1) ms hd' h k ok q hok
    refine ⟨⟨m', ?_, h2⟩, h3⟩
    have : k - j = (k - (j + 1)) + 1 := by omega
    rw [this]
    exact h1
   ·have : k = j := by omega
    subst this
    rw [ho] at hok
    injection hok with hok
    subst hok
    exact ⟨⟨m, by simp, hr⟩, he⟩
theorem drawOk_spec {ops : List Oper} (h : drawOk E ops = true) : ∃ ms, masks [] 0 ops = some ms ∧ DrawOk E ops (lates E ops ms) := by
 unfold drawOk at h
 split at h
 case h_2 => cases h
 rename_i ms hms
 refine ⟨ms, hms, ?_⟩
 generalize lates E ops ms = L at h
 obtain ⟨h1, h2⟩ := masks_spec (ops := ops) ops [] 0 ms (by simp) rfl (by simp) (fun k o hk => absurd hk (Nat.not_lt_zero k)) hms
 refine ⟨fun j o hj e he hb => ⟨h2 j o hj e he hb, ?_⟩, fun i j oi oj hi hj hij hk => ?_⟩
 ·obtain ⟨_, h5⟩ := rowsOk_spec ops 0 ms (by simp) h j o (Nat.zero_le _) hj
  exact edgesOk_spec _ h5 e (by simpa using he) hb
 ·have li := (List.getElem?_eq_some_iff.1 hi).1
  have lj := (List.getElem?_eq_some_iff.1 hj).1
  rcases Nat.lt_or_gt_of_ne hij with q | q
  ·obtain ⟨⟨m, h3, h4⟩, _⟩ := rowsOk_spec ops 0 ms (by simp) h j oj (Nat.zero_le _) hj
   rcases rowOk_spec ops 0 (by simp) h4 i oi (Nat.zero_le _) q hi with ⟨q1, q2⟩ | ⟨q1, q2⟩ | ⟨q1, q2⟩
   ·exact .inl (h1 j m (by simpa using h3) i q1)
   ·exact .inr q2
   ·exfalso
    rw [after_spec] at q1
    simp only [Bool.and_eq_true, Bool.not_eq_true'] at q1
    unfold keyOf at hk
    rw [if_pos q1.1, if_neg (by rw [q1.2]; simp)] at hk
    omega
  ·obtain ⟨⟨m, h3, h4⟩, _⟩ := rowsOk_spec ops 0 ms (by simp) h i oi (Nat.zero_le _) hi
   have q' : after L j i = true := by
    rw [after_spec]
    unfold keyOf at hk
    cases qj : lateB L j
    ·rw [qj] at hk
     simp only [Bool.false_eq_true, if_false] at hk
     split at hk <;> omega
    ·cases qi : lateB L i
     ·rfl
     ·rw [qi, qj] at hk
      simp only [if_true] at hk
      omega
   rcases rowOk_spec ops 0 (by simp) h4 j oj (Nat.zero_le _) q hj with ⟨_, q2⟩ | ⟨q1, _⟩ | ⟨_, q2⟩
   ·rw [q'] at q2; cases q2
   ·rw [q'] at q1; cases q1
   ·exact .inr q2
theorem ble_false {i j : Nat} (h : ¬ i ≤ j) : Nat.ble i j = false := by
 cases q : Nat.ble i j
 ·rfl
 ·exact absurd (Nat.le_of_ble_eq_true q) h
theorem ble_true {i j : Nat} (h : i ≤ j) : Nat.ble i j = true := Nat.ble_eq_true_of_le h
theorem reserve_e (h : Hp) (n id : Nat) : (reserve h n).e id = if h.next ≤ id ∧ id < h.next + n then some .rsv else h.e id := by
 simp only [reserve]
 by_cases h1 : h.next ≤ id
 ·by_cases h2 : id < h.next + n
  ·have q1 := ble_true h1
   have q2 : Nat.blt id (h.next + n) = true := ble_true h2
   simp [h1, h2, q1, q2]
  ·have : Nat.blt id (h.next + n) = false := ble_false h2
   simp [this, h2]
 ·have : Nat.ble h.next id = false := ble_false h1
  simp [this, h1]
theorem nil_has {b : Nat} : ¬ Bk.nil.has b := by rintro (q | q); cases q; exact q
theorem HInv.reserve (H : HInv S B w0 h M w) (n : Nat) : HInv S B w0 (reserve h n) (fun id => if h.next ≤ id then .nil else M id) w ∧ HStp S h M w (Go.PG.reserve h n) (fun id => if h.next ≤ id then .nil else M id) w := by
 have old : ∀ id, id < h.next → (Go.PG.reserve h n).e id = h.e id := fun id q => by rw [reserve_e]; simp [show ¬ h.next ≤ id by omega]
 have oldM : ∀ id, id < h.next → (if h.next ≤ id then Bk.nil else M id) = M id := fun id q => by simp [show ¬ h.next ≤ id by omega]
 have new : ∀ id e, h.next ≤ id → (Go.PG.reserve h n).e id = some e → e = .rsv := by
  intro id e q he
  rw [reserve_e, H.fresh id q] at he
  split at he
  ·injection he with he; exact he.symm
  ·cases he
 have hZ : ∀ b, (cx S (Go.PG.reserve h n) (fun id => if h.next ≤ id then .nil else M id) w).Z b → (cx S h M w).Z b := by
  rintro b (z | ⟨id, e, q1, q2⟩)
  ·exact .inl z
  ·rcases Nat.lt_or_ge id h.next with q | q
   ·refine .inr ⟨id, e, (old id q).symm.trans q1, ?_⟩
    have := oldM id q
    simp only [cx] at q2
    rw [this] at q2
    exact q2
   ·simp only [cx, if_pos q] at q2
    exact absurd q2 nil_has
 have k : Tr (cx S h M w) (cx S (Go.PG.reserve h n) (fun id => if h.next ≤ id then .nil else M id) w) := by
  refine ⟨Held.of_le w hZ, Nat.le_add_right _ _, fun id hid => ?_⟩
  have hid : id < h.next := hid
  simp only [cx]
  rw [old id hid, oldM id hid]
  exact ids_self H id
 refine ⟨⟨fun id e he => ?_, fun id hid => ?_, fun i j b hi hj h1 h2 => ?_, fun i b hi hb => ?_, H.bel, H.bsz, H.old, H.bw⟩, k, rfl, fun id hid _ => ⟨old id hid, oldM id hid⟩⟩
 ·rcases Nat.lt_or_ge id h.next with q | q
  ·rw [old id q] at he
   exact (H.ent id e he).tr k (oldM id q) (fun _ _ => rfl)
  ·have := new id e q he
   subst this
   simp [EntOk, cx, q]
 ·have hid : h.next + n ≤ id := hid
  rw [reserve_e, H.fresh id (by omega)]
  simp [show ¬ id < h.next + n by omega]
 ·rcases Nat.lt_or_ge i h.next with q | q
  ·rcases Nat.lt_or_ge j h.next with q' | q'
   ·rw [oldM i q] at h1; rw [oldM j q'] at h2
    rw [old i q] at hi; rw [old j q'] at hj
    exact H.dist i j b hi hj h1 h2
   ·simp only [if_pos q'] at h2; exact absurd h2 nil_has
  ·simp only [if_pos q] at h1; exact absurd h1 nil_has
 ·rcases Nat.lt_or_ge i h.next with q | q
  ·rw [oldM i q] at hb; rw [old i q] at hi
   exact H.own i b hi hb
  ·simp only [if_pos q] at hb; exact absurd hb nil_has
theorem HInv.fill (H : HInv S B w0 h M w) {id : Nat} (he : h.e id = some .rsv) (hl : h.lk id = false) (e : Ent) (bk : Bk) (hh : ∀ b, b < w.heap.size → w'.heap[b]? = w.heap[b]?) (hs : w.heap.size ≤ w'.heap.size) (bel : Below B w w')
  (hb : ∀ b, bk.has b → w.heap.size ≤ b)
  (q : Tr (cx S h M w) (cx S (h.put id e) (set1 M id bk) w') → EntOk (cx S (h.put id e) (set1 M id bk) w') id e) :
  HInv S B w0 (h.put id e) (set1 M id bk) w' ∧ HStp S h M w (h.put id e) (set1 M id bk) w' := by
 have ne : ∀ j, j ≠ id → (h.put id e).e j = h.e j ∧ set1 M id bk j = M j := fun j q => by simp [Hp.put, set1, beq_false q]
 have at_ : (h.put id e).e id = some e ∧ set1 M id bk id = bk := by simp [Hp.put, set1, Nat.beq_refl]
 have hnil : M id = .nil := H.ent id _ he
 have hid := H.lt he
 have hZ : ∀ b, (cx S (h.put id e) (set1 M id bk) w').Z b → (cx S h M w).Z b ∨ bk.has b := by
  rintro b (z | ⟨j, e', q1, q2⟩)
  ·exact .inl (.inl z)
  ·by_cases hj : j = id
   ·subst hj
    simp only [cx] at q2
    rw [at_.2] at q2
    exact .inr q2
   ·simp only [cx] at q1 q2
    rw [(ne j hj).1] at q1
    rw [(ne j hj).2] at q2
    exact .inl (.inr ⟨j, e', q1, q2⟩)
 have k : Tr (cx S h M w) (cx S (h.put id e) (set1 M id bk) w') := by
  refine ⟨fun b hlt hz => ⟨fun z => ?_, hh b hlt⟩, Nat.le_refl _, fun j hj => ?_⟩
  ·rcases hZ b z with z | z
   ·exact hz z
   ·exact absurd (hb b z) (by simp only [cx] at hlt; omega)
  ·simp only [cx]
   by_cases hji : j = id
   ·subst hji
    exact .inr (.inl ⟨he, hnil⟩)
   ·rw [(ne j hji).1, (ne j hji).2]
    exact ids_self H j
 refine ⟨⟨fun j e' hq => ?_, fun j hj => ?_, fun i j b hi hj => ?_, fun i b hi hib => ?_, H.bel.trans bel, Nat.le_trans H.bsz hs, H.old, H.bw⟩, k, rfl, fun j hj hlk => ?_⟩
 ·by_cases hji : j = id
  ·subst hji
   rw [at_.1] at hq
   injection hq with hq
   subst hq
   exact q k
  ·rw [(ne j hji).1] at hq
   exact (H.ent j e' hq).tr k (ne j hji).2 (fun b hbb => hh b (blk_lt H (by rw [hq]; simp) hbb))
 ·have hj : h.next ≤ j := hj
  rw [(ne j (by omega)).1]
  exact H.fresh j hj
 ·by_cases hin : i = id
  ·by_cases hjn : j = id
   ·intro _ _; exact hin.trans hjn.symm
   ·intro h1 h2
    subst hin
    rw [at_.2] at h1
    rw [(ne j hjn).1] at hj
    rw [(ne j hjn).2] at h2
    exact absurd (hb b h1) (by have := blk_lt H hj h2; omega)
  ·by_cases hjn : j = id
   ·intro h1 h2
    subst hjn
    rw [at_.2] at h2
    rw [(ne i hin).1] at hi
    rw [(ne i hin).2] at h1
    exact absurd (hb b h2) (by have := blk_lt H hi h1; omega)
   ·rw [(ne i hin).1] at hi
    rw [(ne j hjn).1] at hj
    rw [(ne i hin).2, (ne j hjn).2]
    exact H.dist i j b hi hj
 ·by_cases hin : i = id
  ·subst hin
   rw [at_.2] at hib
   exact Nat.le_trans H.bsz (hb b hib)
  ·rw [(ne i hin).1] at hi
   rw [(ne i hin).2] at hib
   exact H.own i b hi hib
 ·have hji : j ≠ id := by rintro rfl; rw [hl] at hlk; cases hlk
  exact ne j hji
end Go.PG
end
section
namespace Go.PG
variable {E : Env} {ρ : Type} {K : AV → Hp → Option ρ} {st st2 : St} {o : Oper}
theorem buildParts_congr {fr fr2 : Nat → AV} {L : Ty} : ∀ (l : List (Nat × Operand)) (v : AV), (∀ p, p ∈ l → ∀ ty, opnd ty fr2 p.2 = opnd ty fr p.2) → buildParts fr2 L l v = buildParts fr L l v := by
 intro l
 induction l with
 | nil => intro v _; rfl
 | cons p l ih =>
  obtain ⟨j, x⟩ := p
  intro v h
  have hx := h (j, x) (by simp)
  simp only [buildParts, hx]
  split
  ·split
   ·split
    ·exact ih _ (fun p hp => h p (List.mem_cons_of_mem _ hp))
    ·rfl
   ·rfl
  ·rfl
theorem evOp0_congr {call : Handler} (h : ∀ x, x ∈ o.op.operands.toList → ∀ ty, opnd ty st2.fr x = opnd ty st.fr x) (hh : st2.h = st.h) : evOp0 E call o st2 K = evOp0 E call o st K := by
 unfold evOp0
 simp only [hh]
 cases ho : o.op with
 | build t ps =>
  simp only [ho, Op.operands] at h
  have hp : ∀ p, p ∈ ps.toList → ∀ ty, opnd ty st2.fr p.2 = opnd ty st.fr p.2 := fun p hp ty => h p.2 (by simp; exact ⟨p.1, by simpa using hp⟩) ty
  simp only
  split
  ·rw [buildParts_congr _ _ hp]
  ·rfl
 | buildSlice t n ps =>
  simp only [ho, Op.operands] at h
  have hp : ∀ p, p ∈ ps.toList → ∀ ty, opnd ty st2.fr p.2 = opnd ty st.fr p.2 := fun p hp ty => h p.2 (by simp; exact ⟨p.1, by simpa using hp⟩) ty
  simp only
  split
  ·rename_i e _
   have e1 : (ps.toList.map fun p => (p.1, opnd (some e.un) st2.fr p.2)) = (ps.toList.map fun p => (p.1, opnd (some e.un) st.fr p.2)) := List.map_congr_left fun p q => by rw [hp p q]
   have e2 : (ps.toList.map fun p => (opnd (some e.un) st2.fr p.2).owns) = (ps.toList.map fun p => (opnd (some e.un) st.fr p.2).owns) := List.map_congr_left fun p q => by rw [hp p q]
   simp only [e1, List.flatMap_def, e2]
  ·rfl
 | slice t x lo hi mx =>
  simp only [ho, Op.operands] at h
  have hx := h x (by simp)
  have h1 : lo.map (opnd none st2.fr) = lo.map (opnd none st.fr) := by
   cases lo with
   | none => rfl
   | some y => simp only [Option.map_some]; rw [h y (by simp)]
  have h2 : hi.map (opnd none st2.fr) = hi.map (opnd none st.fr) := by
   cases hi with
   | none => rfl
   | some y => simp only [Option.map_some]; rw [h y (by simp)]
  have h3 : mx.map (opnd none st2.fr) = mx.map (opnd none st.fr) := by
   cases mx with
   | none => rfl
   | some y => simp only [Option.map_some]; rw [h y (by simp)]
  simp only [hx, h1, h2, h3]
 | makeFunc f first caps =>
  simp only [ho, Op.operands] at h
  have hc : caps.toList.map (opnd none st2.fr) = caps.toList.map (opnd none st.fr) := List.map_congr_left fun x hx => h x (by simp; right; simpa using hx) none
  cases f <;> simp only [hc]
 | call c =>
  simp only [ho, Op.operands] at h
  have ha : ∀ x, x ∈ c.args.toList → ∀ ty, opnd ty st2.fr x = opnd ty st.fr x := fun x hx ty => h x (by
   simp only [Call.operands]
   cases c.callee <;> simp <;> first | exact .inr (by simpa using hx) | simpa using hx) ty
  have h1 : c.args.toList.map (opnd none st2.fr) = c.args.toList.map (opnd none st.fr) := List.map_congr_left fun x hx => ha x hx none
  have h2 : (c.args.toList.zip c.argTypes.toList).map (fun p => opnd (E.ty p.2) st2.fr p.1) = (c.args.toList.zip c.argTypes.toList).map (fun p => opnd (E.ty p.2) st.fr p.1) :=
   List.map_congr_left fun p hp => ha p.1 (List.of_mem_zip hp).1 _
  cases hc : c.callee with
  | builtin b => simp only [hc, h1]
  | value f =>
   have hf := h f (by simp [Call.operands, hc])
   simp only [hc, hf, h2]
  | invoke r m => simp only [hc]
 | _ => simp only [ho, Op.operands] at h; first | rfl | (simp [h]; done) | simp_all
theorem evDeep0_congr {call : Handler} (h : ∀ x, x ∈ o.op.operands.toList → ∀ ty, opnd ty st2.fr x = opnd ty st.fr x) (hh : st2.h = st.h) : evDeep0 E call o st2 K = evDeep0 E call o st K := by
 have base := evOp0_congr (E := E) (K := K) (call := call) h hh
 unfold evDeep0
 cases ho : o.op with
 | buildSlice t n ps =>
  simp only [ho, Op.operands] at h
  have hp : ∀ p, p ∈ ps.toList → ∀ ty, opnd ty st2.fr p.2 = opnd ty st.fr p.2 := fun p hp ty => h p.2 (by simp; exact ⟨p.1, by simpa using hp⟩) ty
  simp only [hh]
  split
  ·rename_i e b x q1 q2
   rw [hp (0, x) (by rw [q2]; simp)]
  ·rfl
 | indexAddr t x i =>
  simp only [ho, Op.operands] at h
  simp only [h x (by simp) none, h i (by simp) none, base, hh]
 | load t x =>
  simp only [ho, Op.operands] at h
  simp only [h x (by simp) none, hh]
 | store t x y =>
  simp only [ho, Op.operands] at h
  have h2 := h y (by simp)
  simp only [h x (by simp) none, hh, h2]
 | call c =>
  simp only [ho, Op.operands] at h
  have ha : ∀ x, x ∈ c.args.toList → ∀ ty, opnd ty st2.fr x = opnd ty st.fr x := fun x hx ty => h x (by
   simp only [Call.operands]
   cases c.callee <;> simp <;> first | exact .inr (by simpa using hx) | simpa using hx) ty
  have h1 : c.args.toList.map (opnd none st2.fr) = c.args.toList.map (opnd none st.fr) := List.map_congr_left fun x hx => ha x hx none
  simp only [h1, base, hh]
 | _ => rfl
theorem evTie_congr {call : Handler} (h : ∀ x, x ∈ o.op.operands.toList → ∀ ty, opnd ty st2.fr x = opnd ty st.fr x) (hh : st2.h = st.h) : evTie E call o st2 K = evTie E call o st K := by
 have base := fun K' : AV → Hp → Option ρ => evOp0_congr (E := E) (K := K') (call := call) h hh
 unfold evTie
 split
 ·rfl
 cases ho : o.op with
 | indexAddr t x i =>
  simp only [ho, Op.operands] at h
  simp only [h x (by simp) none, h i (by simp) none, base, hh]
 | load t x =>
  simp only [ho, Op.operands] at h
  simp only [h x (by simp) none, base, hh]
 | store t x y =>
  simp only [ho, Op.operands] at h
  have h2 := h y (by simp)
  simp only [h x (by simp) none, base, hh, h2]
 | fieldAddr t x j => simp only [base]
 | call c =>
  simp only [ho, Op.operands] at h
  have ha : ∀ x, x ∈ c.args.toList → ∀ ty, opnd ty st2.fr x = opnd ty st.fr x := fun x hx ty => h x (by
   simp only [Call.operands]
   cases c.callee <;> simp <;> first | exact .inr (by simpa using hx) | simpa using hx) ty
  have h1 : c.args.toList.map (opnd none st2.fr) = c.args.toList.map (opnd none st.fr) := List.map_congr_left fun x hx => ha x hx none
  simp only [h1, base, hh]
 | _ => rfl
theorem evDeep_congr {call : Handler} (h : ∀ x, x ∈ o.op.operands.toList → ∀ ty, opnd ty st2.fr x = opnd ty st.fr x) (hh : st2.h = st.h) : evDeep E call o st2 K = evDeep E call o st K := by
 unfold evDeep
 rw [evTie_congr h hh, evDeep0_congr h hh]
theorem evOp_congr {call : Handler} (h : ∀ x, x ∈ o.op.operands.toList → ∀ ty, opnd ty st2.fr x = opnd ty st.fr x) (hh : st2.h = st.h) : evOp E call o st2 K = evOp E call o st K := by
 unfold evOp
 rw [evDeep_congr h hh, evOp0_congr h hh]
theorem isLight_spec {op : Op} (h : isLight E op = true) : deepOp E op = false ∧ isLight0 E op = true := by
 unfold isLight at h
 split at h
 ·cases h
 ·rename_i q
  split at h
  ·cases h
  ·exact ⟨q, h⟩
end Go.PG
end
section
namespace Go.PG
open Go.RowKit
variable {Pg : Program} {G : World → Prop} {E : Env} {S : Nat → Prop} {B : Nat} {w0 w w' w'' : World} {h h' h2 : Hp} {M M' M'' : Nat → Bk} {ρ : Type} {r : ρ} {st st' st'' st2 : St} {a a' a'' : Act} {o : Oper}
structure Agree (l : List Operand) (st st2 : St) : Prop where
 op : ∀ x, x ∈ l → ∀ ty, opnd ty st2.fr x = opnd ty st.fr x
 row : ∀ id e xs, st.h.e id = some (.row e xs) → st2.h.e id = some (.row e xs)
 live : ∀ id, st.h.e id ≠ none → st2.h.e id ≠ none
 box : ∀ x, x ∈ l → ∀ id p v L, opnd none st.fr x = .ptr id p → st.h.e id = some (.box v L) → st2.h.e id = some (.box v L)
theorem toD_agree (hrow : ∀ id e xs, h.e id = some (.row e xs) → h2.e id = some (.row e xs)) : ∀ (v : AV) (t : Ty) (x : t.D), toD h v t = some x → toD h2 v t = some x := by
 intro v
 induction v with
 | own id =>
  intro t x hx
  cases t with
  | slice e =>
   simp only [toD] at hx ⊢
   split at hx
   ·rename_i e' ys q
    rw [hrow id _ _ q]
    exact hx
   ·cases hx
  | _ => simp [toD] at hx
 | view id a n =>
  intro t x hx
  cases t with
  | slice e =>
   simp only [toD] at hx ⊢
   split at hx
   ·rename_i e' ys q
    rw [hrow id _ _ q]
    exact hx
   ·cases hx
  | _ => simp [toD] at hx
 | st b ih =>
  intro t x hx
  cases t with
  | st tb => simp only [toD] at hx ⊢; exact ih tb x hx
  | _ => simp [toD] at hx
 | pr p q ihp ihq =>
  intro t x hx
  cases t with
  | pair ta tb =>
   simp only [toD] at hx ⊢
   split at hx
   case h_2 => cases hx
   rename_i y hy
   split at hx
   case h_2 => cases hx
   rename_i z hz
   rw [ihp ta y hy]
   simp only
   rw [ihq tb z hz]
   exact hx
  | _ => simp [toD] at hx
 | data t' y => intro t x hx; simp only [toD] at hx ⊢; exact hx
 | nilS e => intro t x hx; cases t <;> first | exact hx | simp [toD] at hx
 | unit => intro t x hx; cases t <;> first | exact hx | simp [toD] at hx
 | _ => intro t x hx; simp [toD] at hx
theorem argsD_any : ∀ (args : List AV) (t : Ty), argsD h args t = argsD h2 args t := by
 intro args
 induction args with
 | nil => intro t; rfl
 | cons x args ih =>
  intro t
  cases args with
  | nil => cases t <;> rfl
  | cons y args =>
   cases t with
   | pair p q => simp only [argsD]; rw [ih q]
   | _ => rfl
theorem sliceLen_agree (hrow : ∀ id e xs, h.e id = some (.row e xs) → h2.e id = some (.row e xs)) {v : AV} {n : Int} (hn : sliceLen h v = some n) : sliceLen h2 v = some n := by
 cases v with
 | own id =>
  simp only [sliceLen] at hn ⊢
  split at hn
  ·rename_i e xs q
   rw [hrow id _ _ q]
   exact hn
  ·cases hn
 | view id a m =>
  simp only [sliceLen] at hn ⊢
  split at hn
  ·rename_i e xs q
   rw [hrow id _ _ q]
   exact hn
  ·cases hn
 | data t x => cases t <;> first | exact hn | simp [sliceLen] at hn
 | nilS e => exact hn
 | _ => simp [sliceLen] at hn
theorem len_agree {ts : Array TypeId} {args : List AV} {K : AV → Hp → Option ρ} (hr : evBuiltin E .len ts args h K = some r) :
  ∃ v, K v h = some r ∧ ∀ {σ : Type} (h2 : Hp) (K' : AV → Hp → Option σ), (∀ id e xs, h.e id = some (.row e xs) → h2.e id = some (.row e xs)) → evBuiltin E .len ts args h2 K' = K' v h2 := by
 unfold evBuiltin at hr
 split at hr
 ·rename_i x _
  split at hr
  case h_2 => cases hr
  rename_i t l ht
  split at hr
  ·rename_i s hty
   exact ⟨_, hr, fun h2 K' hrow => by simp only [evBuiltin, ht, hty]⟩
  ·cases hr
  ·rename_i x _ _ e hty hno
   split at hr
   case h_2 => cases hr
   rename_i n hn
   refine ⟨_, hr, fun h2 K' hrow => ?_⟩
   have hn2 := sliceLen_agree hrow hn
   cases x with
   | data t' y => cases t' with
    | str => exact (hno y rfl).elim
    | _ => simp only [evBuiltin, ht, hty, hn2]
   | _ => simp only [evBuiltin, ht, hty, hn2]
  ·cases hr
 ·rename_i hb; cases hb
 ·rename_i hb; cases hb
 ·rename_i hb; cases hb
 ·rename_i hb; cases hb
 ·rename_i hb; cases hb
 ·cases hr
theorem fillParts_agree (hrow : ∀ id e xs, h.e id = some (.row e xs) → h2.e id = some (.row e xs)) {e : Ty} : ∀ (l : List (Nat × AV)) (xs ys : List e.D), fillParts e h l xs = some ys → fillParts e h2 l xs = some ys := by
 intro l
 induction l with
 | nil => intro xs ys q; exact q
 | cons p l ih =>
  obtain ⟨i, v⟩ := p
  intro xs ys q
  simp only [fillParts] at q ⊢
  split at q
  ·rename_i x h1 h3
   rw [toD_agree hrow v e.un x h1, h3]
   exact ih _ _ q
  ·cases q
theorem max_agree {ts : Array TypeId} {args : List AV} {K : AV → Hp → Option ρ} (hr : evBuiltin E .max ts args h K = some r) :
  ∃ v, K v h = some r ∧ ∀ {σ : Type} (h2 : Hp) (K' : AV → Hp → Option σ), evBuiltin E .max ts args h2 K' = K' v h2 := by
 unfold evBuiltin at hr
 split at hr
 ·rename_i hb; cases hb
 ·rename_i hb; cases hb
 ·rename_i hb; cases hb
 ·rename_i hb; cases hb
 ·rename_i hb; cases hb
 ·split at hr
  case h_2 => cases hr
  split at hr
  case h_2 => cases hr
  rename_i hk
  exact ⟨_, hr, fun h2 K' => by simp only [evBuiltin, hk]⟩
 ·cases hr
theorem light0_agree {K : AV → Hp → Option ρ} (hl : isLight0 E o.op = true) (hr : evLight E o st K = some r) :
  ∃ v, K v st.h = some r ∧ ∀ {σ : Type} (st2 : St) (K' : AV → Hp → Option σ), Agree o.op.operands.toList st st2 → evLight E o st2 K' = K' v st2.h := by
 unfold evLight at hr
 split at hr
 ·
  rename_i t n ps ho
  have hp : ∀ (st2 : St), Agree o.op.operands.toList st st2 → ∀ p, p ∈ ps.toList → ∀ ty, opnd ty st2.fr p.2 = opnd ty st.fr p.2 := fun st2 ag p hp ty => ag.op p.2 (by simp [ho, Op.operands]; exact ⟨p.1, by simpa using hp⟩) ty
  unfold evLbs at hr
  split at hr
  case h_2 => cases hr
  rename_i e hty
  split at hr
  case h_2 => cases hr
  rename_i xs hf hd hs
  split at hr
  case h_2 => cases hr
  rename_i hnb
  refine ⟨_, hr, fun st2 K' ag => ?_⟩
  have e1 : (ps.toList.map fun p => (p.1, opnd (some e.un) st2.fr p.2)) = (ps.toList.map fun p => (p.1, opnd (some e.un) st.fr p.2)) := List.map_congr_left fun p q => by rw [hp st2 ag p q]
  have e2 : (ps.toList.map fun p => (opnd (some e.un) st2.fr p.2).owns) = (ps.toList.map fun p => (opnd (some e.un) st.fr p.2).owns) := List.map_congr_left fun p q => by rw [hp st2 ag p q]
  have hnb2 : nobody (ps.toList.flatMap fun p => (opnd (some e.un) st2.fr p.2).owns) = true := by rw [List.flatMap_def, e2, ← List.flatMap_def]; exact hnb
  simp only [evLight, ho, evLbs, hty, e1, fillParts_agree ag.row _ _ _ hf, hd, hs, hnb2]
 ·
  rename_i c ho
  unfold evLcall at hr
  split at hr
  ·rename_i hc
   obtain ⟨v, h1, h2⟩ := len_agree hr
   refine ⟨v, h1, fun st2 K' ag => ?_⟩
   have hargs : c.args.toList.map (opnd none st2.fr) = c.args.toList.map (opnd none st.fr) := List.map_congr_left fun x hx => ag.op x (by simp [ho, Op.operands, Call.operands, hc]; simpa using hx) none
   simp only [evLight, ho, evLcall, hc, hargs]
   exact h2 st2.h K' ag.row
  ·rename_i hc
   obtain ⟨v, h1, h2⟩ := max_agree hr
   refine ⟨v, h1, fun st2 K' ag => ?_⟩
   have hargs : c.args.toList.map (opnd none st2.fr) = c.args.toList.map (opnd none st.fr) := List.map_congr_left fun x hx => ag.op x (by simp [ho, Op.operands, Call.operands, hc]; simpa using hx) none
   simp only [evLight, ho, evLcall, hc, hargs]
   exact h2 st2.h K'
  ·rename_i g hc
   split at hr
   case h_2 => cases hr
   rename_i s hlen hs
   split at hr
   case h_2 => cases hr
   rename_i v hv
   split at hr
   case h_2 => cases hr
   rename_i x hx hb
   obtain ⟨res, hres, hk⟩ := bind_some hr
   refine ⟨_, hk, fun st2 K' ag => ?_⟩
   have hargs : (c.args.toList.zip c.argTypes.toList).map (fun p => opnd (E.ty p.2) st2.fr p.1) = (c.args.toList.zip c.argTypes.toList).map (fun p => opnd (E.ty p.2) st.fr p.1) :=
    List.map_congr_left fun p hp => ag.op p.1 (by
     have := (List.of_mem_zip hp).1
     simp [ho, Op.operands, Call.operands, hc]
     right; simpa using this) _
   simp only [evLight, ho, evLcall, hc, hlen, hs, hargs]
   rw [argsD_any (h := st2.h) (h2 := st.h), hv]
   simp only [toD_agree ag.row v s.a x hx, hb, hres, P.bind_def]
  ·cases hr
 ·
  rename_i t x lo hi mx ho
  have hops : ∀ y, y = x ∨ some y = lo ∨ some y = hi ∨ some y = mx → y ∈ o.op.operands.toList := by
   intro y hy
   simp only [ho, Op.operands]
   rcases hy with rfl | hy | hy | hy
   ·simp
   ·subst hy; simp
   ·subst hy; simp
   ·subst hy; simp
  have key : ∀ (st2 : St), Agree o.op.operands.toList st st2 → opnd none st2.fr x = opnd none st.fr x ∧ lo.map (opnd none st2.fr) = lo.map (opnd none st.fr) ∧ hi.map (opnd none st2.fr) = hi.map (opnd none st.fr) ∧ mx.map (opnd none st2.fr) = mx.map (opnd none st.fr) := by
   intro st2 ag
   refine ⟨ag.op x (hops x (.inl rfl)) none, ?_, ?_, ?_⟩
   ·cases lo with
    | none => rfl
    | some y => simp only [Option.map_some]; rw [ag.op y (hops y (by simp)) none]
   ·cases hi with
    | none => rfl
    | some y => simp only [Option.map_some]; rw [ag.op y (hops y (by simp)) none]
   ·cases mx with
    | none => rfl
    | some y => simp only [Option.map_some]; rw [ag.op y (hops y (by simp)) none]
  have fin : ∀ v, K v st.h = some r → (∀ {σ : Type} (h2 : Hp) (K' : AV → Hp → Option σ), (∀ id e xs, st.h.e id = some (.row e xs) → h2.e id = some (.row e xs)) → evLslice (E.ty t) (opnd none st.fr x) (lo.map (opnd none st.fr)) (hi.map (opnd none st.fr)) (mx.map (opnd none st.fr)) h2 K' = K' v h2) →
    ∃ v, K v st.h = some r ∧ ∀ {σ : Type} (st2 : St) (K' : AV → Hp → Option σ), Agree o.op.operands.toList st st2 → evLight E o st2 K' = K' v st2.h := by
   intro v h1 h2
   refine ⟨v, h1, fun st2 K' ag => ?_⟩
   obtain ⟨q1, q2, q3, q4⟩ := key st2 ag
   simp only [evLight, ho, q1, q2, q3, q4]
   exact h2 st2.h K' ag.row
  unfold evLslice at hr
  generalize opnd none st.fr x = X at hr fin
  generalize lo.map (opnd none st.fr) = LO at hr fin
  generalize hi.map (opnd none st.fr) = HI at hr fin
  generalize mx.map (opnd none st.fr) = MX at hr fin
  generalize E.ty t = TY at hr fin
  have vcase : ∀ (X : AV) (id : Nat), (∃ a n, X = .view id a n) ∨ (X = .own id ∧ LO ≠ none) → (∀ {σ : Type} (h' : Hp) (K' : AV → Hp → Option σ), evLslice TY X LO HI none h' K' = evSlice TY X LO HI none h' K') → evSlice TY X LO HI none st.h K = some r →
    ∃ v, K v st.h = some r ∧ ∀ {σ : Type} (h2 : Hp) (K' : AV → Hp → Option σ), (∀ id e xs, st.h.e id = some (.row e xs) → h2.e id = some (.row e xs)) → evLslice TY X LO HI none h2 K' = K' v h2 := by
   intro X id hX hL hr
   unfold evSlice at hr
   simp only at hr
   split at hr
   ·cases hr
   rename_i n hn
   split at hr
   case h_2 => cases hr
   rename_i l u hl' hu'
   obtain ⟨ht, hr2⟩ := test_some hr
   clear hr
   rcases hX with ⟨a, k, rfl⟩ | ⟨rfl, hlo⟩
   ·split at hr2
    ·rename_i e e' xs q; cases q
    ·rename_i s q; cases q
    ·rename_i q; cases q
    ·rename_i q; cases q
    ·rename_i e id' a' k' q
     injection q with q1 q2 q3
     subst q1; subst q2; subst q3
     split at hr2
     case h_2 => cases hr2
     rename_i e2 xs he
     split at hr2
     case h_2 => cases hr2
     rename_i hd
     refine ⟨_, hr2, fun h2' K' hrow => ?_⟩
     have hn2 : sliceLen h2' (.view id a k) = some n := sliceLen_agree hrow hn
     rw [hL]
     simp only [evSlice, hn2, hl', hu', ht, test, P.cond_def, hrow _ _ _ he, hd]
    ·cases hr2
   ·split at hr2
    ·rename_i e e' xs q; cases q
    ·rename_i s q; cases q
    ·rename_i e id' q
     injection q with q1
     subst q1
     cases LO with
     | none => exact absurd rfl hlo
     | some l0 =>
      simp only at hr2
      split at hr2
      case h_2 => cases hr2
      rename_i e2 xs he
      split at hr2
      case h_2 => cases hr2
      rename_i hd
      refine ⟨_, hr2, fun h2' K' hrow => ?_⟩
      have hn2 : sliceLen h2' (.own id) = some n := sliceLen_agree hrow hn
      rw [hL]
      simp only [evSlice, hn2, hl', hu', ht, test, P.cond_def, hrow _ _ _ he, hd]
    ·rename_i q; cases q
    ·rename_i q; cases q
    ·cases hr2
  split at hr
  ·rename_i id
   split at hr
   case h_2 => cases hr
   rename_i l0
   obtain ⟨v, h1, h2⟩ := vcase (.own id) id (.inr ⟨rfl, by simp⟩) (fun _ _ => rfl) hr
   exact fin v h1 h2
  ·rename_i id a n
   split at hr
   case h_2 => cases hr
   obtain ⟨v, h1, h2⟩ := vcase (.view id a n) id (.inl ⟨a, n, rfl⟩) (fun _ _ => rfl) hr
   exact fin v h1 h2
  rename_i hno hnv
  unfold evSlice at hr
  split at hr
  ·rename_i m
   split at hr
   case h_2 => cases hr
   rename_i e h1 h2 h3
   split at hr
   ·rename_i e' xs
    exact fin _ hr (fun h2' K' _ => by simp only [evLslice, evSlice, h1, h2, h3])
   ·exact fin _ hr (fun h2' K' _ => by simp only [evLslice, evSlice, h1, h2, h3])
   ·rename_i id; exact (hno id rfl).elim
   ·rename_i id a n; exact (hnv id a n rfl).elim
   ·cases hr
  ·split at hr
   ·cases hr
   rename_i n hn
   split at hr
   case h_2 => cases hr
   rename_i l u hl' hu'
   obtain ⟨ht, hr2⟩ := test_some hr
   clear hr
   split at hr2
   ·rename_i e e' xs
    split at hr2
    case h_2 => cases hr2
    rename_i hd
    have hr := hr2
    refine fin _ hr (fun h2' K' hrow => ?_)
    have hn2 : sliceLen h2' (.data (.slice e') xs) = some n := sliceLen_agree hrow hn
    simp only [evLslice, evSlice, hn2, hl', hu', ht, test, P.cond_def, hd]
   ·rename_i s
    have hr := hr2
    refine fin _ hr (fun h2' K' hrow => ?_)
    have hn2 : sliceLen h2' (.data .str s) = some n := sliceLen_agree hrow hn
    simp only [evLslice, evSlice, hn2, hl', hu', ht, test, P.cond_def]
   ·rename_i id; exact (hno id rfl).elim
   ·rename_i e e'
    split at hr2
    case h_2 => cases hr2
    rename_i hd
    have hr := hr2
    refine fin _ hr (fun h2' K' hrow => ?_)
    have hn2 : sliceLen h2' (.nilS e') = some n := sliceLen_agree hrow hn
    simp only [evLslice, evSlice, hn2, hl', hu', ht, test, P.cond_def, hd]
   ·rename_i id a n; exact (hnv id a n rfl).elim
   ·cases hr2
 ·rename_i hnb hnc hns
  have rest : ∀ (st2 : St) {σ : Type} (K' : AV → Hp → Option σ), evLight E o st2 K' = evOp0 E noCall o st2 K' := by
   intro st2 σ K'
   unfold evLight
   split
   ·rename_i t n ps q; exact (hnb t n ps q).elim
   ·rename_i c q; exact (hnc c q).elim
   ·rename_i t x lo hi mx q; exact (hns t x lo hi mx q).elim
   ·rfl
  suffices ∃ v, K v st.h = some r ∧ ∀ {σ : Type} (st2 : St) (K' : AV → Hp → Option σ), Agree o.op.operands.toList st st2 → evOp0 E noCall o st2 K' = K' v st2.h by
   obtain ⟨v, h1, h2⟩ := this
   exact ⟨v, h1, fun st2 K' ag => (rest st2 K').trans (h2 st2 K' ag)⟩
  clear rest
  unfold evOp0 at hr
  simp only at hr
  split at hr
  ·rename_i x ho
   exact ⟨_, hr, fun st2 K' ag => by simp only [evOp0, ho, ag.op x (by simp [ho, Op.operands])]⟩
  ·rename_i x ho
   exact ⟨_, hr, fun st2 K' ag => by simp only [evOp0, ho, ag.op x (by simp [ho, Op.operands])]⟩
  ·rename_i c x y ho
   split at hr
   case h_2 => cases hr
   rename_i t e
   have hr := cond_some hr
   cases t with
   | true =>
    refine ⟨opnd (E.ty o.type) st.fr x, by simpa using hr, fun st2 K' ag => ?_⟩
    have e2 := (ag.op c (by simp [ho, Op.operands]) none).trans e
    simp only [evOp0, ho, e2, P.cond_def, ag.op x (by simp [ho, Op.operands])]
   | false =>
    refine ⟨opnd (E.ty o.type) st.fr y, by simpa using hr, fun st2 K' ag => ?_⟩
    have e2 := (ag.op c (by simp [ho, Op.operands]) none).trans e
    simp only [evOp0, ho, e2, P.cond_def, ag.op y (by simp [ho, Op.operands])]
  ·rename_i t ho; simp [ho, isLight0] at hl
  ·rename_i t n ho; simp [ho, isLight0] at hl
  ·rename_i t m k ok ho; simp [ho, isLight0] at hl
  ·rename_i t m k v ho; simp [ho, isLight0] at hl
  ·rename_i t m k v ho; simp [ho, isLight0] at hl
  ·rename_i t x ho; simp [ho, isLight0] at hl
  ·
   rename_i t ps ho
   split at hr
   case h_2 => cases hr
   rename_i b hty
   split at hr
   case h_2 => cases hr
   rename_i v hv
   refine ⟨_, hr, fun st2 K' ag => ?_⟩
   have hp : ∀ p, p ∈ ps.toList → ∀ ty, opnd ty st2.fr p.2 = opnd ty st.fr p.2 := fun p hp ty => ag.op p.2 (by simp [ho, Op.operands]; exact ⟨p.1, by simpa using hp⟩) ty
   simp only [evOp0, ho, hty, buildParts_congr _ _ hp, hv]
  ·rename_i t n x ho; exact (hnb t n x ho).elim
  ·
   rename_i t x ho
   have hm : x ∈ o.op.operands.toList := by simp [ho, Op.operands]
   split at hr
   ·rename_i u y e
    split at hr
    case h_2 => cases hr
    rename_i hd
    exact ⟨_, hr, fun st2 K' ag => by simp only [evOp0, ho, (ag.op x hm none).trans e, hd]⟩
   ·rename_i id p e
    split at hr
    case h_2 => cases hr
    rename_i v L he
    split at hr
    case h_2 => cases hr
    rename_i off u hoff
    split at hr
    case h_2 => cases hr
    rename_i y hd hy
    exact ⟨_, hr, fun st2 K' ag => by simp only [evOp0, ho, (ag.op x hm none).trans e, ag.box x hm id p v L e he, hoff, hd, hy]⟩
   ·rename_i id i p e
    split at hr
    case h_2 => cases hr
    rename_i et xs he
    split at hr
    case h_2 => cases hr
    rename_i off u hoff
    split at hr
    case h_2 => cases hr
    rename_i y hd hy
    exact ⟨_, hr, fun st2 K' ag => by simp only [evOp0, ho, (ag.op x hm none).trans e, ag.row id et xs he, hoff, hd, hy]⟩
   ·cases hr
  ·rename_i t x y ho; simp [ho, isLight0] at hl
  ·
   rename_i x ho
   have hm : x ∈ o.op.operands.toList := by simp [ho, Op.operands]
   split at hr
   ·rename_i id p e
    split at hr
    case h_2 => cases hr
    rename_i en he
    refine ⟨_, hr, fun st2 K' ag => ?_⟩
    have hne := ag.live id (by rw [he]; simp)
    simp only [evOp0, ho, (ag.op x hm none).trans e]
    split
    ·rfl
    ·rename_i q; exact absurd q hne
   ·rename_i t y e
    exact ⟨_, hr, fun st2 K' ag => by simp only [evOp0, ho, (ag.op x hm none).trans e]⟩
   ·rename_i id i p e
    split at hr
    case h_2 => cases hr
    rename_i en he
    refine ⟨_, hr, fun st2 K' ag => ?_⟩
    have hne := ag.live id (by rw [he]; simp)
    simp only [evOp0, ho, (ag.op x hm none).trans e]
    split
    ·rfl
    ·rename_i q; exact absurd q hne
   ·rename_i f c e
    exact ⟨_, hr, fun st2 K' ag => by simp only [evOp0, ho, (ag.op x hm none).trans e]⟩
   ·rename_i id i m e
    split at hr
    case h_2 => cases hr
    rename_i en he
    refine ⟨_, hr, fun st2 K' ag => ?_⟩
    have hne := ag.live id (by rw [he]; simp)
    simp only [evOp0, ho, (ag.op x hm none).trans e]
    split
    ·rfl
    ·rename_i q; exact absurd q hne
   ·cases hr
  ·
   rename_i op t x y u ho
   have hm : x ∈ o.op.operands.toList := by simp [ho, Op.operands]
   have hm2 : y ∈ o.op.operands.toList := by simp [ho, Op.operands]
   split at hr
   ·rename_i b e h1 h2 h3
    split at hr
    case h_2 => cases hr
    rename_i n hn
    have hn2 : ∀ st2 : St, (∀ id e xs, st.h.e id = some (.row e xs) → st2.h.e id = some (.row e xs)) → rowLen st2.h (opnd (E.ty t) st.fr x) = some n := by
     intro st2 hrow
     unfold rowLen at hn ⊢
     split at hn
     ·cases hn
     ·rename_i hno
      have := sliceLen_agree hrow hn
      exact this
    have hr := cond_some hr
    by_cases hp : P.ilt 0 n = true
    ·rw [if_pos hp] at hr
     exact ⟨_, hr, fun st2 K' ag => by
      have hn2' := hn2 st2 ag.row
      rw [h3] at hn2'
      simp only [evOp0, ho, ag.op x hm, h1, h2, h3, hn2', hp, P.cond_def]⟩
    ·rw [if_neg hp] at hr
     exact ⟨_, hr, fun st2 K' ag => by
      have hn2' := hn2 st2 ag.row
      rw [h3] at hn2'
      simp only [evOp0, ho, ag.op x hm, h1, h2, h3, hn2', Bool.eq_false_iff.2 hp, P.cond_def]⟩
   split at hr
   ·rename_i b v hh
    obtain ⟨ht, hr⟩ := test_some hr
    exact ⟨_, hr, fun st2 K' ag => by simp only [evOp0, ho, ag.op x hm, ag.op y hm2, hh, ht, test, P.cond_def]⟩
   rename_i hh
   split at hr
   case h_2 => cases hr
   rename_i he
   split at hr
   case h_2 => cases hr
   rename_i v hv
   exact ⟨_, hr, fun st2 K' ag => by simp only [evOp0, ho, ag.op x hm, ag.op y hm2, hh, he, hv]⟩
  ·
   rename_i op t x ho
   have hm : x ∈ o.op.operands.toList := by simp [ho, Op.operands]
   cases op with
   | not =>
    split at hr
    ·rename_i b _ e
     exact ⟨_, hr, fun st2 K' ag => by simp only [evOp0, ho, (ag.op x hm none).trans e]⟩
    ·rename_i q _; cases q
    ·cases hr
   | neg =>
    split at hr
    ·rename_i q _; cases q
    ·rename_i k n _ e
     exact ⟨_, hr, fun st2 K' ag => by simp only [evOp0, ho, (ag.op x hm none).trans e]⟩
    ·cases hr
   | _ =>
    split at hr
    ·rename_i q _; cases q
    ·rename_i q _; cases q
    ·cases hr
  ·
   rename_i s t x ho
   have hm : x ∈ o.op.operands.toList := by simp [ho, Op.operands]
   split at hr
   ·rename_i k k' k'' n h1 h2 h3
    exact ⟨_, hr, fun st2 K' ag => by simp only [evOp0, ho, (ag.op x hm none).trans h3, h1, h2]⟩
   ·rename_i z h1 h2 h3
    exact ⟨_, hr, fun st2 K' ag => by simp only [evOp0, ho, (ag.op x hm none).trans h3, h1, h2]⟩
   ·cases hr
  ·
   rename_i s x j ho
   have hm : x ∈ o.op.operands.toList := by simp [ho, Op.operands]
   split at hr
   ·cases hr
   rename_i har
   split at hr
   ·rename_i b y e
    split at hr
    case h_2 => cases hr
    rename_i q hd hq
    exact ⟨_, hr, fun st2 K' ag => by simp only [evOp0, ho, har, (ag.op x hm none).trans e, hd, hq]⟩
   ·rename_i id p e
    split at hr
    case h_2 => cases hr
    rename_i v L he
    split at hr
    case h_2 => cases hr
    rename_i hp
    exact ⟨_, hr, fun st2 K' ag => by simp only [evOp0, ho, har, (ag.op x hm none).trans e, ag.box x hm id p v L e he, hp]⟩
   ·rename_i id i p e
    split at hr
    case h_2 => cases hr
    rename_i et xs he
    split at hr
    case h_2 => cases hr
    rename_i hp
    exact ⟨_, hr, fun st2 K' ag => by simp only [evOp0, ho, har, (ag.op x hm none).trans e, ag.row id et xs he, hp]⟩
   ·rename_i id i m e
    split at hr
    case h_2 => cases hr
    rename_i en b he hty hj
    refine ⟨_, hr, fun st2 K' ag => ?_⟩
    have hne := ag.live id (by rw [he]; simp)
    obtain ⟨en2, he2⟩ := Option.ne_none_iff_exists'.1 hne
    simp only [evOp0, ho, har, (ag.op x hm none).trans e, he2, hty, hj]
   ·cases hr
  ·
   rename_i s x j ho
   have hm : x ∈ o.op.operands.toList := by simp [ho, Op.operands]
   split at hr
   ·cases hr
   rename_i har
   split at hr
   case h_2 => cases hr
   rename_i L hL
   split at hr
   case h_2 => cases hr
   rename_i u h1 h2
   exact ⟨_, hr, fun st2 K' ag => by simp only [evOp0, ho, har, hL, ag.op x hm, h1, h2]⟩
  ·
   rename_i t x i ho
   have hm : x ∈ o.op.operands.toList := by simp [ho, Op.operands]
   have hm2 : i ∈ o.op.operands.toList := by simp [ho, Op.operands]
   split at hr
   ·rename_i har
    split at hr
    case h_2 => cases hr
    rename_i s k n hL e1 e2
    obtain ⟨ht, hr⟩ := test_some hr
    exact ⟨_, hr, fun st2 K' ag => by simp only [evOp0, ho, har, hL, (ag.op x hm _).trans e1, (ag.op i hm2 none).trans e2, ht, test, P.cond_def]⟩
   rename_i har
   split at hr
   case h_2 => cases hr
   rename_i b hL
   split at hr
   case h_2 => cases hr
   rename_i k n hfit hn
   obtain ⟨j, u, _, _, hr, hall⟩ := evIdx_spec _ _ hr
   exact ⟨u, hr, fun st2 K' ag => by simp only [evOp0, ho, har, hL, ag.op x hm, (ag.op i hm2 none).trans hn, hfit]; exact hall st2.h K'⟩
  ·
   rename_i t x i ho
   have hm : x ∈ o.op.operands.toList := by simp [ho, Op.operands]
   have hm2 : i ∈ o.op.operands.toList := by simp [ho, Op.operands]
   split at hr
   ·rename_i har
    split at hr
    ·rename_i e xs k n e1 e2
     split at hr
     case h_2 => cases hr
     rename_i hd
     obtain ⟨ht, hr⟩ := test_some hr
     exact ⟨_, hr, fun st2 K' ag => by simp only [evOp0, ho, har, (ag.op x hm none).trans e1, (ag.op i hm2 none).trans e2, hd, ht, test, P.cond_def]⟩
    ·rename_i id k n e1 e2
     split at hr
     case h_2 => cases hr
     rename_i e xs he
     split at hr
     case h_2 => cases hr
     rename_i hd
     obtain ⟨ht, hr⟩ := test_some hr
     exact ⟨_, hr, fun st2 K' ag => by simp only [evOp0, ho, har, (ag.op x hm none).trans e1, (ag.op i hm2 none).trans e2, ag.row id e xs he, hd, ht, test, P.cond_def]⟩
    ·rename_i id av m k n e1 e2
     split at hr
     case h_2 => cases hr
     rename_i e xs he
     split at hr
     case h_2 => cases hr
     rename_i hd
     obtain ⟨ht, hr⟩ := test_some hr
     exact ⟨_, hr, fun st2 K' ag => by simp only [evOp0, ho, har, (ag.op x hm none).trans e1, (ag.op i hm2 none).trans e2, ag.row id e xs he, hd, ht, test, P.cond_def]⟩
    ·cases hr
   ·rename_i har
    split at hr
    ·rename_i id p k n e1 e2
     split at hr
     case h_2 => cases hr
     rename_i v L he
     obtain ⟨j, _, _, hr, hall⟩ := evPick_spec _ _ hr
     exact ⟨_, hr, fun st2 K' ag => by simp only [evOp0, ho, har, (ag.op x hm none).trans e1, (ag.op i hm2 none).trans e2, ag.box x hm id p v L e1 he]; exact hall st2.h K'⟩
    ·rename_i b y k n e1 e2
     split at hr
     case h_2 => cases hr
     rename_i q hd hq
     exact ⟨_, hr, fun st2 K' ag => by simp only [evOp0, ho, har, (ag.op x hm none).trans e1, (ag.op i hm2 none).trans e2, hd, hq]⟩
    ·cases hr
  ·rename_i t x lo hi mx ho; exact (hns t x lo hi mx ho).elim
  ·
   rename_i f first caps ho
   split at hr
   case h_2 => cases hr
   rename_i hf
   refine ⟨_, hr, fun st2 K' ag => ?_⟩
   have hc : caps.toList.map (opnd none st2.fr) = caps.toList.map (opnd none st.fr) := List.map_congr_left fun x hx => ag.op x (by simp [ho, Op.operands]; right; simpa using hx) none
   simp only [evOp0, ho, hf, hc]
  ·
   rename_i t j ho
   have hm : t ∈ o.op.operands.toList := by simp [ho, Op.operands]
   split at hr
   case h_2 => cases hr
   rename_i b e
   split at hr
   case h_2 => cases hr
   rename_i u hu
   exact ⟨_, hr, fun st2 K' ag => by simp only [evOp0, ho, (ag.op t hm none).trans e, hu]⟩
  ·rename_i c ho; exact (hnc c ho).elim
  ·cases hr
theorem light_agree {K : AV → Hp → Option ρ} (hl : isLight E o.op = true) (hr : evLight E o st K = some r) :
  ∃ v, K v st.h = some r ∧ ∀ {σ : Type} (st2 : St) (K' : AV → Hp → Option σ), Agree o.op.operands.toList st st2 → evLight E o st2 K' = K' v st2.h := light0_agree (isLight_spec hl).2 hr
end Go.PG
end

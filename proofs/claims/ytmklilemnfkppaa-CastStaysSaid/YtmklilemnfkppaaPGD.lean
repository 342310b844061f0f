/- The evaluator's soundness: regions whose order is drawn: what the check says; ids kept back. -/
import Derived.Test.YtmklilemnfkppaaPGP
set_option linter.all false
namespace Go.PG
open Go.RowKit

variable {Pg : Program} {G : World → Prop} {E : Env} {S : Nat → Prop} {B : Nat} {w0 w w' w'' : World} {h h' : Hp} {M M' M'' : Nat → Bk} {ρ : Type} {r : ρ} {st st' st'' : St} {a a' a'' : Act} {o : Oper}

/-! ### the check -/
def Closed (ops : List Oper) (L : Nat → Prop) : Prop := ∀ (j : Nat) (o : Oper), ops[j]? = some o → L j → ∀ e, e ∈ o.after → Region.binds .any e = true → L e.on
def Ahead (ops : List Oper) (j i : Nat) : Prop := ∀ L, Closed ops L → L j → L i

structure DrawOk (E : Env) (ops : List Oper) : Prop where
  edge : ∀ (j : Nat) (o : Oper), ops[j]? = some o → ∀ e, e ∈ o.after → Region.binds .any e = true → e.on < j
  pair : ∀ (i j : Nat) (oi oj : Oper), ops[i]? = some oi → ops[j]? = some oj → i < j → Ahead ops j i ∨ indep E ops oi oj = true

theorem edgeMask_spec {acc : List Nat} {j : Nat} : ∀ (l : List Edge) (m : Nat), edgeMask acc j l = some m →
    (∀ e, e ∈ l → Region.binds .any e = true → e.on < j) ∧ ∀ i, m.testBit i = true → ∃ e, e ∈ l ∧ Region.binds .any e = true ∧ (e.on = i ∨ (acc.getD e.on 0).testBit i = true) := by
  intro l
  induction l with
  | nil =>
    intro m h
    simp only [edgeMask] at h
    injection h with h
    subst h
    simp
  | cons e l ih =>
    intro m h
    simp only [edgeMask] at h
    split at h
    · rename_i hb
      obtain ⟨h1, h2⟩ := ih m h
      refine ⟨fun f hf hbf => ?_, fun i hi => ?_⟩
      · rcases List.mem_cons.1 hf with rfl | hf
        · rw [hb] at hbf; cases hbf
        · exact h1 f hf hbf
      · obtain ⟨f, hf, q⟩ := h2 i hi
        exact ⟨f, List.mem_cons_of_mem _ hf, q⟩
    · rename_i hb
      split at h
      case h_2 => cases h
      rename_i hlt
      split at h
      case h_2 => cases h
      rename_i m' hm'
      injection h with h
      subst h
      obtain ⟨h1, h2⟩ := ih m' hm'
      refine ⟨fun f hf hbf => ?_, fun i hi => ?_⟩
      · rcases List.mem_cons.1 hf with rfl | hf
        · simpa [Nat.blt_eq] using hlt
        · exact h1 f hf hbf
      · have hi : (((1 <<< e.on) ||| acc.getD e.on 0) ||| m').testBit i = true := hi
        rw [Nat.testBit_or, Nat.testBit_or, Nat.one_shiftLeft, Nat.testBit_two_pow, Bool.or_eq_true, Bool.or_eq_true, decide_eq_true_eq] at hi
        rcases hi with (hi | hi) | hi
        · exact ⟨e, by simp, hb, .inl hi⟩
        · exact ⟨e, by simp, hb, .inr hi⟩
        · obtain ⟨f, hf, q⟩ := h2 i hi
          exact ⟨f, List.mem_cons_of_mem _ hf, q⟩

theorem masks_spec {ops : List Oper} : ∀ (rest : List Oper) (acc : List Nat) (j : Nat) (ms : List Nat), ops.drop j = rest → acc.length = j →
    (∀ k m, acc[k]? = some m → ∀ i, m.testBit i = true → Ahead ops k i) → (∀ k o, k < j → ops[k]? = some o → ∀ e, e ∈ o.after → Region.binds .any e = true → e.on < k) → masks acc j rest = some ms →
    (∀ (k m : Nat), ms[k]? = some m → ∀ i, m.testBit i = true → Ahead ops k i) ∧ (∀ (k : Nat) (o : Oper), ops[k]? = some o → ∀ e, e ∈ o.after → Region.binds .any e = true → e.on < k) := by
  intro rest
  induction rest with
  | nil =>
    intro acc j ms hd hl ha he h
    simp only [masks] at h
    injection h with h
    subst h
    refine ⟨ha, fun k o hk => he k o ?_ hk⟩
    have := List.drop_eq_nil_iff.1 hd
    have hk' := (List.getElem?_eq_some_iff.1 hk).1
    omega
  | cons o rest ih =>
    intro acc j ms hd hl ha he h
    have ho : ops[j]? = some o := by
      have : (ops.drop j)[0]? = some o := by rw [hd]; rfl
      simpa using this
    have hd' : ops.drop (j + 1) = rest := by rw [← List.drop_drop, hd]; rfl
    simp only [masks] at h
    split at h
    case h_2 => cases h
    rename_i m hm
    obtain ⟨h1, h2⟩ := edgeMask_spec _ _ hm
    refine ih (acc ++ [m]) (j + 1) ms hd' (by simp [hl]) (fun k m' hk i hi => ?_) (fun k o' hk ho' => ?_) h
    · rcases Nat.lt_or_ge k acc.length with q | q
      · rw [List.getElem?_append_left q] at hk
        exact ha k m' hk i hi
      · rw [List.getElem?_append_right q] at hk
        have hkj : k = j := by
          have := (List.getElem?_eq_some_iff.1 hk).1
          simp at this
          omega
        subst hkj
        simp only [hl, Nat.sub_self, List.getElem?_cons_zero, Option.some.injEq] at hk
        subst hk
        obtain ⟨e, q1, q2, q3⟩ := h2 i hi
        intro L hL hk
        have hon : L e.on := hL k o ho hk e (by simpa using q1) q2
        rcases q3 with q3 | q3
        · rw [← q3]; exact hon
        · have hlt := h1 e q1 q2
          have : acc[e.on]? = some (acc.getD e.on 0) := by
            rw [List.getD_eq_getElem?_getD, List.getElem?_eq_getElem (by omega)]
            rfl
          exact ha e.on _ this i q3 L hL hon
    · rcases Nat.lt_or_ge k j with q | q
      · exact he k o' q ho'
      · have hkj : k = j := by omega
        subst hkj
        rw [ho] at ho'
        injection ho' with ho'
        subst ho'
        exact fun e q => h1 e (by simpa using q)

theorem rowOk_spec {all : List Oper} {j m : Nat} {oj : Oper} : ∀ (rest : List Oper) (i : Nat), all.drop i = rest → rowOk E all j oj m i rest = true → ∀ (k : Nat) (ok : Oper), i ≤ k → k < j → all[k]? = some ok → m.testBit k = true ∨ indep E all ok oj = true := by
  intro rest
  induction rest with
  | nil =>
    intro i hd _ k ok hk _ hok
    have := List.drop_eq_nil_iff.1 hd
    have := (List.getElem?_eq_some_iff.1 hok).1
    omega
  | cons o rest ih =>
    intro i hd h k ok hk hkj hok
    have ho : all[i]? = some o := by
      have : (all.drop i)[0]? = some o := by rw [hd]; rfl
      simpa using this
    have hd' : all.drop (i + 1) = rest := by rw [← List.drop_drop, hd]; rfl
    simp only [rowOk] at h
    split at h
    · rename_i q
      have : ¬ i < j := by intro z; rw [← Nat.blt_eq] at z; rw [z] at q; cases q
      omega
    · rcases Nat.lt_or_ge i k with q | q
      · split at h
        · exact ih (i + 1) hd' h k ok q hkj hok
        · split at h
          · exact ih (i + 1) hd' h k ok q hkj hok
          · cases h
      · have : k = i := by omega
        subst this
        rw [ho] at hok
        injection hok with hok
        subst hok
        split at h
        · rename_i q; exact .inl q
        · split at h
          · rename_i q; exact .inr q
          · cases h

theorem rowsOk_spec {all : List Oper} : ∀ (rest : List Oper) (j : Nat) (ms : List Nat), all.drop j = rest → rowsOk E all j rest ms = true → ∀ (k : Nat) (ok : Oper), j ≤ k → all[k]? = some ok → ∃ m, ms[k - j]? = some m ∧ rowOk E all k ok m 0 all = true := by
  intro rest
  induction rest with
  | nil =>
    intro j ms hd _ k ok hk hok
    have := List.drop_eq_nil_iff.1 hd
    have := (List.getElem?_eq_some_iff.1 hok).1
    omega
  | cons o rest ih =>
    intro j ms hd h k ok hk hok
    have ho : all[j]? = some o := by
      have : (all.drop j)[0]? = some o := by rw [hd]; rfl
      simpa using this
    have hd' : all.drop (j + 1) = rest := by rw [← List.drop_drop, hd]; rfl
    cases ms with
    | nil => simp [rowsOk] at h
    | cons m ms =>
      simp only [rowsOk] at h
      split at h
      case h_2 => cases h
      rename_i hr
      rcases Nat.lt_or_ge j k with q | q
      · obtain ⟨m', h1, h2⟩ := ih (j + 1) ms hd' h k ok q hok
        refine ⟨m', ?_, h2⟩
        have : k - j = (k - (j + 1)) + 1 := by omega
        rw [this]
        exact h1
      · have : k = j := by omega
        subst this
        rw [ho] at hok
        injection hok with hok
        subst hok
        exact ⟨m, by simp, hr⟩

theorem drawOk_spec {ops : List Oper} (h : drawOk E ops = true) : DrawOk E ops := by
  unfold drawOk at h
  split at h
  case h_2 => cases h
  rename_i ms hms
  obtain ⟨h1, h2⟩ := masks_spec (ops := ops) ops [] 0 ms (by simp) rfl (by simp) (fun k o hk => absurd hk (Nat.not_lt_zero k)) hms
  refine ⟨h2, fun i j oi oj hi hj hij => ?_⟩
  obtain ⟨m, h3, h4⟩ := rowsOk_spec ops 0 ms (by simp) h j oj (Nat.zero_le _) hj
  rcases rowOk_spec ops 0 (by simp) h4 i oi (Nat.zero_le _) hij hi with q | q
  · exact .inl (h1 j m (by simpa using h3) i q)
  · exact .inr q

/-! ### ids kept back -/
theorem ble_false {i j : Nat} (h : ¬ i ≤ j) : Nat.ble i j = false := by
  cases q : Nat.ble i j
  · rfl
  · exact absurd (Nat.le_of_ble_eq_true q) h
theorem ble_true {i j : Nat} (h : i ≤ j) : Nat.ble i j = true := Nat.ble_eq_true_of_le h
theorem reserve_e (h : Hp) (n id : Nat) : (reserve h n).e id = if h.next ≤ id ∧ id < h.next + n then some .rsv else h.e id := by
  simp only [reserve]
  by_cases h1 : h.next ≤ id
  · by_cases h2 : id < h.next + n
    · have q1 := ble_true h1
      have q2 : Nat.blt id (h.next + n) = true := ble_true h2
      simp [h1, h2, q1, q2]
    · have : Nat.blt id (h.next + n) = false := ble_false h2
      simp [this, h2]
  · have : Nat.ble h.next id = false := ble_false h1
    simp [this, h1]

theorem HInv.reserve (H : HInv S B w0 h M w) (n : Nat) : HInv S B w0 (reserve h n) (fun id => if h.next ≤ id then .nil else M id) w ∧ HStp S h M w (Go.PG.reserve h n) (fun id => if h.next ≤ id then .nil else M id) w := by
  have old : ∀ id, id < h.next → (Go.PG.reserve h n).e id = h.e id := fun id q => by rw [reserve_e]; simp [show ¬ h.next ≤ id by omega]
  have oldM : ∀ id, id < h.next → (if h.next ≤ id then Bk.nil else M id) = M id := fun id q => by simp [show ¬ h.next ≤ id by omega]
  have new : ∀ id e, h.next ≤ id → (Go.PG.reserve h n).e id = some e → e = .rsv := by
    intro id e q he
    rw [reserve_e, H.fresh id q] at he
    split at he
    · injection he with he; exact he.symm
    · cases he
  have hZ : ∀ b, (cx S (Go.PG.reserve h n) (fun id => if h.next ≤ id then .nil else M id) w).Z b → (cx S h M w).Z b := by
    rintro b (z | ⟨id, e, q1, q2⟩)
    · exact .inl z
    · rcases Nat.lt_or_ge id h.next with q | q
      · refine .inr ⟨id, e, (old id q).symm.trans q1, ?_⟩
        have := oldM id q
        simp only [cx] at q2
        rw [this] at q2
        exact q2
      · simp only [cx, if_pos q] at q2
        cases q2
  have k : Tr (cx S h M w) (cx S (Go.PG.reserve h n) (fun id => if h.next ≤ id then .nil else M id) w) := by
    refine ⟨Held.of_le w hZ, Nat.le_add_right _ _, fun id hid => ?_⟩
    have hid : id < h.next := hid
    simp only [cx]
    rw [old id hid, oldM id hid]
    exact ids_self H id
  refine ⟨⟨fun id e he => ?_, fun id hid => ?_, fun i j b hi hj h1 h2 => ?_, fun i b hi hb => ?_, H.bel, H.bsz, H.old, H.bw⟩, k, rfl, fun id hid _ => ⟨old id hid, oldM id hid⟩⟩
  · rcases Nat.lt_or_ge id h.next with q | q
    · rw [old id q] at he
      exact (H.ent id e he).tr k (oldM id q) (fun _ _ => rfl)
    · have := new id e q he
      subst this
      simp [EntOk, cx, q]
  · have hid : h.next + n ≤ id := hid
    rw [reserve_e, H.fresh id (by omega)]
    simp [show ¬ id < h.next + n by omega]
  · rcases Nat.lt_or_ge i h.next with q | q
    · rcases Nat.lt_or_ge j h.next with q' | q'
      · rw [oldM i q] at h1; rw [oldM j q'] at h2
        rw [old i q] at hi; rw [old j q'] at hj
        exact H.dist i j b hi hj h1 h2
      · simp only [if_pos q'] at h2; cases h2
    · simp only [if_pos q] at h1; cases h1
  · rcases Nat.lt_or_ge i h.next with q | q
    · rw [oldM i q] at hb; rw [old i q] at hi
      exact H.own i b hi hb
    · simp only [if_pos q] at hb; cases hb

/-- An id kept back is taken. -/
theorem HInv.fill (H : HInv S B w0 h M w) {id : Nat} (he : h.e id = some .rsv) (hl : h.lk id = false) (e : Ent) (bk : Bk) (hh : ∀ b, b < w.heap.size → w'.heap[b]? = w.heap[b]?) (hs : w.heap.size ≤ w'.heap.size) (bel : Below B w w')
    (hb : ∀ b, bk.blk = some b → w.heap.size ≤ b)
    (q : Tr (cx S h M w) (cx S (h.put id e) (set1 M id bk) w') → EntOk (cx S (h.put id e) (set1 M id bk) w') id e) :
    HInv S B w0 (h.put id e) (set1 M id bk) w' ∧ HStp S h M w (h.put id e) (set1 M id bk) w' := by
  have ne : ∀ j, j ≠ id → (h.put id e).e j = h.e j ∧ set1 M id bk j = M j := fun j q => by simp [Hp.put, set1, beq_false q]
  have at_ : (h.put id e).e id = some e ∧ set1 M id bk id = bk := by simp [Hp.put, set1, Nat.beq_refl]
  have hnil : M id = .nil := H.ent id _ he
  have hid := H.lt he
  have hZ : ∀ b, (cx S (h.put id e) (set1 M id bk) w').Z b → (cx S h M w).Z b ∨ bk.blk = some b := by
    rintro b (z | ⟨j, e', q1, q2⟩)
    · exact .inl (.inl z)
    · by_cases hj : j = id
      · subst hj
        simp only [cx] at q2
        rw [at_.2] at q2
        exact .inr q2
      · simp only [cx] at q1 q2
        rw [(ne j hj).1] at q1
        rw [(ne j hj).2] at q2
        exact .inl (.inr ⟨j, e', q1, q2⟩)
  have k : Tr (cx S h M w) (cx S (h.put id e) (set1 M id bk) w') := by
    refine ⟨fun b hlt hz => ⟨fun z => ?_, hh b hlt⟩, Nat.le_refl _, fun j hj => ?_⟩
    · rcases hZ b z with z | z
      · exact hz z
      · exact absurd (hb b z) (by simp only [cx] at hlt; omega)
    · simp only [cx]
      by_cases hji : j = id
      · subst hji
        exact .inr (.inl ⟨he, hnil⟩)
      · rw [(ne j hji).1, (ne j hji).2]
        exact ids_self H j
  refine ⟨⟨fun j e' hq => ?_, fun j hj => ?_, fun i j b hi hj => ?_, fun i b hi hib => ?_, H.bel.trans bel, Nat.le_trans H.bsz hs, H.old, H.bw⟩, k, rfl, fun j hj hlk => ?_⟩
  · by_cases hji : j = id
    · subst hji
      rw [at_.1] at hq
      injection hq with hq
      subst hq
      exact q k
    · rw [(ne j hji).1] at hq
      exact (H.ent j e' hq).tr k (ne j hji).2 (fun b hbb => hh b (blk_lt H (by rw [hq]; simp) hbb))
  · have hj : h.next ≤ j := hj
    rw [(ne j (by omega)).1]
    exact H.fresh j hj
  · by_cases hin : i = id
    · by_cases hjn : j = id
      · intro _ _; exact hin.trans hjn.symm
      · intro h1 h2
        subst hin
        rw [at_.2] at h1
        rw [(ne j hjn).1] at hj
        rw [(ne j hjn).2] at h2
        exact absurd (hb b h1) (by have := blk_lt H hj h2; omega)
    · by_cases hjn : j = id
      · intro h1 h2
        subst hjn
        rw [at_.2] at h2
        rw [(ne i hin).1] at hi
        rw [(ne i hin).2] at h1
        exact absurd (hb b h2) (by have := blk_lt H hi h1; omega)
      · rw [(ne i hin).1] at hi
        rw [(ne j hjn).1] at hj
        rw [(ne i hin).2, (ne j hjn).2]
        exact H.dist i j b hi hj
  · by_cases hin : i = id
    · subst hin
      rw [at_.2] at hib
      exact Nat.le_trans H.bsz (hb b hib)
    · rw [(ne i hin).1] at hi
      rw [(ne i hin).2] at hib
      exact H.own i b hi hib
  · have hji : j ≠ id := by rintro rfl; rw [hl] at hlk; cases hlk
    exact ne j hji
end Go.PG

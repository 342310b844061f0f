/- The evaluator's soundness: the state a loop's round begins with. -/
import Derived.Test.YtmklilemnfkppaaPGU
set_option linter.all false
namespace Go.PG
open Go.RowKit

variable {Pg : Program} {G : World → Prop} {E : Env} {S : Nat → Prop} {B : Nat} {w0 w w' w'' : World} {h h' : Hp} {M0 M M' M'' : Nat → Bk} {ρ : Type} {r : ρ} {st st' st'' b s s2 s' : St} {a a' a'' : Act} {o : Oper}

def Cx.low (c : Cx) (n : Nat) : Cx := { c with nx := n }

theorem Rep1.low {c d : Cx} {v : AV} {cs ds : List Value} (h : Rep1 c v cs) (k : Rep1 d v ds) : Rep1 (d.low c.nx) v ds := by
  cases v with
  | nilS e => exact k
  | own id => obtain ⟨_, k⟩ := k; exact ⟨h.1, k⟩
  | ptr id p => obtain ⟨_, k⟩ := k; exact ⟨h.1, k⟩
  | rptr t x => exact k
  | eptr id i p => obtain ⟨_, k⟩ := k; exact ⟨h.1, k⟩
  | _ => exact h.elim

mutual
theorem RepC.low {c d : Cx} : ∀ (v : AV) (cs ds : List Value), RepC c v cs → RepC d v ds → RepC (d.low c.nx) v ds
  | .undef, _, _, _, k => by simp only [RepC] at k ⊢; exact k
  | .unit, _, _, _, k => by simp only [RepC] at k ⊢; exact k
  | .data t x, _, _, _, k => by simp only [RepC] at k ⊢; exact k
  | .fn f a, _, _, h, k => by
    simp only [RepC] at h k ⊢
    obtain ⟨vs, _, h⟩ := h
    obtain ⟨us, e, k⟩ := k
    exact ⟨us, e, RepT.low a _ _ h k⟩
  | .st b, _, _, h, k => by simp only [RepC] at h k ⊢; exact RepC.low b _ _ h k
  | .pr a r, _, _, h, k => by
    simp only [RepC] at h k ⊢
    obtain ⟨c1, c2, _, h1, h2⟩ := h
    obtain ⟨d1, d2, e, k1, k2⟩ := k
    exact ⟨d1, d2, e, RepC.low a _ _ h1 k1, RepC.low r _ _ h2 k2⟩
  | .tup _, _, _, h, _ => by simp only [RepC] at h
  | .nilS _, _, _, h, k => by simp only [RepC] at h k ⊢; exact h.low k
  | .own _, _, _, h, k => by simp only [RepC] at h k ⊢; exact h.low k
  | .ptr _ _, _, _, h, k => by simp only [RepC] at h k ⊢; exact h.low k
  | .rptr _ _, _, _, h, k => by simp only [RepC] at h k ⊢; exact h.low k
  | .eptr _ _ _, _, _, h, k => by simp only [RepC] at h k ⊢; exact h.low k
theorem RepV.low {c d : Cx} : ∀ (v : AV) (u z : Value), RepV c v u → RepV d v z → RepV (d.low c.nx) v z
  | .undef, _, _, _, _ => by simp only [RepV]
  | .unit, _, _, h, _ => by simp only [RepV] at h
  | .data t x, _, _, _, k => by simp only [RepV] at k ⊢; exact k
  | .fn f a, _, _, h, k => by
    simp only [RepV] at h k ⊢
    obtain ⟨vs, _, h⟩ := h
    obtain ⟨us, e, k⟩ := k
    exact ⟨us, e, RepT.low a _ _ h k⟩
  | .st b, _, _, h, k => by
    simp only [RepV] at h k ⊢
    obtain ⟨vs, _, h⟩ := h
    obtain ⟨us, e, k⟩ := k
    exact ⟨us, e, RepC.low b _ _ h k⟩
  | .pr _ _, _, _, h, _ => by simp only [RepV] at h
  | .tup b, _, _, h, k => by
    simp only [RepV] at h k ⊢
    obtain ⟨vs, _, h⟩ := h
    obtain ⟨us, e, k⟩ := k
    exact ⟨us, e, RepT.low b _ _ h k⟩
  | .nilS _, _, _, h, k => by simp only [RepV] at h k ⊢; exact h.low k
  | .own _, _, _, h, k => by simp only [RepV] at h k ⊢; exact h.low k
  | .ptr _ _, _, _, h, k => by simp only [RepV] at h k ⊢; exact h.low k
  | .rptr _ _, _, _, h, k => by simp only [RepV] at h k ⊢; exact h.low k
  | .eptr _ _ _, _, _, h, k => by simp only [RepV] at h k ⊢; exact h.low k
theorem RepT.low {c d : Cx} : ∀ (v : AV) (us zs : List Value), RepT c v us → RepT d v zs → RepT (d.low c.nx) v zs
  | .unit, _, _, _, k => by simp only [RepT] at k ⊢; exact k
  | .pr a r, _, _, h, k => by
    simp only [RepT] at h k ⊢
    obtain ⟨v, vs, _, h1, h2⟩ := h
    obtain ⟨u, us, e, k1, k2⟩ := k
    exact ⟨u, us, e, RepV.low a _ _ h1 k1, RepT.low r _ _ h2 k2⟩
  | .undef, _, _, _, k => by simp only [RepT] at k ⊢; exact k
  | .tup b, _, _, h, k => by
    simp only [RepT] at h k ⊢
    obtain ⟨vs, _, h⟩ := h
    obtain ⟨us, e, k⟩ := k
    exact ⟨us, e, RepT.low b _ _ h k⟩
  | .data t x, _, _, _, k => by simp only [RepT] at k ⊢; exact k
  | .st b, _, _, h, k => by
    simp only [RepT] at h k ⊢
    obtain ⟨vs, _, h⟩ := h
    obtain ⟨us, e, k⟩ := k
    exact ⟨us, e, RepC.low b _ _ h k⟩
  | .fn f a, _, _, h, k => by
    simp only [RepT] at h k ⊢
    obtain ⟨vs, _, h⟩ := h
    obtain ⟨us, e, k⟩ := k
    exact ⟨us, e, RepT.low a _ _ h k⟩
  | .nilS _, _, _, h, k => by simp only [RepT] at h k ⊢; obtain ⟨_, _, h⟩ := h; obtain ⟨u, e, k⟩ := k; exact ⟨u, e, h.low k⟩
  | .own _, _, _, h, k => by simp only [RepT] at h k ⊢; obtain ⟨_, _, h⟩ := h; obtain ⟨u, e, k⟩ := k; exact ⟨u, e, h.low k⟩
  | .ptr _ _, _, _, h, k => by simp only [RepT] at h k ⊢; obtain ⟨_, _, h⟩ := h; obtain ⟨u, e, k⟩ := k; exact ⟨u, e, h.low k⟩
  | .rptr _ _, _, _, h, k => by simp only [RepT] at h k ⊢; obtain ⟨_, _, h⟩ := h; obtain ⟨u, e, k⟩ := k; exact ⟨u, e, h.low k⟩
  | .eptr _ _ _, _, _, h, k => by simp only [RepT] at h k ⊢; obtain ⟨_, _, h⟩ := h; obtain ⟨u, e, k⟩ := k; exact ⟨u, e, h.low k⟩
end

theorem undefOf_rep {c d : Cx} : ∀ (L : Ty) (v : AV) (cs : List Value), fitsT v L = true → RepC c v cs → RepC d (undefOf L) cs := by
  have leaf : ∀ (L : Ty) (v : AV) (cs : List Value), L.size = 1 → undefOf L = .undef → fitsT v L = true → RepC c v cs → RepC d (undefOf L) cs := by
    intro L v cs hs he f h
    have hl := fits_len v L cs f h
    rw [hs] at hl
    obtain ⟨u, rfl⟩ := List.length_eq_one_iff.1 hl
    rw [he]
    simp only [RepC]
    exact ⟨u, rfl, RepC.one v _ h u (by simp)⟩
  intro L
  induction L with
  | unit =>
    intro v cs f h
    cases v with
    | data t x =>
      simp only [fitsT, decide_eq_true_eq] at f
      subst f
      simp only [RepC, RepD] at h
      simp only [undefOf, RepC]; exact h
    | _ => simp [fitsT] at f
  | st b ih =>
    intro v cs f h
    simp only [undefOf, RepC]
    cases v with
    | data t x =>
      simp only [fitsT, decide_eq_true_eq] at f
      subst f
      simp only [RepC, RepD] at h
      exact ih (.data b x) cs (by simp [fitsT]) (by simp only [RepC]; exact h)
    | st u => simp only [fitsT] at f; simp only [RepC] at h; exact ih u cs f h
    | _ => simp [fitsT] at f
  | pair p q ihp ihq =>
    intro v cs f h
    simp only [undefOf, RepC]
    cases v with
    | data t x =>
      simp only [fitsT, decide_eq_true_eq] at f
      subst f
      simp only [RepC, RepD] at h
      obtain ⟨c1, c2, e, h1, h2⟩ := h
      exact ⟨c1, c2, e, ihp (.data p x.1) c1 (by simp [fitsT]) (by simp only [RepC]; exact h1), ihq (.data q x.2) c2 (by simp [fitsT]) (by simp only [RepC]; exact h2)⟩
    | pr u z =>
      simp only [fitsT] at f
      split at f
      case h_2 => cases f
      rename_i f1
      simp only [RepC] at h
      obtain ⟨c1, c2, e, h1, h2⟩ := h
      exact ⟨c1, c2, e, ihp u c1 f1 h1, ihq z c2 f h2⟩
    | _ => simp [fitsT] at f
  | bool => intro v cs; exact leaf _ v cs rfl rfl
  | str => intro v cs; exact leaf _ v cs rfl rfl
  | opq => intro v cs; exact leaf _ v cs rfl rfl
  | int k => intro v cs; exact leaf _ v cs rfl rfl
  | slice e => intro v cs; exact leaf _ v cs rfl rfl

/-- The base of a loop: what its rounds begin from. -/
structure Base (st b : St) (c : List Nat) : Prop where
  nx : b.h.next = st.h.next
  fresh : ∀ i, st.h.next ≤ i → b.h.e i = none
  inc : ∀ i, i ∈ c → b.h.e i = none ∨ ∃ v L, st.h.e i = some (.box v L) ∧ b.h.e i = some (.box (undefOf L) L) ∧ fitsT (undefOf L) L = true
  out : ∀ i, i ∉ c → b.h.e i = none ∨ b.h.e i = st.h.e i

theorem lay (g0 : Good S B w0 st a M0 w) {c : List Nat} (hb : Base st b c) (H' : HInv S B w0 s'.h M' w') (F' : ∀ t, RepV (cx S s'.h M' w') (s'.fr t) (a'.tmps.getD t undef)) (T : Tr (cx S st.h M0 w) (cx S s'.h M' w'))
    (U : ∀ i, i < st.h.next → i ∉ c → (b.h.e i ≠ none → s'.h.e i = b.h.e i) ∧ M' i = M0 i)
    (alv : ∀ i, i ∈ c → ∀ v L, b.h.e i = some (.box v L) → ∃ v' L', s'.h.e i = some (.box v' L'))
    (hfr : ∀ t, b.fr t = .undef ∨ b.fr t = st.fr t ∧ a'.tmps.getD t undef = a.tmps.getD t undef)
    {l : List Item} {x : ItemsD l} {os ds ks : List Nat} (hu : unItems st.fr s' l = some (x, os, ds)) (hk : kept st.fr l = some ks) (hnd : (ks ++ (os ++ ds)).Nodup) (hsub : ∀ i, i ∈ ks → i ∈ c)
    (hdead : ∀ i, i ∈ os ++ ds → b.h.e i = none) (hp : packItems st.fr l x b = some s2) (hsz : b.n ≤ a'.tmps.size) (hdf : a'.defers = []) :
    ∃ M2, Good S B w0 s2 a' M2 w' ∧ Tr (cx S st.h M0 w) (cx S s2.h M2 w') ∧ (∀ i, i < st.h.next → i ∉ c → s2.h.e i = b.h.e i ∧ M2 i = M0 i) ∧ s2.h.lk = b.h.lk ∧ s2.ro = b.ro ∧ s2.n = b.n ∧ st.h.next ≤ s2.h.next := by
  obtain ⟨nk, nod, ndis⟩ := List.nodup_append.1 hnd
  have h0 : ∀ t, ∃ u, RepV (cx S st.h M0 w) (st.fr t) u := fun t => ⟨_, g0.F t⟩
  obtain ⟨M2, g, L⟩ := laid_items (c0 := cx S st.h M0 w) (a' := a') (S := S) (b := b) (fr0 := st.fr) H' h0 (n0 := st.h.next) rfl rfl F' l x os ds ks b s2 M' (fun _ => none) [] [] []
    (laid_start (h' := s'.h) (M' := M') (w' := w') hb.nx hb.fresh (fun t c tr => by
      rcases hfr t with e | ⟨e1, e2⟩
      · rw [e]; simp only [RepV]
      · rw [e1, e2]; exact RepV.tr tr _ _ (g0.F t))) hu hk (by simpa using nk) hp
  simp only [List.nil_append] at L
  have hold : ∀ i, i < st.h.next → M2 i = M' i := L.old
  -- where a live id comes from
  have live : ∀ i e, s2.h.e i = some e → (i < st.h.next ∧ s'.h.e i ≠ none ∧ (i ∈ ks ∨ b.h.e i ≠ none)) ∨ (st.h.next ≤ i ∧ i < s2.h.next) := by
    intro i e he
    rcases Nat.lt_or_ge i st.h.next with hi | hi
    · left
      by_cases hik : i ∈ ks
      · refine ⟨hi, ?_, .inl hik⟩
        obtain ⟨_, ⟨t, xs, _, q⟩ | ⟨v2, L', v0, v1, L1, bl, cs, el, _, _, q, _⟩⟩ := L.laid i hik <;> (rw [q]; simp)
      · have hbe : b.h.e i = some e := (L.keep i hi hik).symm.trans he
        refine ⟨hi, ?_, .inr (by rw [hbe]; simp)⟩
        by_cases hic : i ∈ c
        · rcases hb.inc i hic with q | ⟨v, L', q1, q2, q3⟩
          · rw [q] at hbe; cases hbe
          · obtain ⟨v', L'', q⟩ := alv i hic _ _ q2
            rw [q]; simp
        · rw [(U i hi hic).1 (by rw [hbe]; simp), hbe]; simp
    · right
      refine ⟨hi, ?_⟩
      rcases Nat.lt_or_ge i s2.h.next with q | q
      · exact q
      · rw [L.fresh i q] at he; cases he
  have from_ : ∀ i bb, s2.h.e i ≠ none → (M2 i).blk = some bb → ∃ j, s'.h.e j ≠ none ∧ (M' j).blk = some bb ∧ ((i < st.h.next ∧ j = i ∧ (i ∈ ks ∨ b.h.e i ≠ none)) ∨ (st.h.next ≤ i ∧ i < s2.h.next ∧ g i = some j ∧ j ∈ os)) := by
    intro i bb hne hbb
    cases he : s2.h.e i with
    | none => exact absurd he hne
    | some e =>
      rcases live i e he with ⟨h1, h2, h3⟩ | ⟨h1, h2⟩
      · exact ⟨i, h2, by rw [← hold i h1]; exact hbb, .inl ⟨h1, rfl, h3⟩⟩
      · obtain ⟨t, xs, q1, ⟨id, m, q2, q3, q4⟩ | ⟨q2, q3, A, q4⟩⟩ := L.new.row i h1 h2
        · exact ⟨id, by rw [q3]; simp, by rw [← q4]; exact hbb, .inr ⟨h1, h2, q2, m⟩⟩
        · rw [q4] at hbb; cases hbb
  have hZ : ∀ bb, (cx S s2.h M2 w').Z bb → (cx S s'.h M' w').Z bb := by
    rintro bb (z | ⟨i, e, q1, q2⟩)
    · exact .inl z
    · obtain ⟨j, h1, h2, _⟩ := from_ i bb (by rw [show s2.h.e i = some e from q1]; simp) q2
      cases q : s'.h.e j with
      | none => exact absurd q h1
      | some f => exact .inr ⟨j, f, q, h2⟩
  have hT : ∀ i, i < st.h.next → _ := T.ids
  have tr : Tr (cx S st.h M0 w) (cx S s2.h M2 w') := by
    refine ⟨T.held.trans (Held.of_le w' hZ), L.le, fun i hi => ?_⟩
    have hi : i < st.h.next := hi
    have hTi := T.ids i hi
    simp only [cx] at hTi ⊢
    by_cases hik : i ∈ ks
    · obtain ⟨_, ⟨t, xs, q1, q2⟩ | ⟨v2, L', v0, v1, L1, bl, cs, el, q1, q2, q3, q4, _⟩⟩ := L.laid i hik
      · rcases hTi with r | r | ⟨r1, r⟩
        · rw [q2] at r; cases r
        · exact .inr (.inl r)
        · refine .inr (.inr ⟨(hold i hi).trans r1, ?_⟩)
          rcases r with ⟨_, _, _, _, r⟩ | ⟨t', ys, zs, r2, r3, r4⟩
          · rw [q2] at r; cases r
          · rw [q2] at r3
            injection r3 with r3
            injection r3 with e1 e2
            subst e1
            have e2 := eq_of_heq e2
            subst e2
            exact .inr ⟨t, ys, xs, r2, q1, r4⟩
      · have hbox : ∃ v, st.h.e i = some (.box v L') := by
          rcases hb.inc i (hsub i hik) with z | ⟨v, L2, z1, z2, _⟩
          · rw [q2] at z; cases z
          · rw [q2] at z2
            injection z2 with z2
            injection z2 with _ z2
            subst z2
            exact ⟨v, z1⟩
        obtain ⟨v, hv⟩ := hbox
        rcases hTi with r | ⟨r, _⟩ | ⟨r1, _⟩
        · rw [q3] at r; cases r
        · rw [hv] at r; cases r
        · exact .inr (.inr ⟨(hold i hi).trans r1, .inl ⟨v, v2, L', hv, q1⟩⟩)
    · have hkp := L.keep i hi hik
      cases hbe : b.h.e i with
      | none => exact .inl (hkp.trans hbe)
      | some e =>
        by_cases hic : i ∈ c
        · rcases hb.inc i hic with z | ⟨v, L', z1, z2, _⟩
          · rw [z] at hbe; cases hbe
          · obtain ⟨v', L'', q⟩ := alv i hic _ _ z2
            rcases hTi with r | ⟨r, _⟩ | ⟨r1, _⟩
            · rw [q] at r; cases r
            · rw [z1] at r; cases r
            · exact .inr (.inr ⟨(hold i hi).trans r1, .inl ⟨v, _, L', z1, hkp.trans z2⟩⟩)
        · obtain ⟨_, u2⟩ := U i hi hic
          have hst : b.h.e i = st.h.e i := by
            rcases hb.out i hic with z | z
            · rw [z] at hbe; cases hbe
            · exact z
          rw [hkp, hst, hold i hi, u2]
          exact ids_self g0.H i
  have fin : Fin S s'.h M' w' (cx S st.h M0 w) (cx S s2.h M2 w') ds st.h.next s2.h.next s2.h.e M2 := by
    refine ⟨rfl, hZ, fun id hid bb hl hbb z => ?_, fun i _ _ => ⟨rfl, rfl⟩, Nat.le_refl _, tr⟩
    rcases z with z | ⟨i, e, q1, q2⟩
    · have := H'.own id bb hl hbb
      have := H'.old bb z
      omega
    · obtain ⟨j, h1, h2, h3⟩ := from_ i bb (by rw [show s2.h.e i = some e from q1]; simp) q2
      have hij := H'.dist j id bb h1 hl h2 hbb
      subst hij
      rcases h3 with ⟨_, rfl, h4 | h4⟩ | ⟨_, _, _, h4⟩
      · exact ndis _ h4 _ (List.mem_append_right _ hid) rfl
      · exact h4 (hdead _ (List.mem_append_right _ hid))
      · exact (List.nodup_append.1 nod).2.2 _ h4 _ hid rfl
  have hid : ∀ i, i ∈ os → i ∈ os ++ ds := fun i q => List.mem_append_left _ q
  refine ⟨M2, ⟨⟨fun i e he => ?_, L.fresh, fun i j bb hi hj h1 h2 => ?_, fun i bb hi hbb => ?_, H'.bel, H'.bsz, H'.old, H'.bw⟩, fun t => L.slot t _ fin, by rw [L.n]; exact hsz, hdf⟩, tr, fun i hi hic => ?_, L.lk, L.ro, L.n, L.le⟩
  · -- entries
    have rowok : ∀ (id : Nat) (t : Ty) (xs : List t.D), M2 i = M' id → s'.h.e id = some (.row t xs) → EntOk (cx S s2.h M2 w') i (.row t xs) := by
      intro id t xs e1 e2
      obtain ⟨A, cap, q1, q2, q3⟩ := H'.ent id _ e2
      refine ⟨A, cap, e1.trans q1, q2, ?_⟩
      rcases q3 with q3 | ⟨q3, bl, of, cs, el, q4, q5, q6, q7⟩
      · exact .inl q3
      · refine .inr ⟨q3, bl, of, cs, el, q4, q5, q6, fun j y hy => ?_⟩
        obtain ⟨d, q8, q9⟩ := q7 j y hy
        exact ⟨d, q8.held (Held.of_le w' hZ), q9⟩
    rcases live i e he with ⟨hi, hl, _⟩ | ⟨hi, hi2⟩
    · by_cases hik : i ∈ ks
      · obtain ⟨_, ⟨t, xs, q1, q2⟩ | ⟨v2, L', v0, v1, L1, bl, cs, el, q1, q2, q3, q4, q5, q6, q7⟩⟩ := L.laid i hik
        · rw [q1] at he; injection he with he; subst he
          exact rowok i t xs (hold i hi) q2
        · rw [q1] at he; injection he with he; subst he
          exact ⟨bl, cs, el, (hold i hi).trans q4, q5, q6, q7 _ fin⟩
      · have hbe : b.h.e i = some e := (L.keep i hi hik).symm.trans he
        by_cases hic : i ∈ c
        · rcases hb.inc i hic with z | ⟨v, L', z1, z2, z3⟩
          · rw [z] at hbe; cases hbe
          · obtain ⟨v', L'', q⟩ := alv i hic _ _ z2
            rw [z2] at hbe; injection hbe with hbe; subst hbe
            have hLL : L'' = L' := by
              rcases T.ids i hi with r | ⟨r, _⟩ | ⟨_, ⟨u1, u2, L3, r1, r2⟩ | ⟨t, xs, ys, r1, r2, _⟩⟩
              · simp only [cx] at r; rw [q] at r; cases r
              · simp only [cx] at r; rw [z1] at r; cases r
              · simp only [cx] at r1 r2
                rw [z1] at r1; rw [q] at r2
                injection r1 with r1; injection r1 with _ r1
                injection r2 with r2; injection r2 with _ r2
                exact r2.trans r1.symm
              · simp only [cx] at r1; rw [z1] at r1; cases r1
            subst hLL
            obtain ⟨bl, cs, el, e1, e2, e3, e4⟩ := H'.ent i _ q
            exact ⟨bl, cs, el, (hold i hi).trans e1, e2, z3, undefOf_rep L'' v' cs.toList e3 e4⟩
        · have u1 := (U i hi hic).1 (by rw [hbe]; simp)
          have hse : s'.h.e i = some e := u1.trans hbe
          have hst : st.h.e i = some e := by
            rcases hb.out i hic with z | z
            · rw [z] at hbe; cases hbe
            · rw [← z]; exact hbe
          cases e with
          | row t xs => exact rowok i t xs (hold i hi) hse
          | rsv => exact (hold i hi).trans (H'.ent i _ hse)
          | box v L' =>
            obtain ⟨bl, cs, el, e1, e2, e3, e4⟩ := H'.ent i _ hse
            obtain ⟨bl0, cs0, el0, _, _, _, e40⟩ := g0.H.ent i _ hst
            have hlow := RepC.low v cs0.toList cs.toList e40 e4
            have trl : Tr ((cx S s'.h M' w').low st.h.next) (cx S s2.h M2 w') := by
              refine ⟨Held.of_le w' hZ, L.le, fun j hj => ?_⟩
              have hj : j < st.h.next := hj
              show s2.h.e j = none ∨ (s'.h.e j = some .rsv ∧ M' j = .nil) ∨ _
              by_cases hjk : j ∈ ks
              · obtain ⟨_, ⟨t, xs, q1, q2⟩ | ⟨v2, L3, v0, v1, L1, bl, cs, el, q1, q2, q3, q4, _⟩⟩ := L.laid j hjk
                · exact .inr (.inr ⟨hold j hj, .inr ⟨t, xs, xs, q2, q1, rfl⟩⟩)
                · have hLL : L1 = L3 := by
                    rcases hb.inc j (hsub j hjk) with z | ⟨v, L2, z1, z2, _⟩
                    · rw [q2] at z; cases z
                    · rw [q2] at z2
                      injection z2 with z2
                      injection z2 with _ z2
                      subst z2
                      rcases T.ids j hj with r | ⟨r, _⟩ | ⟨_, ⟨u1, u2, L5, r1, r2⟩ | ⟨t, xs, ys, r1, r2, _⟩⟩
                      · simp only [cx] at r; rw [q3] at r; cases r
                      · simp only [cx] at r; rw [z1] at r; cases r
                      · simp only [cx] at r1 r2
                        rw [z1] at r1; rw [q3] at r2
                        injection r1 with r1; injection r1 with _ r1
                        injection r2 with r2; injection r2 with _ r2
                        exact r2.trans r1.symm
                      · simp only [cx] at r1; rw [z1] at r1; cases r1
                  subst hLL
                  exact .inr (.inr ⟨hold j hj, .inl ⟨v1, v2, L1, q3, q1⟩⟩)
              · have hkp := L.keep j hj hjk
                cases hbe2 : b.h.e j with
                | none => exact .inl (hkp.trans hbe2)
                | some f =>
                  by_cases hjc : j ∈ c
                  · rcases hb.inc j hjc with z | ⟨v5, L5, z1, z2, _⟩
                    · rw [z] at hbe2; cases hbe2
                    · obtain ⟨v6, L6, q⟩ := alv j hjc _ _ z2
                      have hLL : L6 = L5 := by
                        rcases T.ids j hj with r | ⟨r, _⟩ | ⟨_, ⟨u1, u2, L7, r1, r2⟩ | ⟨t, xs, ys, r1, r2, _⟩⟩
                        · simp only [cx] at r; rw [q] at r; cases r
                        · simp only [cx] at r; rw [z1] at r; cases r
                        · simp only [cx] at r1 r2
                          rw [z1] at r1; rw [q] at r2
                          injection r1 with r1; injection r1 with _ r1
                          injection r2 with r2; injection r2 with _ r2
                          exact r2.trans r1.symm
                        · simp only [cx] at r1; rw [z1] at r1; cases r1
                      subst hLL
                      exact .inr (.inr ⟨hold j hj, .inl ⟨v6, _, L6, q, hkp.trans z2⟩⟩)
                  · have y1 := (U j hj hjc).1 (by rw [hbe2]; simp)
                    have y2 : s'.h.e j = some f := y1.trans hbe2
                    have y3 : s2.h.e j = some f := hkp.trans hbe2
                    cases f with
                    | box v L => exact .inr (.inr ⟨hold j hj, .inl ⟨v, v, L, y2, y3⟩⟩)
                    | row t xs => exact .inr (.inr ⟨hold j hj, .inr ⟨t, xs, xs, y2, y3, rfl⟩⟩)
                    | rsv => exact .inr (.inl ⟨y2, H'.ent j _ y2⟩)
            exact ⟨bl, cs, el, (hold i hi).trans e1, e2, e3, RepC.tr trl v _ hlow⟩
    · obtain ⟨t, xs, q1, ⟨id, m, q2, q3, q4⟩ | ⟨q2, q3, A, q4⟩⟩ := L.new.row i hi hi2
      · rw [q1] at he; injection he with he; subst he
        exact rowok id t xs q4 q3
      · rw [q1] at he; injection he with he; subst he
        subst q3
        exact ⟨A, 0, q4, Nat.le_refl _, .inl rfl⟩
  · -- apart
    obtain ⟨i', a1, a2, a3⟩ := from_ i bb hi h1
    obtain ⟨j', b1, b2, b3⟩ := from_ j bb hj h2
    have hij := H'.dist i' j' bb a1 b1 a2 b2
    subst hij
    rcases a3 with ⟨_, rfl, a4⟩ | ⟨a4, a5, a6, a7⟩
    · rcases b3 with ⟨_, rfl, _⟩ | ⟨_, _, _, b4⟩
      · rfl
      · rcases a4 with a4 | a4
        · exact absurd rfl (ndis _ a4 _ (hid _ b4))
        · exact absurd (hdead _ (hid _ b4)) a4
    · rcases b3 with ⟨_, rfl, b4⟩ | ⟨b4, b5, b6, _⟩
      · rcases b4 with b4 | b4
        · exact absurd rfl (ndis _ b4 _ (hid _ a7))
        · exact absurd (hdead _ (hid _ a7)) b4
      · exact L.new.inj (List.nodup_append.1 nod).1 i j i' a4 a5 b4 b5 a6 b6
  · obtain ⟨j, h1, h2, _⟩ := from_ i bb hi hbb
    exact H'.own j bb h1 h2
  · have hik : i ∉ ks := fun z => hic (hsub i z)
    exact ⟨L.keep i hi hik, (hold i hi).trans (U i hi hic).2⟩
end Go.PG

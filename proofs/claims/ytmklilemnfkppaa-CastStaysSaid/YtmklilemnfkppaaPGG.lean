/- The evaluator's soundness: addresses of parts, comparisons, arithmetic. -/
import Derived.Test.YtmklilemnfkppaaPGF
set_option linter.all false
namespace Go.PG
open Go.RowKit

variable {Pg : Program} {G : World → Prop} {E : Env} {S : Nat → Prop} {B : Nat} {w0 w : World} {M : Nat → Bk} {ρ : Type} {K : AV → Hp → Option ρ} {r : ρ} {st : St} {a : Act} {o : Oper}

/-- The part's address: of a struct, or of an array at a constant index. -/
theorem rptr_part {c : Cx} {b : Ty} {y : b.D} {q : Σ t : Ty, t.D} {j : Nat} (hq : compD b j y = some q) {v : Value} (hv : RepV c (.rptr (.st b) y) v) :
    ∃ bl of, v = .pointer (some ⟨bl, of, none⟩) ∧ b.nth j = some q.1 ∧ RepV c (.rptr q.1 q.2) (.pointer (some ⟨bl, of + b.off j, none⟩)) := by
  simp only [RepV, Rep1] at hv
  obtain ⟨bl, of, d, hv, hb, hz, hrep, hm⟩ := hv
  injection hv with hv
  simp only [RepD] at hrep
  obtain ⟨hn, c1, cc, c2, rfl, hl, hd⟩ := comp_rep b j y q d hq hrep
  refine ⟨bl, of, hv, hn, ?_⟩
  simp only [RepV, Rep1]
  refine ⟨bl, _, cc, rfl, hb, hz, hd, ?_⟩
  have := mem_part hm
  rwa [hl] at this

theorem fieldAddr_rptr (HE : EnvOk Pg G E) (F : ∀ t, RepV (cx S st.h M w) (st.fr t) (a.tmps.getD t undef)) (H : HInv S B w0 st.h M w) {s : TypeId} {x : Operand} {j : Nat} (ho : o.op = .fieldAddr s x j)
    {b : Ty} {y : b.D} (e : opnd none st.fr x = .rptr (.st b) y) (hty : E.ty s = some (.st b)) {q : Σ t : Ty, t.D} (hq : compD b j y = some q) (hr : K (.rptr q.1 q.2) st.h = some r)
    (ha : isArr E s = false) : Does Pg o a w (Post K r S B w0 st.h M w) := by
  have hx := opnd_rep F none (by intros; simp) x
  rw [e] at hx
  obtain ⟨bl, of, hv, hn, hp⟩ := rptr_part hq hx
  obtain ⟨fs, hu⟩ := HE.struct hty ha
  refine Does.value (v := .pointer (some ⟨bl, of + b.off j, none⟩)) (w' := w) ?_ (Post.same H hr hp)
  simp only [execOp, ho, hv, Sem.run_bind, run_fieldAt (HE.ty s _ hty) hn fs hu, Result.andThen_ok, Sem.run_pure]

/-- An address of one's own, gone on to a part. -/
theorem ptr_part {h : Hp} (H : HInv S B w0 h M w) {id : Nat} {p : List Nat} {ty : TypeId → Option Ty} {s : TypeId} {j : Nat} {v : AV} {L : Ty} (he : h.e id = some (.box v L)) (hp : addPath ty s L p j = true)
    {u : Value} (hu : RepV (cx S h M w) (.ptr id p) u) :
    ∃ b t bl of, ty s = some (.st b) ∧ b.nth j = some t ∧ u = .pointer (some ⟨bl, of, none⟩) ∧ RepV (cx S h M w) (.ptr id (p ++ [j])) (.pointer (some ⟨bl, of + b.off j, none⟩)) := by
  obtain ⟨o, b, t, h1, h2, h3, h4⟩ := addPath_spec hp
  simp only [RepV, Rep1] at hu
  obtain ⟨hid, q, hv, hx⟩ := hu
  injection hv with hv
  rcases hx with hx | ⟨bl, v', L', o', u', hM, he', ho', rfl⟩
  · simp only [cx] at hx; rw [he] at hx; cases hx
  simp only [cx] at he' hM
  rw [he] at he'
  injection he' with he'
  injection he' with e1 e2
  subst e1; subst e2
  rw [h1] at ho'
  injection ho' with ho'
  injection ho' with e1 e2
  subst e1; subst e2
  refine ⟨b, t, bl, o, h2, h3, hv, ?_⟩
  simp only [RepV, Rep1]
  exact ⟨hid, _, rfl, .inr ⟨bl, v, L, _, t, hM, he, h4, rfl⟩⟩

theorem eptr_part {h : Hp} (H : HInv S B w0 h M w) {id : Nat} {i : Int} {p : List Nat} {ty : TypeId → Option Ty} {s : TypeId} {j : Nat} {e : Ty} {xs : List e.D} (he : h.e id = some (.row e xs)) (hp : addPath ty s e p j = true)
    {u : Value} (hu : RepV (cx S h M w) (.eptr id i p) u) :
    ∃ b t bl of, ty s = some (.st b) ∧ b.nth j = some t ∧ u = .pointer (some ⟨bl, of, none⟩) ∧ RepV (cx S h M w) (.eptr id i (p ++ [j])) (.pointer (some ⟨bl, of + b.off j, none⟩)) := by
  obtain ⟨o, b, t, h1, h2, h3, h4⟩ := addPath_spec hp
  simp only [RepV, Rep1] at hu
  obtain ⟨hid, q, hv, hx⟩ := hu
  injection hv with hv
  rcases hx with hx | ⟨bl, o', n, cap, e', xs', q', u', hM, he', h0, hlt, ho', rfl⟩
  · simp only [cx] at hx; rw [he] at hx; cases hx
  simp only [cx] at he' hM
  rw [he] at he'
  injection he' with he'
  injection he' with e1 e2
  subst e1
  have e2 := eq_of_heq e2
  subst e2
  rw [h1] at ho'
  injection ho' with ho'
  injection ho' with e1 e2
  subst e1; subst e2
  refine ⟨b, t, bl, _, h2, h3, hv, ?_⟩
  simp only [RepV, Rep1]
  exact ⟨hid, _, rfl, .inr ⟨bl, o', n, cap, e, xs, _, t, hM, he, h0, hlt, h4, by simp; omega⟩⟩

theorem fieldAddr_ok (HE : EnvOk Pg G E) (F : ∀ t, RepV (cx S st.h M w) (st.fr t) (a.tmps.getD t undef)) (H : HInv S B w0 st.h M w) {s : TypeId} {x : Operand} {j : Nat} (ho : o.op = .fieldAddr s x j)
    (ha : isArr E s = false)
    (hr : (match opnd none st.fr x with
    | .rptr (.st b) y => match decide (E.ty s = some (.st b)), compD b j y with
      | true, some q => K (.rptr q.1 q.2) st.h
      | _, _ => none
    | .ptr id p => match st.h.e id with
      | some (.box _ L) => match addPath E.ty s L p j with
        | true => K (.ptr id (p ++ [j])) st.h
        | false => none
      | _ => none
    | .eptr id i p => match st.h.e id with
      | some (.row e _) => match addPath E.ty s e p j with
        | true => K (.eptr id i (p ++ [j])) st.h
        | false => none
      | _ => none
    | _ => none) = some r) : Does Pg o a w (Post K r S B w0 st.h M w) := by
  have hx := opnd_rep F none (by intros; simp) x
  split at hr
  · rename_i b y e
    split at hr
    · rename_i q hd hq
      exact fieldAddr_rptr HE F H ho e (by simpa using hd) hq hr ha
    · cases hr
  · rename_i id p e
    rw [e] at hx
    split at hr
    · rename_i v L he
      split at hr
      · rename_i hp
        obtain ⟨b, t, bl, of, h1, h2, h3, h4⟩ := ptr_part H he hp hx
        obtain ⟨fs, hu⟩ := HE.struct h1 ha
        refine Does.value (v := .pointer (some ⟨bl, of + b.off j, none⟩)) (w' := w) ?_ (Post.same H hr h4)
        simp only [execOp, ho, h3, Sem.run_bind, run_fieldAt (HE.ty s _ h1) h2 fs hu, Result.andThen_ok, Sem.run_pure]
      · cases hr
    · cases hr
  · rename_i id i p e
    rw [e] at hx
    split at hr
    · rename_i et xs he
      split at hr
      · rename_i hp
        obtain ⟨b, t, bl, of, h1, h2, h3, h4⟩ := eptr_part H he hp hx
        obtain ⟨fs, hu⟩ := HE.struct h1 ha
        refine Does.value (v := .pointer (some ⟨bl, of + b.off j, none⟩)) (w' := w) ?_ (Post.same H hr h4)
        simp only [execOp, ho, h3, Sem.run_bind, run_fieldAt (HE.ty s _ h1) h2 fs hu, Result.andThen_ok, Sem.run_pure]
      · cases hr
    · cases hr
  · cases hr

theorem repV_data {c : Cx} {t : Ty} {x : t.D} {v : Value} (h : RepV c (.data t x) v) : RepDV c.Z c.w t x v := by
  simp only [RepV] at h
  exact h
theorem repV_int {c : Cx} {k : IntKind} {n : Int} {v : Value} (h : RepV c (.data (.int k) n) v) : v = .int k n := by
  simp only [RepV, isSt, RepD] at h
  rcases h with ⟨e, _⟩ | ⟨_, h⟩
  · cases e
  · injection h
theorem repV_bool {c : Cx} {x : Bool} {v : Value} (h : RepV c (.data .bool x) v) : v = .bool x := by
  simp only [RepV, isSt, RepD] at h
  rcases h with ⟨e, _⟩ | ⟨_, h⟩
  · cases e
  · injection h
theorem repV_str {c : Cx} {x : ByteArray} {v : Value} (h : RepV c (.data .str x) v) : v = .string x := by
  simp only [RepV, isSt, RepD] at h
  rcases h with ⟨e, _⟩ | ⟨_, h⟩
  · cases e
  · injection h
theorem rep_int (c : Cx) (k : IntKind) (n : Int) : RepV c (.data (.int k) n) (.int k n) := by simp [RepV, isSt, RepD]
theorem rep_bool (c : Cx) (x : Bool) : RepV c (.data .bool x) (.bool x) := by simp [RepV, isSt, RepD]
theorem rep_str (c : Cx) (x : ByteArray) : RepV c (.data .str x) (.string x) := by simp [RepV, isSt, RepD]

theorem indexS_ok (HE : EnvOk Pg G E) (F : ∀ t, RepV (cx S st.h M w) (st.fr t) (a.tmps.getD t undef)) (H : HInv S B w0 st.h M w) {t : TypeId} {x i : Operand} (ho : o.op = .indexAddr t x i)
    (hr : (match opnd none st.fr x, opnd none st.fr i with
    | .data (.slice e) xs, .data (.int _) n => match decide (E.ty t = some (.slice e)) with
      | true => test (P.inb n (P.len xs)) (K (.rptr e (P.get xs n e.zero)) st.h)
      | false => none
    | .own id, .data (.int _) n => match st.h.e id with
      | some (.row e xs) => match decide (E.ty t = some (.slice e)) with
        | true => test (P.inb n (P.len xs)) (K (.eptr id n []) st.h)
        | false => none
      | _ => none
    | _, _ => none) = some r) : Does Pg o a w (Post K r S B w0 st.h M w) := by
  have hx := opnd_rep F none (by intros; simp) x
  have hi := opnd_rep F none (by intros; simp) i
  split at hr
  · rename_i et xs k n e1 e2
    rw [e1] at hx
    rw [e2] at hi
    have hi := repV_int hi
    split at hr
    · rename_i hd
      obtain ⟨hin, hr⟩ := test_some hr
      have hty : E.ty t = some (.slice et) := by simpa using hd
      obtain ⟨⟨e', hu, he'⟩, _⟩ := HE.ty t _ hty
      obtain ⟨h0, h1⟩ := inb_spec hin
      have hget := toNat_get (d := et.zero) hin
      simp only [RepV, isSt, RepD] at hx
      rcases hx with ⟨q, _⟩ | ⟨_, A, cap, hv, hle, hx⟩
      · cases q
      injection hv with hv
      rcases hx with hx | ⟨b, of, rfl, hb, hz, hel⟩
      · subst hx; simp [P.len] at h1; omega
      obtain ⟨d, hd1, hd2⟩ := hel _ _ hget
      unfold P.len at h1
      refine Does.value (v := .pointer (some ⟨b, of + n.toNat * et.size, none⟩)) (w' := w) ?_ (Post.same H hr ?_)
      · simp only [execOp, ho, hv, hi, Sem.run_bind, run_indexSlice hu he' b of _ cap n k h0 h1, Result.andThen_ok, Sem.run_pure]
      · simp only [RepV, Rep1]
        exact ⟨b, _, d, rfl, hb, hz, hd1, hd2⟩
    · cases hr
  · rename_i id k n e1 e2
    rw [e1] at hx
    rw [e2] at hi
    have hi := repV_int hi
    split at hr
    · rename_i et xs he
      split at hr
      · rename_i hd
        obtain ⟨hin, hr⟩ := test_some hr
        have hty : E.ty t = some (.slice et) := by simpa using hd
        obtain ⟨⟨e', hu, he'⟩, _⟩ := HE.ty t _ hty
        obtain ⟨h0, h1⟩ := inb_spec hin
        unfold P.len at h1
        simp only [RepV, Rep1] at hx
        obtain ⟨hid, A, nn, cap, hv, hx⟩ := hx
        injection hv with hv
        rcases hx with hx | hM
        · simp only [cx] at hx; rw [he] at hx; cases hx
        simp only [cx] at hM hid
        obtain ⟨A', cap', hM', hle, hrow⟩ := H.ent id _ he
        simp only [cx] at hM' hrow
        rw [hM] at hM'
        injection hM' with q1 q2 q3
        subst q1; subst q2; subst q3
        rcases hrow with hc | ⟨_, b, of, cs, el, rfl, hheap, hfit, hel⟩
        · omega
        refine Does.value (v := .pointer (some ⟨b, of + n.toNat * et.size, none⟩)) (w' := w) ?_ (Post.same H hr ?_)
        · simp only [execOp, ho, hv, hi, Sem.run_bind, run_indexSlice hu he' b of _ cap n k h0 h1, Result.andThen_ok, Sem.run_pure]
        · simp only [RepV, Rep1]
          exact ⟨hid, _, rfl, .inr ⟨b, of, _, cap, et, xs, 0, et, hM, he, h0, by omega, rfl, rfl⟩⟩
      · cases hr
    · cases hr
  · cases hr

theorem indexA_ok (HE : EnvOk Pg G E) (F : ∀ t, RepV (cx S st.h M w) (st.fr t) (a.tmps.getD t undef)) (H : HInv S B w0 st.h M w) {t : TypeId} {x i : Operand} (ho : o.op = .indexAddr t x i)
    (har : ∀ b, E.ty t = some (.st b) → ∃ n e, Pg.underlying t = some (.array n e))
    (hr : (match opnd none st.fr x, opnd none st.fr i with
    | .ptr id p, .data (.int _) (.ofNat n) => match st.h.e id with
      | some (.box _ L) => match addPath E.ty t L p n with
        | true => K (.ptr id (p ++ [n])) st.h
        | false => none
      | _ => none
    | .rptr (.st b) y, .data (.int _) (.ofNat n) => match decide (E.ty t = some (.st b)), compD b n y with
      | true, some q => K (.rptr q.1 q.2) st.h
      | _, _ => none
    | _, _ => none) = some r) : Does Pg o a w (Post K r S B w0 st.h M w) := by
  have hx := opnd_rep F none (by intros; simp) x
  have hi := opnd_rep F none (by intros; simp) i
  split at hr
  · rename_i id p k n e1 e2
    rw [e1] at hx
    rw [e2] at hi
    have hi := repV_int hi
    split at hr
    · rename_i v L he
      split at hr
      · rename_i hp
        obtain ⟨b, u, bl, of, h1, h2, h3, h4⟩ := ptr_part H he hp hx
        obtain ⟨nn, e', hu⟩ := har b h1
        refine Does.value (v := .pointer (some ⟨bl, of + b.off n, none⟩)) (w' := w) ?_ (Post.same H hr h4)
        simp only [execOp, ho, h3, hi, Sem.run_bind, Int.ofNat_eq_natCast, run_indexArr (HE.ty t _ h1) h2 nn e' hu, Result.andThen_ok, Sem.run_pure]
      · cases hr
    · cases hr
  · rename_i b y k n e1 e2
    rw [e1] at hx
    rw [e2] at hi
    have hi := repV_int hi
    split at hr
    · rename_i q hd hq
      have hty : E.ty t = some (.st b) := by simpa using hd
      obtain ⟨nn, e', hu⟩ := har b hty
      obtain ⟨bl, of, hv, hn, hp⟩ := rptr_part hq hx
      refine Does.value (v := .pointer (some ⟨bl, of + b.off n, none⟩)) (w' := w) ?_ (Post.same H hr hp)
      simp only [execOp, ho, hv, hi, Sem.run_bind, Int.ofNat_eq_natCast, run_indexArr (HE.ty t _ hty) hn nn e' hu, Result.andThen_ok, Sem.run_pure]
    · cases hr
  · cases hr

/-! ### operators -/
theorem eqGuard_run {op : BinOp} {t : TypeId} {x y : Operand} {u v : Value} (h : (∀ xs, u ≠ .agg xs) ∧ u ≠ .nilIface) (w : World) : (eqGuard op t x y u v).run Pg w = .ok () w := by
  cases op <;> first
    | (simp [eqGuard]; done)
    | (cases u <;> first
        | (simp [eqGuard]; done)
        | exact absurd rfl (h.1 _)
        | exact absurd rfl h.2)

theorem hard_ok (HE : EnvOk Pg G E) (F : ∀ t, RepV (cx S st.h M w) (st.fr t) (a.tmps.getD t undef)) (H : HInv S B w0 st.h M w) {op : BinOp} {t u : TypeId} {x y : Operand} (ho : o.op = .binOp op t x y u) {b : Bool} {v : AV}
    (hv : hardAV op (opnd (E.ty t) st.fr x) (opnd (E.ty t) st.fr y) = some (b, v)) (hb : b = true) (hr : K v st.h = some r) : Does Pg o a w (Post K r S B w0 st.h M w) := by
  subst hb
  have hx := opnd_rep F (E.ty t) (HE.noPair t) x
  have hy := opnd_rep F (E.ty t) (HE.noPair t) y
  generalize hX : opnd (E.ty t) st.fr x = X at *
  generalize hY : opnd (E.ty t) st.fr y = Y at *
  have fin : ∀ (z : Value), (binOp op t (a.eval x) (a.eval y)).run Pg w = .ok z w → (eqGuard op t x y (a.eval x) (a.eval y)).run Pg w = .ok () w → RepV (cx S st.h M w) v z → Does Pg o a w (Post K r S B w0 st.h M w) := by
    intro z h1 h2 h3
    refine Does.value (v := z) (w' := w) ?_ (Post.same H hr h3)
    simp only [execOp, ho, Sem.run_bind, h2, h1, Result.andThen_ok, Sem.run_pure]
  unfold hardAV at hv
  split at hv
  · rename_i k m k' n
    have hx := repV_int hx
    have hy := repV_int hy
    have g : (eqGuard op t x y (a.eval x) (a.eval y)).run Pg w = .ok () w := eqGuard_run (by rw [hx]; simp) w
    split at hv
    · injection hv with hv
      injection hv with hb hv
      subst hv
      have hn : 0 ≤ n := by simpa [P.ile] using hb
      refine fin _ ?_ g (rep_int _ _ _)
      rw [hx, hy]
      simp [binOp, Op.shift, P.wrap, P.shlk, Int.not_lt.2 hn]
    · injection hv with hv
      injection hv with hb hv
      subst hv
      have hn : 0 ≤ n := by simpa [P.ile] using hb
      refine fin _ ?_ g (rep_int _ _ _)
      rw [hx, hy]
      simp [binOp, Op.shift, P.shrk, Int.not_lt.2 hn]
    · split at hv
      case h_2 => cases hv
      rename_i hk
      have hk : k = k' := by simpa using hk
      subst hk
      injection hv with hv
      injection hv with hb hv
      subst hv
      have hn : ¬ n = 0 := by simpa [P.ieq, P.not] using hb
      refine fin _ ?_ g (rep_int _ _ _)
      rw [hx, hy]
      simp [binOp, Op.intDiv, P.wrap, P.quo, hn]
    · split at hv
      case h_2 => cases hv
      rename_i hk
      have hk : k = k' := by simpa using hk
      subst hk
      injection hv with hv
      injection hv with hb hv
      subst hv
      have hn : ¬ n = 0 := by simpa [P.ieq, P.not] using hb
      refine fin _ ?_ g (rep_int _ _ _)
      rw [hx, hy]
      simp [binOp, Op.intDiv, P.rem, hn]
    · cases hv
  · rename_i m n
    have hx := repV_str hx
    have hy := repV_str hy
    have g : (eqGuard op t x y (a.eval x) (a.eval y)).run Pg w = .ok () w := eqGuard_run (by rw [hx]; simp) w
    split at hv
    · injection hv with hv
      injection hv with hb hv
      subst hv
      have hn : ((m.size + n.size : Nat) : Int) ≤ IntKind.i64.max := by simpa [P.sfit] using hb
      refine fin (.string (m ++ n)) ?_ g (by simp [RepV, RepD, isSt, P.scat])
      rw [hx, hy]
      simp only [binOp, Op.stringOp]
      rw [if_neg (Int.not_lt.2 hn)]
      simp
    · cases hv
  · cases hv

theorem binOp_ok (HE : EnvOk Pg G E) (F : ∀ t, RepV (cx S st.h M w) (st.fr t) (a.tmps.getD t undef)) (H : HInv S B w0 st.h M w) {op : BinOp} {t u : TypeId} {x y : Operand} (ho : o.op = .binOp op t x y u)
    (hr : (match eqOk E t (opnd (E.ty t) st.fr x) with
    | true => match binAV op (opnd (E.ty t) st.fr x) (opnd (E.ty t) st.fr y) with
      | some v => K v st.h
      | none => none
    | false => none) = some r) : Does Pg o a w (Post K r S B w0 st.h M w) := by
  have hx := opnd_rep F (E.ty t) (HE.noPair t) x
  have hy := opnd_rep F (E.ty t) (HE.noPair t) y
  split at hr
  case h_2 => cases hr
  rename_i heq
  split at hr
  case h_2 => cases hr
  rename_i v hv
  generalize hX : opnd (E.ty t) st.fr x = X at *
  generalize hY : opnd (E.ty t) st.fr y = Y at *
  have fin : ∀ (z : Value), (binOp op t (a.eval x) (a.eval y)).run Pg w = .ok z w → (eqGuard op t x y (a.eval x) (a.eval y)).run Pg w = .ok () w → RepV (cx S st.h M w) v z → Does Pg o a w (Post K r S B w0 st.h M w) := by
    intro z h1 h2 h3
    refine Does.value (v := z) (w' := w) ?_ (Post.same H hr h3)
    simp only [execOp, ho, Sem.run_bind, h2, h1, Result.andThen_ok, Sem.run_pure]
  unfold binAV at hv
  split at hv
  · rename_i k m k' n
    have hx := repV_int hx
    have hy := repV_int hy
    split at hv
    · rename_i hk
      have hk : k = k' := by simpa using hk
      subst hk
      have g : (eqGuard op t x y (a.eval x) (a.eval y)).run Pg w = .ok () w := eqGuard_run (by rw [hx]; simp) w
      split at hv <;> first
        | (injection hv with hv; subst hv
           refine fin _ ?_ g (rep_int _ _ _)
           rw [hx, hy]
           simp [binOp, Op.intArith, P.wrap, P.add, P.sub, P.mul])
        | (injection hv with hv; subst hv
           refine fin _ ?_ g (rep_bool _ _)
           rw [hx, hy]
           simp [binOp, Op.intCmp, P.ieq, P.ilt, P.ile, P.not, bne])
        | cases hv
    · cases hv
  · rename_i m n
    have hx := repV_str hx
    have hy := repV_str hy
    have g : (eqGuard op t x y (a.eval x) (a.eval y)).run Pg w = .ok () w := eqGuard_run (by rw [hx]; simp) w
    split at hv <;> first
      | (injection hv with hv; subst hv
         refine fin _ ?_ g (rep_bool _ _)
         rw [hx, hy]
         simp [binOp, Op.stringOp, P.seq, P.slt, P.sle, P.not])
      | cases hv
  · rename_i m n
    have hx := repV_bool hx
    have hy := repV_bool hy
    have g : (eqGuard op t x y (a.eval x) (a.eval y)).run Pg w = .ok () w := eqGuard_run (by rw [hx]; simp) w
    have hu : Pg.underlying t = some .bool := by
      simp only [eqOk] at heq
      split at heq
      · rename_i e; exact (HE.ty t _ e).1
      · cases heq
    split at hv <;> first
      | (injection hv with hv; subst hv
         refine fin _ ?_ g (rep_bool _ _)
         rw [hx, hy]
         simp [binOp, Op.equal, Op.maxDepth, run_equalIn_bool' w _ t m n hu, P.beq, P.not])
      | cases hv
  · rename_i b m b' n
    split at hv
    case isFalse => cases hv
    rename_i hb
    subst hb
    split at hv
    case h_2 => cases hv
    rename_i q hq
    simp only [eqOk] at heq
    split at heq
    case h_2 => cases heq
    rename_i row hrow
    split at heq
    case h_2 => cases heq
    rename_i hrt
    have hrt : row.ty = .st b' := by simpa using hrt
    obtain ⟨hE, hne⟩ := HE.eq t row hrow heq
    rw [hrt] at hE hne
    have hx' := repV_data hx
    have hy' := repV_data hy
    have hrun := (equal_ok (P := Pg) (w := w) (.st b')).1 t m n (a.eval x) (a.eval y) q 9999 hE hx' hy' (by simpa only [beqD] using hq) (by omega)
    obtain ⟨_, _, hg, _⟩ := hE
    rcases hx' with ⟨_, xs, ex, _⟩ | ⟨e, _⟩
    case inr => cases e
    rcases hy' with ⟨_, ys, ey, _⟩ | ⟨e, _⟩
    case inr => cases e
    have g : (eqGuard op t x y (a.eval x) (a.eval y)).run Pg w = .ok () w := by rw [ex, ey]; exact run_eqGuard_agg w op t x y xs ys hg
    rw [ex, ey] at hrun
    split at hv <;> first
      | (injection hv with hv; subst hv
         refine fin _ ?_ g (rep_bool _ _)
         rw [ex, ey]
         simp [run_eql_struct, run_neq_struct, hrun, P.not])
      | cases hv
  · cases hv

theorem unOp_ok (F : ∀ t, RepV (cx S st.h M w) (st.fr t) (a.tmps.getD t undef)) (H : HInv S B w0 st.h M w) {op : UnOp} {t : TypeId} {x : Operand} (ho : o.op = .unOp op t x)
    (hr : (match (generalizing := false) op, opnd none st.fr x with
    | .not, .data .bool b => K (.data .bool (P.not b)) st.h
    | .neg, .data (.int k) n => K (wrapAV k (P.sub 0 n)) st.h
    | _, _ => none) = some r) : Does Pg o a w (Post K r S B w0 st.h M w) := by
  have hx := opnd_rep F none (by intros; simp) x
  cases op with
  | not =>
    split at hr
    · rename_i b _ e
      rw [e] at hx
      have hx := repV_bool hx
      refine Does.value (v := .bool (!b)) (w' := w) ?_ (Post.same H hr (rep_bool _ _))
      simp only [execOp, ho, hx, Op.unary, Sem.run_bind, Sem.run_pure, Result.andThen_ok]
    · rename_i q _; cases q
    · cases hr
  | neg =>
    split at hr
    · rename_i q _; cases q
    · rename_i k n _ e
      rw [e] at hx
      have hx := repV_int hx
      refine Does.value (v := .int k (k.wrap (0 - n))) (w' := w) ?_ (Post.same H hr (rep_int _ _ _))
      simp only [execOp, ho, hx, Op.unary, Op.intArith, Sem.run_bind, Sem.run_pure, Result.andThen_ok]
    · cases hr
  | _ =>
    split at hr
    · rename_i q _; cases q
    · rename_i q _; cases q
    · cases hr

theorem convert_ok (HE : EnvOk Pg G E) (F : ∀ t, RepV (cx S st.h M w) (st.fr t) (a.tmps.getD t undef)) (H : HInv S B w0 st.h M w) {s t : TypeId} {x : Operand} (ho : o.op = .convert s t x)
    (hr : (match E.ty s, E.ty t, opnd none st.fr x with
    | some (.int _), some (.int k), .data (.int _) n => K (wrapAV k n) st.h
    | some .str, some .str, .data .str s => K (.data .str s) st.h
    | _, _, _ => none) = some r) : Does Pg o a w (Post K r S B w0 st.h M w) := by
  have hx := opnd_rep F none (by intros; simp) x
  split at hr
  · rename_i k0 k k' n h1 h2 e
    rw [e] at hx
    have hx := repV_int hx
    refine Does.value (v := .int k (k.wrap n)) (w' := w) ?_ (Post.same H hr (rep_int _ _ _))
    simp only [execOp, ho, hx, convert, Conv.intToInt, Sem.run_bind, run_underlying (HE.ty s _ h1).1, run_underlying (HE.ty t _ h2).1, Sem.run_pure, Result.andThen_ok]
  · rename_i z h1 h2 e
    rw [e] at hx
    have hx := repV_str hx
    refine Does.value (v := .string z) (w' := w) ?_ (Post.same H hr (rep_str _ _))
    simp only [execOp, ho, hx, convert, Sem.run_bind, run_underlying (HE.ty s _ h1).1, run_underlying (HE.ty t _ h2).1, Sem.run_pure, Result.andThen_ok]
  · cases hr
end Go.PG

/- Lemmas for the claim. -/
import Derived.Test.YtoicfdfjjnfgaaaGreatDoorG1
import Derived.Laws.NewFold
import Derived.WalkSpells
import Derived.Great.BuildSlice
import Derived.Lib.AppendZeros
import Derived.MapKept
import Derived.Carry
set_option linter.all false
section
namespace Go.PG
open Go.RowKit
variable {Pg : Program} {G : World → Prop} {E : Env} {S : Nat → Prop} {B : Nat} {w0 w : World} {M : Nat → Bk} {ρ : Type} {K : AV → Hp → Option ρ} {r : ρ} {st : St} {a : Act} {o : Oper}
theorem rptr_part {c : Cx} {b : Ty} {y : b.D} {q : Σ t : Ty, t.D} {j : Nat} (hq : compD b j y = some q) {v : Value} (hv : RepV c (.rptr (.st b) y) v) :
  ∃ bl of, v = .pointer (some ⟨bl, of, none⟩) ∧ b.nth j = some q.1 ∧ RepV c (.rptr q.1 q.2) (.pointer (some ⟨bl, of + b.off j, none⟩)) := by
 simp only [RepV, Rep1] at hv
 obtain ⟨bl, of, d, hv, hb, hz, hrep, hm⟩ := hv
 injection hv with hv
 simp only [RepD] at hrep
 obtain ⟨hn, c1, cc, c2, rfl, hl, hd⟩ := comp_rep b j y q d hq hrep
 refine ⟨bl, of, hv, hn, ?_⟩
 simp only [RepV, Rep1]
 refine ⟨bl, _, cc, rfl, hb, hz, hd, ?_⟩
 have := mem_part hm
 rwa [hl] at this
theorem fieldAddr_rptr (HE : EnvOk Pg G E) (F : ∀ t, RepV (cx S st.h M w) (st.fr t) (a.tmps.getD t undef)) (H : HInv S B w0 st.h M w) {s : TypeId} {x : Operand} {j : Nat} (ho : o.op = .fieldAddr s x j)
  {b : Ty} {y : b.D} (e : opnd none st.fr x = .rptr (.st b) y) (hty : E.ty s = some (.st b)) {q : Σ t : Ty, t.D} (hq : compD b j y = some q) (hr : K (.rptr q.1 q.2) st.h = some r)
  (ha : isArr E s = false) : Does Pg o a w (Post K r S B w0 st.h M w) := by
 have hx := opnd_rep F none (by intros; simp) x
 rw [e] at hx
 obtain ⟨bl, of, hv, hn, hp⟩ := rptr_part hq hx
 obtain ⟨fs, hu⟩ := HE.struct hty ha
 refine Does.value (v := .pointer (some ⟨bl, of + b.off j, none⟩)) (w' := w) ?_ (Post.same H hr hp)
 simp only [execOp, ho, hv, Sem.run_bind, run_fieldAt (HE.ty s _ hty) hn fs hu, Result.andThen_ok, Sem.run_pure]
theorem ptr_part {h : Hp} (H : HInv S B w0 h M w) {id : Nat} {p : List Nat} {ty : TypeId → Option Ty} {s : TypeId} {j : Nat} {v : AV} {L : Ty} (he : h.e id = some (.box v L)) (hp : addPath ty s L p j = true)
  {u : Value} (hu : RepV (cx S h M w) (.ptr id p) u) :
  ∃ b t bl of, ty s = some (.st b) ∧ b.nth j = some t ∧ u = .pointer (some ⟨bl, of, none⟩) ∧ RepV (cx S h M w) (.ptr id (p ++ [j])) (.pointer (some ⟨bl, of + b.off j, none⟩)) := by
 obtain ⟨o, b, t, h1, h2, h3, h4⟩ := addPath_spec hp
 simp only [RepV, Rep1] at hu
 obtain ⟨hid, q, hv, hx⟩ := hu
 injection hv with hv
 rcases hx with hx | ⟨bl, v', L', o', u', hM, he', ho', rfl⟩
 ·simp only [cx] at hx; rw [he] at hx; cases hx
 simp only [cx] at he' hM
 rw [he] at he'
 injection he' with he'
 injection he' with e1 e2
 subst e1; subst e2
 rw [h1] at ho'
 injection ho' with ho'
 injection ho' with e1 e2
 subst e1; subst e2
 refine ⟨b, t, bl, o, h2, h3, hv, ?_⟩
 simp only [RepV, Rep1]
 exact ⟨hid, _, rfl, .inr ⟨bl, v, L, _, t, hM, he, h4, rfl⟩⟩
theorem eptr_part {h : Hp} (H : HInv S B w0 h M w) {id : Nat} {i : Int} {p : List Nat} {ty : TypeId → Option Ty} {s : TypeId} {j : Nat} {e : Ty} {xs : List e.D} (he : h.e id = some (.row e xs)) (hp : addPath ty s e p j = true)
  {u : Value} (hu : RepV (cx S h M w) (.eptr id i p) u) :
  ∃ b t bl of, ty s = some (.st b) ∧ b.nth j = some t ∧ u = .pointer (some ⟨bl, of, none⟩) ∧ RepV (cx S h M w) (.eptr id i (p ++ [j])) (.pointer (some ⟨bl, of + b.off j, none⟩)) := by
 obtain ⟨o, b, t, h1, h2, h3, h4⟩ := addPath_spec hp
 simp only [RepV, Rep1] at hu
 obtain ⟨hid, q, hv, hx⟩ := hu
 injection hv with hv
 rcases hx with hx | ⟨bl, o', n, cap, e', xs', q', u', hM, he', h0, hlt, ho', rfl⟩
 ·simp only [cx] at hx; rw [he] at hx; cases hx
 simp only [cx] at he' hM
 rw [he] at he'
 injection he' with he'
 injection he' with e1 e2
 subst e1
 have e2 := eq_of_heq e2
 subst e2
 rw [h1] at ho'
 injection ho' with ho'
 injection ho' with e1 e2
 subst e1; subst e2
 refine ⟨b, t, bl, _, h2, h3, hv, ?_⟩
 simp only [RepV, Rep1]
 exact ⟨hid, _, rfl, .inr ⟨bl, o', n, cap, e, xs, _, t, hM, he, h0, hlt, h4, by simp <;> omega⟩⟩
theorem fieldAddr_ok (HE : EnvOk Pg G E) (F : ∀ t, RepV (cx S st.h M w) (st.fr t) (a.tmps.getD t undef)) (H : HInv S B w0 st.h M w) {s : TypeId} {x : Operand} {j : Nat} (ho : o.op = .fieldAddr s x j)
  (ha : isArr E s = false)
  (hr : (match opnd none st.fr x with
  | .rptr (.st b) y => match decide (E.ty s = some (.st b)), compD b j y with
   | true, some q => K (.rptr q.1 q.2) st.h
   | _, _ => none
  | .ptr id p => match st.h.e id with
   | some (.box _ L) => match addPath E.ty s L p j with
    | true => K (.ptr id (p ++ [j])) st.h
    | false => none
   | _ => none
  | .eptr id i p => match st.h.e id with
   | some (.row e _) => match addPath E.ty s e p j with
    | true => K (.eptr id i (p ++ [j])) st.h
    | false => none
   | _ => none
  | .tptr id i m => match st.h.e id, E.ty s, Nat.beq j 0 with
   | some _, some (.st _), true => K (.tptr id i m) st.h
   | _, _, _ => none
  | _ => none) = some r) : Does Pg o a w (Post K r S B w0 st.h M w) := by
 have hx := opnd_rep F none (by intros; simp) x
 split at hr
 ·rename_i b y e
  split at hr
  ·rename_i q hd hq
   exact fieldAddr_rptr HE F H ho e (by simpa using hd) hq hr ha
  ·cases hr
 ·rename_i id p e
  rw [e] at hx
  split at hr
  ·rename_i v L he
   split at hr
   ·rename_i hp
    obtain ⟨b, t, bl, of, h1, h2, h3, h4⟩ := ptr_part H he hp hx
    obtain ⟨fs, hu⟩ := HE.struct h1 ha
    refine Does.value (v := .pointer (some ⟨bl, of + b.off j, none⟩)) (w' := w) ?_ (Post.same H hr h4)
    simp only [execOp, ho, h3, Sem.run_bind, run_fieldAt (HE.ty s _ h1) h2 fs hu, Result.andThen_ok, Sem.run_pure]
   ·cases hr
  ·cases hr
 ·rename_i id i p e
  rw [e] at hx
  split at hr
  ·rename_i et xs he
   split at hr
   ·rename_i hp
    obtain ⟨b, t, bl, of, h1, h2, h3, h4⟩ := eptr_part H he hp hx
    obtain ⟨fs, hu⟩ := HE.struct h1 ha
    refine Does.value (v := .pointer (some ⟨bl, of + b.off j, none⟩)) (w' := w) ?_ (Post.same H hr h4)
    simp only [execOp, ho, h3, Sem.run_bind, run_fieldAt (HE.ty s _ h1) h2 fs hu, Result.andThen_ok, Sem.run_pure]
   ·cases hr
  ·cases hr
 ·rename_i id i m e
  have hx0 := hx
  rw [e] at hx
  split at hr
  ·rename_i en b he hty hj
   have hj := Nat.eq_of_beq_eq_true hj
   subst hj
   simp only [RepV, Rep1] at hx
   obtain ⟨hid, z, hv, hx⟩ := hx
   rcases hx with hx | ⟨bl, of, n, cap, ex, h1, h2, h3, rfl⟩
   ·simp only [cx] at hx; rw [he] at hx; cases hx
   injection hv with hv _
   obtain ⟨fs, hu⟩ := HE.struct hty ha
   obtain ⟨t, ht⟩ : ∃ t, b.nth 0 = some t := by cases b <;> exact ⟨_, rfl⟩
   have hoff : b.off 0 = 0 := by cases b <;> rfl
   have hrun := run_fieldAt (HE.ty s _ hty) ht fs hu bl (of + i.toNat * m) w
   rw [hoff, Nat.add_zero] at hrun
   refine Does.value (v := .pointer (some ⟨bl, of + i.toNat * m, none⟩)) (w' := w) ?_ (Post.same H hr ?_)
   ·simp only [execOp, ho, hv, Sem.run_bind, hrun, Result.andThen_ok, Sem.run_pure]
   ·simp only [RepV, Rep1]
    exact ⟨hid, _, rfl, .inr ⟨bl, of, n, cap, ex, h1, h2, h3, rfl⟩⟩
  ·cases hr
 ·cases hr
theorem repV_data {c : Cx} {t : Ty} {x : t.D} {v : Value} (h : RepV c (.data t x) v) : RepDV c.Z c.w t x v := by
 simp only [RepV] at h
 exact h
theorem repV_int {c : Cx} {k : IntKind} {n : Int} {v : Value} (h : RepV c (.data (.int k) n) v) : v = .int k n := by
 simp only [RepV, isSt, RepD] at h
 rcases h with ⟨e, _⟩ | ⟨_, h⟩
 ·cases e
 ·injection h
theorem repV_bool {c : Cx} {x : Bool} {v : Value} (h : RepV c (.data .bool x) v) : v = .bool x := by
 simp only [RepV, isSt, RepD] at h
 rcases h with ⟨e, _⟩ | ⟨_, h⟩
 ·cases e
 ·injection h
theorem repV_str {c : Cx} {x : ByteArray} {v : Value} (h : RepV c (.data .str x) v) : v = .string x := by
 simp only [RepV, isSt, RepD] at h
 rcases h with ⟨e, _⟩ | ⟨_, h⟩
 ·cases e
 ·injection h
theorem rep_int (c : Cx) (k : IntKind) (n : Int) : RepV c (.data (.int k) n) (.int k n) := by simp [RepV, isSt, RepD]
theorem rep_bool (c : Cx) (x : Bool) : RepV c (.data .bool x) (.bool x) := by simp [RepV, isSt, RepD]
theorem rep_str (c : Cx) (x : ByteArray) : RepV c (.data .str x) (.string x) := by simp [RepV, isSt, RepD]
theorem indexS_ok (HE : EnvOk Pg G E) (F : ∀ t, RepV (cx S st.h M w) (st.fr t) (a.tmps.getD t undef)) (H : HInv S B w0 st.h M w) {t : TypeId} {x i : Operand} (ho : o.op = .indexAddr t x i)
  (hr : (match opnd none st.fr x, opnd none st.fr i with
  | .data (.slice e) xs, .data (.int _) n => match decide (E.ty t = some (.slice e)) with
   | true => test (P.inb n (P.len xs)) (K (.rptr e.un (unD e (P.get xs n e.zero))) st.h)
   | false => none
  | .own id, .data (.int _) n => match st.h.e id with
   | some (.row e xs) => match decide (E.ty t = some (.slice e)) with
    | true => test (P.inb n (P.len xs)) (K (.eptr id n []) st.h)
    | false => none
   | _ => none
  | .view id a m, .data (.int _) n => match st.h.e id with
   | some (.row e _) => match decide (E.ty t = some (.slice e)) with
    | true => test (P.inb n m) (K (.eptr id (P.add a n) []) st.h)
    | false => none
   | _ => none
  | _, _ => none) = some r) : Does Pg o a w (Post K r S B w0 st.h M w) := by
 have hx := opnd_rep F none (by intros; simp) x
 have hi := opnd_rep F none (by intros; simp) i
 split at hr
 ·rename_i et xs k n e1 e2
  rw [e1] at hx
  rw [e2] at hi
  have hi := repV_int hi
  split at hr
  ·rename_i hd
   obtain ⟨hin, hr⟩ := test_some hr
   have hty : E.ty t = some (.slice et) := by simpa using hd
   obtain ⟨⟨e', hu, he'⟩, _⟩ := HE.ty t _ hty
   obtain ⟨h0, h1⟩ := inb_spec hin
   have hget := toNat_get (d := et.zero) hin
   simp only [RepV, isSt, RepD] at hx
   rcases hx with ⟨q, _⟩ | ⟨_, A, cap, hv, hle, hx⟩
   ·cases q
   injection hv with hv
   rcases hx with hx | ⟨b, of, rfl, hb, hz, hel⟩
   ·subst hx; simp [P.len] at h1; omega
   obtain ⟨d, hd1, hd2⟩ := hel _ _ hget
   unfold P.len at h1
   refine Does.value (v := .pointer (some ⟨b, of + n.toNat * et.size, none⟩)) (w' := w) ?_ (Post.same H hr ?_)
   ·simp only [execOp, ho, hv, hi, Sem.run_bind, run_indexSlice hu he' b of _ cap n k h0 h1, Result.andThen_ok, Sem.run_pure]
   ·simp only [RepV, Rep1]
    exact ⟨b, _, d, rfl, hb, hz, hd1.un, hd2⟩
  ·cases hr
 ·rename_i id k n e1 e2
  rw [e1] at hx
  rw [e2] at hi
  have hi := repV_int hi
  split at hr
  ·rename_i et xs he
   split at hr
   ·rename_i hd
    obtain ⟨hin, hr⟩ := test_some hr
    have hty : E.ty t = some (.slice et) := by simpa using hd
    obtain ⟨⟨e', hu, he'⟩, _⟩ := HE.ty t _ hty
    obtain ⟨h0, h1⟩ := inb_spec hin
    unfold P.len at h1
    simp only [RepV, Rep1] at hx
    obtain ⟨hid, A, nn, cap, hv, hx⟩ := hx
    injection hv with hv
    rcases hx with hx | hM
    ·simp only [cx] at hx; rw [he] at hx; cases hx
    simp only [cx] at hM hid
    obtain ⟨A', cap', hM', hle, hrow⟩ := H.ent id _ he
    simp only [cx] at hM' hrow
    rw [hM] at hM'
    injection hM' with q1 q2 q3
    subst q1; subst q2; subst q3
    rcases hrow with hc | ⟨_, b, of, cs, el, rfl, hheap, hfit, hel⟩
    ·omega
    refine Does.value (v := .pointer (some ⟨b, of + n.toNat * et.size, none⟩)) (w' := w) ?_ (Post.same H hr ?_)
    ·simp only [execOp, ho, hv, hi, Sem.run_bind, run_indexSlice hu he' b of _ cap n k h0 h1, Result.andThen_ok, Sem.run_pure]
    ·simp only [RepV, Rep1]
     exact ⟨hid, _, rfl, .inr ⟨b, of, _, cap, et, xs, 0, et, hM, he, h0, by omega, rfl, rfl⟩⟩
   ·cases hr
  ·cases hr
 ·rename_i id av m k n e1 e2
  rw [e1] at hx
  rw [e2] at hi
  have hi := repV_int hi
  split at hr
  ·rename_i et xs he
   split at hr
   ·rename_i hd
    obtain ⟨hin, hr⟩ := test_some hr
    have hty : E.ty t = some (.slice et) := by simpa using hd
    obtain ⟨⟨e', hu, he'⟩, _⟩ := HE.ty t _ hty
    obtain ⟨h0, h1⟩ := inb_spec hin
    simp only [RepV, Rep1] at hx
    obtain ⟨hid, z, mm, cap', hv, hn, ha, hm, hx⟩ := hx
    injection hv with hv
    rcases hx with hx | ⟨A, len, cap, e3, xs3, h3, h4, h5, h6, h7⟩
    ·simp only [cx] at hx; rw [he] at hx; cases hx
    have h4' : st.h.e id = some (.row e3 xs3) := h4
    rw [he] at h4'
    injection h4' with h4'
    injection h4' with g1 g2
    subst g1
    have g2 := eq_of_heq g2
    subst g2
    have h7 : z = A.map (·.add (av.toNat * et.size)) := by rcases h7 with h7 | h7; omega; exact h7
    obtain ⟨A', capp, hM', hle, hrow⟩ := H.ent id _ he
    have h3' := h3
    simp only [cx] at hM' hrow h3'
    rw [h3'] at hM'
    injection hM' with q1 q2 q3
    subst q1; subst q3
    rcases hrow with hc | ⟨_, b, of, cs, el, rfl, hheap, hfit, hel⟩
    ·omega
    have hz : z = some ⟨b, of + av.toNat * et.size, none⟩ := by rw [h7]; simp [Addr.add_mid]
    refine Does.value (v := .pointer (some ⟨b, (of + av.toNat * et.size) + n.toNat * et.size, none⟩)) (w' := w) ?_ (Post.same H hr ?_)
    ·simp only [execOp, ho, hv, hz, hi, Sem.run_bind, run_indexSlice hu he' b (of + av.toNat * et.size) mm cap' n k h0 (by rw [hn] at h1; exact h1), Result.andThen_ok, Sem.run_pure]
    ·simp only [RepV, Rep1]
     have e3 : (P.add av n).toNat = av.toNat + n.toNat := by simp only [P.add]; omega
     refine ⟨hid, _, rfl, .inr ⟨b, of, len, cap, et, xs, 0, et, h3, h4, by simp only [P.add]; omega, by rw [e3]; omega, rfl, ?_⟩⟩
     rw [e3, Nat.add_mul]
     simp [Nat.add_assoc]
   ·cases hr
  ·cases hr
 ·cases hr
theorem evPick_spec {ty : TypeId → Option Ty} {t : TypeId} {L : Ty} {id : Nat} {p : List Nat} {n : Int} {h : Hp} {K : AV → Hp → Option ρ} : ∀ (m j : Nat), evPick ty t L id p n h K m j = some r →
  ∃ i : Nat, n = (i : Int) ∧ addPath ty t L p i = true ∧ K (.ptr id (p ++ [i])) h = some r ∧ ∀ {σ : Type} (h2 : Hp) (K' : AV → Hp → Option σ), evPick ty t L id p n h2 K' m j = K' (.ptr id (p ++ [i])) h2 := by
 intro m
 induction m with
 | zero => intro j hr; simp [evPick] at hr
 | succ m ih =>
  intro j hr
  simp only [evPick] at hr
  cases hb : P.ieq n (Int.ofNat j) with
  | true =>
   simp only [hb, P.cond_def] at hr
   split at hr
   case h_2 => cases hr
   rename_i hp
   have : n = (j : Int) := by simpa [P.ieq_def] using hb
   exact ⟨j, this, hp, hr, fun h2 K' => by simp only [evPick, hp, hb, P.cond_def]⟩
  | false =>
   simp only [hb, P.cond_def] at hr
   obtain ⟨i, q1, q2, q3, q4⟩ := ih (j + 1) hr
   exact ⟨i, q1, q2, q3, fun h2 K' => by simp only [evPick, hb, P.cond_def]; exact q4 h2 K'⟩
theorem indexA_ok (HE : EnvOk Pg G E) (F : ∀ t, RepV (cx S st.h M w) (st.fr t) (a.tmps.getD t undef)) (H : HInv S B w0 st.h M w) {t : TypeId} {x i : Operand} (ho : o.op = .indexAddr t x i)
  (har : ∀ b, E.ty t = some (.st b) → ∃ n e, Pg.underlying t = some (.array n e))
  (hr : (match opnd none st.fr x, opnd none st.fr i with
  | .ptr id p, .data (.int _) n => match st.h.e id with
   | some (.box _ L) => evPick E.ty t L id p n st.h K (widthAt L p) 0
   | _ => none
  | .rptr (.st b) y, .data (.int _) (.ofNat n) => match decide (E.ty t = some (.st b)), compD b n y with
   | true, some q => K (.rptr q.1 q.2) st.h
   | _, _ => none
  | _, _ => none) = some r) : Does Pg o a w (Post K r S B w0 st.h M w) := by
 have hx := opnd_rep F none (by intros; simp) x
 have hi := opnd_rep F none (by intros; simp) i
 split at hr
 ·rename_i id p k n e1 e2
  rw [e1] at hx
  rw [e2] at hi
  have hi := repV_int hi
  split at hr
  ·rename_i v L he
   obtain ⟨j, rfl, hp, hr, _⟩ := evPick_spec _ _ hr
   obtain ⟨b, u, bl, of, h1, h2, h3, h4⟩ := ptr_part H he hp hx
   obtain ⟨nn, e', hu⟩ := har b h1
   refine Does.value (v := .pointer (some ⟨bl, of + b.off j, none⟩)) (w' := w) ?_ (Post.same H hr h4)
   simp only [execOp, ho, h3, hi, Sem.run_bind, run_indexArr (HE.ty t _ h1) h2 nn e' hu, Result.andThen_ok, Sem.run_pure]
  ·cases hr
 ·rename_i b y k n e1 e2
  rw [e1] at hx
  rw [e2] at hi
  have hi := repV_int hi
  split at hr
  ·rename_i q hd hq
   have hty : E.ty t = some (.st b) := by simpa using hd
   obtain ⟨nn, e', hu⟩ := har b hty
   obtain ⟨bl, of, hv, hn, hp⟩ := rptr_part hq hx
   refine Does.value (v := .pointer (some ⟨bl, of + b.off n, none⟩)) (w' := w) ?_ (Post.same H hr hp)
   simp only [execOp, ho, hv, hi, Sem.run_bind, Int.ofNat_eq_natCast, run_indexArr (HE.ty t _ hty) hn nn e' hu, Result.andThen_ok, Sem.run_pure]
  ·cases hr
 ·cases hr
theorem eqGuard_run {op : BinOp} {t : TypeId} {x y : Operand} {u v : Value} (h : (∀ xs, u ≠ .agg xs) ∧ u ≠ .nilIface) (w : World) : (eqGuard op t x y u v).run Pg w = .ok () w := by
 cases op <;> first
  | (simp [eqGuard]; done)
  | (cases u <;> first
    | (simp [eqGuard]; done)
    | exact absurd rfl (h.1 _)
    | exact absurd rfl h.2)
theorem hard_ok (HE : EnvOk Pg G E) (F : ∀ t, RepV (cx S st.h M w) (st.fr t) (a.tmps.getD t undef)) (H : HInv S B w0 st.h M w) {op : BinOp} {t u : TypeId} {x y : Operand} (ho : o.op = .binOp op t x y u) {b : Bool} {v : AV}
  (hv : hardAV op (opnd (E.ty t) st.fr x) (opnd (E.ty t) st.fr y) = some (b, v)) (hb : b = true) (hr : K v st.h = some r) : Does Pg o a w (Post K r S B w0 st.h M w) := by
 subst hb
 have hx := opnd_rep F (E.ty t) (HE.noPair t) x
 have hy := opnd_rep F (E.ty t) (HE.noPair t) y
 generalize hX : opnd (E.ty t) st.fr x = X at *
 generalize hY : opnd (E.ty t) st.fr y = Y at *
 have fin : ∀ (z : Value), (binOp op t (a.eval x) (a.eval y)).run Pg w = .ok z w → (eqGuard op t x y (a.eval x) (a.eval y)).run Pg w = .ok () w → RepV (cx S st.h M w) v z → Does Pg o a w (Post K r S B w0 st.h M w) := by
  intro z h1 h2 h3
  refine Does.value (v := z) (w' := w) ?_ (Post.same H hr h3)
  simp only [execOp, ho, Sem.run_bind, h2, h1, Result.andThen_ok, Sem.run_pure]
 unfold hardAV at hv
 split at hv
 ·rename_i k m k' n
  have hx := repV_int hx
  have hy := repV_int hy
  have g : (eqGuard op t x y (a.eval x) (a.eval y)).run Pg w = .ok () w := eqGuard_run (by rw [hx]; simp) w
  split at hv
  ·injection hv with hv
   injection hv with hb hv
   subst hv
   have hn : 0 ≤ n := by simpa [P.ile_def] using hb
   refine fin _ ?_ g (rep_int _ _ _)
   rw [hx, hy]
   simp [binOp, Op.shift, P.wrap_def, P.shlk, Int.not_lt.2 hn]
  ·injection hv with hv
   injection hv with hb hv
   subst hv
   have hn : 0 ≤ n := by simpa [P.ile_def] using hb
   refine fin _ ?_ g (rep_int _ _ _)
   rw [hx, hy]
   simp [binOp, Op.shift, P.shrk, Int.not_lt.2 hn]
  ·split at hv
   case h_2 => cases hv
   rename_i hk
   have hk : k = k' := by simpa using hk
   subst hk
   injection hv with hv
   injection hv with hb hv
   subst hv
   have hn : ¬ n = 0 := by simpa [P.ieq_def, P.not] using hb
   refine fin _ ?_ g (rep_int _ _ _)
   rw [hx, hy]
   simp [binOp, Op.intDiv, P.wrap_def, P.quo, hn]
  ·split at hv
   case h_2 => cases hv
   rename_i hk
   have hk : k = k' := by simpa using hk
   subst hk
   injection hv with hv
   injection hv with hb hv
   subst hv
   have hn : ¬ n = 0 := by simpa [P.ieq_def, P.not] using hb
   refine fin _ ?_ g (rep_int _ _ _)
   rw [hx, hy]
   simp [binOp, Op.intDiv, P.rem, hn]
  ·cases hv
 ·rename_i m n
  have hx := repV_str hx
  have hy := repV_str hy
  have g : (eqGuard op t x y (a.eval x) (a.eval y)).run Pg w = .ok () w := eqGuard_run (by rw [hx]; simp) w
  split at hv
  ·injection hv with hv
   injection hv with hb hv
   subst hv
   have hn : ((m.size + n.size : Nat) : Int) ≤ IntKind.i64.max := by
    have := Nat.le_of_ble_eq_true hb
    rw [show IntKind.i64.max = 9223372036854775807 from rfl]
    omega
   refine fin (.string (m ++ n)) ?_ g (by simp [RepV, RepD, isSt, P.scat_eq])
   rw [hx, hy]
   simp only [binOp, Op.stringOp]
   rw [if_neg (Int.not_lt.2 hn)]
   simp
  ·cases hv
 ·cases hv
theorem binOp_ok (HE : EnvOk Pg G E) (F : ∀ t, RepV (cx S st.h M w) (st.fr t) (a.tmps.getD t undef)) (H : HInv S B w0 st.h M w) {op : BinOp} {t u : TypeId} {x y : Operand} (ho : o.op = .binOp op t x y u)
    (hr : (match eqOk E t (opnd (E.ty t) st.fr x) with
    | true => match binAV op (opnd (E.ty t) st.fr x) (opnd (E.ty t) st.fr y) with
      | some v => K v st.h
      | none => none
    | false => none) = some r) : Does Pg o a w (Post K r S B w0 st.h M w) := by
  have hx := opnd_rep F (E.ty t) (HE.noPair t) x
  have hy := opnd_rep F (E.ty t) (HE.noPair t) y
  split at hr
  case h_2 => cases hr
  rename_i heq
  split at hr
  case h_2 => cases hr
  rename_i v hv
  generalize hX : opnd (E.ty t) st.fr x = X at *
  generalize hY : opnd (E.ty t) st.fr y = Y at *
  have fin : ∀ (z : Value), (binOp op t (a.eval x) (a.eval y)).run Pg w = .ok z w → (eqGuard op t x y (a.eval x) (a.eval y)).run Pg w = .ok () w → RepV (cx S st.h M w) v z → Does Pg o a w (Post K r S B w0 st.h M w) := by
    intro z h1 h2 h3
    refine Does.value (v := z) (w' := w) ?_ (Post.same H hr h3)
    simp only [execOp, ho, Sem.run_bind, h2, h1, Result.andThen_ok, Sem.run_pure]
  unfold binAV at hv
  split at hv
  · rename_i k m k' n
    have hx := repV_int hx
    have hy := repV_int hy
    split at hv
    · rename_i hk
      have hk : k = k' := by simpa using hk
      subst hk
      have g : (eqGuard op t x y (a.eval x) (a.eval y)).run Pg w = .ok () w := eqGuard_run (by rw [hx]; simp) w
      split at hv <;> first
        | (injection hv with hv; subst hv
           refine fin _ ?_ g (rep_int _ _ _)
           rw [hx, hy]
           simp [binOp, Op.intArith, P.wrap_def, P.add, P.sub, P.mul])
        | (injection hv with hv; subst hv
           refine fin _ ?_ g (rep_bool _ _)
           rw [hx, hy]
           simp [binOp, Op.intCmp, P.ieq_def, P.ilt_def, P.ile_def, P.not, bne])
        | cases hv
    · cases hv
  · rename_i m n
    have hx := repV_str hx
    have hy := repV_str hy
    have g : (eqGuard op t x y (a.eval x) (a.eval y)).run Pg w = .ok () w := eqGuard_run (by rw [hx]; simp) w
    split at hv <;> first
      | (injection hv with hv; subst hv
         refine fin _ ?_ g (rep_bool _ _)
         rw [hx, hy]
         simp [binOp, Op.stringOp, P.seq_eq, P.slt, P.sle, P.not])
      | cases hv
  · rename_i m n
    have hx := repV_bool hx
    have hy := repV_bool hy
    have g : (eqGuard op t x y (a.eval x) (a.eval y)).run Pg w = .ok () w := eqGuard_run (by rw [hx]; simp) w
    have hu : Pg.underlying t = some .bool := by
      simp only [eqOk] at heq
      split at heq
      · rename_i e; exact (HE.ty t _ e).1
      · cases heq
    split at hv <;> first
      | (injection hv with hv; subst hv
         refine fin _ ?_ g (rep_bool _ _)
         rw [hx, hy]
         simp [binOp, Op.equal, Op.maxDepth, run_equalIn_bool' w _ t m n hu, P.beq, P.not])
      | cases hv
  · rename_i b m b' n
    split at hv
    case isFalse => cases hv
    rename_i hb
    subst hb
    split at hv
    case h_2 => cases hv
    rename_i q hq
    simp only [eqOk] at heq
    split at heq
    case h_2 => cases heq
    rename_i row hrow
    split at heq
    case h_2 => cases heq
    rename_i hrt
    have hrt : row.ty = .st b' := by simpa using hrt
    obtain ⟨hE, hne⟩ := HE.eq t row hrow heq
    rw [hrt] at hE hne
    have hx' := repV_data hx
    have hy' := repV_data hy
    have hrun := (equal_ok (P := Pg) (w := w) (.st b')).1 t m n (a.eval x) (a.eval y) q 9999 hE hx' hy' (by simpa only [beqD] using hq) (by omega)
    obtain ⟨_, _, hg, _⟩ := hE
    rcases hx' with ⟨_, xs, ex, _⟩ | ⟨e, _⟩
    case inr => cases e
    rcases hy' with ⟨_, ys, ey, _⟩ | ⟨e, _⟩
    case inr => cases e
    have g : (eqGuard op t x y (a.eval x) (a.eval y)).run Pg w = .ok () w := by rw [ex, ey]; exact run_eqGuard_agg w op t x y xs ys hg
    rw [ex, ey] at hrun
    split at hv <;> first
      | (injection hv with hv; subst hv
         refine fin _ ?_ g (rep_bool _ _)
         rw [ex, ey]
         simp [run_eql_struct, run_neq_struct, hrun, P.not])
      | cases hv
  · cases hv
theorem unOp_ok (F : ∀ t, RepV (cx S st.h M w) (st.fr t) (a.tmps.getD t undef)) (H : HInv S B w0 st.h M w) {op : UnOp} {t : TypeId} {x : Operand} (ho : o.op = .unOp op t x)
  (hr : (match (generalizing := false) op, opnd none st.fr x with
  | .not, .data .bool b => K (.data .bool (P.not b)) st.h
  | .neg, .data (.int k) n => K (wrapAV k (P.sub 0 n)) st.h
  | _, _ => none) = some r) : Does Pg o a w (Post K r S B w0 st.h M w) := by
 have hx := opnd_rep F none (by intros; simp) x
 cases op with
 | not =>
  split at hr
  ·rename_i b _ e
   rw [e] at hx
   have hx := repV_bool hx
   refine Does.value (v := .bool (!b)) (w' := w) ?_ (Post.same H hr (rep_bool _ _))
   simp only [execOp, ho, hx, Op.unary, Sem.run_bind, Sem.run_pure, Result.andThen_ok]
  ·rename_i q _; cases q
  ·cases hr
 | neg =>
  split at hr
  ·rename_i q _; cases q
  ·rename_i k n _ e
   rw [e] at hx
   have hx := repV_int hx
   refine Does.value (v := .int k (k.wrap (0 - n))) (w' := w) ?_ (Post.same H hr (by unfold wrapAV; rw [P.wrap_def]; exact rep_int _ _ _))
   simp only [execOp, ho, hx, Op.unary, Op.intArith, Sem.run_bind, Sem.run_pure, Result.andThen_ok]
  ·cases hr
 | _ =>
  split at hr
  ·rename_i q _; cases q
  ·rename_i q _; cases q
  ·cases hr
theorem convert_ok (HE : EnvOk Pg G E) (F : ∀ t, RepV (cx S st.h M w) (st.fr t) (a.tmps.getD t undef)) (H : HInv S B w0 st.h M w) {s t : TypeId} {x : Operand} (ho : o.op = .convert s t x)
  (hr : (match E.ty s, E.ty t, opnd none st.fr x with
  | some (.int _), some (.int k), .data (.int _) n => K (wrapAV k n) st.h
  | some .str, some .str, .data .str s => K (.data .str s) st.h
  | _, _, _ => none) = some r) : Does Pg o a w (Post K r S B w0 st.h M w) := by
 have hx := opnd_rep F none (by intros; simp) x
 split at hr
 ·rename_i k0 k k' n h1 h2 e
  rw [e] at hx
  have hx := repV_int hx
  refine Does.value (v := .int k (k.wrap n)) (w' := w) ?_ (Post.same H hr (by unfold wrapAV; rw [P.wrap_def]; exact rep_int _ _ _))
  simp only [execOp, ho, hx, convert, Conv.intToInt, Sem.run_bind, run_underlying (HE.ty s _ h1).1, run_underlying (HE.ty t _ h2).1, Sem.run_pure, Result.andThen_ok]
 ·rename_i z h1 h2 e
  rw [e] at hx
  have hx := repV_str hx
  refine Does.value (v := .string z) (w' := w) ?_ (Post.same H hr (rep_str _ _))
  simp only [execOp, ho, hx, convert, Sem.run_bind, run_underlying (HE.ty s _ h1).1, run_underlying (HE.ty t _ h2).1, Sem.run_pure, Result.andThen_ok]
 ·cases hr
end Go.PG
end
section
namespace Go.PG
open Go.RowKit
variable {Pg : Program} {G : World → Prop} {E : Env} {S : Nat → Prop} {B : Nat} {w0 w w' : World} {h : Hp} {M : Nat → Bk} {ρ : Type} {K : AV → Hp → Option ρ} {r : ρ} {st : St} {a : Act} {o : Oper}
theorem HInv.renew (H : HInv S B w0 h M w) {l : List Nat} (u : unlocked h l = true) (e : Ent) (bk : Bk)
  (hh : ∀ b, b < w.heap.size → (¬ (cx S h M w).Z b ∨ ∃ id, h.e id ≠ none ∧ id ∉ l ∧ (M id).has b) → w'.heap[b]? = w.heap[b]?) (hs : w.heap.size ≤ w'.heap.size) (bel : Below B w w')
  (hb : ∀ b, bk.has b → w.heap.size ≤ b ∨ ∃ id, id ∈ l ∧ h.e id ≠ none ∧ (M id).has b)
  (q : Tr (cx S h M w) (cx S ((h.kills l).new e) (set1 M h.next bk) w') → EntOk (cx S ((h.kills l).new e) (set1 M h.next bk) w') h.next e) :
  HInv S B w0 ((h.kills l).new e) (set1 M h.next bk) w' ∧ HStp S h M w ((h.kills l).new e) (set1 M h.next bk) w' := by
 have hn : (h.kills l).next = h.next := kills_next l h
 have ne : ∀ id, id ≠ h.next → ((h.kills l).new e).e id = (if id ∈ l then none else h.e id) ∧ set1 M h.next bk id = M id := fun id q => by
  simp only [Hp.new, hn, set1, beq_false q, kills_e, and_self]
 have at_ : ((h.kills l).new e).e h.next = some e ∧ set1 M h.next bk h.next = bk := by simp [Hp.new, hn, set1, Nat.beq_refl]
 have live : ∀ id f, id ≠ h.next → ((h.kills l).new e).e id = some f → h.e id = some f ∧ id ∉ l := fun id f q z => by
  rw [(ne id q).1] at z
  split at z
  ·cases z
  ·rename_i hl; exact ⟨z, hl⟩
 have live' : ∀ id, id ≠ h.next → ((h.kills l).new e).e id ≠ none → h.e id ≠ none ∧ id ∉ l := fun id q z => by
  cases hz : ((h.kills l).new e).e id with
  | none => exact absurd hz z
  | some f => obtain ⟨h1, h2⟩ := live id f q hz; exact ⟨by rw [h1]; simp, h2⟩
 have hZ : ∀ b, (cx S ((h.kills l).new e) (set1 M h.next bk) w').Z b → (cx S h M w).Z b ∨ w.heap.size ≤ b := by
  rintro b (z | ⟨id, f, q1, q2⟩)
  ·exact .inl (.inl z)
  ·simp only [cx] at q1 q2
   by_cases hid : id = h.next
   ·subst hid
    rw [at_.2] at q2
    rcases hb b q2 with z | ⟨j, _, h1, h2⟩
    ·exact .inr z
    ·cases hj : h.e j with
     | none => exact absurd hj h1
     | some g => exact .inl (.inr ⟨j, g, hj, h2⟩)
   ·rw [(ne id hid).2] at q2
    exact .inl (.inr ⟨id, f, (live id f hid q1).1, q2⟩)
 have k : Tr (cx S h M w) (cx S ((h.kills l).new e) (set1 M h.next bk) w') := by
  refine ⟨fun b hlt hz => ⟨fun z => ?_, hh b hlt (.inl hz)⟩, by simp [cx, Hp.new, hn], fun id hid => ?_⟩
  ·rcases hZ b z with z | z
   ·exact hz z
   ·simp only [cx] at hlt; omega
  ·have hid' : id ≠ h.next := by simp only [cx] at hid; omega
   simp only [cx]
   rw [(ne id hid').1, (ne id hid').2]
   by_cases hl : id ∈ l
   ·simp [hl]
   ·simp only [hl, if_false]
    rcases ids_self H id with q | q | ⟨_, q⟩
    ·exact .inl q
    ·exact .inr (.inl q)
    ·exact .inr (.inr ⟨SameB.rfl, q⟩)
 refine ⟨⟨fun id f hq => ?_, fun id hid => ?_, fun i j b hi hj => ?_, fun i b hi hib => ?_, H.bel.trans bel, Nat.le_trans H.bsz hs, H.old, H.bw⟩, k, by simp only [Hp.new]; exact kills_lk l h, fun id hid hlk => ?_⟩
 ·by_cases hid : id = h.next
  ·subst hid
   rw [at_.1] at hq
   injection hq with hq
   subst hq
   exact q k
  ·obtain ⟨h1, h2⟩ := live id f hid hq
   exact (H.ent id f h1).tr k (ne id hid).2 (fun b hbb => hh b (blk_lt H (by rw [h1]; simp) hbb) (.inr ⟨id, by rw [h1]; simp, h2, hbb⟩))
 ·have : id ≠ h.next := by simp only [Hp.new, hn] at hid; omega
  rw [(ne id this).1]
  split
  ·rfl
  ·exact H.fresh id (by simp only [Hp.new, hn] at hid; omega)
 ·have part : ∀ i b, i ≠ h.next → ((h.kills l).new e).e i ≠ none → (M i).has b → bk.has b → False := by
   intro i b hin hi h1 h2
   obtain ⟨h3, h4⟩ := live' i hin hi
   rcases hb b h2 with z | ⟨j, hj, h5, h6⟩
   ·have := blk_lt H h3 h1; omega
   ·have := H.dist i j b h3 h5 h1 h6
    subst this
    exact h4 hj
  by_cases hin : i = h.next
  ·by_cases hjn : j = h.next
   ·intro _ _; exact hin.trans hjn.symm
   ·intro h1 h2
    subst hin
    rw [at_.2] at h1
    rw [(ne j hjn).2] at h2
    exact (part j b hjn hj h2 h1).elim
  ·by_cases hjn : j = h.next
   ·intro h1 h2
    subst hjn
    rw [at_.2] at h2
    rw [(ne i hin).2] at h1
    exact (part i b hin hi h1 h2).elim
   ·rw [(ne i hin).2, (ne j hjn).2]
    exact H.dist i j b (live' i hin hi).1 (live' j hjn hj).1
 ·by_cases hin : i = h.next
  ·subst hin
   rw [at_.2] at hib
   rcases hb b hib with z | ⟨j, _, h1, h2⟩
   ·exact Nat.le_trans H.bsz z
   ·exact H.own j b h1 h2
  ·rw [(ne i hin).2] at hib
   exact H.own i b (live' i hin hi).1 hib
 ·have hidn : id ≠ h.next := by omega
  have hl : id ∉ l := fun z => by have := unlocked_mem u id z; rw [hlk] at this; cases this
  rw [(ne id hidn).1, (ne id hidn).2]
  simp [hl]
def RowRep (Z : Nat → Prop) (w : World) (e : Ty) (xs : List e.D) (cs : List Value) : Prop :=
 cs.length = List.length xs * e.size ∧ ∀ i x, xs[i]? = some x → ∃ d, RepD Z w e x d ∧ ∀ j v, d[j]? = some v → cs[i * e.size + j]? = some v
theorem row_value {h' : Hp} {M' : Nat → Bk} {id : Nat} {e : Ty} {xs : List e.D} {A : Option Addr} {n cap : Nat} (hid : id < h'.next) (hM : M' id = .row A n cap) : RepV (cx S h' M' w') (.own id) (.slice A n cap) := by
 simp only [RepV, Rep1]
 exact ⟨hid, A, n, cap, rfl, .inr hM⟩
theorem RowRep.held {Z Z' : Nat → Prop} {w w' : World} (k : Held Z Z' w w') {e : Ty} {xs : List e.D} {cs : List Value} (h : RowRep Z w e xs cs) : RowRep Z' w' e xs cs :=
 ⟨h.1, fun i x hx => by obtain ⟨d, h1, h2⟩ := h.2 i x hx; exact ⟨d, h1.held k, h2⟩⟩
theorem RowRep.append {Z : Nat → Prop} {w : World} {e : Ty} {xs ys : List e.D} {cs ds : List Value} (h : RowRep Z w e xs cs) (k : RowRep Z w e ys ds) : RowRep Z w e (xs ++ ys) (cs ++ ds) := by
 refine ⟨by simp [h.1, k.1, Nat.add_mul], fun i x hx => ?_⟩
 by_cases hi : i < xs.length
 ·rw [List.getElem?_append_left hi] at hx
  obtain ⟨d, h1, h2⟩ := h.2 i x hx
  refine ⟨d, h1, fun j v hv => ?_⟩
  have := h2 j v hv
  rw [List.getElem?_append_left (List.getElem?_eq_some_iff.1 this).1]
  exact this
 ·rw [List.getElem?_append_right (by omega)] at hx
  obtain ⟨d, h1, h2⟩ := k.2 _ x hx
  refine ⟨d, h1, fun j v hv => ?_⟩
  have := h2 j v hv
  have e1 : i * e.size + j = cs.length + ((i - xs.length) * e.size + j) := by
   rw [h.1, ← Nat.add_assoc, ← Nat.add_mul]
   congr 2
   omega
  rw [e1, List.getElem?_append_right (by omega)]
  simpa using this
theorem Z_kills {l : List Nat} : ∀ b, (cx S (h.kills l) M w).Z b → (cx S h M w).Z b := by
 rintro b (z | ⟨i, e, q1, q2⟩)
 ·exact .inl z
 ·simp only [cx] at q1
  rw [kills_e] at q1
  split at q1
  ·cases q1
  ·exact .inr ⟨i, e, q1, q2⟩
theorem new_row (H : HInv S B w0 h M w) {l : List Nat} (u : unlocked h l = true) {e : Ty} {xs : List e.D} {el : TypeId} {cs rest : List Value} {cap : Nat} (hw : w'.heap = w.heap) (bel : Below B w w')
  (hc : cap * e.size = (cs ++ rest).length) (hle : List.length xs ≤ cap)
  (hrow : RowRep (cx S (h.kills l) M w).Z w e xs cs) (hk : K (.own h.next) ((h.kills l).new (.row e xs)) = some r) :
  Post K r S B w0 h M w (.slice (some ⟨w'.heap.size, 0, none⟩) (List.length xs) cap) (w'.alloc (.cells (cs ++ rest).toArray el (0, 0))) := by
 have hsz : w'.heap.size = w.heap.size := by rw [hw]
 have hne : (set1 M h.next (Bk.row (some ⟨w'.heap.size, 0, none⟩) (List.length xs) cap)) h.next = Bk.row (some ⟨w'.heap.size, 0, none⟩) (List.length xs) cap := by simp [set1, Nat.beq_refl]
 have hheld : Held (cx S (h.kills l) M w).Z (cx S ((h.kills l).new (.row e xs)) (set1 M h.next (.row (some ⟨w'.heap.size, 0, none⟩) (List.length xs) cap)) (w'.alloc (.cells (cs ++ rest).toArray el (0, 0)))).Z w (w'.alloc (.cells (cs ++ rest).toArray el (0, 0))) := by
  intro b hb hz
  refine ⟨?_, by rw [alloc_old w' _ b (by omega), hw]⟩
  rintro (z | ⟨id, f, q1, q2⟩)
  ·exact hz (.inl z)
  ·simp only [cx] at q1 q2
   by_cases hid : id = h.next
   ·subst hid
    rw [hne] at q2
    obtain ⟨_, ad, h3, h4⟩ := has_some q2
    injection h3 with h3
    subst h3
    simp only at h4
    omega
   ·simp only [Hp.new, kills_next, set1, beq_false hid] at q1 q2
    exact hz (.inr ⟨id, f, q1, q2⟩)
 obtain ⟨H', k⟩ := H.renew u (.row e xs) (.row (some ⟨w'.heap.size, 0, none⟩) (List.length xs) cap) (w' := w'.alloc (.cells (cs ++ rest).toArray el (0, 0)))
  (fun b hb _ => by rw [alloc_old w' _ b (by omega), hw]) (by rw [alloc_size]; omega) (bel.alloc (by have := H.bsz; omega) _)
  (fun b hb => by obtain ⟨_, ad, h1, h2⟩ := has_some hb; injection h1 with h1; subst h1; simp only at h2; exact .inl (by omega))
  (fun k => ⟨_, cap, hne, hle, (Nat.eq_zero_or_pos cap).imp id fun hpos => ⟨by omega, w'.heap.size, 0, _, el, rfl, alloc_get w' _, by simp [hc], fun i x hx => by
   obtain ⟨d, h1, h2⟩ := hrow.2 i x hx
   refine ⟨d, h1.held hheld, fun j v hv => ?_⟩
   simp only [cx, World.cell?, alloc_get, Option.isSome_none, Bool.false_eq_true, if_false, Nat.zero_add]
   have := h2 j v hv
   rw [List.getElem?_toArray, List.getElem?_append_left (List.getElem?_eq_some_iff.1 this).1]
   exact this⟩⟩)
 exact ⟨.own h.next, _, _, hk, H', k, row_value (e := e) (xs := xs) (by simp [Hp.new, kills_next]) hne⟩
theorem slice_cells (H : HInv S B w0 h M w) {v : AV} {e : Ty} {xs : List e.D} {u : Value} (hx : toD h v (.slice e) = some xs) (hu : RepV (cx S h M w) v u) :
  ∃ A cap, u = .slice A (List.length xs) cap ∧ List.length xs ≤ cap ∧ (xs = [] ∨ ∃ b of, A = some ⟨b, of, none⟩ ∧ b < w.heap.size ∧
   ∀ i x, xs[i]? = some x → ∃ d, RepD (cx S h M w).Z w e x d ∧ Mem w b (of + i * e.size) d) := by
 cases v with
 | data t x =>
  simp only [toD] at hx
  split at hx
  ·rename_i q; subst q
   injection hx with hx
   subst hx
   rcases repV_data hu with ⟨q, _⟩ | ⟨_, q⟩
   ·cases q
   ·simp only [RepD] at q
    obtain ⟨A, cap, h1, h2, h3⟩ := q
    injection h1 with h1
    refine ⟨A, cap, h1, h2, ?_⟩
    rcases h3 with h3 | ⟨b, of, h4, h5, _, h6⟩
    ·exact .inl h3
    ·exact .inr ⟨b, of, h4, h5, h6⟩
  ·cases hx
 | nilS e' =>
  simp only [toD] at hx
  injection hx with hx
  subst hx
  simp only [RepV, Rep1] at hu
  obtain ⟨A, h1⟩ := hu
  injection h1 with h1
  exact ⟨A, 0, h1, Nat.le_refl _, .inl rfl⟩
 | own id =>
  simp only [toD] at hx
  split at hx
  ·rename_i e2 zs he
   split at hx
   ·rename_i q; subst q
    injection hx with hx
    have hx : zs = xs := hx
    subst hx
    simp only [RepV, Rep1] at hu
    obtain ⟨_, A, n, cap, h1, h2⟩ := hu
    injection h1 with h1
    rcases h2 with h2 | hM
    ·simp only [cx] at h2; rw [he] at h2; cases h2
    obtain ⟨A', cap', h3, h4, h5⟩ := H.ent id _ he
    simp only [cx] at hM h3
    rw [hM] at h3
    injection h3 with q1 q2 q3
    subst q1; subst q2; subst q3
    refine ⟨A, cap, h1, h4, ?_⟩
    rcases h5 with h5 | ⟨hc, b, of, cs, el, rfl, h6, h7, h8⟩
    ·left
     rw [h5] at h4
     exact List.eq_nil_of_length_eq_zero (by omega)
    ·exact .inr ⟨b, of, rfl, (Array.getElem?_eq_some_iff.1 h6).1, h8⟩
   ·cases hx
  ·cases hx
 | view id a n =>
  simp only [toD] at hx
  split at hx
  ·rename_i e2 zs he
   split at hx
   ·rename_i q; subst q
    injection hx with hx
    have hx : P.sub_ zs a (P.add a n) = xs := hx
    subst hx
    simp only [RepV] at hu
    obtain ⟨z, m, cap', h1, hn, ha, hm, hle, h3⟩ := view_cells H he hu
    injection h1 with h1
    have hlen := sub_len hn ha hle
    refine ⟨z, cap', by rw [hlen]; exact h1, by rw [hlen]; exact hm, ?_⟩
    rcases h3 with h3 | ⟨hc, b, of, cs, el, rfl, hb, h6, h7, h8⟩
    ·left
     exact List.eq_nil_of_length_eq_zero (by rw [hlen]; omega)
    ·exact .inr ⟨b, of, rfl, (Array.getElem?_eq_some_iff.1 h6).1, fun i x hx => h8 i x (sub_get hn ha hx).2⟩
   ·cases hx
  ·cases hx
 | _ => simp [toD] at hx
theorem row_of_mem {Z : Nat → Prop} {w : World} {e : Ty} {xs : List e.D} {b of : Nat} (h : ∀ i x, xs[i]? = some x → ∃ d, RepD Z w e x d ∧ Mem w b (of + i * e.size) d) :
  ∃ cs, RowRep Z w e xs cs ∧ Mem w b of cs := by
 induction xs generalizing of with
 | nil => exact ⟨[], ⟨by simp, by simp⟩, by intro j v hv; simp at hv⟩
 | cons x xs ih =>
  obtain ⟨d, h1, h2⟩ := h 0 x rfl
  obtain ⟨cs, h3, h4⟩ := ih (of := of + e.size) (fun i y hy => by
   obtain ⟨d, h5, h6⟩ := h (i + 1) y (by simpa using hy)
   refine ⟨d, h5, ?_⟩
   have : of + e.size + i * e.size = of + (i + 1) * e.size := by rw [Nat.add_mul]; omega
   rw [this]; exact h6)
  have hs : RowRep Z w e [x] d := ⟨by simp [h1.len], fun i y hy => by
   cases i with
   | zero => simp at hy; subst hy; exact ⟨d, h1, fun j v hv => by simpa using hv⟩
   | succ i => simp at hy⟩
  refine ⟨d ++ cs, hs.append h3, fun j v hv => ?_⟩
  by_cases hj : j < d.length
  ·rw [List.getElem?_append_left hj] at hv
   have := h2 j v hv
   simpa using this
  ·rw [List.getElem?_append_right (by omega)] at hv
   have := h4 _ v hv
   have e1 : of + e.size + (j - d.length) = of + j := by rw [h1.len] at *; omega
   rw [e1] at this
   exact this
end Go.PG
end
section
namespace Go.PG
open Go.RowKit
variable {Pg : Program} {G : World → Prop} {E : Env} {S : Nat → Prop} {B : Nat} {w0 w w' : World} {h : Hp} {M : Nat → Bk} {ρ : Type} {K : AV → Hp → Option ρ} {r : ρ} {st : St} {a : Act} {o : Oper}
theorem nextcap_le (need old : Nat) (h : old < need) : Builtin.nextslicecap need old ≤ 2 * need := by
 have hg : ∀ k c, c ≤ 2 * need → (c < need → c + (c + 768) / 4 ≤ 2 * need ∨ 256 ≤ c) → Builtin.growBy need k c ≤ 2 * need ∨ True := fun _ _ _ _ => .inr trivial
 unfold Builtin.nextslicecap
 split
 ·omega
 ·split
  ·omega
  ·rename_i h1 h2
   have key : ∀ k c, 256 ≤ c → c ≤ 2 * need → Builtin.growBy need k c ≤ 2 * need := by
    intro k
    induction k with
    | zero => intro c _ h; simpa [Builtin.growBy] using h
    | succ k ih =>
     intro c h3 h4
     simp only [Builtin.growBy]
     split
     ·exact h4
     ·exact ih _ (by omega) (by omega)
   exact key 4 old (by omega) (by omega)
theorem run_lenOf (A : Option Addr) (n c : Nat) (w : World) : (Builtin.lenOf (.slice A n c)).run Pg w = .ok n w := rfl
theorem run_firstCells {A : Option Addr} {n c sz : Nat} {cs : List Value} (hl : cs.length = n * sz) (hm : cs = [] ∨ ∃ b of, A = some ⟨b, of, none⟩ ∧ Mem w b of cs) : (Builtin.firstCells sz n (.slice A n c)).run Pg w = .ok cs.toArray w := by
 rcases hm with rfl | ⟨b, of, rfl, hm⟩
 ·cases A with
  | none => simp [Builtin.firstCells]
  | some a => 
   have : n * sz = 0 := by simpa using hl.symm
   simp [Builtin.firstCells, this, loadCells, loadCellsFrom]
 ·have := run_loadCells_list (P := Pg) w ⟨b, of, none⟩ cs (fun j v hv => by rw [Addr.add_mid]; exact hm j v hv)
  rw [hl] at this
  simp [Builtin.firstCells, this]
theorem zeroCells_len (zero : Array Value) (n : Nat) : (Builtin.zeroCells zero n).size = n * zero.size := by simp [Builtin.zeroCells]
section
variable {sT xT e' xe : TypeId} {info : TypeInfo} {A A2 : Option Addr} {n m cap cap2 : Nat} {cs ds : List Value}
theorem run_append_stay (ty : TypeId) (hu : Pg.underlying sT = some (.slice e')) (hux : Pg.underlying xT = some (.slice xe)) (hi : Pg.info? e' = some info)
  (hfx : (Builtin.firstCells info.size m (.slice A2 m cap2)).run Pg w = .ok ds.toArray w) (hle : n + m ≤ cap) (h0 : A = none ∨ ds = []) :
  (Builtin.append_ #[sT, xT] ty #[.slice A n cap, .slice A2 m cap2]).run Pg w = .ok (.slice A (n + m) cap) w := by
 have hunder := run_underlying hu w
 have hunderx := run_underlying hux w
 rcases h0 with rfl | rfl
 ·simp [Builtin.append_, hunder, hunderx, sizeOf, typeInfo, hi, run_lenOf, hfx, hle]
 ·cases A with
  | none => simp [Builtin.append_, hunder, hunderx, sizeOf, typeInfo, hi, run_lenOf, hfx, hle]
  | some ad => simp [Builtin.append_, hunder, hunderx, sizeOf, typeInfo, hi, run_lenOf, hfx, hle, storeCells]
theorem run_append_room (ty : TypeId) (hu : Pg.underlying sT = some (.slice e')) (hux : Pg.underlying xT = some (.slice xe)) (hi : Pg.info? e' = some info) {b o : Nat} {cur : Array Value} {el : TypeId}
  (hfx : (Builtin.firstCells info.size m (.slice A2 m cap2)).run Pg w = .ok ds.toArray w) (hle : n + m ≤ cap) (hw : w.heap[b]? = some (.cells cur el (0, 0))) (hds : ds.length = m * info.size)
  (hfit : o + n * info.size + m * info.size ≤ cur.size) (h1 : ∀ v ∈ ds, v.oneCell' = true) :
  (Builtin.append_ #[sT, xT] ty #[.slice (some ⟨b, o, none⟩) n cap, .slice A2 m cap2]).run Pg w =
   .ok (.slice (some ⟨b, o, none⟩) (n + m) cap) (w.setRow b (cur.toList.take (o + n * info.size) ++ ds ++ cur.toList.drop (o + n * info.size + m * info.size)).toArray) := by
 have hunder := run_underlying hu w
 have hunderx := run_underlying hux w
 have := run_storeCells_at Pg b (o + n * info.size) el ds 0 cur w hw (by rw [hds]; omega) h1
 rw [hds] at this
 simp only [Nat.add_zero] at this
 simp [Builtin.append_, hunder, hunderx, sizeOf, typeInfo, hi, run_lenOf, hfx, hle, Addr.add_mid, this]
theorem run_append_new (ty : TypeId) (hu : Pg.underlying sT = some (.slice e')) (hux : Pg.underlying xT = some (.slice xe)) (hi : Pg.info? e' = some info) {z : Value} (hz : info.zero = some z) (hzs : z.cells.size = info.size)
  (hfs : ∀ w' : World, w'.heap = w.heap → (Builtin.firstCells info.size n (.slice A n cap)).run Pg w' = .ok cs.toArray w') (hfx : ∀ w' : World, w'.heap = w.heap → (Builtin.firstCells info.size m (.slice A2 m cap2)).run Pg w' = .ok ds.toArray w')
  (hgt : cap < n + m) (hroom : (n + m) * info.bytes ≤ 140737488355328) (hbig : n + m ≤ 9223372036854775807) :
  ∃ newCap rest, n + m ≤ newCap ∧ rest.length = (newCap - (n + m)) * info.size ∧
   (Builtin.append_ #[sT, xT] ty #[.slice A n cap, .slice A2 m cap2]).run Pg w =
    .ok (.slice (some ⟨w.heap.size, 0, none⟩) (n + m) newCap) ({ w with drawn := w.drawn + 1 }.alloc (.cells (cs ++ ds ++ rest).toArray e' (0, 0))) := by
 have hunder := run_underlying hu w
 have hunderx := run_underlying hux w
 have hn := nextcap_le (n + m) cap hgt
 have hcapb : ¬ (Builtin.nextslicecap (n + m) cap * info.bytes > 2 ^ 48) := by
  have := Nat.mul_le_mul_right info.bytes hn
  rw [Nat.mul_assoc] at this
  omega
 have hnot : ¬ (n + m ≤ cap) := by omega
 have hbig' : ¬ (((n + m : Nat) : Int) > IntKind.i64.max ∧ info.bytes = 0) := by
  have : IntKind.i64.max = 9223372036854775807 := by decide
  rw [this]
  omega
 refine ⟨(Question.appendCap (n + m) cap e').cut (w.tape w.drawn (.appendCap (n + m) cap e')), (Builtin.zeroCells z.cells ((Question.appendCap (n + m) cap e').cut (w.tape w.drawn (.appendCap (n + m) cap e')) - (n + m))).toList, ?_, ?_, ?_⟩
 ·simp only [Question.cut]; omega
 ·simp [zeroCells_len, hzs]
 ·have h1 := hfs { w with drawn := w.drawn + 1 } rfl
  have h2 := hfx { w with drawn := w.drawn + 1 } rfl
  simp only [Builtin.append_, Sem.run_bind, hunder, hunderx, Result.andThen_ok, sizeOf, typeInfo, run_program, hi, run_lenOf, Sem.run_pure, Bool.false_eq_true, if_false, false_or, hnot, hbig', hcapb, Sem.run_ite, List.getElem?_toArray,
   List.getElem?_cons_zero, List.getElem?_cons_succ, run_choose, Question.forced, run_askRoom, h1, h2, zeroValue, hz, newRow, run_newObj_alloc]
  have e : ∀ Z : Array Value, cs.toArray ++ ds.toArray ++ Z = (cs ++ ds ++ Z.toList).toArray := fun Z => by apply Array.toList_inj.1; simp
  simp only [Bool.not_false, if_true, Result.andThen_ok, e]
end
theorem grow_row (H : HInv S B w0 h M w) {l : List Nat} (u : unlocked h l = true) {e : Ty} {zs : List e.D} {A : Option Addr} {cap : Nat} (bel : Below B w w') (hs : w.heap.size = w'.heap.size)
  (hle : List.length zs ≤ cap)
  (hA : cap ≠ 0 → ∃ b of cs el id, A = some ⟨b, of, none⟩ ∧ id ∈ l ∧ h.e id ≠ none ∧ (M id).has b ∧ w'.heap[b]? = some (.cells cs el (0, 0)) ∧ of + cap * e.size ≤ cs.size ∧
   (∀ b', b' ≠ b → w'.heap[b']? = w.heap[b']?) ∧ ∀ i x, zs[i]? = some x → ∃ d, RepD (cx S h M w).Z w e x d ∧ Mem w' b (of + i * e.size) d)
  (hA0 : cap = 0 → w'.heap = w.heap)
  (hk : K (.own h.next) ((h.kills l).new (.row e zs)) = some r) : Post K r S B w0 h M w (.slice A (List.length zs) cap) w' := by
 have hne : (set1 M h.next (Bk.row A (List.length zs) cap)) h.next = Bk.row A (List.length zs) cap := by simp [set1, Nat.beq_refl]
 have fin : ∀ (H' : HInv S B w0 ((h.kills l).new (.row e zs)) (set1 M h.next (Bk.row A (List.length zs) cap)) w') (k : HStp S h M w ((h.kills l).new (.row e zs)) (set1 M h.next (Bk.row A (List.length zs) cap)) w'),
   Post K r S B w0 h M w (.slice A (List.length zs) cap) w' := fun H' k =>
  ⟨.own h.next, _, _, hk, H', k, row_value (e := e) (xs := zs) (by simp [Hp.new, kills_next]) hne⟩
 by_cases hc : cap = 0
 ·subst hc
  have hh := hA0 rfl
  obtain ⟨H', k⟩ := H.renew u (.row e zs) (.row A (List.length zs) 0) (w' := w') (fun b _ _ => by rw [hh]) (by omega) bel (fun b hb => by obtain ⟨q, _⟩ := has_some hb; exact absurd rfl q)
   (fun k => ⟨A, 0, hne, hle, .inl rfl⟩)
  exact fin H' k
 ·obtain ⟨b, of, cs, el, id, rfl, hid, hlive, hblk, hheap, hfit, hoth, hel⟩ := hA hc
  have hbz : ∀ b', (¬ (cx S h M w).Z b' ∨ ∃ j, h.e j ≠ none ∧ j ∉ l ∧ (M j).has b') → b' ≠ b := by
   rintro b' (hz | ⟨j, h1, h2, h3⟩) rfl
   ·cases hq : h.e id with
    | none => exact absurd hq hlive
    | some f => exact hz (.inr ⟨id, f, hq, hblk⟩)
   ·have := H.dist j id b' h1 hlive h3 hblk
    subst this
    exact h2 hid
  obtain ⟨H', k⟩ := H.renew u (.row e zs) (.row (some ⟨b, of, none⟩) (List.length zs) cap) (w' := w') (fun b' _ hz => hoth b' (hbz b' hz)) (by omega) bel
   (fun b' hb => by obtain ⟨_, ad, h1, h2⟩ := has_some hb; injection h1 with h1; subst h1; exact .inr ⟨id, hid, hlive, by rw [← h2]; exact hblk⟩)
   (fun k => ⟨_, cap, hne, hle, .inr ⟨hc, b, of, cs, el, rfl, hheap, hfit, fun i x hx => by
    obtain ⟨d, h1, h2⟩ := hel i x hx
    exact ⟨d, h1.held k.held, h2⟩⟩⟩)
  exact fin H' k
theorem rowrep_one {Z : Nat → Prop} {e : Ty} (hpos : 0 < e.size) {ys : List e.D} {ds : List Value} (h : RowRep Z w e ys ds) : ∀ v ∈ ds, v.oneCell' = true := by
 intro v hv
 obtain ⟨j, hj, rfl⟩ := List.getElem_of_mem hv
 have hlen := h.1
 have hq : j / e.size < ys.length := (Nat.div_lt_iff_lt_mul hpos).2 (by omega)
 obtain ⟨d, h1, h2⟩ := h.2 (j / e.size) _ (List.getElem?_eq_getElem hq)
 have hr : j % e.size < d.length := by rw [h1.len]; exact Nat.mod_lt _ hpos
 have h3 := h2 (j % e.size) _ (List.getElem?_eq_getElem hr)
 have e1 : j / e.size * e.size + j % e.size = j := by rw [Nat.mul_comm]; exact Nat.div_add_mod j e.size
 rw [e1, List.getElem?_eq_getElem hj] at h3
 injection h3 with h3
 rw [h3]
 exact h1.one _ (List.getElem_mem hr)
theorem append_ok (H : HInv S B w0 h M w) {sT xT e' xe : TypeId} {e : Ty} {bytes : Nat} {s x : AV} {sv xv : Value} {info : TypeInfo} (ty : TypeId)
  (hu : Pg.underlying sT = some (.slice e')) (hux : Pg.underlying xT = some (.slice xe)) (hi : Pg.info? e' = some info) (hb : info.bytes = bytes) (hb0 : 0 < bytes) (he : OkE Pg e e')
  (hs : RepV (cx S h M w) s sv) (hx : RepV (cx S h M w) x xv) (hr : evAppend bytes e s x h K = some r) :
  ∃ v w', (Builtin.append_ #[sT, xT] ty #[sv, xv]).run Pg w = .ok v w' ∧ Post K r S B w0 h M w v w' := by
 have key : ∀ xs ys, toD h s (.slice e) = some xs → ((∃ id, s = .own id) ∨ (∃ t, s = .nilS t) ∨ ∃ id a n, s = .view id a n) → toD h x (.slice e) = some ys → unlocked h (s.owns ++ x.owns) = true →
   test (P.room (P.add (P.len xs) (P.len ys)) bytes) (K (.own h.next) ((h.kills (s.owns ++ x.owns)).new (.row e (P.app xs ys)))) = some r →
   ∃ v w', (Builtin.append_ #[sT, xT] ty #[sv, xv]).run Pg w = .ok v w' ∧ Post K r S B w0 h M w v w' := by
  intro xs ys hxs hform hys hul hr
  obtain ⟨hroom, hr⟩ := test_some hr
  have hroom' : (List.length xs + List.length ys) * bytes ≤ 140737488355328 := by
   simp only [P.room_def, P.add, P.len] at hroom
   have := of_decide_eq_true hroom
   have e1 : ((List.length xs : Int) + (List.length ys : Int)).toNat = List.length xs + List.length ys := by omega
   rwa [e1] at this
  have hbig : List.length xs + List.length ys ≤ 9223372036854775807 := by
   have := Nat.le_mul_of_pos_right (List.length xs + List.length ys) hb0
   omega
  obtain ⟨A, cap, rfl, hle, hsm⟩ := slice_cells H hxs hs
  obtain ⟨A2, cap2, rfl, hle2, hxm⟩ := slice_cells H hys hx
  have hsz : info.size = e.size := by
   obtain ⟨i, h1, h2⟩ := okE_size he
   rw [hi] at h1; injection h1 with h1; subst h1; exact h2
  have hpos := okE_pos he
  have cells : ∀ {zs : List e.D} {D : Option Addr}, (zs = [] ∨ ∃ b of, D = some ⟨b, of, none⟩ ∧ b < w.heap.size ∧ ∀ i y, zs[i]? = some y → ∃ d, RepD (cx S h M w).Z w e y d ∧ Mem w b (of + i * e.size) d) →
    ∃ cs, RowRep (cx S h M w).Z w e zs cs ∧ (cs = [] ∨ ∃ b of, D = some ⟨b, of, none⟩ ∧ Mem w b of cs) := by
   rintro zs D (rfl | ⟨b, of, rfl, _, h3⟩)
   ·exact ⟨[], ⟨by simp, by simp⟩, .inl rfl⟩
   ·obtain ⟨cs, h4, h5⟩ := row_of_mem h3
    exact ⟨cs, h4, .inr ⟨b, of, rfl, h5⟩⟩
  obtain ⟨cs, hcs, hcm⟩ := cells hsm
  obtain ⟨ds, hds, hdm⟩ := cells hxm
  have hone := rowrep_one hpos hds
  have hfx : ∀ w' : World, w'.heap = w.heap → (Builtin.firstCells info.size (List.length ys) (.slice A2 (List.length ys) cap2)).run Pg w' = .ok ds.toArray w' := fun w' hw => by
   rw [hsz]
   exact run_firstCells hds.1 (hdm.imp id fun ⟨b, of, q, m⟩ => ⟨b, of, q, fun j v hv => (cell_of_heap (by rw [hw])).trans (m j v hv)⟩)
  have hfs : ∀ w' : World, w'.heap = w.heap → (Builtin.firstCells info.size (List.length xs) (.slice A (List.length xs) cap)).run Pg w' = .ok cs.toArray w' := fun w' hw => by
   rw [hsz]
   exact run_firstCells hcs.1 (hcm.imp id fun ⟨b, of, q, m⟩ => ⟨b, of, q, fun j v hv => (cell_of_heap (by rw [hw])).trans (m j v hv)⟩)
  have hlen : List.length (P.app xs ys) = List.length xs + List.length ys := by simp [P.app]
  -- the capacity of a value that is one's own
  have hcapinfo : cap = 0 ∨ ∃ id b of cur el, id ∈ s.owns ∧ A = some ⟨b, of, none⟩ ∧ cap ≠ 0 ∧ h.e id ≠ none ∧ (M id).has b ∧ w.heap[b]? = some (.cells cur el (0, 0)) ∧ of + cap * e.size ≤ cur.size ∧
    ∀ i y, xs[i]? = some y → ∃ d, RepD (cx S h M w).Z w e y d ∧ Mem w b (of + i * e.size) d := by
   rcases hform with ⟨id, rfl⟩ | ⟨t, rfl⟩ | ⟨id, a, n, rfl⟩
   ·simp only [toD] at hxs
    split at hxs
    ·rename_i e2 zs hz
     split at hxs
     ·rename_i q; subst q
      injection hxs with hxs
      have hxs : zs = xs := hxs
      subst hxs
      simp only [RepV, Rep1] at hs
      obtain ⟨_, A', n', cap', h1, h2⟩ := hs
      injection h1 with h1
      injection h1 with q1 q2 q3
      subst q1; subst q3
      rcases h2 with h2 | h2
      ·simp only [cx] at h2; rw [hz] at h2; cases h2
      obtain ⟨A'', cap'', h3, h4, h5⟩ := H.ent id _ hz
      simp only [cx] at h2 h3
      rw [h2] at h3
      injection h3 with q1 q2 q3
      subst q1; subst q3
      rcases h5 with h5 | ⟨hc, b, of, cur, el, rfl, h6, h7, h8⟩
      ·exact .inl h5
      ·exact .inr ⟨id, b, of, cur, el, by simp [AV.owns], rfl, hc, by rw [hz]; simp, by rw [h2]; exact row_has hc, h6, h7, h8⟩
     ·cases hxs
    ·cases hxs
   ·simp only [RepV, Rep1] at hs
    obtain ⟨A', h1⟩ := hs
    injection h1 with h1
    injection h1 with q1 q2 q3
    exact .inl q3
   ·simp only [toD] at hxs
    split at hxs
    ·rename_i e2 zs hz
     split at hxs
     ·rename_i q; subst q
      injection hxs with hxs
      have hxs : P.sub_ zs a (P.add a n) = xs := hxs
      simp only [RepV] at hs
      obtain ⟨z, m, cap', h1, hn, ha, hm, hle', h3⟩ := view_cells H hz hs
      injection h1 with h1
      injection h1 with q1 q2 q3
      subst q1; subst q3
      rcases h3 with h3 | ⟨hc, b, of, cur, el, hA, hblk, h6, h7, h8⟩
      ·exact .inl h3
      ·exact .inr ⟨id, b, of, cur, el, by simp [AV.owns], hA, hc, by rw [hz]; simp, hblk, h6, h7, fun i y hy => h8 i y (sub_get hn ha (by rw [hxs]; exact hy)).2⟩
     ·cases hxs
    ·cases hxs
  by_cases hin : List.length xs + List.length ys ≤ cap
  ·rcases hcapinfo with hc | ⟨id, b, of, cur, el, hown, rfl, hc, hlive, hblk, hheap, hfit, hel⟩
   ·
    have hys0 : ys = [] := List.eq_nil_of_length_eq_zero (by omega)
    have hds0 : ds = [] := List.eq_nil_of_length_eq_zero (by rw [hds.1, hys0]; simp)
    refine ⟨_, w, run_append_stay ty hu hux hi (hfx w rfl) hin (.inr hds0), ?_⟩
    rw [← hlen]
    exact grow_row H hul (Below.refl _ _) rfl (by omega) (fun q => absurd hc q) (fun _ => rfl) hr
   ·have hmul : List.length xs * e.size + List.length ys * e.size ≤ cap * e.size := by
     rw [← Nat.add_mul]; exact Nat.mul_le_mul_right _ hin
    have hrun := run_append_room (Pg := Pg) (w := w) (n := List.length xs) (m := List.length ys) ty hu hux hi (o := of) (hfx w rfl) hin hheap (by rw [hsz]; exact hds.1) (by rw [hsz]; omega) hone
    refine ⟨_, _, hrun, ?_⟩
    rw [← hlen]
    have hB : B ≤ b := H.own id b hlive hblk
    refine grow_row H hul (l := s.owns ++ x.owns) ⟨rfl, rfl, rfl, by simp, fun k hk => setRow_other w b k _ (by omega)⟩ (by simp) (by omega) (fun _ => ⟨b, of, _, el, id, rfl, List.mem_append_left _ hown, hlive, hblk, setRow_heap w b _ _ el (0, 0) hheap, ?_, fun b' hb' => setRow_other w b b' _ hb', ?_⟩) (fun q => absurd q hc) hr
    ·simp only [List.size_toArray, List.length_append, List.length_take, List.length_drop, Array.length_toList]
     rw [hds.1, hsz]
     omega
    ·intro i y hy
     have hnew := setRow_heap w b cur (cur.toList.take (of + List.length xs * info.size) ++ ds ++ cur.toList.drop (of + List.length xs * info.size + List.length ys * info.size)).toArray el (0, 0) hheap
     unfold P.app at hy
     by_cases hi' : i < List.length xs
     ·rw [List.getElem?_append_left hi'] at hy
      obtain ⟨d, h1, h2⟩ := hel i y hy
      refine ⟨d, h1, fun j v hv => ?_⟩
      have hj : j < e.size := by rw [← h1.len]; exact (List.getElem?_eq_some_iff.1 hv).1
      have := mul_le_of_lt (n := e.size) hi'
      have hold := h2 j v hv
      simp only [World.cell?, hheap, Option.isSome_none, Bool.false_eq_true, if_false] at hold
      simp only [World.cell?, hnew, Option.isSome_none, Bool.false_eq_true, if_false]
      rw [List.getElem?_toArray, List.append_assoc, List.getElem?_append_left (by simp; rw [hsz]; omega), List.getElem?_take, if_pos (by rw [hsz]; omega), Array.getElem?_toList]
      exact hold
     ·rw [List.getElem?_append_right (by omega)] at hy
      obtain ⟨d, h1, h2⟩ := hds.2 _ y hy
      refine ⟨d, h1, fun j v hv => ?_⟩
      have hold := h2 j v hv
      have hlt := (List.getElem?_eq_some_iff.1 hold).1
      simp only [World.cell?, hnew, Option.isSome_none, Bool.false_eq_true, if_false]
      have e1 : of + i * e.size + j = (of + List.length xs * e.size) + ((i - List.length xs) * e.size + j) := by
       have : i * e.size = List.length xs * e.size + (i - List.length xs) * e.size := by rw [← Nat.add_mul]; congr 1; omega
       omega
      have hlt2 : (List.take (of + List.length xs * e.size) cur.toList).length = of + List.length xs * e.size := by simp <;> omega
      rw [List.getElem?_toArray, hsz, List.append_assoc, e1, List.getElem?_append_right (by omega), hlt2, Nat.add_sub_cancel_left, List.getElem?_append_left hlt]
      exact hold
  ·
   obtain ⟨z, hz1, hz2⟩ := okE_zero he w (fun f r => fits_len _ e _ f r)
   obtain ⟨i', hi1, hi2⟩ : ∃ zz, info.zero = some zz ∧ zz.cells.size = info.size := by
    have hzz := hz1
    simp only [zeroValue, typeInfo, Sem.run_bind, run_program, Result.andThen_ok, hi, Sem.run_pure] at hzz
    cases hq : info.zero with
    | none => rw [hq] at hzz; simp at hzz
    | some zz =>
     rw [hq] at hzz
     simp at hzz
     subst hzz
     refine ⟨_, rfl, ?_⟩
     rw [← Array.length_toList, hz2, hsz]
   obtain ⟨newCap, rest, h1, h2, h3⟩ := run_append_new (Pg := Pg) (w := w) (cs := cs) (ds := ds) ty hu hux hi hi1 hi2 hfs hfx (by omega) (by rw [hb]; exact hroom') hbig
   refine ⟨_, _, h3, ?_⟩
   rw [← hlen]
   have := new_row (w' := { w with drawn := w.drawn + 1 }) (el := e') (cs := cs ++ ds) (rest := rest) (cap := newCap) H hul rfl ⟨rfl, rfl, rfl, Nat.le_refl _, fun _ _ => rfl⟩
    (by
     simp only [List.length_append]
     rw [hcs.1, hds.1, h2, hsz]
     have : newCap * e.size = (List.length xs + List.length ys) * e.size + (newCap - (List.length xs + List.length ys)) * e.size := by rw [← Nat.add_mul]; congr 1; omega
     rw [this, Nat.add_mul]) (by rw [List.length_append]; exact h1) ((hcs.append hds).held (Held.of_le w Z_kills)) hr
   exact this
 unfold evAppend at hr
 split at hr
 ·rename_i xs id hxs
  split at hr
  ·rename_i ys hys
   split at hr
   ·rename_i hul
    exact key _ ys hxs (.inl ⟨_, rfl⟩) hys hul hr
   ·cases hr
  ·cases hr
 ·rename_i xs t hxs
  split at hr
  ·rename_i ys hys
   split at hr
   ·rename_i hul
    exact key _ ys hxs (.inr (.inl ⟨_, rfl⟩)) hys hul hr
   ·cases hr
  ·cases hr
 ·rename_i xs id a n hxs
  split at hr
  ·rename_i ys hys
   split at hr
   ·rename_i hul
    exact key _ ys hxs (.inr (.inr ⟨_, _, _, rfl⟩)) hys hul hr
   ·cases hr
  ·cases hr
 ·cases hr
end Go.PG
end
section
namespace Go.PG
open Go.RowKit
variable {Pg : Program} {G : World → Prop} {E : Env} {S : Nat → Prop} {B : Nat} {w0 w w' : World} {h : Hp} {M : Nat → Bk} {ρ : Type} {K : AV → Hp → Option ρ} {r : ρ} {st : St} {a : Act} {o : Oper}
theorem run_bound {k : IntKind} {i : Int} {y : Nat} (c : BoundsCode) (h0 : 0 ≤ i) (h1 : i ≤ y) : (Instr.sliceBound (.int k i) y c).run Pg w = .ok i.toNat w := by
 simp [Instr.sliceBound, asIntOf, h0, h1]
def Bound (x : Option Value) (d : Int) (i : Int) : Prop := (x = none ∧ i = d) ∨ ∃ k, x = some (.int k i)
theorem run_bounds {lo hi : Option Value} {l u : Int} {s : Bool} {n cap : Nat} (hl : Bound lo 0 l) (hu : Bound hi n u) (h0 : 0 ≤ l) (h1 : l ≤ u) (h2 : u ≤ cap) :
  (Instr.sliceBounds s n cap lo hi none).run Pg w = .ok (l.toNat, u.toNat, cap) w := by
 rcases hl with ⟨rfl, rfl⟩ | ⟨k, rfl⟩ <;> rcases hu with ⟨rfl, rfl⟩ | ⟨k', rfl⟩
 ·simp [Instr.sliceBounds]
 ·simp [Instr.sliceBounds, run_bound (Pg := Pg) (w := w) _ (by omega : 0 ≤ u) h2]
 ·simp [Instr.sliceBounds, run_bound (Pg := Pg) (w := w) _ h0 h1]
 ·have : (u.toNat : Int) = u := by omega
  simp [Instr.sliceBounds, run_bound (Pg := Pg) (w := w) _ (by omega : 0 ≤ u) h2, run_bound (Pg := Pg) (w := w) _ h0 (by omega : l ≤ (u.toNat : Int))]
theorem run_slice_row {t e' : TypeId} {e : Ty} (hu : Pg.underlying t = some (.slice e')) (he : OkE Pg e e') {lo hi : Option Value} {l u : Int} {A : Option Addr} {n cap : Nat} (hl : Bound lo 0 l) (hh : Bound hi n u) (h0 : 0 ≤ l) (h1 : l ≤ u) (h2 : u ≤ cap) :
  (Instr.sliceAt t (.slice A n cap) lo hi none).run Pg w = .ok (.slice (if cap = l.toNat then A else A.map (·.add (l.toNat * e.size))) (u.toNat - l.toNat) (cap - l.toNat)) w := by
 have := run_underlying hu w
 simp [Instr.sliceAt, Instr.slice, this, run_bounds (Pg := Pg) (w := w) hl hh h0 h1 h2, run_sizeOf_okE he w]
theorem run_slice_str {t : TypeId} (hu : Pg.underlying t = some .string) {lo hi : Option Value} {l u : Int} {s : ByteArray} (hl : Bound lo 0 l) (hh : Bound hi s.size u) (h0 : 0 ≤ l) (h1 : l ≤ u) (h2 : u ≤ (s.size : Int)) :
  (Instr.sliceAt t (.string s) lo hi none).run Pg w = .ok (.string (s.extract l.toNat u.toNat)) w := by
 have := run_underlying hu w
 simp [Instr.sliceAt, Instr.slice, this, run_bounds (Pg := Pg) (w := w) hl hh h0 h1 h2]
theorem run_slice_none {t e' : TypeId} {e : Ty} (hu : Pg.underlying t = some (.slice e')) (he : OkE Pg e e') {k1 k2 k3 : IntKind} {A : Option Addr} {n cap : Nat} :
  (Instr.sliceAt t (.slice A n cap) (some (.int k1 0)) (some (.int k2 0)) (some (.int k3 0))).run Pg w = .ok (.slice A 0 0) w := by
 have := run_underlying hu w
 have h1 : ∀ (y : Nat) (k : IntKind) (c : BoundsCode), (Instr.sliceBound (.int k 0) y c).run Pg w = .ok 0 w := fun y k c => by
  have := run_bound (Pg := Pg) (w := w) (k := k) (i := 0) (y := y) c (by omega) (by omega)
  simpa using this
 simp [Instr.sliceAt, Instr.slice, this, Instr.sliceBounds, h1, run_sizeOf_okE he w]
theorem bound_rep {c : Cx} {fr : Nat → AV} (F : ∀ t, RepV c (fr t) (a.tmps.getD t undef)) {x : Option Operand} {d i : Int} (h : ((x.map (opnd none fr)).map asInt).getD (some d) = some i) : Bound (x.map a.eval) d i := by
 cases x with
 | none => left; simpa using h.symm
 | some x =>
  right
  have hx := opnd_rep F none (by intros; simp) x
  simp only [Option.map_some, Option.getD_some] at h
  unfold asInt at h
  split at h
  ·rename_i k n e
   injection h with h
   subst h
   rw [e] at hx
   exact ⟨k, by simp [repV_int hx]⟩
  ·cases h
theorem len_rep (H : HInv S B w0 h M w) {v : AV} {u : Value} {n : Int} (hn : sliceLen h v = some n) (hv : RepV (cx S h M w) v u) :
  (∃ s, v = .data .str s ∧ u = .string s ∧ n = s.size) ∨ (∃ A m cap, u = .slice A m cap ∧ n = m ∧ m ≤ cap) := by
 cases v with
 | data t x =>
  cases t with
  | slice e =>
   right
   simp only [sliceLen] at hn
   injection hn with hn
   rcases repV_data hv with ⟨q, _⟩ | ⟨_, q⟩
   ·cases q
   ·simp only [RepD] at q
    obtain ⟨A, cap, h1, h2, _⟩ := q
    injection h1 with h1
    exact ⟨A, _, cap, h1, hn.symm, h2⟩
  | str =>
   left
   simp only [sliceLen] at hn
   injection hn with hn
   exact ⟨x, rfl, repV_str hv, hn.symm⟩
  | _ => simp [sliceLen] at hn
 | nilS e =>
  right
  simp only [sliceLen] at hn
  injection hn with hn
  simp only [RepV, Rep1] at hv
  obtain ⟨A, h1⟩ := hv
  injection h1 with h1
  exact ⟨A, 0, 0, h1, by omega, Nat.le_refl _⟩
 | own id =>
  right
  simp only [sliceLen] at hn
  split at hn
  ·rename_i e xs he
   injection hn with hn
   obtain ⟨A, cap, h1, h2, _⟩ := slice_cells H (v := .own id) (e := e) (xs := xs) (by simp [toD, he]) hv
   exact ⟨A, _, cap, h1, hn.symm, h2⟩
  ·cases hn
 | view id a k =>
  right
  simp only [sliceLen] at hn
  split at hn
  ·injection hn with hn
   simp only [RepV, Rep1] at hv
   obtain ⟨_, z, m, cap', h1, h2, _, h3, _⟩ := hv
   injection h1 with h1
   exact ⟨z, m, cap', h1, by omega, h3⟩
  ·cases hn
 | _ => simp [sliceLen] at hn
theorem len_some (H : HInv S B w0 h M w) {v : AV} {n : Int} (hn : sliceLen h v = some n) {A : Option Addr} {m cap : Nat} (hv : RepV (cx S h M w) v (.slice A m cap)) (hm : 0 < m) : A ≠ none := by
 rintro rfl
 cases v with
 | data t x =>
  cases t with
  | slice e =>
   rcases repV_data hv with ⟨q, _⟩ | ⟨_, q⟩
   ·cases q
   ·simp only [RepD] at q
    obtain ⟨A, cap, h1, h2, h3⟩ := q
    injection h1 with h1
    injection h1 with q1 q2 q3
    subst q1
    rcases h3 with h3 | ⟨b, o, h3, _⟩
    ·subst h3; simp at q2; omega
    ·cases h3
  | str => have := repV_str hv; cases this
  | _ => simp [sliceLen] at hn
 | nilS e =>
  simp only [RepV, Rep1] at hv
  obtain ⟨A, h1⟩ := hv
  injection h1 with h1
  injection h1 with q1 q2 q3
  omega
 | own id =>
  simp only [sliceLen] at hn
  split at hn
  ·rename_i e xs he
   obtain ⟨A, cap', h1, h2, h3⟩ := slice_cells H (v := .own id) (e := e) (xs := xs) (by simp [toD, he]) hv
   injection h1 with q1 q2 q3
   subst q1
   rcases h3 with h3 | ⟨b, o, h3, _⟩
   ·subst h3; simp at q2; omega
   ·cases h3
  ·cases hn
 | view id a k =>
  simp only [sliceLen] at hn
  split at hn
  ·rename_i e xs he
   obtain ⟨A, cap', h1, h2, h3⟩ := slice_cells H (v := .view id a k) (e := e) (xs := P.sub_ xs a (P.add a k)) (by simp [toD, he]) hv
   injection h1 with q1 q2 q3
   subst q1
   rcases h3 with h3 | ⟨b, o, h3, _⟩
   ·rw [h3] at q2; simp at q2; omega
   ·cases h3
  ·cases hn
 | _ => simp [sliceLen] at hn
theorem nil_ok (HE : EnvOk Pg G E) (F : ∀ t, RepV (cx S st.h M w) (st.fr t) (a.tmps.getD t undef)) (H : HInv S B w0 st.h M w) {op : BinOp} {t u : TypeId} {x y : Operand} (ho : o.op = .binOp op t x y u) {b : Bool} {e : Ty} {n : Int}
  (h1 : isNilC y = true) (h2 : nilOp op = some b) (h3 : E.ty t = some (.slice e)) (hn : rowLen st.h (opnd (E.ty t) st.fr x) = some n) (hr : (if P.ilt 0 n then K (.data .bool (P.not b)) st.h else K .unkB st.h) = some r) :
  Does Pg o a w (Post K r S B w0 st.h M w) := by
 obtain ⟨⟨e', hu, _⟩, _⟩ := HE.ty t _ h3
 have hx := opnd_rep F (E.ty t) (HE.noPair t) x
 have hy : a.eval y = .slice none 0 0 := by
  unfold isNilC at h1
  split at h1
  ·rfl
  ·cases h1
 have hno : ∀ s, opnd (E.ty t) st.fr x ≠ .data .str s := by
  intro s q
  rw [q] at hn
  simp [rowLen] at hn
 have hn : sliceLen st.h (opnd (E.ty t) st.fr x) = some n := by
  unfold rowLen at hn
  split at hn
  ·cases hn
  ·exact hn
 rcases len_rep H hn hx with ⟨s, hs, _, _⟩ | ⟨A, m, cap, hv, hm, _⟩
 ·exact absurd hs (hno s)
 ·have hrun : (execOp a.eval o).run Pg w = .ok (.value (.bool (if b then A.isNone else !A.isNone))) w := by
   have g : (eqGuard op t x y (a.eval x) (a.eval y)).run Pg w = .ok () w := eqGuard_run (by rw [hv]; simp) w
   have key : ∀ v, (binOp op t (.slice A m cap) (.slice none 0 0)).run Pg w = .ok v w → (execOp a.eval o).run Pg w = .ok (.value v) w := by
    intro v q
    simp only [execOp, ho, Sem.run_bind, g, Result.andThen_ok, Sem.run_pure]
    rw [hv, hy, q]
    rfl
   cases op <;> simp [nilOp] at h2
   ·subst h2
    exact key _ (Lib.run_eql_slice_nil w t e' A m cap 0 0 hu)
   ·subst h2
    exact key _ (run_neq_slice_nil_any w t e' A m cap 0 0 hu)
  by_cases hp : P.ilt 0 n = true
  ·rw [if_pos hp] at hr
   have hpos : 0 < m := by
    have : (0 : Int) < n := by simpa [P.ilt_def] using hp
    omega
   rw [hv] at hx
   have hA := len_some H hn hx hpos
   refine Does.value hrun (Post.same H hr ?_)
   cases A with
   | none => exact absurd rfl hA
   | some A => cases b <;> simp [RepV, RepD, isSt, P.not]
  ·rw [if_neg hp] at hr
   exact Does.value hrun (Post.same H hr (by simp [RepV, Rep1]))
theorem slice_ok (HE : EnvOk Pg G E) (F : ∀ t, RepV (cx S st.h M w) (st.fr t) (a.tmps.getD t undef)) (H : HInv S B w0 st.h M w) {t : TypeId} {x : Operand} {lo hi mx : Option Operand} (ho : o.op = .slice t x lo hi mx)
  (hr : evSlice (E.ty t) (opnd none st.fr x) (lo.map (opnd none st.fr)) (hi.map (opnd none st.fr)) (mx.map (opnd none st.fr)) st.h K = some r) : Does Pg o a w (Post K r S B w0 st.h M w) := by
 have hx := opnd_rep F none (by intros; simp) x
 have fin : ∀ (z : Value), (Instr.sliceAt t (a.eval x) (lo.map a.eval) (hi.map a.eval) (mx.map a.eval)).run Pg w = .ok z w → Post K r S B w0 st.h M w z w → Does Pg o a w (Post K r S B w0 st.h M w) := by
  intro z h1 h2
  refine Does.value (v := z) (w' := w) ?_ h2
  simp only [execOp, ho, Sem.run_bind, h1, Result.andThen_ok, Sem.run_pure]
 unfold evSlice at hr
 split at hr
 ·
  rename_i m hm
  split at hr
  case h_2 => cases hr
  rename_i e hty h1 h2 h3
  obtain ⟨⟨e', hu, he'⟩, _⟩ := HE.ty t _ hty
  obtain ⟨mo, rfl, rfl⟩ : ∃ mo, mx = some mo ∧ m = opnd none st.fr mo := by
   cases mx with
   | none => cases hm
   | some mo => injection hm with hm; exact ⟨mo, rfl, hm.symm⟩
  have num : ∀ {y : Operand}, asInt (opnd none st.fr y) = some 0 → ∃ k, a.eval y = .int k 0 := by
   intro y hy
   have hq := opnd_rep F none (by intros; simp) y
   unfold asInt at hy
   split at hy
   ·rename_i k n e2
    injection hy with hy
    subst hy
    rw [e2] at hq
    exact ⟨k, repV_int hq⟩
   ·cases hy
  obtain ⟨k3, hk3⟩ := num h1
  obtain ⟨lo', rfl⟩ : ∃ y, lo = some y := by cases lo with | none => simp at h2 | some y => exact ⟨y, rfl⟩
  obtain ⟨hi', rfl⟩ : ∃ y, hi = some y := by cases hi with | none => simp at h3 | some y => exact ⟨y, rfl⟩
  obtain ⟨k1, hk1⟩ := num (y := lo') (by simpa using h2)
  obtain ⟨k2, hk2⟩ := num (y := hi') (by simpa using h3)
  have key : ∀ A n cap, a.eval x = .slice A n cap → K (.nilS e) st.h = some r → Does Pg o a w (Post K r S B w0 st.h M w) := by
   intro A n cap hv hk
   refine fin (.slice A 0 0) ?_ (Post.same H hk (by simp [RepV, Rep1]))
   simp only [Option.map_some, hk1, hk2, hk3, hv]
   exact run_slice_none hu he'
  split at hr
  ·rename_i e2 xs ex
   rw [ex] at hx
   rcases repV_data hx with ⟨q, _⟩ | ⟨_, q⟩
   ·cases q
   ·simp only [RepD] at q
    obtain ⟨A, cap, h1, _⟩ := q
    injection h1 with h1
    exact key _ _ _ h1 hr
  ·rename_i e2 ex
   rw [ex] at hx
   simp only [RepV, Rep1] at hx
   obtain ⟨A, h1⟩ := hx
   injection h1 with h1
   exact key _ _ _ h1 hr
  ·rename_i id ex
   split at hr
   case h_2 => cases hr
   rw [ex] at hx
   simp only [RepV, Rep1] at hx
   obtain ⟨_, A, n, cap, h1, _⟩ := hx
   injection h1 with h1
   exact key _ _ _ h1 hr
  ·rename_i id a k ex
   split at hr
   case h_2 => cases hr
   rw [ex] at hx
   simp only [RepV, Rep1] at hx
   obtain ⟨_, A, n, cap, h1, _⟩ := hx
   injection h1 with h1
   exact key _ _ _ h1 hr
  ·cases hr
 ·rename_i hm
  obtain rfl : mx = none := by cases mx with | none => rfl | some y => cases hm
  split at hr
  case h_1 => cases hr
  rename_i n hn
  split at hr
  case h_2 => cases hr
  rename_i l u hl hu
  obtain ⟨hcut, hr'⟩ := test_some hr
  clear hr
  have hr := hr'
  clear hr'
  have hcut : 0 ≤ l ∧ l ≤ u ∧ u ≤ n := by
   simp only [P.cut_def] at hcut
   simp only [Bool.and_eq_true, decide_eq_true_eq] at hcut
   exact ⟨hcut.1.1, hcut.1.2, hcut.2⟩
  obtain ⟨c0, c1, c2⟩ := hcut
  have hl := bound_rep F hl
  have hu' := bound_rep F hu
  have hlen := len_rep H hn hx
  split at hr
  ·rename_i e e2 xs hty ex
   split at hr
   case h_2 => cases hr
   rename_i hd
   have hd : e = e2 := by simpa using hd
   subst hd
   obtain ⟨⟨e', hun, he'⟩, _⟩ := HE.ty t _ hty
   rw [ex] at hx hn
   simp only [sliceLen] at hn
   injection hn with hn
   subst hn
   unfold P.len at c2 hu'
   rcases repV_data hx with ⟨q, _⟩ | ⟨_, q⟩
   ·cases q
   simp only [RepD] at q
   obtain ⟨A, cap, h1, hle, h3⟩ := q
   injection h1 with h1
   refine fin _ (by rw [h1]; exact run_slice_row hun he' hl hu' c0 c1 (by omega)) (Post.same H hr ?_)
   simp only [RepV]
   right
   refine ⟨rfl, ?_⟩
   simp only [RepD]
   have hlen : List.length (P.sub_ xs l u) = u.toNat - l.toNat := by simp [P.sub_]; omega
   refine ⟨_, _, by rw [hlen], by rw [hlen]; omega, ?_⟩
   by_cases hz : u.toNat - l.toNat = 0
   ·exact .inl (List.eq_nil_of_length_eq_zero (by rw [hlen]; exact hz))
   right
   rcases h3 with h3 | ⟨b, of, rfl, hb, hnz, hel⟩
   ·subst h3; simp at c2; omega
   refine ⟨b, of + l.toNat * e.size, ?_, hb, hnz, fun i y hy => ?_⟩
   ·rw [if_neg (by omega)]; simp [Addr.add_mid]
   ·have hy' : xs[l.toNat + i]? = some y := by
     unfold P.sub_ at hy
     rw [List.getElem?_drop, List.getElem?_take] at hy
     split at hy
     ·exact hy
     ·cases hy
    obtain ⟨d, h4, h5⟩ := hel _ _ hy'
    refine ⟨d, h4, ?_⟩
    have e1 : of + l.toNat * e.size + i * e.size = of + (l.toNat + i) * e.size := by rw [Nat.add_mul]; omega
    rw [e1]; exact h5
  ·rename_i s hty ex
   obtain ⟨hun, _⟩ := HE.ty t _ hty
   rw [ex] at hx hn
   simp only [sliceLen] at hn
   injection hn with hn
   subst hn
   unfold P.slen at c2 hu'
   have hx := repV_str hx
   exact fin _ (by rw [hx]; exact (by rw [P.ssub_def]; exact run_slice_str hun hl hu' c0 c1 c2)) (Post.same H hr (rep_str _ _))
  ·rename_i e id hty ex
   split at hr
   ·split at hr
    case h_2 => cases hr
    rename_i e2 xs he
    split at hr
    case h_2 => cases hr
    rename_i hd
    have hd : e = e2 := by simpa using hd
    subst hd
    obtain ⟨⟨e', hun, he'⟩, _⟩ := HE.ty t _ hty
    rw [ex] at hx hn
    simp only [sliceLen, he] at hn
    injection hn with hn
    subst hn
    unfold P.len at c2 hu'
    simp only [RepV, Rep1] at hx
    obtain ⟨hid, A, n, cap, h1, h2⟩ := hx
    injection h1 with h1
    rcases h2 with h2 | hM
    ·simp only [cx] at h2; rw [he] at h2; cases h2
    obtain ⟨A', cap', h3, h4, h5⟩ := H.ent id _ he
    have hM' := hM
    simp only [cx] at hM h3
    rw [hM] at h3
    injection h3 with q1 q2 q3
    subst q1; subst q2; subst q3
    refine fin _ (by rw [h1]; exact run_slice_row hun he' hl hu' c0 c1 (by omega)) (Post.same H hr ?_)
    simp only [RepV, Rep1]
    refine ⟨hid, _, _, _, rfl, by simp only [P.sub]; omega, c0, by omega, .inr ⟨A, _, cap, e, xs, hM', he, by omega, rfl, ?_⟩⟩
    by_cases q : cap = l.toNat
    ·exact .inl (by omega)
    ·right; rw [if_neg q]
   ·split at hr
    case h_2 => cases hr
    rename_i e2 xs he hlk
    split at hr
    case h_2 => cases hr
    rename_i hd
    have hd : e = e2 := by simpa using hd
    subst hd
    obtain ⟨⟨e', hun, he'⟩, _⟩ := HE.ty t _ hty
    rw [ex] at hx hn
    simp only [sliceLen, he] at hn
    injection hn with hn
    subst hn
    unfold P.len at c2 hu'
    simp only [RepV, Rep1] at hx
    obtain ⟨_, A, n, cap, h1, h2⟩ := hx
    injection h1 with h1
    rcases h2 with h2 | hM
    ·simp only [cx] at h2; rw [he] at h2; cases h2
    obtain ⟨A', cap', h3, h4, h5⟩ := H.ent id _ he
    simp only [cx] at hM h3
    rw [hM] at h3
    injection h3 with q1 q2 q3
    subst q1; subst q2; subst q3
    have hlen : List.length (P.sub_ xs l u) = u.toNat - l.toNat := by simp [P.sub_]; omega
    refine fin _ (by rw [h1]; exact run_slice_row hun he' hl hu' c0 c1 (by omega)) ?_
    rw [← hlen]
    refine grow_row (l := [id]) H (by simp [unlocked, hlk]) (Below.refl _ _) rfl (by rw [hlen]; omega) (fun hc => ?_) (fun _ => rfl) hr
    rcases h5 with h5 | ⟨_, b, of, cs, el, rfl, h6, h7, h8⟩
    ·omega
    refine ⟨b, of + l.toNat * e.size, cs, el, id, ?_, by simp, by rw [he]; simp, by rw [hM]; exact row_has (by omega), h6, ?_, fun _ _ => rfl, fun i y hy => ?_⟩
    ·rw [if_neg (by omega)]; simp [Addr.add_mid]
    ·have : cap * e.size = l.toNat * e.size + (cap - l.toNat) * e.size := by rw [← Nat.add_mul]; congr 1; omega
     omega
    ·have hy' : xs[l.toNat + i]? = some y := by
      unfold P.sub_ at hy
      rw [List.getElem?_drop, List.getElem?_take] at hy
      split at hy
      ·exact hy
      ·cases hy
     obtain ⟨d, h9, h10⟩ := h8 _ _ hy'
     refine ⟨d, h9, ?_⟩
     have e1 : of + l.toNat * e.size + i * e.size = of + (l.toNat + i) * e.size := by rw [Nat.add_mul]; omega
     rw [e1]; exact h10
  ·rename_i e e2 hty ex
   split at hr
   case h_2 => cases hr
   rename_i hd
   have hd : e = e2 := by simpa using hd
   subst hd
   obtain ⟨⟨e', hun, he'⟩, _⟩ := HE.ty t _ hty
   rw [ex] at hx hn
   simp only [sliceLen] at hn
   injection hn with hn
   subst hn
   simp only [RepV, Rep1] at hx
   obtain ⟨A, h1⟩ := hx
   injection h1 with h1
   have hl0 : l = 0 := by omega
   have hu0 : u = 0 := by omega
   refine fin _ (by rw [h1]; exact run_slice_row hun he' (n := 0) (cap := 0) hl (by simpa using hu') c0 c1 (by omega)) (Post.same H hr ?_)
   subst hl0; subst hu0
   simp [RepV, Rep1]
  ·rename_i e id a k hty ex
   split at hr
   case h_2 => cases hr
   rename_i e2 xs he
   split at hr
   case h_2 => cases hr
   rename_i hd
   have hd : e = e2 := by simpa using hd
   subst hd
   obtain ⟨⟨e', hun, he'⟩, _⟩ := HE.ty t _ hty
   rw [ex] at hx hn
   simp only [sliceLen, he] at hn
   injection hn with hn
   subst hn
   simp only [RepV, Rep1] at hx
   obtain ⟨hid, z, m, cap', h1, hk, ha, hm, h2⟩ := hx
   injection h1 with h1
   rcases h2 with h2 | ⟨A, len, cap, e3, xs3, h3, h4, h5, h6, h7⟩
   ·simp only [cx] at h2; rw [he] at h2; cases h2
   have h4' : st.h.e id = some (.row e3 xs3) := h4
   rw [he] at h4'
   injection h4' with h4'
   injection h4' with g1 g2
   subst g1
   have g2 := eq_of_heq g2
   subst g2
   rw [hk] at hu'
   refine fin _ (by rw [h1]; exact run_slice_row hun he' hl hu' c0 c1 (by omega)) (Post.same H hr ?_)
   simp only [RepV, Rep1]
   refine ⟨hid, _, _, _, rfl, by simp only [P.sub]; omega, by simp only [P.add]; omega, by omega, .inr ⟨A, len, cap, e, xs, h3, h4, by simp only [P.add]; omega, by simp only [P.add]; omega, ?_⟩⟩
   by_cases q : cap' = l.toNat
   ·exact .inl (by omega)
   ·right
    rw [if_neg q]
    have h7 : z = A.map (·.add (a.toNat * e.size)) := by rcases h7 with h7 | h7; omega; exact h7
    rw [h7, Option.map_map]
    cases A with
    | none => rfl
    | some A =>
     simp only [Option.map_some, Function.comp, P.add]
     have : (a + l).toNat = a.toNat + l.toNat := by omega
     have add2 : ∀ (x : Addr) (i j : Nat), (x.add i).add j = x.add (i + j) := by
      intro x i j
      unfold Addr.add
      by_cases hi : i = 0
      ·subst hi; simp
      ·by_cases hj : j = 0
       ·subst hj; simp
       ·rw [if_neg hi, if_neg hj, if_neg (by omega)]
        simp [Nat.add_assoc]
     rw [this, Nat.add_mul, add2]
  ·cases hr
end Go.PG
end
section
namespace Go.PG
open Go.RowKit
variable {Pg : Program} {G : World → Prop} {E : Env} {S : Nat → Prop} {B : Nat} {w0 w w' : World} {h : Hp} {M : Nat → Bk} {ρ : Type} {K : AV → Hp → Option ρ} {r : ρ} {st : St} {a : Act} {o : Oper}
theorem fold_set : ∀ (d : List Value) (n off : Nat) (cells : Array Value) (c1 e c2 : List Value), cells.toList = c1 ++ e ++ c2 → c1.length = off + n → e.length = d.length →
  ((d.zipIdx n).foldl (fun cs p => cs.setIfInBounds (off + p.2) p.1) cells).toList = c1 ++ d ++ c2 := by
 intro d
 induction d with
 | nil =>
  intro n off cells c1 e c2 h h1 h2
  have : e = [] := List.eq_nil_of_length_eq_zero (by simpa using h2)
  subst this
  simpa using h
 | cons v d ih =>
  intro n off cells c1 e c2 h h1 h2
  cases e with
  | nil => simp at h2
  | cons x e =>
   simp only [List.zipIdx_cons, List.foldl_cons]
   have := ih (n + 1) off (cells.setIfInBounds (off + n) v) (c1 ++ [v]) e c2 (by
    rw [Array.toList_setIfInBounds, h, ← h1]
    simp) (by simp [h1]; omega) (by simpa using h2)
   rw [this]
   simp
theorem fill_step {place : Nat → Option (Nat × Nat)} {cells : Array Value} {i off size : Nat} {v : Value} {rest : List (Nat × Value)} {c1 e c2 : List Value} (hp : place i = some (off, size)) (hc : cells.toList = c1 ++ e ++ c2)
  (h1 : c1.length = off) (h2 : e.length = size) (h3 : v.cells.toList.length = size) : Instr.fill place cells ((i, v) :: rest) = Instr.fill place (c1 ++ v.cells.toList ++ c2).toArray rest := by
 have hs : v.cells.size = size := by simpa using h3
 have hsz : cells.size = c1.length + e.length + c2.length := by rw [← Array.length_toList, hc]; simp; omega
 have hcond : ¬ ((v.cells.size ≠ size) || (off + v.cells.size > cells.size)) = true := by simp [hs]; omega
 have hf := fold_set v.cells.toList 0 off cells c1 e c2 hc (by simpa using h1) (by omega)
 have : v.cells.zipIdx.foldl (fun cs (x : Value × Nat) => cs.setIfInBounds (off + x.2) x.1) cells = (c1 ++ v.cells.toList ++ c2).toArray := by
  apply Array.toList_inj.1
  rw [← Array.foldl_toList, Array.toList_zipIdx]
  exact hf
 simp only [Instr.fill, hp]
 rw [if_neg (by simpa using hcond)]
 exact congrArg (fun z => Instr.fill place z rest) this
theorem build_rep (HE : EnvOk Pg G E) (F : ∀ t, RepV (cx S h M w) (st.fr t) (a.tmps.getD t undef)) {b : Ty} {pl : Nat → Option (Nat × Nat)} (hpl : ∀ j t, b.nth j = some t → pl j = some (b.off j, t.size)) (hnp : ∀ j t, b.nth j = some t → ∀ x y, t ≠ .pair x y) :
  ∀ (ps : List (Nat × Operand)) (v v' : AV) (cs : Array Value), buildParts st.fr (.st b) ps v = some v' → fitsT v (.st b) = true → RepC (cx S h M w) v cs.toList →
   ∃ cs', Instr.fill pl cs (ps.map fun p => (p.1, a.eval p.2)) = some cs' ∧ fitsT v' (.st b) = true ∧ RepC (cx S h M w) v' cs'.toList := by
 intro ps
 induction ps with
 | nil =>
  intro v v' cs hb f hr
  simp only [buildParts] at hb
  injection hb with hb
  subst hb
  exact ⟨cs, rfl, f, hr⟩
 | cons p ps ih =>
  intro v v' cs hb f hr
  obtain ⟨j, x⟩ := p
  simp only [buildParts] at hb
  split at hb
  case h_2 => cases hb
  rename_i t ht
  simp only [partTy] at ht
  split at hb
  case h_2 => cases hb
  rename_i hs hf
  split at hb
  case h_2 => cases hb
  rename_i v2 hv2
  have hx := opnd_rep F (some t) (by rintro y z q; injection q with q; exact hnp j t ht y z q) x
  have hxc := repV_cells _ _ hs hx
  obtain ⟨fz, c1, e, c2, ecs, hl, hel, hz⟩ := av_upd hv2 f ht hf hr hxc
  have hxl := fits_len _ t _ hf hxc
  obtain ⟨cs', h1, h2, h3⟩ := ih v2 v' (c1 ++ (a.eval x).cells.toList ++ c2).toArray hb fz (by simpa using hz)
  refine ⟨cs', ?_, h2, h3⟩
  rw [List.map_cons, fill_step (hpl j t ht) ecs hl (by omega) hxl]
  exact h1
theorem nth_nopair {b : Ty} : ∀ {m : Mode}, (∀ t, m ≠ .typ t) → Ok Pg b m → ∀ j t, b.nth j = some t → ∀ x y, t ≠ .pair x y := by
 induction b with
 | pair p q ihp ihq =>
  intro m hm h j t hn x y e
  subst e
  cases m with
  | typ t => exact hm t rfl
  | flds l o =>
   cases l with
   | nil => exact h.elim
   | cons f l =>
    cases j with
    | zero => simp only [Ty.nth] at hn; injection hn with hn; subst hn; exact h.2.2.1
    | succ j => simp only [Ty.nth] at hn; exact ihq (by simp) h.2.2.2 j _ hn x y rfl
  | arr n e =>
   cases n with
   | zero => exact h.elim
   | succ n =>
    cases j with
    | zero => simp only [Ty.nth] at hn; injection hn with hn; subst hn; exact h.1
    | succ j => simp only [Ty.nth] at hn; exact ihq (by simp) h.2 j _ hn x y rfl
 | _ =>
  intro m hm h j t hn x y e
  obtain ⟨_, h2, _⟩ := nth_leaf (by intros; simp) hn
  subst h2
  cases e
theorem places_ok : ∀ (b : Ty) (l : List Field) (o : Nat), Ok Pg b (.flds l o) → ∃ ps, l.mapM (fun f => (Pg.info? f.type).map fun i => (f.offset, i.size)) = some ps ∧ ∀ j t, b.nth j = some t → ps[j]? = some (o + b.off j, t.size) := by
 intro b
 induction b with
 | pair p q ihp ihq =>
  intro l o h
  cases l with
  | nil => exact h.elim
  | cons f l =>
   obtain ⟨h1, _, h2, h3⟩ := h
   obtain ⟨ps, h4, h5⟩ := ihq l _ h3
   obtain ⟨i, h6, h7⟩ := ok_size h2
   refine ⟨(f.offset, i.size) :: ps, by simp [List.mapM_cons, h6, h4], fun j t hn => ?_⟩
   cases j with
   | zero => simp only [Ty.nth] at hn; injection hn with hn; subst hn; simp [h1, h7, Ty.off]
   | succ j =>
    simp only [Ty.nth] at hn
    simp only [List.getElem?_cons_succ, h5 j t hn, Ty.off]
    congr 2
    omega
 | _ =>
  intro l o h
  obtain ⟨f, rfl, h1, _, h2⟩ := ok_leaf_flds (by intros; simp) h
  obtain ⟨i, h6, h7⟩ := ok_size h2
  refine ⟨[(f.offset, i.size)], by simp [List.mapM_cons, h6], fun j t hn => ?_⟩
  obtain ⟨rfl, rfl, e⟩ := nth_leaf (by intros; simp) hn
  simp [h1, h7, e]
theorem build_ok (HE : EnvOk Pg G E) (F : ∀ t, RepV (cx S st.h M w) (st.fr t) (a.tmps.getD t undef)) (H : HInv S B w0 st.h M w) {t : TypeId} {ps : Array (Nat × Operand)} (ho : o.op = .build t ps)
  (hr : (match E.ty t with
  | some (.st b) => match buildParts st.fr (.st b) ps.toList (zeroAV (.st b)) with
   | some v => K v st.h
   | none => none
  | _ => none) = some r) : Does Pg o a w (Post K r S B w0 st.h M w) := by
 split at hr
 case h_2 => cases hr
 rename_i b hL
 split at hr
 case h_2 => cases hr
 rename_i v hv
 have hok := HE.ty t _ hL
 ·obtain ⟨hk, zs, ⟨i, hi1, hi2, hi3⟩, hz⟩ := hok
  obtain ⟨c1, e, hrep, hfit⟩ := zero_rep (c := cx S st.h M w) (.st b) zs.toList [] (by simpa [zeroRun] using hz)
  rw [List.append_nil] at e
  rw [← e] at hrep
  have hmap : (ps.map fun (i, x) => (i, a.eval x)).toList = ps.toList.map fun p => (p.1, a.eval p.2) := by simp
  have fin : ∀ (pl : Nat → Option (Nat × Nat)), (∀ j t, b.nth j = some t → pl j = some (b.off j, t.size)) → (∀ j t, b.nth j = some t → ∀ x y, t ≠ .pair x y) →
    (∀ cs', Instr.fill pl zs (ps.toList.map fun p => (p.1, a.eval p.2)) = some cs' → Pg.built t (ps.map fun (i, x) => (i, a.eval x)).toList = some cs') → Does Pg o a w (Post K r S B w0 st.h M w) := by
   intro pl h1 h2 h3
   obtain ⟨cs', h4, h5, h6⟩ := build_rep HE F h1 h2 ps.toList (zeroAV (.st b)) v zs hv hfit hrep
   refine Does.value (v := .agg cs') (w' := w) ?_ (Post.same H hr ?_)
   ·simp only [execOp, ho, Sem.run_bind, run_build w t _ cs' (h3 cs' h4), Result.andThen_ok, Sem.run_pure]
   ·exact repC_repV h5 (by intros; simp) h6 (.inl ⟨rfl, by simp⟩)
  rcases hk with ⟨fs, h1, h2⟩ | ⟨n, e', h1, h2⟩
  ·obtain ⟨places, h3, h4⟩ := places_ok b fs.toList 0 h2
   refine fin (fun j => places[j]?) (fun j t hn => by rw [h4 j t hn]; simp) (nth_nopair (by simp) h2) (fun cs' hf => ?_)
   rw [hmap]
   unfold Program.built
   simp only [hi1, h1, hi3, h3, Value.cells]
   simpa using hf
  ·have hie : ∃ ie, Pg.info? e' = some ie := by
    cases b with
    | pair p q => cases n with
     | zero => exact h2.elim
     | succ n => obtain ⟨i, h, _⟩ := ok_size h2.1; exact ⟨i, h⟩
    | unit => exact h2.elim
    | _ => obtain ⟨i, h, _⟩ := ok_size (ok_leaf_arr (by intros; simp) h2).2; exact ⟨i, h⟩
   obtain ⟨ie, hie⟩ := hie
   refine fin (fun j => some (j * ie.size, ie.size)) (fun j t hn => ?_) (nth_nopair (by simp) h2) (fun cs' hf => ?_)
   ·obtain ⟨_, h3, h4⟩ := ok_elem b n j e' t h2 hn
    obtain ⟨i2, h5, h6⟩ := ok_size h3
    rw [hie] at h5
    injection h5 with h5
    subst h5
    rw [h4 ie hie, h6]
   ·rw [hmap]
    unfold Program.built
    simp only [hi1, h1, hi3, hie, Value.cells]
    exact hf
theorem zeroCellD {Z : Nat → Prop} {t : Ty} {v : Value} (h : zeroCell t v = true) (hd : dataTy t = true) : RepD Z w t t.zero [v] := by
 cases t with
 | bool => cases v <;> simp [zeroCell] at h; subst h; simp [RepD, Ty.zero]
 | int k => cases v <;> simp [zeroCell] at h; obtain ⟨rfl, rfl⟩ := h; simp [RepD, Ty.zero]
 | str =>
  cases v <;> simp [zeroCell] at h
  rename_i s
  obtain ⟨d⟩ := s
  obtain rfl : d = #[] := by injection h
  simp [RepD, Ty.zero]
 | slice e =>
  cases v with
  | slice A n m =>
   cases A with
   | some a => simp [zeroCell] at h
   | none => cases n with
    | succ n => simp [zeroCell] at h
    | zero => cases m with
     | succ m => simp [zeroCell] at h
     | zero => simp [RepD, Ty.zero]
  | _ => simp [zeroCell] at h
 | _ => simp [dataTy] at hd <;> simp [zeroCell] at h
theorem zeroD {Z : Nat → Prop} : ∀ (t : Ty) (cs r : List Value), zeroRun t cs = some r → dataTy t = true → ∃ c1, cs = c1 ++ r ∧ RepD Z w t t.zero c1 := by
 intro t
 induction t with
 | st b ih =>
  intro cs r h hd
  simp only [zeroRun] at h
  simp only [dataTy] at hd
  obtain ⟨c1, e, h1⟩ := ih cs r h hd
  exact ⟨c1, e, by simpa only [RepD, Ty.zero] using h1⟩
 | pair a b iha ihb =>
  intro cs r h hd
  simp only [zeroRun] at h
  simp only [dataTy] at hd
  split at hd
  case h_2 => cases hd
  rename_i hda
  split at h
  ·rename_i r' hr
   obtain ⟨c1, rfl, h1⟩ := iha cs r' hr hda
   obtain ⟨c2, rfl, h3⟩ := ihb r' r h hd
   exact ⟨c1 ++ c2, by simp, by simp only [RepD, Ty.zero]; exact ⟨c1, c2, rfl, h1, h3⟩⟩
  ·cases h
 | _ =>
  intro cs r h hd
  cases cs with
  | nil => simp [zeroRun] at h
  | cons v l =>
   simp only [zeroRun] at h
   cases hz : zeroCell _ v with
   | false => rw [hz] at h; cases h
   | true =>
    rw [hz] at h
    injection h with h
    subst h
    exact ⟨[v], rfl, zeroCellD hz hd⟩
theorem ok_zeroD {Z : Nat → Prop} {t : Ty} {id : TypeId} (h : Ok Pg t (.typ id)) (hd : dataTy t = true) : ∃ i z, Pg.info? id = some i ∧ i.size = t.size ∧ i.zero = some z ∧ RepD Z w t t.zero z.cells.toList := by
 have key : ∀ z n, Info Pg id n z → n = t.size → zeroRun t z.cells.toList = some [] → ∃ i z, Pg.info? id = some i ∧ i.size = t.size ∧ i.zero = some z ∧ RepD Z w t t.zero z.cells.toList := by
  rintro z n ⟨i, h1, h2, h3⟩ hn hz
  obtain ⟨c1, e, h4⟩ := zeroD (Z := Z) (w := w) t _ _ hz hd
  refine ⟨i, z, h1, h2.trans hn, h3, ?_⟩
  rw [e]; simpa using h4
 cases t with
 | map _ _ => exact h.elim
 | dmap _ _ => exact h.elim
 | slf => exact h.elim
 | bld _ _ => exact h.elim
 | unit => exact h.elim
 | pair a b => exact h.elim
 | bool => exact key _ _ h.2 rfl (by simp [Value.cells, zeroRun, zeroCell])
 | int k => exact key _ _ h.2 rfl (by simp [Value.cells, zeroRun, zeroCell])
 | str => obtain ⟨_, s, h1, h2⟩ := h; exact key _ _ h1 rfl (by simp [Value.cells, zeroRun, zeroCell, h2])
 | slice e => exact key _ _ h.2 rfl (by simp [Value.cells, zeroRun, zeroCell])
 | opq => simp [dataTy] at hd
 | st b => obtain ⟨_, zs, h1, h2⟩ := h; exact key _ _ h1 rfl (by simpa [Value.cells, zeroRun] using h2)
theorem okE_zeroD {Z : Nat → Prop} {t : Ty} {id : TypeId} (h : OkE Pg t id) (hd : dataTy t = true) : ∃ i z, Pg.info? id = some i ∧ i.size = t.size ∧ i.zero = some z ∧ RepD Z w t t.zero z.cells.toList := by
 rcases h with h | ⟨rfl, _, zs, ⟨i, h1, h2, h3⟩, h4⟩
 ·exact ok_zeroD h hd
 ·obtain ⟨c1, e, h5⟩ := zeroD (Z := Z) (w := w) slfB _ _ h4 rfl
  refine ⟨i, .agg zs, h1, h2, h3, ?_⟩
  show RepD Z w .slf _ zs.toList
  rw [e, List.append_nil]
  exact RepD.slf_iff.2 h5
theorem fillParts_rep (HE : EnvOk Pg G E) (F : ∀ t, RepV (cx S h M w) (st.fr t) (a.tmps.getD t undef)) (H : HInv S B w0 h M w) {e : Ty} (he : ∀ x y, e ≠ .pair x y) (hpos : 0 < e.size) {Z' : Nat → Prop} (hZ : ∀ b, Z' b → (cx S h M w).Z b) :
  ∀ (ps : List (Nat × Operand)) (acc xs : List e.D) (cs : Array Value), (∀ p ∈ ps, ∀ id ∈ (opnd (some e.un) st.fr p.2).owns, ∀ b, h.e id ≠ none → (M id).has b → ¬ Z' b) →
   fillParts e h (ps.map fun p => (p.1, opnd (some e.un) st.fr p.2)) acc = some xs → RowRep Z' w e acc cs.toList →
   ∃ cs', Instr.fill (fun i => some (i * e.size, e.size)) cs (ps.map fun p => (p.1, a.eval p.2)) = some cs' ∧ RowRep Z' w e xs cs'.toList ∧ List.length xs = List.length acc := by
 intro ps
 induction ps with
 | nil =>
  intro acc xs cs _ hf hr
  simp only [List.map_nil, fillParts] at hf
  injection hf with hf
  subst hf
  exact ⟨cs, rfl, hr, rfl⟩
 | cons p ps ih =>
  intro acc xs cs hown hf hr
  obtain ⟨i, x⟩ := p
  simp only [List.map_cons, fillParts] at hf
  split at hf
  case h_2 => cases hf
  rename_i y hy hi
  have hi : i < List.length acc := by simpa using hi
  have hx := opnd_rep F (some e.un) (by rintro p q r; injection r with r; exact he p q (un_pair r)) x
  have hsol := toD_solid _ e.un _ hy (by rintro q; rw [q] at hy; cases e <;> simp [toD, Ty.un] at hy; simp [Ty.size] at hpos)
  have hxc := repV_cells _ _ hsol hx
  have hd := (toD_rep H hZ _ e.un y _ (hown (i, x) List.mem_cons_self) hy hxc).of
  obtain ⟨hlen, hel⟩ := hr
  obtain ⟨d, h1, h2⟩ := hel i _ (List.getElem?_eq_getElem hi)
  have hmul := mul_le_of_lt (n := e.size) hi
  have hsplit : cs.toList = cs.toList.take (i * e.size) ++ d ++ cs.toList.drop (i * e.size + e.size) := by
   have hmid : (cs.toList.drop (i * e.size)).take e.size = d := by
    apply List.ext_getElem?
    intro j
    rw [List.getElem?_take]
    split
    ·rename_i hj
     rw [List.getElem?_drop]
     have hj' : j < d.length := by rw [h1.len]; exact hj
     rw [List.getElem?_eq_getElem hj']
     exact h2 j _ (List.getElem?_eq_getElem hj')
    ·rename_i hj
     symm
     apply List.getElem?_eq_none
     rw [h1.len]; omega
   have h3 := List.take_append_drop (i * e.size) cs.toList
   have h4 := List.take_append_drop e.size (cs.toList.drop (i * e.size))
   rw [List.drop_drop, hmid] at h4
   rw [List.append_assoc, h4, h3]
  have hpl : (cs.toList.take (i * e.size)).length = i * e.size := by
   rw [List.length_take, hlen]; omega
  have hstep := fill_step (place := fun i => some (i * e.size, e.size)) (i := i) (v := a.eval x) (rest := ps.map fun p => (p.1, a.eval p.2)) rfl hsplit hpl h1.len hd.len
  obtain ⟨cs', h5, h6, h7⟩ := ih (acc.set i (ofD e y)) xs (cs.toList.take (i * e.size) ++ (a.eval x).cells.toList ++ cs.toList.drop (i * e.size + e.size)).toArray (fun p hp => hown p (List.mem_cons_of_mem _ hp)) hf ⟨by
    have := congrArg List.length hsplit
    simp only [List.length_append, h1.len] at this
    simp only [List.length_append, hd.len, List.length_set]
    omega, fun i' x' hx' => by
    rw [List.getElem?_set] at hx'
    by_cases hii : i = i'
    ·subst hii
     simp [hi] at hx'
     subst hx'
     refine ⟨_, hd, fun j v hv => ?_⟩
     have hj := (List.getElem?_eq_some_iff.1 hv).1
     show (_ ++ _ ++ _ : List Value)[_]? = _
     rw [List.append_assoc, List.getElem?_append_right (by omega), hpl, Nat.add_sub_cancel_left, List.getElem?_append_left hj]
     exact hv
    ·simp only [hii, if_false] at hx'
     obtain ⟨d', g1, g2⟩ := hel i' x' hx'
     refine ⟨d', g1, fun j v hv => ?_⟩
     have hj : j < e.size := by rw [← g1.len]; exact (List.getElem?_eq_some_iff.1 hv).1
     have hold := g2 j v hv
     show (_ ++ _ ++ _ : List Value)[_]? = _
     rw [cell_splice (e := d) (by rw [h1.len, hd.len]), ← hsplit, hpl, hd.len]
     rcases Nat.lt_or_gt_of_ne hii with hlt | hgt
     ·have := mul_le_of_lt (n := e.size) hlt
      rw [if_neg (by omega), if_neg (by omega)]
      exact hold
     ·have := mul_le_of_lt (n := e.size) hgt
      rw [if_pos (by omega)]
      exact hold⟩
  exact ⟨cs', by rw [List.map_cons, hstep]; exact h5, h6, by rw [h7, List.length_set]⟩
theorem zero_row {Z : Nat → Prop} {e : Ty} {z : Array Value} (hz : RepD Z w e e.zero z.toList) (n : Nat) : RowRep Z w e (List.replicate n e.zero) ((Array.range (n * e.size)).map (z[· % z.size]!)).toList := by
 have hl : z.size = e.size := by simpa using hz.len
 refine ⟨by simp, fun i x hx => ?_⟩
 have hi : i < n := by have := (List.getElem?_eq_some_iff.1 hx).1; simpa using this
 rw [List.getElem?_replicate, if_pos hi] at hx
 injection hx with hx
 subst hx
 refine ⟨_, hz, fun j v hv => ?_⟩
 have hj : j < z.size := by simpa using (List.getElem?_eq_some_iff.1 hv).1
 have := mul_le_of_lt (n := e.size) hi
 have hlt : i * e.size + j < n * e.size := by omega
 rw [Array.getElem?_toList, Array.getElem?_map]
 rw [Array.getElem?_eq_getElem (by simpa using hlt)]
 simp only [Array.getElem_range, Option.map_some]
 have e1 : (i * e.size + j) % z.size = j := by rw [hl, Nat.add_comm, Nat.add_mul_mod_self_right]; exact Nat.mod_eq_of_lt (by omega)
 rw [e1]
 rw [Array.getElem?_toList, Array.getElem?_eq_getElem hj] at hv
 rw [getElem!_pos z j hj]
 exact hv
theorem buildSlice_ok (HE : EnvOk Pg G E) (F : ∀ t, RepV (cx S st.h M w) (st.fr t) (a.tmps.getD t undef)) (H : HInv S B w0 st.h M w) {t : TypeId} {n : Nat} {ps : Array (Nat × Operand)} (ho : o.op = .buildSlice t n ps)
  {e : Ty} (hty : E.ty t = some (.slice e)) {xs : List e.D} (hf : fillParts e st.h (ps.toList.map fun p => (p.1, opnd (some e.un) st.fr p.2)) (List.replicate n e.zero) = some xs) (hdt : dataTy e = true) (hsm : Nat.ble (n * e.size) 16777216 = true)
  (hul : unlocked st.h (ps.toList.flatMap fun p => (opnd (some e.un) st.fr p.2).owns) = true)
  (hr : K (.own st.h.next) ((st.h.kills (ps.toList.flatMap fun p => (opnd (some e.un) st.fr p.2).owns)).new (.row e xs)) = some r) : Does Pg o a w (Post K r S B w0 st.h M w) := by
 obtain ⟨⟨e', hu, he⟩, _⟩ := HE.ty t _ hty
 have hpos := okE_pos he
 obtain ⟨ie, z, hi1, hi2, hi3, hz⟩ := okE_zeroD (Z := (cx S (st.h.kills (ps.toList.flatMap fun p => (opnd (some e.un) st.fr p.2).owns)) M w).Z) (w := w) he hdt
 have hzr := zero_row hz n
 have hown : ∀ p ∈ ps.toList, ∀ id ∈ (opnd (some e.un) st.fr p.2).owns, ∀ b, st.h.e id ≠ none → (M id).has b → ¬ (cx S (st.h.kills (ps.toList.flatMap fun p => (opnd (some e.un) st.fr p.2).owns)) M w).Z b := by
  intro p hp id hid b hl hb zz
  rcases zz with zz | ⟨i, f, q1, q2⟩
  ·have := H.own id b hl hb
   have := H.old b zz
   omega
  ·simp only [cx] at q1
   rw [kills_e] at q1
   split at q1
   ·cases q1
   ·rename_i hni
    have := H.dist id i b hl (by rw [q1]; simp) hb q2
    subst this
    exact hni (List.mem_flatMap.2 ⟨p, hp, hid⟩)
 obtain ⟨cs', h1, h2, h3⟩ := fillParts_rep HE F H (fun x y => okE_pair he) hpos Z_kills ps.toList _ xs _ hown hf hzr
 have hlen : List.length xs = n := by rw [h3]; simp
 have hmap : (ps.map fun (i, x) => (i, a.eval x)).toList = ps.toList.map fun p => (p.1, a.eval p.2) := by simp
 have hfin := new_row (w' := w) (el := e') (cs := cs'.toList) (rest := []) (cap := n) H hul rfl (Below.refl _ _) (by rw [List.append_nil, h2.1, hlen]) (by omega) h2 hr
 rw [List.append_nil, hlen] at hfin
 have hsm' : n * e.size ≤ 16777216 := Nat.le_of_ble_eq_true hsm
 refine Does.value (v := .slice (some ⟨w.heap.size, 0, none⟩) n n) (w' := w.alloc (.cells cs' e' (0, 0))) ?_ (by simpa using hfin)
 by_cases hn : n = 0
 ·subst hn
  have hps : ps.toList = [] := by
   cases q : ps.toList with
   | nil => rfl
   | cons p l => rw [q] at hf; simp [fillParts] at hf
  rw [hps, Nat.zero_mul, show Array.range 0 = #[] from rfl] at h1
  simp [Instr.fill] at h1
  have hpe : ps = #[] := by apply Array.toList_inj.1; simpa using hps
  subst hpe
  subst h1
  simp [execOp, ho, Instr.buildSlice, run_underlying hu, sizeOf, typeInfo, hi1, Instr.fill, newRow]
  rw [show Array.range 0 = #[] from rfl, Array.map_empty]
 ·have hrun := run_buildSlice (P := Pg) w t e' n (ps.map fun (i, x) => (i, a.eval x)) cs' ie z hu hi1 hi3 (by rw [hi2]; omega) (by
   rw [hi2]
   have : n * e.size ≠ 0 := Nat.mul_ne_zero hn (by omega)
   exact this) (by rw [hmap, hi2]; exact h1)
  simp only [execOp, ho, Sem.run_bind, hrun, Result.andThen_ok, Sem.run_pure]
end Go.PG
end
section
namespace Go.PG
open Go.RowKit
variable {Pg : Program} {G : World → Prop} {E : Env} {S : Nat → Prop} {B : Nat} {w0 w w' : World} {h : Hp} {M : Nat → Bk} {ρ : Type} {K : AV → Hp → Option ρ} {r : ρ} {st : St} {a : Act} {o : Oper}
theorem splice_ok (H : HInv S B w0 h M w) {id : Nat} {e : Ty} {xs : List e.D} (he : h.e id = some (.row e xs)) (hl : h.lk id = false) {n cap b o : Nat} {cs : Array Value} {el : TypeId} (hM : M id = .row (some ⟨b, o, none⟩) n cap) (hc : cap ≠ 0)
  (hheap : w.heap[b]? = some (.cells cs el (0, 0))) (hfit : o + cap * e.size ≤ cs.size) (hel : ∀ i x, xs[i]? = some x → ∃ d, RepD (cx S h M w).Z w e x d ∧ Mem w b (o + i * e.size) d) {k : Nat} {ys : List e.D} {ds : List Value}
  (hk : k + ys.length ≤ xs.length) (hds : RowRep (cx S h M w).Z w e ys ds) :
  HInv S B w0 (h.put id (.row e (xs.take k ++ ys ++ xs.drop (k + ys.length)))) M (w.setRow b (cs.toList.take (o + k * e.size) ++ ds ++ cs.toList.drop (o + k * e.size + ds.length)).toArray) ∧
  HStp S h M w (h.put id (.row e (xs.take k ++ ys ++ xs.drop (k + ys.length)))) M (w.setRow b (cs.toList.take (o + k * e.size) ++ ds ++ cs.toList.drop (o + k * e.size + ds.length)).toArray) := by
 obtain ⟨A', cap', hM', hle, _⟩ := H.ent id _ he
 have hM' : M id = .row A' (List.length xs) cap' := hM'
 rw [hM] at hM'
 injection hM' with _ q2 q3
 subst q2; subst q3
 have hB : B ≤ b := H.own id b (by rw [he]; simp) (by rw [hM]; exact row_has hc)
 have hnew := setRow_heap w b cs (cs.toList.take (o + k * e.size) ++ ds ++ cs.toList.drop (o + k * e.size + ds.length)).toArray el (0, 0) hheap
 have hdl := hds.1
 have hmul : k * e.size + ys.length * e.size ≤ cap * e.size := by rw [← Nat.add_mul]; exact Nat.mul_le_mul_right _ (by omega)
 have hlen : (xs.take k ++ ys ++ xs.drop (k + ys.length)).length = xs.length := by simp <;> omega
 have htl : (cs.toList.take (o + k * e.size)).length = o + k * e.size := by simp <;> omega
 have hsz : (cs.toList.take (o + k * e.size) ++ ds ++ cs.toList.drop (o + k * e.size + ds.length)).toArray.size = cs.size := by
  simp only [List.size_toArray, List.length_append, List.length_drop, Array.length_toList, htl]
  omega
 refine H.upd he hl (.inr ⟨e, xs, _, rfl, rfl, hlen⟩) (fun c _ hcb => ?_) (by simp) ⟨rfl, rfl, rfl, by simp, fun j hj => setRow_other w b j _ (by omega)⟩ fun k' => ?_
 ·have : c ≠ b := fun q => hcb (by rw [hM, q]; exact row_has hc)
  exact setRow_other w b c _ this
 ·refine ⟨_, cap, (show M id = _ by rw [hM, hlen]), by rw [hlen]; exact hle, .inr ⟨hc, b, o, _, el, rfl, hnew, by rw [hsz]; exact hfit, fun i x hx => ?_⟩⟩
  have cell : ∀ (p : Nat) (v : Value), (cs.toList.take (o + k * e.size) ++ ds ++ cs.toList.drop (o + k * e.size + ds.length))[p]? = some v → (w.setRow b (cs.toList.take (o + k * e.size) ++ ds ++ cs.toList.drop (o + k * e.size + ds.length)).toArray).cell? ⟨b, p, none⟩ = some v := by
   intro p v hv
   simp only [World.cell?, hnew, Option.isSome_none, Bool.false_eq_true, if_false]
   rw [List.getElem?_toArray]
   exact hv
  have old : ∀ (i : Nat) (x : e.D), xs[i]? = some x → (i < k ∨ k + ys.length ≤ i) → ∃ d, RepD (cx S (h.put id (.row e (xs.take k ++ ys ++ xs.drop (k + ys.length)))) M (w.setRow b (cs.toList.take (o + k * e.size) ++ ds ++ cs.toList.drop (o + k * e.size + ds.length)).toArray)).Z (w.setRow b (cs.toList.take (o + k * e.size) ++ ds ++ cs.toList.drop (o + k * e.size + ds.length)).toArray) e x d ∧ Mem (w.setRow b (cs.toList.take (o + k * e.size) ++ ds ++ cs.toList.drop (o + k * e.size + ds.length)).toArray) b (o + i * e.size) d := by
   intro i x hx hi
   obtain ⟨d, g1, g2⟩ := hel i x hx
   refine ⟨d, g1.held k'.held, fun j v hv => cell _ _ ?_⟩
   have hj : j < e.size := by rw [← g1.len]; exact (List.getElem?_eq_some_iff.1 hv).1
   have hold := g2 j v hv
   simp only [World.cell?, hheap, Option.isSome_none, Bool.false_eq_true, if_false] at hold
   rcases hi with hi | hi
   ·have := mul_le_of_lt (n := e.size) hi
    rw [List.append_assoc, List.getElem?_append_left (by rw [htl]; omega), List.getElem?_take, if_pos (by omega), Array.getElem?_toList]
    exact hold
   ·have h1 : (k + ys.length) * e.size ≤ i * e.size := Nat.mul_le_mul_right _ hi
    rw [Nat.add_mul] at h1
    rw [List.getElem?_append_right (by rw [List.length_append, htl]; omega), List.length_append, htl, List.getElem?_drop, Array.getElem?_toList]
    have e1 : o + k * e.size + ds.length + (o + i * e.size + j - (o + k * e.size + ds.length)) = o + i * e.size + j := by omega
    rw [e1]
    exact hold
  rcases Nat.lt_or_ge i k with q | q
  ·rw [List.append_assoc, List.getElem?_append_left (by simp <;> omega), List.getElem?_take, if_pos q] at hx
   exact old i x hx (.inl q)
  ·rcases Nat.lt_or_ge i (k + ys.length) with q2 | q2
   ·rw [List.append_assoc, List.getElem?_append_right (by simp <;> omega), List.getElem?_append_left (by simp <;> omega)] at hx
    have e2 : i - (xs.take k).length = i - k := by simp <;> omega
    rw [e2] at hx
    obtain ⟨d, g1, g2⟩ := hds.2 _ x hx
    refine ⟨d, g1.held k'.held, fun j v hv => cell _ _ ?_⟩
    have hj : j < e.size := by rw [← g1.len]; exact (List.getElem?_eq_some_iff.1 hv).1
    have hlt := (List.getElem?_eq_some_iff.1 (g2 j v hv)).1
    have e3 : i * e.size = k * e.size + (i - k) * e.size := by rw [← Nat.add_mul]; congr 1; omega
    rw [List.append_assoc, List.getElem?_append_right (by rw [htl]; omega), htl]
    have e4 : o + i * e.size + j - (o + k * e.size) = (i - k) * e.size + j := by omega
    rw [e4, List.getElem?_append_left hlt]
    exact g2 j v hv
   ·rw [List.getElem?_append_right (by simp <;> omega)] at hx
    have e2 : i - (xs.take k ++ ys).length = i - (k + ys.length) := by simp <;> omega
    rw [e2, List.getElem?_drop] at hx
    have e3 : k + ys.length + (i - (k + ys.length)) = i := by omega
    rw [e3] at hx
    exact old i x hx (.inr q2)
theorem zeros_rep {Z : Nat → Prop} {e : Ty} {z : Value} (hz : RepD Z w e e.zero z.cells.toList) : ∀ n : Nat, RowRep Z w e (List.replicate n e.zero) (Builtin.zeroCells z.cells n).toList := by
 intro n
 have hlen : z.cells.size = e.size := by have := hz.len; simpa using this
 refine ⟨by simp [Builtin.zeroCells, hlen], fun i x hx => ?_⟩
 rw [List.getElem?_replicate] at hx
 split at hx
 case isFalse => cases hx
 rename_i hi
 injection hx with hx
 subst hx
 refine ⟨_, hz, fun j v hv => ?_⟩
 have hj : j < z.cells.size := by have := (List.getElem?_eq_some_iff.1 hv).1; simpa using this
 have hm : i * e.size + j < n * z.cells.size := by
  have := mul_le_of_lt (n := e.size) hi
  rw [hlen] at hj ⊢
  omega
 have hmod : (i * e.size + j) % z.cells.size = j := by
  rw [← hlen, Nat.mul_comm, Nat.mul_add_mod, Nat.mod_eq_of_lt hj]
 have hv' : z.cells[j]? = some v := by simpa using hv
 have hv2 : z.cells[j]! = v := by rw [getElem!_pos _ j hj]; rw [Array.getElem?_eq_getElem hj] at hv'; exact Option.some.inj hv'
 simp only [Builtin.zeroCells, Array.getElem?_toList, Array.getElem?_map]
 rw [Array.getElem?_eq_getElem (by simpa using hm)]
 simp [hmod, hv2]
theorem fill_splice {α : Type} {l : List α} {a n : Int} {m : Nat} {z : α} (hn : n = (m : Int)) : P.fill l a n z = l.take a.toNat ++ List.replicate m z ++ l.drop (a.toNat + (List.replicate m z).length) := by
 subst hn
 simp [P.fill]
theorem run_clear_zero {t : TypeId} {e' : TypeId} (hu : Pg.underlying t = some (.slice e')) (ty : TypeId) (A : Option Addr) (cap : Nat) : (Builtin.clear_ #[t] ty #[.slice A 0 cap]).run Pg w = .ok (.tuple #[]) w := by
 have := run_underlying hu w
 cases A <;> simp [Builtin.clear_, this]
theorem run_clear_row {t e' : TypeId} {info : TypeInfo} {z : Value} (hu : Pg.underlying t = some (.slice e')) (hi : Pg.info? e' = some info) (hz : info.zero = some z) (ty : TypeId) {b o n cap : Nat} {cur : Array Value} {el : TypeId} (hn : n ≠ 0)
  (hw : w.heap[b]? = some (.cells cur el (0, 0))) (hfit : o + (Builtin.zeroCells z.cells n).toList.length ≤ cur.size) (h1 : ∀ v ∈ (Builtin.zeroCells z.cells n).toList, v.oneCell' = true) :
  (Builtin.clear_ #[t] ty #[.slice (some ⟨b, o, none⟩) n cap]).run Pg w = .ok (.tuple #[]) (w.setRow b (cur.toList.take o ++ (Builtin.zeroCells z.cells n).toList ++ cur.toList.drop (o + (Builtin.zeroCells z.cells n).toList.length)).toArray) := by
 have hunder := run_underlying hu w
 have := run_storeCells_at Pg b o el (Builtin.zeroCells z.cells n).toList 0 cur w hw (by omega) h1
 simp only [Nat.add_zero] at this
 obtain ⟨k, rfl⟩ : ∃ k, n = k + 1 := ⟨n - 1, by omega⟩
 simp [Builtin.clear_, hunder, zeroValue, typeInfo, hi, hz, this]
theorem clear_ok (HE : EnvOk Pg G E) (H : HInv S B w0 h M w) {t : TypeId} {e : Ty} (hty : E.ty t = some (.slice e)) (hd : dataTy e = true) {x : AV} {xv : Value} (ty : TypeId) (hx : RepV (cx S h M w) x xv) (hr : evClear e x h K = some r) :
  ∃ w', (Builtin.clear_ #[t] ty #[xv]).run Pg w = .ok (.tuple #[]) w' ∧ Post K r S B w0 h M w (.tuple #[]) w' := by
 obtain ⟨⟨e', hu, he'⟩, _⟩ := HE.ty t _ hty
 have hrep : ∀ c : Cx, RepV c (.tup .unit) (.tuple #[]) := fun c => by simp [RepV, RepT]
 unfold evClear at hr
 split at hr
 ·simp only [RepV, Rep1] at hx
  obtain ⟨A, h1⟩ := hx
  injection h1 with h1
  subst h1
  exact ⟨w, run_clear_zero hu ty A 0, Post.same H hr (hrep _)⟩
 ·rename_i id a n
  split at hr
  case h_2 => cases hr
  rename_i e2 xs he hlk
  split at hr
  case h_2 => cases hr
  rename_i hde
  have hde : e = e2 := by simpa using hde
  subst hde
  simp only [RepV] at hx
  have hx0 := hx
  obtain ⟨z, m, cap', h1, hn, ha, hm, hle, h3⟩ := view_cells H he hx
  injection h1 with h1
  subst h1
  obtain ⟨A, n', hM, hle2, hrow⟩ := H.ent id _ he
  have hM : M id = .row A (List.length xs) n' := hM
  obtain ⟨_, z2, m2, cap2, h1', hn', _, _, hview⟩ := hx0
  injection h1' with h1'
  injection h1' with q1 q2 q3
  subst q1; subst q2; subst q3
  by_cases hm0 : m = 0
  ·subst hm0
   refine ⟨w, run_clear_zero hu ty z cap', ⟨.tup .unit, _, M, hr, ?_⟩⟩
   have hfill : P.fill xs a n e.zero = xs := by rw [fill_splice hn]; simp
   rw [hfill]
   obtain ⟨H', k⟩ := H.upd he hlk (e' := .row e xs) (.inr ⟨e, xs, xs, rfl, rfl, rfl⟩) (w' := w) (fun _ _ _ => rfl) (Nat.le_refl _) (Below.refl _ _) (fun k => (H.ent id _ he).tr k rfl (fun _ _ => rfl))
   exact ⟨H', k, hrep _⟩
  ·rcases hview with hview | ⟨A3, len3, cap3, e3, xs3, g1, g2, g3, g4, g5⟩
   ·simp only [cx] at hview; rw [he] at hview; cases hview
   have g2 : h.e id = some (.row e3 xs3) := g2
   rw [he] at g2
   injection g2 with g2
   injection g2 with q1 q2
   subst q1
   have q2 := eq_of_heq q2
   subst q2
   have g1 : M id = .row A3 len3 cap3 := g1
   rw [hM] at g1
   injection g1 with q1 q2 q3
   subst q1; subst q2; subst q3
   have g5 : z = A.map (·.add (a.toNat * e.size)) := by rcases g5 with g5 | g5; omega; exact g5
   rcases hrow with hc | ⟨hc, b, of, cs, el, rfl, h6, h7, h8⟩
   ·omega
   obtain ⟨info, zv, i1, i2, i3, i4⟩ := okE_zeroD (Pg := Pg) (w := w) (Z := (cx S h M w).Z) he' hd
   have hzr := zeros_rep i4 m
   have hpos := okE_pos he'
   have hz : z = some ⟨b, of + a.toNat * e.size, none⟩ := by rw [g5]; simp [Addr.add_mid]
   have hzl := hzr.1
   rw [List.length_replicate] at hzl
   have hbd : of + a.toNat * e.size + m * e.size ≤ cs.size := by
    have : a.toNat * e.size + m * e.size ≤ n' * e.size := by rw [← Nat.add_mul]; exact Nat.mul_le_mul_right _ (by omega)
    omega
   obtain ⟨H', k⟩ := splice_ok H he hlk hM hc h6 h7 h8 (k := a.toNat) (ys := List.replicate m e.zero) (by simpa using hle) hzr
   refine ⟨_, by rw [hz]; exact run_clear_row hu i1 i3 ty hm0 h6 (by rw [hzl]; exact hbd) (rowrep_one hpos hzr), ⟨.tup .unit, _, M, ?_, H', k, hrep _⟩⟩
   rw [fill_splice hn] at hr
   exact hr
 ·cases hr
theorem run_append_zeros (t tn ty e : TypeId) (i : TypeInfo) (z : Value) (k kn : IntKind) (ht : Pg.underlying t = some (.slice e)) (htn : Pg.underlying tn = some (.int kn)) (hi : Pg.info? e = some i) (hz : i.zero = some z)
  (A : Option Addr) (n : Nat) (h0 : 0 < n) (hs : 0 < i.size) (h63 : (n : Int) ≤ 9223372036854775807) (h48 : n * i.bytes ≤ 281474976710656) :
  (Builtin.append_ #[t, tn] ty #[.slice A 0 0, .int k n]).run Pg w =
   .ok (.slice (some ⟨w.heap.size, 0, none⟩) n (grownCap w n 0 e)) (w.drew.alloc (.cells (Builtin.zeroCells z.cells n ++ Builtin.zeroCells z.cells (grownCap w n 0 e - n)) e)) := by
 have hn : n ≠ 0 := by omega
 have hw : IntKind.i64.wrap (n : Int) = n := by rw [IntKind.wrap_i64]; omega
 have h63' : ¬ (9223372036854775807 < (n : Int)) := by omega
 have h48' : ¬ (281474976710656 < Builtin.nextslicecap n 0 * i.bytes) := by rw [nextslicecap_zero h0]; omega
 have h48i : ¬ (281474976710656 < (n : Int) * (i.bytes : Int)) := by
  rw [← Int.natCast_mul]
  omega
 have hneg : ¬ ((n : Int) < 0) := by omega
 have hns : ¬ (n * i.size = 0) := Nat.mul_ne_zero hn (by omega)
 have hf : ∀ w' : World, (Builtin.firstCells i.size 0 (.slice A 0 0)).run Pg w' = .ok #[] w' := fun w' => by
  have := run_firstCells (Pg := Pg) (w := w') (cs := []) (n := 0) (sz := i.size) (A := A) (c := 0) (by simp) (.inl rfl)
  simpa using this
 simp [Builtin.append_, run_underlying ht, run_underlying htn, sizeOf, typeInfo, zeroValue, hi, hz, Go.asInt, asIntOf, hw, hn, hneg, hns, h63', h48', h48i, Question.forced, hf, newRow, grownCap]
theorem zeros_ok (H : HInv S B w0 h M w) {sT xT e' : TypeId} {kn : IntKind} {e : Ty} {bytes : Nat} {s x : AV} {sv xv : Value} {info : TypeInfo} (ty : TypeId)
  (hu : Pg.underlying sT = some (.slice e')) (hux : Pg.underlying xT = some (.int kn)) (hi : Pg.info? e' = some info) (hb : info.bytes = bytes) (hb0 : 0 < bytes) (he : OkE Pg e e')
  (hs : RepV (cx S h M w) s sv) (hx : RepV (cx S h M w) x xv) (hr : evZeros bytes e s x h K = some r) :
  ∃ v w', (Builtin.append_ #[sT, xT] ty #[sv, xv]).run Pg w = .ok v w' ∧ Post K r S B w0 h M w v w' := by
 unfold evZeros at hr
 split at hr
 case h_2 => cases hr
 rename_i k n
 split at hr
 case h_2 => cases hr
 rename_i hd
 obtain ⟨t1, hr⟩ := test_some hr
 obtain ⟨t2, hr⟩ := test_some hr
 simp only [RepV, Rep1] at hs
 obtain ⟨A, h1⟩ := hs
 injection h1 with h1
 subst h1
 have hx := repV_int hx
 subst hx
 have hn : (0 : Int) < n := by simpa [P.ilt_def] using t1
 obtain ⟨m, rfl⟩ := Int.eq_ofNat_of_zero_le (Int.le_of_lt hn)
 have hn : (0 : Int) < (m : Int) := hn
 have hroom : m * bytes ≤ 140737488355328 := by
  have := of_decide_eq_true ((P.room_def _ _).symm.trans t2)
  simpa using this
 have hm63 : m ≤ 140737488355328 := Nat.le_trans (Nat.le_mul_of_pos_right m hb0) hroom
 obtain ⟨i2, z, i1, i3, i4, i5⟩ := okE_zeroD (Pg := Pg) (w := w) (Z := (cx S h M w).Z) he hd
 rw [hi] at i1
 injection i1 with i1
 subst i1
 have hpos := okE_pos he
 have hzr := zeros_rep i5 m
 refine ⟨_, _, run_append_zeros sT xT ty e' info z k kn hu hux hi i4 A m (by omega) (by rw [i3]; exact hpos) (by omega) (by rw [hb]; omega), ?_⟩
 have hge := grownCap_ge w m 0 e'
 have hzl := hzr.1
 rw [List.length_replicate] at hzl
 have hzc : (Builtin.zeroCells z.cells (grownCap w m 0 e' - m)).toList.length = (grownCap w m 0 e' - m) * e.size := by
  have := (zeros_rep i5 (grownCap w m 0 e' - m)).1
  rwa [List.length_replicate] at this
 have hlen : List.length (P.rep (m : Int) e.zero) = m := by simp [P.rep]
 have := new_row (l := []) (w' := w.drew) (el := e') (cs := (Builtin.zeroCells z.cells m).toList) (rest := (Builtin.zeroCells z.cells (grownCap w m 0 e' - m)).toList) (cap := grownCap w m 0 e') (xs := P.rep (m : Int) e.zero) H rfl rfl
  ⟨rfl, rfl, rfl, Nat.le_refl _, fun _ _ => rfl⟩ (by
   rw [List.length_append, hzl, hzc, ← Nat.add_mul]
   congr 1
   omega) (by rw [hlen]; exact hge) (by simpa [P.rep, Hp.kills] using hzr) hr
 rw [hlen] at this
 have e1 : ((Builtin.zeroCells z.cells m).toList ++ (Builtin.zeroCells z.cells (grownCap w m 0 e' - m)).toList).toArray = Builtin.zeroCells z.cells m ++ Builtin.zeroCells z.cells (grownCap w m 0 e' - m) := by
  apply Array.toList_inj.1; simp
 rw [e1] at this
 exact this
end Go.PG
end
section
namespace Go.PG
open Go.RowKit
variable {Pg : Program} {G : World → Prop} {E : Env} {S : Nat → Prop} {B : Nat} {w0 w w' : World} {h : Hp} {M : Nat → Bk} {ρ : Type} {K : AV → Hp → Option ρ} {r : ρ} {st : St} {a : Act} {o : Oper}
theorem HInv.grow (H : HInv S B w0 h M w) (b : Below w.heap.size w w') : HInv S B w0 h M w' ∧ HStp S h M w h M w' := by
 have k : Tr (cx S h M w) (cx S h M w') := ⟨fun c hc hz => ⟨hz, b.block c hc⟩, Nat.le_refl _, fun id _ => ids_self H id⟩
 exact ⟨⟨fun id q hq => (H.ent id q hq).tr k rfl (fun c hc => b.block c (blk_lt H (by rw [hq]; simp) hc)), H.fresh, H.dist, H.own, H.bel.trans (b.mono H.bsz), Nat.le_trans H.bsz b.size, H.old, H.bw⟩, k, rfl, fun _ _ _ => ⟨rfl, rfl⟩⟩
theorem RepD.flat {Z Z' : Nat → Prop} {w w' : World} : ∀ {t : Ty} {x : t.D} {cs : List Value}, t.flat = true → RepD Z w t x cs → RepD Z' w' t x cs := by
 intro t
 induction t with
 | slice e ih => intro x cs f; simp [Ty.flat] at f
 | opq => intro x cs f; simp [Ty.flat] at f
 | map _ _ _ _ => intro x cs f; simp [Ty.flat] at f
 | dmap _ _ _ _ => intro x cs f; simp [Ty.flat] at f
 | slf => intro x cs f; simp [Ty.flat] at f
 | bld _ _ => intro x cs f; simp [Ty.flat] at f
 | st b ih => intro x cs f h; simp only [Ty.flat] at f; simp only [RepD] at h ⊢; exact ih f h
 | pair p q ihp ihq =>
  intro x cs f h
  simp only [Ty.flat, Bool.and_eq_true] at f
  simp only [RepD] at h ⊢
  obtain ⟨c1, c2, rfl, h1, h2⟩ := h
  exact ⟨c1, c2, rfl, ihp f.1 h1, ihq f.2 h2⟩
 | _ => intro x cs _ h; exact h
theorem RepDV.flat {Z Z' : Nat → Prop} {w w' : World} {t : Ty} {x : t.D} {v : Value} (f : t.flat = true) (h : RepDV Z w t x v) : RepDV Z' w' t x v := by
 rcases h with ⟨e, cs, rfl, h⟩ | ⟨e, h⟩
 ·exact .inl ⟨e, cs, rfl, h.flat f⟩
 ·exact .inr ⟨e, h.flat f⟩
theorem repT_data {c : Cx} {t : Ty} {x : t.D} {vs : List Value} : RepT c (.data t x) vs ↔ ∃ v, vs = [v] ∧ RepDV c.Z c.w t x v := by
 simp only [RepT, RepDV]
theorem cz_Zeq (Z : Nat → Prop) (w : World) : (cz Z w).Z = Z := funext fun b => propext (cz_Z Z w b)
theorem repT_spread_flat {Z Z' : Nat → Prop} {w w' : World} : ∀ (t : Ty) (x : t.D) (vs : List Value), t.flat = true → RepT (cz Z w) (spread t x) vs → RepT (cz Z' w') (spread t x) vs := by
 intro t
 induction t with
 | pair p q ihp ihq =>
  intro x vs f h
  simp only [Ty.flat, Bool.and_eq_true] at f
  simp only [spread, RepT, RepV] at h ⊢
  obtain ⟨v, vs', e, h1, h2⟩ := h
  rw [cz_Zeq] at h1 ⊢
  exact ⟨v, vs', e, RepDV.flat f.1 h1, ihq x.2 vs' f.2 h2⟩
 | _ =>
  intro x vs f h
  simp only [spread] at h ⊢
  rw [repT_data] at h ⊢
  obtain ⟨v, e, h⟩ := h
  exact ⟨v, e, h.flat f⟩
theorem resV_flat {Z Z' : Nat → Prop} {w w' : World} {t : Ty} {x : t.D} {v : Value} (f : t.flat = true) (h : RepV (cz Z w) (resAV t x) v) : RepV (cz Z' w') (resAV t x) v := by
 cases t with
 | pair p q =>
  simp only [resAV, RepV] at h ⊢
  obtain ⟨vs, e, h⟩ := h
  exact ⟨vs, e, repT_spread_flat (.pair p q) x _ f h⟩
 | unit => simp only [resAV, RepV, RepT] at h ⊢; exact h
 | _ =>
  simp only [resAV] at h ⊢
  have h := repV_data h
  simp only [RepV]
  exact h.flat f
theorem toD_V (H : HInv S B w0 h M w) {Z' : Nat → Prop} (hZ : ∀ b, Z' b → (cx S h M w).Z b) {v : AV} {t : Ty} {x : t.D} {u : Value} (hown : ∀ id ∈ v.owns, ∀ b, h.e id ≠ none → (M id).has b → ¬ Z' b)
  (hx : toD h v t = some x) (hu : RepV (cx S h M w) v u) : RepDV Z' w t x u := by
 have hne : v ≠ .unit := by rintro rfl; exact (by simpa only [RepV] using hu : False)
 have hsol := toD_solid v t x hx hne
 have hd := toD_rep H hZ v t x _ hown hx (repV_cells v u hsol hu)
 cases v with
 | data t' x' =>
  simp only [toD] at hx
  split at hx
  ·rename_i e
   subst e
   rcases repV_data hu with ⟨q, cs, rfl, _⟩ | ⟨q, hq⟩
   ·exact .inl ⟨q, cs, rfl, hd⟩
   ·rw [oneCell_cells (hq.one u (by simp))] at hd
    exact .inr ⟨q, by simpa using hd⟩
  ·cases hx
 | nilS e =>
  cases t with
  | slice e' => simp only [RepV] at hu; obtain ⟨z, h4, h5⟩ := hu.one; injection h4 with h4; subst h4; rw [oneCell_cells h5] at hd; exact .inr ⟨rfl, by simpa using hd⟩
  | _ => simp [toD] at hx
 | own id =>
  cases t with
  | slice e' => simp only [RepV] at hu; obtain ⟨z, h4, h5⟩ := hu.one; injection h4 with h4; subst h4; rw [oneCell_cells h5] at hd; exact .inr ⟨rfl, by simpa using hd⟩
  | _ => simp [toD] at hx
 | view id a n =>
  cases t with
  | slice e' => simp only [RepV] at hu; obtain ⟨z, h4, h5⟩ := hu.one; injection h4 with h4; subst h4; rw [oneCell_cells h5] at hd; exact .inr ⟨rfl, by simpa using hd⟩
  | _ => simp [toD] at hx
 | st b =>
  cases t with
  | st tb =>
   simp only [RepV] at hu
   obtain ⟨cs, rfl, _⟩ := hu
   exact .inl ⟨rfl, cs, rfl, hd⟩
  | _ => simp [toD] at hx
 | pr p q => simp only [RepV] at hu
 | unit => exact absurd rfl hne
 | _ => simp [toD] at hx
def Reps (c : Cx) (args : List AV) (vals : List Value) : Prop := args.length = vals.length ∧ ∀ (i : Nat) (a : AV) (v : Value), args[i]? = some a → vals[i]? = some v → RepV c a v
theorem reps_cons {c : Cx} {a : AV} {args : List AV} {vals : List Value} (h : Reps c (a :: args) vals) : ∃ v vs, vals = v :: vs ∧ RepV c a v ∧ Reps c args vs := by
 obtain ⟨h1, h2⟩ := h
 cases vals with
 | nil => simp at h1
 | cons v vs => exact ⟨v, vs, rfl, h2 0 a v rfl rfl, by simpa using h1, fun i x y hx hy => h2 (i + 1) x y (by simpa using hx) (by simpa using hy)⟩
theorem args_rep (H : HInv S B w0 h M w) {Z' : Nat → Prop} (hZ : ∀ b, Z' b → (cx S h M w).Z b) : ∀ (args : List AV) (t : Ty) (v : AV) (x : t.D) (vals : List Value), argsD h args t = some v → toD h v t = some x →
  (∀ id ∈ v.owns, ∀ b, h.e id ≠ none → (M id).has b → ¬ Z' b) → Reps (cx S h M w) args vals → RepT (cz Z' w) (argAV t x) vals := by
 intro args
 induction args with
 | nil =>
  intro t v x vals ha hx _ hr
  simp only [argsD] at ha
  injection ha with ha
  subst ha
  have hv : vals = [] := List.eq_nil_of_length_eq_zero hr.1.symm
  subst hv
  cases t <;> simp [toD] at hx
  simp [argAV, RepT]
 | cons a args ih =>
  intro t v x vals ha hx hown hr
  obtain ⟨u, vs, rfl, hu, hr'⟩ := reps_cons hr
  cases args with
  | nil =>
   have hvs : vs = [] := List.eq_nil_of_length_eq_zero hr'.1.symm
   subst hvs
   cases t with
   | unit => simp [argsD] at ha
   | pair p q => simp [argsD] at ha
   | _ =>
    simp only [argsD] at ha
    injection ha with ha
    subst ha
    have hV := toD_V H hZ hown hx hu
    simp only [argAV]
    rw [repT_data, cz_Zeq]
    exact ⟨u, rfl, hV⟩
  | cons a2 args2 =>
   cases t with
   | pair p q =>
    simp only [argsD] at ha
    split at ha
    ·rename_i z hz
     injection ha with ha
     subst ha
     simp only [toD] at hx
     split at hx
     case h_2 => cases hx
     rename_i x1 hx1
     split at hx
     case h_2 => cases hx
     rename_i x2 hx2
     injection hx with hx
     subst hx
     have hV := toD_V H hZ (fun id hid => hown id (by simp [AV.owns, hid])) hx1 hu
     simp only [argAV, RepT, RepV]
     rw [cz_Zeq]
     exact ⟨u, vs, rfl, hV, ih q z x2 vs hz hx2 (fun id hid => hown id (by simp [AV.owns, hid])) hr'⟩
    ·cases ha
   | _ => simp [argsD] at ha
theorem bind_some {α β : Type} {x : Option α} {f : α → Option β} {y : β} (h : P.bind x f = some y) : ∃ z, x = some z ∧ f z = some y := by
 simp only [P.bind_def] at h
 cases x with
 | none => cases h
 | some z => exact ⟨z, rfl, h⟩
theorem cx_lt (H : HInv S B w0 h M w) : ∀ b, (cx S h M w).Z b → b < w.heap.size := by
 rintro b (z | ⟨id, e, q1, q2⟩)
 ·exact Nat.lt_of_lt_of_le (H.old b z) H.bsz
 ·exact blk_lt H (by rw [show h.e id = some e from q1]; simp) q2
theorem spec_ok (HE : EnvOk Pg G E) (hG : G w0) (H : HInv S B w0 h M w) {f : FuncId} {s : Spec} (hs : SpecOk Pg G f s) {args : List AV} {vals : Array Value} (hargs : Reps (cx S h M w) args vals.toList)
  (hr : callSpec s args h K = some r) : Calls Pg f vals w fun e w' => ∃ v, e = .returned v ∧ Post K r S B w0 h M w v w' := by
 have hGw : G w := HE.G w0 w hG (by rw [H.bw]; exact H.bel)
 unfold callSpec at hr
 split at hr
 ·cases hr
 rename_i v hv
 have key : ∀ x, toD h v s.a = some x → ∀ res, s.F x = some res →
   Calls Pg f vals w fun e w' => ∃ u, e = .returned u ∧ Below w.heap.size w w' ∧ RepV (cz (cx S (h.kills v.owns) M w).Z w') (resAV s.r res) u := by
  intro x hx res hres
  refine hs (cx S (h.kills v.owns) M w).Z w vals x res hGw (fun b z => cx_lt H b (Z_kills b z)) hres (args_rep H Z_kills args s.a v x vals.toList hv hx ?_ hargs)
  intro id hid b hl hb z
  rcases z with z | ⟨i, e, q1, q2⟩
  ·have := H.own id b hl hb
   have := H.old b z
   omega
  ·simp only [cx] at q1
   rw [kills_e] at q1
   split at q1
   ·cases q1
   ·rename_i hni
    have := H.dist id i b hl (by rw [q1]; simp) hb q2
    subst this
    exact hni hid
 split at hr
 ·rename_i hflat
  split at hr
  case h_2 => cases hr
  rename_i x hx
  obtain ⟨res, hres, hk⟩ := bind_some hr
  refine (key x hx res hres).mono fun e w' ⟨u, he, hb, hu⟩ => ⟨u, he, ?_⟩
  obtain ⟨H', k⟩ := H.grow hb
  refine ⟨_, h, M, hk, H', k, ?_⟩
  have := resV_flat (Z' := (cx S h M w').Z) (w' := w') hflat hu
  exact RepV.tr (c := cz (cx S h M w').Z w') ⟨by rw [cz_Zeq]; exact Held.refl _ _, Nat.zero_le _, fun id hid => absurd hid (Nat.not_lt_zero _)⟩ _ _ this
 ·unfold freeze at hr
  split at hr
  case h_2 => cases hr
  rename_i x hx
  split at hr
  case h_2 => cases hr
  rename_i hul
  simp only at hr
  obtain ⟨res, hres, hk⟩ := bind_some hr
  refine (key x hx res hres).mono fun e w' ⟨u, he, hb, hu⟩ => ⟨u, he, ?_⟩
  obtain ⟨H1, k1⟩ := H.kills hul
  obtain ⟨H', k⟩ := H1.grow hb
  refine ⟨_, h.kills v.owns, M, hk, H', k1.trans k, ?_⟩
  refine RepV.tr (c := cz (cx S (h.kills v.owns) M w).Z w') ⟨?_, Nat.zero_le _, fun id hid => absurd hid (Nat.not_lt_zero _)⟩ _ _ hu
  rw [cz_Zeq]
  intro b _ hz
  exact ⟨fun z => hz (by rcases z with z | z; exact .inl z; exact .inr z), rfl⟩
theorem ospec_ok (HE : EnvOk Pg G E) (hG : G w0) (H : HInv S B w0 h M w) {f : FuncId} {s : OSpec} (hs : OSpecOk Pg G f s) {args : List AV} {vals : Array Value} (hargs : Reps (cx S h M w) args vals.toList)
  (hr : evOspec s args h K = some r) : Calls Pg f vals w fun e w' => ∃ v, e = .returned v ∧ Post K r S B w0 h M w v w' := by
 have hGw : G w := HE.G w0 w hG (by rw [H.bw]; exact H.bel)
 unfold evOspec at hr
 split at hr
 ·cases hr
 rename_i v hv
 unfold freeze at hr
 split at hr
 case h_2 => cases hr
 rename_i x hx
 split at hr
 case h_2 => cases hr
 rename_i hul
 simp only at hr
 obtain ⟨res, hres, hk⟩ := bind_some hr
 have hcall := hs (cx S (h.kills v.owns) M w).Z w vals x res hGw (fun b z => cx_lt H b (Z_kills b z)) hres (args_rep H Z_kills args s.a v x vals.toList hv hx (by
  intro id hid b hl hb z
  rcases z with z | ⟨i, e, q1, q2⟩
  ·have := H.own id b hl hb
   have := H.old b z
   omega
  ·simp only [cx] at q1
   rw [kills_e] at q1
   split at q1
   ·cases q1
   ·rename_i hni
    have := H.dist id i b hl (by rw [q1]; simp) hb q2
    subst this
    exact hni hid) hargs)
 refine hcall.mono fun e w' ⟨A, cap, he, hle, hb, hrow⟩ => ⟨_, he, ?_⟩
 obtain ⟨H1, k1⟩ := H.kills hul
 have hne : (set1 M (h.kills v.owns).next (Bk.row A (List.length res) cap)) (h.kills v.owns).next = Bk.row A (List.length res) cap := by simp [set1, Nat.beq_refl]
 obtain ⟨H', k⟩ := H1.new (.row s.e res) (.row A (List.length res) cap) (w' := w') (fun b hlt => hb.block b hlt) hb.size (hb.mono H.bsz)
  (fun b hbk => by
   obtain ⟨hc, ad, e1, e2⟩ := has_some hbk
   rcases hrow with hrow | ⟨_, b', o, cs, el, hA, hge, _⟩
   ·exact absurd hrow hc
   ·rw [hA] at e1
    injection e1 with e1
    subst e1
    rw [← e2]; exact hge)
  (fun hZ k => ⟨A, cap, hne, hle, hrow.imp id fun ⟨hc, b, o, cs, el, hA, hge, h1, h2, h3⟩ => ⟨hc, b, o, cs, el, hA, h1, h2, fun i y hy => by
   obtain ⟨d, d1, d2⟩ := h3 i y hy
   refine ⟨d, d1.held (Held.of_le w' fun k hk => ?_), d2⟩
   rcases (hZ k).1 hk with z | z
   ·exact .inl z
   ·obtain ⟨_, ad, e1, e2⟩ := has_some z
    rw [hA] at e1
    injection e1 with e1
    subst e1
    exact .inr e2.symm⟩⟩)
 refine ⟨_, _, _, hk, H', k1.trans k, ?_⟩
 exact row_value (e := s.e) (xs := res) (by simp [Hp.new]) hne
theorem caps_reps {c : Cx} : ∀ (v : AV) (vs : List Value), RepT c v vs → Reps c (capsList v) vs := by
 have one : ∀ (v : AV) (vs : List Value), capsList v = [v] → (∃ u, vs = [u] ∧ RepV c v u) → Reps c (capsList v) vs := by
  rintro v vs e ⟨u, rfl, h⟩
  rw [e]
  refine ⟨rfl, fun i a x ha hx => ?_⟩
  cases i with
  | zero => simp at ha hx; subst ha; subst hx; exact h
  | succ i => simp at ha
 intro v
 induction v with
 | unit => intro vs h; simp only [RepT] at h; subst h; exact ⟨rfl, by simp [capsList]⟩
 | pr p q ihp ihq =>
  intro vs h
  simp only [RepT] at h
  obtain ⟨u, vs', rfl, h1, h2⟩ := h
  obtain ⟨h3, h4⟩ := ihq vs' h2
  refine ⟨by simp [capsList, h3], fun i a x ha hx => ?_⟩
  cases i with
  | zero => simp [capsList] at ha hx; subst ha; subst hx; exact h1
  | succ i => simp [capsList] at ha hx; exact h4 i a x ha hx
 | undef => intro vs h; simp only [RepT] at h; obtain ⟨u, rfl⟩ := h; exact one _ _ rfl ⟨u, rfl, by simp only [RepV]⟩
 | tup b _ => intro vs h; simp only [RepT] at h; obtain ⟨us, rfl, h⟩ := h; exact one _ _ rfl ⟨_, rfl, by simp only [RepV]; exact ⟨us, rfl, h⟩⟩
 | data t x => intro vs h; simp only [RepT] at h; obtain ⟨u, rfl, h⟩ := h; exact one _ _ rfl ⟨u, rfl, by simp only [RepV]; exact h⟩
 | st b _ => intro vs h; simp only [RepT] at h; obtain ⟨us, rfl, h⟩ := h; exact one _ _ rfl ⟨_, rfl, by simp only [RepV]; exact ⟨us, rfl, h⟩⟩
 | fn f d _ => intro vs h; simp only [RepT] at h; obtain ⟨us, rfl, h⟩ := h; exact one _ _ rfl ⟨_, rfl, by simp only [RepV]; exact ⟨us, rfl, h⟩⟩
 | nilS e => intro vs h; simp only [RepT] at h; obtain ⟨u, rfl, h⟩ := h; exact one _ _ rfl ⟨u, rfl, by simp only [RepV]; exact h⟩
 | own id => intro vs h; simp only [RepT] at h; obtain ⟨u, rfl, h⟩ := h; exact one _ _ rfl ⟨u, rfl, by simp only [RepV]; exact h⟩
 | ptr id p => intro vs h; simp only [RepT] at h; obtain ⟨u, rfl, h⟩ := h; exact one _ _ rfl ⟨u, rfl, by simp only [RepV]; exact h⟩
 | rptr t x => intro vs h; simp only [RepT] at h; obtain ⟨u, rfl, h⟩ := h; exact one _ _ rfl ⟨u, rfl, by simp only [RepV]; exact h⟩
 | eptr id i p => intro vs h; simp only [RepT] at h; obtain ⟨u, rfl, h⟩ := h; exact one _ _ rfl ⟨u, rfl, by simp only [RepV]; exact h⟩
 | view id a n => intro vs h; simp only [RepT] at h; obtain ⟨u, rfl, h⟩ := h; exact one _ _ rfl ⟨u, rfl, by simp only [RepV]; exact h⟩
 | unkB => intro vs h; simp only [RepT] at h; obtain ⟨u, rfl, h⟩ := h; exact one _ _ rfl ⟨u, rfl, by simp only [RepV]; exact h⟩
 | mref id => intro vs h; simp only [RepT] at h; obtain ⟨u, rfl, h⟩ := h; exact one _ _ rfl ⟨u, rfl, by simp only [RepV]; exact h⟩
 | dref id => intro vs h; simp only [RepT] at h; obtain ⟨u, rfl, h⟩ := h; exact one _ _ rfl ⟨u, rfl, by simp only [RepV]; exact h⟩
 | dptr id i => intro vs h; simp only [RepT] at h; obtain ⟨u, rfl, h⟩ := h; exact one _ _ rfl ⟨u, rfl, by simp only [RepV]; exact h⟩
 | tptr id i m => intro vs h; simp only [RepT] at h; obtain ⟨u, rfl, h⟩ := h; exact one _ _ rfl ⟨u, rfl, by simp only [RepV]; exact h⟩
theorem reps_append {c : Cx} {a1 a2 : List AV} {v1 v2 : List Value} (h1 : Reps c a1 v1) (h2 : Reps c a2 v2) : Reps c (a1 ++ a2) (v1 ++ v2) := by
 refine ⟨by simp [h1.1, h2.1], fun i a v ha hv => ?_⟩
 by_cases hi : i < a1.length
 ·rw [List.getElem?_append_left hi] at ha
  rw [List.getElem?_append_left (by rw [← h1.1]; exact hi)] at hv
  exact h1.2 i a v ha hv
 ·rw [List.getElem?_append_right (by omega)] at ha
  rw [List.getElem?_append_right (by rw [← h1.1]; omega)] at hv
  exact h2.2 _ a v ha (by rw [h1.1]; exact hv)
theorem run_callFunc {f : FuncId} {args : Array Value} (h : (Pg.funcs[f]?).any (fun fn => fn.name != "runtime.NumGoroutine" && fn.body.isSome) = true) : (callFunc f args).run Pg w = .ok (.enter f args) w := by
 cases hf : Pg.funcs[f]? with
 | none => simp [hf] at h
 | some fn =>
  simp only [hf, Option.any_some, Bool.and_eq_true, bne_iff_ne, ne_eq] at h
  have h1 : (fn.name == "runtime.NumGoroutine") = false := by simpa using h.1
  have h2 : fn.body.isNone = false := by
   cases q : fn.body with
   | none => rw [q] at h; simp at h
   | some b => rfl
  simp only [callFunc, Sem.run_bind, run_program, Result.andThen_ok, hf, h1, h2, Bool.false_eq_true, if_false]
  rfl
theorem flat_rep {Z Z' : Nat → Prop} {w w' : World} : ∀ {t : Ty} {x : t.D} {cs : List Value}, t.flat = true → RepD Z w t x cs → RepD Z' w' t x cs := by
 intro t
 induction t with
 | unit => intro x cs _ h; exact h
 | bool => intro x cs _ h; exact h
 | str => intro x cs _ h; exact h
 | opq => intro x cs h; simp [Ty.flat] at h
 | int k => intro x cs _ h; exact h
 | slice e _ => intro x cs h; simp [Ty.flat] at h
 | map _ _ _ _ => intro x cs h; simp [Ty.flat] at h
 | dmap _ _ _ _ => intro x cs h; simp [Ty.flat] at h
 | slf => intro x cs h; simp [Ty.flat] at h
 | bld _ _ => intro x cs h; simp [Ty.flat] at h
 | st b ih => intro x cs h h1; simp only [RepD] at h1 ⊢; exact ih (by simpa [Ty.flat] using h) h1
 | pair a b iha ihb =>
  intro x cs h h1
  simp only [Ty.flat, Bool.and_eq_true] at h
  simp only [RepD] at h1 ⊢
  obtain ⟨c1, c2, e, h2, h3⟩ := h1
  exact ⟨c1, c2, e, iha h.1 h2, ihb h.2 h3⟩
theorem fn_value {c : Cx} {f : Nat} {v : Value} (h : RepV c (.fn f .unit) v) : v = .func (.func f) #[] #[] := by
 simp only [RepV, RepT] at h
 obtain ⟨vs, rfl, h⟩ := h
 have : vs = #[] := Array.toList_inj.1 (by simpa using h)
 rw [this]
theorem inpl_ok (H : HInv S B w0 h M w) (hGw : G w) {f : FuncId} {p : Inpl} (hp : InplOk Pg G f p) {args : List AV} {vals : Array Value} (hargs : Reps (cx S h M w) args vals.toList) (hr : evInpl p args h K = some r) :
  Calls Pg f vals w fun e w' => ∃ v, e = .returned v ∧ Post K r S B w0 h M w v w' := by
 unfold evInpl at hr
 split at hr
 case h_2 => cases hr
 rename_i s c
 obtain ⟨v1, l1, e1, h1, hargs⟩ := reps_cons hargs
 obtain ⟨v2, l2, rfl, h2, hargs⟩ := reps_cons hargs
 have : l2 = [] := List.eq_nil_of_length_eq_zero (by simpa using hargs.1.symm)
 subst this
 obtain rfl : vals = #[v1, v2] := Array.toList_inj.1 (by simpa using e1)
 split at hr
 case h_2 => cases hr
 rename_i hc
 have hc := Nat.eq_of_beq_eq_true hc
 subst hc
 have h2 := fn_value h2
 subst h2
 obtain ⟨hflat, hp⟩ := hp
 have hrep : ∀ c : Cx, RepV c (.tup .unit) (.tuple #[]) := fun c => by simp [RepV, RepT]
 split at hr
 ·rename_i id
  split at hr
  case h_2 => cases hr
  rename_i e xs he hlk
  split at hr
  case isFalse => cases hr
  rename_i q
  obtain ⟨pe, pc, pF⟩ := p
  dsimp only at q hflat hp hr
  subst q
  obtain ⟨ys, hF, hk⟩ := bind_some hr
  dsimp only at hF
  simp only [RepV, Rep1] at h1
  obtain ⟨_, A, n, cap, h3, h4⟩ := h1
  injection h3 with h3
  subst h3
  rcases h4 with h4 | hM
  ·simp only [cx] at h4; rw [he] at h4; cases h4
  obtain ⟨A', cap', h5, h6, h7⟩ := H.ent id _ he
  have hM : M id = .row A n cap := hM
  have h5 : M id = .row A' (List.length xs) cap' := h5
  rw [hM] at h5
  injection h5 with q1 q2 q3
  subst q1; subst q2; subst q3
  have hrow : xs = [] ∨ ∃ b o cs el, A = some ⟨b, o, none⟩ ∧ w.heap[b]? = some (.cells cs el (0, 0)) ∧ o + xs.length * e.size ≤ cs.size ∧ ∀ i x, xs[i]? = some x → ∃ d, RepD (fun _ => False) w e x d ∧ Mem w b (o + i * e.size) d := by
   rcases h7 with h7 | ⟨hc, b, o, cs, el, rfl, g1, g2, g3⟩
   ·exact .inl (List.eq_nil_of_length_eq_zero (by omega))
   ·have hm : xs.length * e.size ≤ cap * e.size := Nat.mul_le_mul_right _ h6
    exact .inr ⟨b, o, cs, el, rfl, g1, by omega, fun i x hx => by obtain ⟨d, d1, d2⟩ := g3 i x hx; exact ⟨d, flat_rep hflat d1, d2⟩⟩
  refine (hp w A cap xs ys hGw hF h6 hrow).mono fun e' w' ⟨he', hlen, t1, t2, t3, t4, t5, t6⟩ => ⟨_, he', .tup .unit, _, M, hk, ?_⟩
  have old : ∀ k, k < w.heap.size → ¬ (M id).has k → w'.heap[k]? = w.heap[k]? := by
   intro k hk hb
   rcases hrow with hx | ⟨b, o, cs, el, rfl, g1, g2, g3⟩
   ·exact t5 hx k hk
   ·by_cases hx : xs = []
    ·exact t5 hx k hk
    ·refine (t6 b o cs el hx rfl g1).1 k hk fun z => hb ?_
     have hcap : cap ≠ 0 := fun z => hx (List.eq_nil_of_length_eq_zero (by omega))
     rw [hM, z]; exact row_has hcap
  have bel : Below B w w' := ⟨t1, t2, t3, t4, fun k hk => old k (by have := H.bsz; omega) fun z => by have := H.own id k (by rw [he]; simp) z; omega⟩
  obtain ⟨H', k⟩ := H.upd he hlk (e' := .row e ys) (.inr ⟨e, xs, ys, rfl, rfl, hlen⟩) old t4 bel fun k => by
   refine ⟨A, cap, (show M id = _ by rw [hM, hlen]), by rw [hlen]; exact h6, ?_⟩
   rcases h7 with h7 | ⟨hc, b, o, cs, el, rfl, g1, g2, g3⟩
   ·exact .inl h7
   ·right
    by_cases hx : xs = []
    ·have hy : ys = [] := List.eq_nil_of_length_eq_zero (by rw [hlen, hx]; rfl)
     refine ⟨hc, b, o, cs, el, rfl, ?_, g2, by subst hy; simp⟩
     show w'.heap[b]? = _
     rw [t5 hx b (Array.getElem?_eq_some_iff.1 g1).1]
     exact g1
    ·obtain ⟨_, cs', u1, u2, u3⟩ := t6 b o cs el hx rfl g1
     exact ⟨hc, b, o, cs', el, rfl, u1, by rw [u2]; exact g2, fun i y hy => by obtain ⟨d, d1, d2⟩ := u3 i y hy; exact ⟨d, flat_rep hflat d1, d2⟩⟩
  exact ⟨H', k, hrep _⟩
 ·simp only [RepV, Rep1] at h1
  obtain ⟨A, h3⟩ := h1
  injection h3 with h3
  subst h3
  obtain ⟨ys, hF, hk⟩ := bind_some hr
  refine (hp w A 0 [] ys hGw hF (Nat.le_refl _) (.inl rfl)).mono fun e' w' ⟨he', hlen, t1, t2, t3, t4, t5, t6⟩ => ⟨_, he', .tup .unit, h, M, hk, ?_⟩
  have bel : Below w.heap.size w w' := ⟨t1, t2, t3, t4, fun k hk => t5 rfl k hk⟩
  obtain ⟨H', k⟩ := H.grow bel
  exact ⟨H', k, hrep _⟩
 ·cases hr
theorem own_info (H : HInv S B w0 h M w) {s : AV} {e : Ty} {xs : List e.D} {A : Option Addr} {cap : Nat} (hxs : toD h s (.slice e) = some xs) (hform : (∃ id, s = .own id) ∨ (∃ t, s = .nilS t) ∨ ∃ id a n, s = .view id a n)
  (hs : RepV (cx S h M w) s (.slice A xs.length cap)) : cap = 0 ∨ ∃ id b of cur el, id ∈ s.owns ∧ A = some ⟨b, of, none⟩ ∧ cap ≠ 0 ∧ h.e id ≠ none ∧ (M id).has b ∧ w.heap[b]? = some (.cells cur el (0, 0)) ∧ of + cap * e.size ≤ cur.size ∧
   ∀ i y, xs[i]? = some y → ∃ d, RepD (cx S h M w).Z w e y d ∧ Mem w b (of + i * e.size) d := by
 rcases hform with ⟨id, rfl⟩ | ⟨t, rfl⟩ | ⟨id, a, n, rfl⟩
 ·simp only [toD] at hxs
  split at hxs
  ·rename_i e2 zs hz
   split at hxs
   ·rename_i q; subst q
    injection hxs with hxs
    have hxs : zs = xs := hxs
    subst hxs
    simp only [RepV, Rep1] at hs
    obtain ⟨_, A', n', cap', h1, h2⟩ := hs
    injection h1 with h1
    injection h1 with q1 q2 q3
    subst q1; subst q3
    rcases h2 with h2 | h2
    ·simp only [cx] at h2; rw [hz] at h2; cases h2
    obtain ⟨A'', cap'', h3, h4, h5⟩ := H.ent id _ hz
    simp only [cx] at h2 h3
    rw [h2] at h3
    injection h3 with q1 q2 q3
    subst q1; subst q3
    rcases h5 with h5 | ⟨hc, b, of, cur, el, rfl, h6, h7, h8⟩
    ·exact .inl h5
    ·exact .inr ⟨id, b, of, cur, el, by simp [AV.owns], rfl, hc, by rw [hz]; simp, by rw [h2]; exact row_has hc, h6, h7, h8⟩
   ·cases hxs
  ·cases hxs
 ·simp only [RepV, Rep1] at hs
  obtain ⟨A', h1⟩ := hs
  injection h1 with h1
  injection h1 with q1 q2 q3
  exact .inl q3
 ·simp only [toD] at hxs
  split at hxs
  ·rename_i e2 zs hz
   split at hxs
   ·rename_i q; subst q
    injection hxs with hxs
    have hxs : P.sub_ zs a (P.add a n) = xs := hxs
    simp only [RepV] at hs
    obtain ⟨z, m, cap', h1, hn, ha, hm, hle', h3⟩ := view_cells H hz hs
    injection h1 with h1
    injection h1 with q1 q2 q3
    subst q1; subst q3
    rcases h3 with h3 | ⟨hc, b, of, cur, el, hA, hblk, h6, h7, h8⟩
    ·exact .inl h3
    ·exact .inr ⟨id, b, of, cur, el, by simp [AV.owns], hA, hc, by rw [hz]; simp, hblk, h6, h7, fun i y hy => h8 i y (sub_get hn ha (by rw [hxs]; exact hy)).2⟩
   ·cases hxs
  ·cases hxs
theorem ins_ok0 (H : HInv S B w0 h M w) (hGw : G w) {f : FuncId} {e : Ty} {bytes : Nat} (hp : InsOk0 Pg G f e bytes) {args : List AV} {vals : Array Value} (hargs : Reps (cx S h M w) args vals.toList) (hr : evIns0 e bytes args h K = some r) :
  Calls Pg f vals w fun e w' => ∃ v, e = .returned v ∧ Post K r S B w0 h M w v w' := by
 unfold evIns0 at hr
 split at hr
 case h_2 => cases hr
 rename_i s n y
 obtain ⟨v1, l1, e1, h1, hargs⟩ := reps_cons hargs
 obtain ⟨v2, l2, rfl, h2, hargs⟩ := reps_cons hargs
 obtain ⟨v3, l3, rfl, h3, hargs⟩ := reps_cons hargs
 have : l3 = [] := List.eq_nil_of_length_eq_zero (by simpa using hargs.1.symm)
 subst this
 obtain rfl : vals = #[v1, v2, v3] := Array.toList_inj.1 (by simpa using e1)
 have h2 := repV_int h2
 subst h2
 have key : ∀ xs : List e.D, toD h s (.slice e) = some xs → ((∃ id, s = .own id) ∨ (∃ t, s = .nilS t) ∨ ∃ id a n, s = .view id a n) → (match toD h y (.slice e), insSrc y with
   | some ys, some l => match unlocked h (s.owns ++ l), meets l s.owns with
    | true, false => test (P.ilt 0 (P.len ys)) (test (P.cut 0 n (P.len xs)) (test (P.room (P.add (P.len xs) (P.len ys)) bytes) (K (.own h.next) ((h.kills (s.owns ++ l)).new (.row e (P.insAt xs n ys))))))
    | _, _ => none
   | _, _ => none) = some r → Calls Pg f #[v1, .int .i64 n, v3] w fun e w' => ∃ v, e = .returned v ∧ Post K r S B w0 h M w v w' := by
  intro xs hxs hform hr
  split at hr
  case h_2 => cases hr
  rename_i ys l hys hsrc
  split at hr
  case h_2 => cases hr
  rename_i hul hmem
  obtain ⟨t1, hr⟩ := test_some hr
  obtain ⟨t2, hr⟩ := test_some hr
  obtain ⟨t3, hr⟩ := test_some hr
  have hpos : 0 < List.length ys := by
   have : (0 : Int) < (List.length ys : Int) := by simpa [P.ilt_def, P.len] using t1
   omega
  obtain ⟨c0, c1⟩ : 0 ≤ n ∧ n ≤ (List.length xs : Int) := by
   simp only [P.cut_def, P.len] at t2
   simp only [Bool.and_eq_true, decide_eq_true_eq] at t2
   exact ⟨t2.1.2, t2.2⟩
  have hroom : (List.length xs + List.length ys) * bytes ≤ 140737488355328 := by
   simp only [P.room_def, P.add, P.len] at t3
   have := of_decide_eq_true t3
   have e1 : ((List.length xs : Int) + (List.length ys : Int)).toNat = List.length xs + List.length ys := by omega
   rwa [e1] at this
  obtain ⟨A, cap, rfl, hle, _⟩ := slice_cells H hxs h1
  have inf := own_info H hxs hform h1
  obtain ⟨vb, vo, cap3, rfl, hle3, hel3, hdist⟩ : ∃ vb vo cap3, v3 = .slice (some ⟨vb, vo, none⟩) (List.length ys) cap3 ∧ List.length ys ≤ cap3 ∧
    (∀ i x, ys[i]? = some x → ∃ d, RepD (cx S h M w).Z w e x d ∧ Mem w vb (vo + i * e.size) d) ∧ ∀ ids b, ids ∈ s.owns → h.e ids ≠ none → (M ids).has b → b ≠ vb := by
   cases y with
   | own id =>
    obtain ⟨A3, cap3, rfl, hle3, _⟩ := slice_cells H hys h3
    rcases own_info H hys (.inl ⟨_, rfl⟩) h3 with hc3 | ⟨id3, vb, vo, vcs, vel, hm3, rfl, hc3, hlive3, hblk3, hheap3, hfit3, hel3⟩
    ·omega
    have hid3 : id3 = id := by simpa [AV.owns] using hm3
    subst hid3
    simp only [insSrc, Option.some.injEq] at hsrc
    subst hsrc
    refine ⟨vb, vo, cap3, rfl, hle3, hel3, fun ids b q1 q4 q5 z => ?_⟩
    subst z
    have := H.dist ids id3 b q4 hlive3 q5 hblk3
    subst this
    simp only [meets] at hmem
    split at hmem
    ·cases hmem
    ·rename_i hmm
     exact memb_false hmm q1
   | data t x =>
    simp only [toD] at hys
    split at hys
    case isFalse => cases hys
    rename_i ht
    subst ht
    simp only [Option.some.injEq] at hys
    subst hys
    rcases repV_data h3 with ⟨q, _⟩ | ⟨_, q⟩
    ·cases q
    simp only [RepD] at q
    obtain ⟨A3, cap3, e3, hle3, hel3⟩ := q
    rcases hel3 with hnil | ⟨vb, vo, rfl, hvb, hz, hel3⟩
    ·rw [hnil] at hpos
     simp at hpos
    refine ⟨vb, vo, cap3, by simpa using e3, hle3, hel3, fun ids b q1 q4 q5 z => ?_⟩
    subst z
    cases hq : h.e ids with
    | none => exact q4 hq
    | some g => exact hz (.inr ⟨ids, g, hq, q5⟩)
   | _ => simp [insSrc] at hsrc
  have hrow : cap = 0 ∨ ∃ b o cs el, A = some ⟨b, o, none⟩ ∧ b ≠ vb ∧ w.heap[b]? = some (.cells cs el (0, 0)) ∧ o + cap * e.size ≤ cs.size ∧ ∀ i x, xs[i]? = some x → ∃ d, RepD (cx S h M w).Z w e x d ∧ Mem w b (o + i * e.size) d := by
   rcases inf with hc | ⟨ids, b, o, cs, el, q1, q2, q3, q4, q5, q6, q7, q8⟩
   ·exact .inl hc
   ·exact .inr ⟨b, o, cs, el, q2, hdist ids b q1 q4 q5, q6, q7, q8⟩
  have hres := hp (cx S h M w).Z w A cap xs ys n vb vo cap3 hGw hle c0 c1 hpos hroom hrow hle3 hel3
  refine hres.mono fun e' w' ⟨b', o', cap', cs', el', u1, u2, u3, u4, u5, u6, u7, u8, u9, u10, u11⟩ => ⟨_, u1, ?_⟩
  have bel : Below B w w' := ⟨u8, u9, u10, u11, fun k hk => u7 k (by have := H.bsz; omega) fun hc o hA => by
   rcases inf with hc' | ⟨ids, b, o2, cs, el, q1, q2, q3, q4, q5, q6, q7, q8⟩
   ·exact hc hc'
   ·rw [hA] at q2
    injection q2 with q2
    injection q2 with q2 _
    subst q2
    have := H.own ids k q4 q5
    omega⟩
  have hpos' : 0 < (P.insAt xs n ys).length := by simp [P.insAt]; omega
  have hcap' : cap' ≠ 0 := by omega
  have hne : (set1 M h.next (Bk.row (some ⟨b', o', none⟩) (P.insAt xs n ys).length cap')) h.next = Bk.row (some ⟨b', o', none⟩) (P.insAt xs n ys).length cap' := by simp [set1, Nat.beq_refl]
  obtain ⟨H', k⟩ := H.renew hul (.row e (P.insAt xs n ys)) (.row (some ⟨b', o', none⟩) (P.insAt xs n ys).length cap') (w' := w')
   (fun k hk hz => u7 k hk fun hc o hA => by
    rcases inf with hc' | ⟨ids, b, o2, cs, el, q1, q2, q3, q4, q5, q6, q7, q8⟩
    ·exact hc hc'
    ·rw [hA] at q2
     injection q2 with q2
     injection q2 with q2 _
     subst q2
     rcases hz with hz | ⟨j, j1, j2, j3⟩
     ·cases hq : h.e ids with
      | none => exact q4 hq
      | some g => exact hz (.inr ⟨ids, g, hq, q5⟩)
     ·have := H.dist j ids k j1 q4 j3 q5
      subst this
      exact j2 (List.mem_append_left _ q1))
   u11 bel
   (fun b hb => by
    obtain ⟨_, ad, g1, g2⟩ := has_some hb
    injection g1 with g1
    subst g1
    simp only at g2
    subst g2
    rcases u6 with u6 | ⟨hc, o, hA⟩
    ·exact .inl u6
    ·rcases inf with hc' | ⟨ids, b2, o2, cs, el, q1, q2, q3, q4, q5, q6, q7, q8⟩
     ·exact absurd hc' hc
     ·rw [hA] at q2
      injection q2 with q2
      injection q2 with q2 _
      subst q2
      exact .inr ⟨ids, List.mem_append_left _ q1, q4, q5⟩)
   (fun k => ⟨_, cap', hne, u2, .inr ⟨hcap', b', o', cs', el', rfl, u3, u4, fun i x hx => by
    obtain ⟨d, d1, d2⟩ := u5 i x hx
    exact ⟨d, d1.held k.held, d2⟩⟩⟩)
  exact ⟨.own h.next, _, _, hr, H', k, row_value (e := e) (xs := P.insAt xs n ys) (by simp [Hp.new, kills_next]) hne⟩
 split at hr
 ·rename_i xs _ hxs
  exact key xs hxs (.inl ⟨_, rfl⟩) hr
 ·rename_i xs _ hxs
  exact key xs hxs (.inr (.inl ⟨_, rfl⟩)) hr
 ·rename_i xs _ _ _ hxs
  exact key xs hxs (.inr (.inr ⟨_, _, _, rfl⟩)) hr
 ·cases hr
theorem del_ok (H : HInv S B w0 h M w) (hGw : G w) {f : FuncId} {e : Ty} (hp : DelOk Pg G f e) {args : List AV} {vals : Array Value} (hargs : Reps (cx S h M w) args vals.toList) (hr : evDel e args h K = some r) :
  Calls Pg f vals w fun e w' => ∃ v, e = .returned v ∧ Post K r S B w0 h M w v w' := by
 unfold evDel at hr
 split at hr
 case h_2 => cases hr
 rename_i id i j
 obtain ⟨v1, l1, e1, h1, hargs⟩ := reps_cons hargs
 obtain ⟨v2, l2, rfl, h2, hargs⟩ := reps_cons hargs
 obtain ⟨v3, l3, rfl, h3, hargs⟩ := reps_cons hargs
 have : l3 = [] := List.eq_nil_of_length_eq_zero (by simpa using hargs.1.symm)
 subst this
 obtain rfl : vals = #[v1, v2, v3] := Array.toList_inj.1 (by simpa using e1)
 have h2 := repV_int h2
 subst h2
 have h3 := repV_int h3
 subst h3
 split at hr
 case h_2 => cases hr
 rename_i xs hxs
 split at hr
 case h_2 => cases hr
 rename_i hul
 obtain ⟨t1, hr⟩ := test_some hr
 obtain ⟨c0, c1, c2⟩ : 0 ≤ i ∧ i ≤ j ∧ j ≤ (List.length xs : Int) := by
  simp only [P.cut_def, P.len] at t1
  simp only [Bool.and_eq_true, decide_eq_true_eq] at t1
  exact ⟨t1.1.1, t1.1.2, t1.2⟩
 obtain ⟨A, cap, rfl, hle, _⟩ := slice_cells H hxs h1
 have inf := own_info H hxs (.inl ⟨_, rfl⟩) h1
 have hrow : cap = 0 ∨ ∃ b o cs el, A = some ⟨b, o, none⟩ ∧ w.heap[b]? = some (.cells cs el (0, 0)) ∧ o + cap * e.size ≤ cs.size ∧ ∀ i x, xs[i]? = some x → ∃ d, RepD (cx S h M w).Z w e x d ∧ Mem w b (o + i * e.size) d := by
  rcases inf with hc | ⟨ids, b, o, cs, el, q1, q2, q3, q4, q5, q6, q7, q8⟩
  ·exact .inl hc
  ·exact .inr ⟨b, o, cs, el, q2, q6, q7, q8⟩
 have hres := hp (cx S h M w).Z w A cap xs i j hGw hle c0 c1 c2 hrow
 refine hres.mono fun e' w' ⟨u1, u7, u5, u8, u9, u10, u11⟩ => ⟨_, u1, ?_⟩
 have bel : Below B w w' := ⟨u8, u9, u10, u11, fun k hk => u7 k (by have := H.bsz; omega) fun hc o hA => by
  rcases inf with hc' | ⟨ids, b, o2, cs, el, q1, q2, q3, q4, q5, q6, q7, q8⟩
  ·exact hc hc'
  ·rw [hA] at q2
   injection q2 with q2
   injection q2 with q2 _
   subst q2
   have := H.own ids k q4 q5
   omega⟩
 have hdel : ∀ (l : List e.D) (p q : Int), 0 ≤ p → p ≤ q → q ≤ (l.length : Int) → (P.delAt l p q).length ≤ l.length := by
  intro l p q h1 h2 h3
  unfold P.delAt
  rw [List.length_append, List.length_take, List.length_drop]
  omega
 have hdl : (P.delAt xs i j).length ≤ cap := Nat.le_trans (hdel xs i j c0 c1 c2) hle
 have hne : (set1 M h.next (Bk.row A (P.delAt xs i j).length cap)) h.next = Bk.row A (P.delAt xs i j).length cap := by simp [set1, Nat.beq_refl]
 obtain ⟨H', k⟩ := H.renew hul (.row e (P.delAt xs i j)) (.row A (P.delAt xs i j).length cap) (w' := w')
  (fun k hk hz => u7 k hk fun hc o hA => by
   rcases inf with hc' | ⟨ids, b, o2, cs, el, q1, q2, q3, q4, q5, q6, q7, q8⟩
   ·exact hc hc'
   ·rw [hA] at q2
    injection q2 with q2
    injection q2 with q2 _
    subst q2
    rcases hz with hz | ⟨j', j1, j2, j3⟩
    ·cases hq : h.e ids with
     | none => exact q4 hq
     | some g => exact hz (.inr ⟨ids, g, hq, q5⟩)
    ·have := H.dist j' ids k j1 q4 j3 q5
     subst this
     exact j2 (by simpa [AV.owns] using q1))
  u11 bel
  (fun b hb => by
   obtain ⟨hc, ad, g1, g2⟩ := has_some hb
   rcases inf with hc' | ⟨ids, b2, o2, cs, el, q1, q2, q3, q4, q5, q6, q7, q8⟩
   ·exact absurd hc' hc
   ·rw [g1] at q2
    injection q2 with q2
    subst q2
    simp only at g2
    subst g2
    exact .inr ⟨ids, by simpa [AV.owns] using q1, q4, q5⟩)
  (fun k => by
   rcases inf with hc' | ⟨ids, b2, o2, cs, el, q1, q2, q3, q4, q5, q6, q7, q8⟩
   ·exact ⟨A, cap, hne, hdl, .inl hc'⟩
   ·obtain ⟨cs', y1, y2, y3⟩ := u5 b2 o2 cs el q3 q2 q6
    subst q2
    exact ⟨_, cap, hne, hdl, .inr ⟨q3, b2, o2, cs', el, rfl, y1, by omega, fun i x hx => by
     obtain ⟨d, d1, d2⟩ := y3 i x hx
     exact ⟨d, d1.held k.held, d2⟩⟩⟩)
 exact ⟨.own h.next, _, _, hr, H', k, row_value (e := e) (xs := P.delAt xs i j) (by simp [Hp.new, kills_next]) hne⟩
theorem ins_ok (H : HInv S B w0 h M w) (hGw : G w) {f : FuncId} {e : Ty} {bytes : Nat} (hp : InsOk Pg G f e bytes) {args : List AV} {vals : Array Value} (hargs : Reps (cx S h M w) args vals.toList) (hr : evIns e bytes args h K = some r) :
  Calls Pg f vals w fun e w' => ∃ v, e = .returned v ∧ Post K r S B w0 h M w v w' := by
 cases bytes with
 | zero => exact del_ok H hGw hp hargs hr
 | succ b => exact ins_ok0 H hGw hp hargs hr
end Go.PG
end
section
namespace Go.PG
open Go.RowKit
variable {Pg : Program} {G : World → Prop} {E : Env} {S : Nat → Prop} {B : Nat} {w0 w w' : World} {h : Hp} {M : Nat → Bk} {ρ : Type} {K : AV → Hp → Option ρ} {r : ρ} {st : St} {a : Act} {o : Oper}
theorem keyEq_spec : ∀ (t : Ty) (f : t.D → t.D → Bool), keyEq t = some f → (∀ x y, beqD t x y = some (f x y)) ∧ (∀ x y, f x y = true → x = y) := by
 intro t
 induction t with
 | bool =>
  intro f hf
  simp only [keyEq] at hf
  injection hf with hf
  subst hf
  exact ⟨fun x y => rfl, fun x y q => by simpa [P.beq] using q⟩
 | int k =>
  intro f hf
  simp only [keyEq] at hf
  injection hf with hf
  subst hf
  exact ⟨fun x y => rfl, fun x y q => by simpa [P.ieq_def] using q⟩
 | str =>
  intro f hf
  simp only [keyEq] at hf
  injection hf with hf
  subst hf
  refine ⟨fun x y => rfl, fun x y q => ?_⟩
  simp only [P.seq_def, ByteArray.toList_eq, beq_iff_eq] at q
  cases x; cases y
  simp only [Array.toList_inj] at q
  rw [q]
 | st b ih =>
  intro f hf
  simp only [keyEq] at hf
  exact ih f hf
 | pair p q ihp ihq =>
  intro f hf
  simp only [keyEq] at hf
  split at hf
  ·rename_i g1 g2 h1 h2
   injection hf with hf
   subst hf
   obtain ⟨a1, a2⟩ := ihp g1 h1
   obtain ⟨b1, b2⟩ := ihq g2 h2
   refine ⟨fun x y => by simp only [beqD, a1, b1], fun x y z => ?_⟩
   simp only [P.and, Bool.and_eq_true] at z
   exact Prod.ext (a2 _ _ z.1) (b2 _ _ z.2)
  ·cases hf
 | _ => intro f hf; simp [keyEq] at hf
def keyCell : Value → Bool
 | .bool _ | .int _ _ | .string _ => true
 | _ => false
theorem keyCell_same {v : Value} (h : keyCell v = true) (n : Nat) : Instr.sameBits n v v = true := by
 cases v <;> simp_all [keyCell, Instr.sameBits, MapKept.bytes_beq]
theorem key_cells {Z : Nat → Prop} : ∀ (t : Ty) (f : t.D → t.D → Bool), keyEq t = some f → ∀ (x : t.D) (cs : List Value), RepD Z w t x cs → (∀ v ∈ cs, keyCell v = true) ∧ ∀ ds, RepD Z w t x ds → ds = cs := by
 intro t
 induction t with
 | bool => intro f _ x cs h; simp only [RepD] at h; subst h; exact ⟨by simp [keyCell], fun ds hd => by simpa only [RepD] using hd⟩
 | int k => intro f _ x cs h; simp only [RepD] at h; subst h; exact ⟨by simp [keyCell], fun ds hd => by simpa only [RepD] using hd⟩
 | str => intro f _ x cs h; simp only [RepD] at h; subst h; exact ⟨by simp [keyCell], fun ds hd => by simpa only [RepD] using hd⟩
 | st b ih => intro f hf x cs h; simp only [keyEq] at hf; simp only [RepD] at h ⊢; exact ih f hf x cs h
 | pair p q ihp ihq =>
  intro f hf x cs h
  simp only [keyEq] at hf
  split at hf
  case h_2 => cases hf
  rename_i g1 g2 h1 h2
  simp only [RepD] at h ⊢
  obtain ⟨c1, c2, rfl, k1, k2⟩ := h
  obtain ⟨a1, a2⟩ := ihp g1 h1 x.1 c1 k1
  obtain ⟨b1, b2⟩ := ihq g2 h2 x.2 c2 k2
  refine ⟨fun v hv => (List.mem_append.1 hv).elim (a1 v) (b1 v), fun ds hd => ?_⟩
  obtain ⟨d1, d2, rfl, m1, m2⟩ := hd
  rw [a2 d1 m1, b2 d2 m2]
 | _ => intro f hf; simp [keyEq] at hf
theorem key_same {Z : Nat → Prop} {t : Ty} {f : t.D → t.D → Bool} (hf : keyEq t = some f) {x : t.D} {u v : Value} (hu : RepDV Z w t x u) (hv : RepDV Z w t x v) : u = v ∧ ∀ n, Instr.sameBits (n + 1) v v = true := by
 rcases hu with ⟨e, cs, rfl, hu⟩ | ⟨e, hu⟩
 ·rcases hv with ⟨_, ds, rfl, hv⟩ | ⟨e', _⟩
  ·obtain ⟨k1, k2⟩ := key_cells t f hf x _ hu
   have := Array.toList_inj.1 (k2 _ hv)
   subst this
   refine ⟨rfl, fun n => ?_⟩
   simp only [Instr.sameBits, beq_self_eq_true, Bool.true_and, List.all_eq_true]
   intro p hp
   obtain ⟨i, hi, rfl⟩ := List.getElem_of_mem hp
   simp only [List.getElem_zip]
   exact keyCell_same (k1 _ (List.getElem_mem _)) n
  ·rw [e] at e'; cases e'
 ·rcases hv with ⟨e', _⟩ | ⟨_, hv⟩
  ·rw [e] at e'; cases e'
  ·obtain ⟨k1, k2⟩ := key_cells t f hf x _ hu
   have := k2 _ hv
   injection this with this
   subst this
   exact ⟨rfl, fun n => keyCell_same (k1 _ (by simp)) _⟩
theorem run_check {Z : Nat → Prop} (em : Bool) : ∀ (t : Ty),
  (∀ (id : TypeId) (x : t.D) (u : Value) (d : Nat), Eqs Pg t (.typ id) → RepDV Z w t x u → nest t ≤ d → (Instr.checkKey em (d + 1) id u).run Pg w = .ok () w) ∧
  (∀ (l : List Field) (x : t.D) (xs : Array Value) (p c s : List Value) (d : Nat), Eqs Pg t (.flds l p.length) → xs.toList = p ++ c ++ s → RepD Z w t x c → nest t ≤ d → ∀ f ∈ l, f.name ≠ "_" ∧ ∃ v, (part f.type xs f.offset).run Pg w = .ok v w ∧ (Instr.checkKey em (d + 1) f.type v).run Pg w = .ok () w) := by
 intro t
 have leaf : ∀ (t : Ty), (∀ a b, t ≠ .pair a b) → (∀ (id : TypeId) (x : t.D) (u : Value) (d : Nat), Eqs Pg t (.typ id) → RepDV Z w t x u → nest t ≤ d → (Instr.checkKey em (d + 1) id u).run Pg w = .ok () w) →
   (∀ (l : List Field) (x : t.D) (xs : Array Value) (p c s : List Value) (d : Nat), Eqs Pg t (.flds l p.length) → xs.toList = p ++ c ++ s → RepD Z w t x c → nest t ≤ d → ∀ f ∈ l, f.name ≠ "_" ∧ ∃ v, (part f.type xs f.offset).run Pg w = .ok v w ∧ (Instr.checkKey em (d + 1) f.type v).run Pg w = .ok () w) := by
  intro t hp A l x xs p c s d h e hx hd f hf
  obtain ⟨f', rfl, ho, hne, hf'⟩ := eqs_leaf_flds hp h
  simp only [List.mem_singleton] at hf
  subst hf
  obtain ⟨u, hu, hu'⟩ := run_part hf' e hx.len w
  refine ⟨hne, u, by rw [ho]; exact hu, A f.type x u d hf' ?_ hd⟩
  rcases hu' with ⟨q, rfl⟩ | ⟨q, rfl⟩
  ·exact .inl ⟨q, _, rfl, by simpa using hx⟩
  ·exact .inr ⟨q, hx⟩
 induction t with
 | bool =>
  have A : ∀ (id : TypeId) (x : Ty.bool.D) (u : Value) (d : Nat), Eqs Pg .bool (.typ id) → RepDV Z w .bool x u → nest .bool ≤ d → (Instr.checkKey em (d + 1) id u).run Pg w = .ok () w := by
   intro id x u d h hx _
   rcases hx with ⟨e, _⟩ | ⟨_, hx⟩
   ·cases e
   simp only [RepD] at hx
   injection hx with hx
   subst hx
   exact MapKept.run_checkKey h (by simp [MapKept.IsKey]) em d
  exact ⟨A, leaf _ (by intros; simp) A⟩
 | int k =>
  have A : ∀ (id : TypeId) (x : (Ty.int k).D) (u : Value) (d : Nat), Eqs Pg (.int k) (.typ id) → RepDV Z w (.int k) x u → nest (.int k) ≤ d → (Instr.checkKey em (d + 1) id u).run Pg w = .ok () w := by
   intro id x u d h hx _
   rcases hx with ⟨e, _⟩ | ⟨_, hx⟩
   ·cases e
   simp only [RepD] at hx
   injection hx with hx
   subst hx
   exact MapKept.run_checkKey h (by simp [MapKept.IsKey]) em d
  exact ⟨A, leaf _ (by intros; simp) A⟩
 | str =>
  have A : ∀ (id : TypeId) (x : Ty.str.D) (u : Value) (d : Nat), Eqs Pg .str (.typ id) → RepDV Z w .str x u → nest .str ≤ d → (Instr.checkKey em (d + 1) id u).run Pg w = .ok () w := by
   intro id x u d h hx _
   rcases hx with ⟨e, _⟩ | ⟨_, hx⟩
   ·cases e
   simp only [RepD] at hx
   injection hx with hx
   subst hx
   exact MapKept.run_checkKey h (by simp [MapKept.IsKey]) em d
  exact ⟨A, leaf _ (by intros; simp) A⟩
 | st b ih =>
  have A : ∀ (id : TypeId) (x : (Ty.st b).D) (u : Value) (d : Nat), Eqs Pg (.st b) (.typ id) → RepDV Z w (.st b) x u → nest (.st b) ≤ d → (Instr.checkKey em (d + 1) id u).run Pg w = .ok () w := by
   intro id x u d h hx hd
   obtain ⟨⟨fs, h1, h2⟩, _⟩ := h
   rcases hx with ⟨_, xs, rfl, hx⟩ | ⟨e, _⟩
   case inr => cases e
   simp only [RepD] at hx
   simp only [nest] at hd
   obtain ⟨d, rfl⟩ : ∃ n, d = n + 1 := ⟨d - 1, by omega⟩
   have each := ih.2 fs.toList x xs [] xs.toList [] d h2 (by simp) hx (by omega)
   rw [Instr.checkKey]
   simp only [Sem.run_bind, run_underlying h1, Result.andThen_ok]
   rw [← Array.forIn_toList]
   generalize fs.toList = L at each
   clear h1 h2
   induction L with
   | nil => simp
   | cons f L ih2 =>
    obtain ⟨hn, v, p1, p2⟩ := each f (by simp)
    simp only [List.forIn_cons, Sem.run_bind, hn, ne_eq, not_false_eq_true, if_true, Result.andThen_ok, p1, p2, Sem.run_pure]
    exact ih2 (fun y hy => each y (by simp [hy]))
  exact ⟨A, leaf _ (by intros; simp) A⟩
 | pair p q ihp ihq =>
  refine ⟨fun id x u d h => h.elim, fun l x xs p1 c s d h e hx hd f hf => ?_⟩
  cases l with
  | nil => exact h.elim
  | cons g l =>
   obtain ⟨ho, hne, hg, hrest⟩ := h
   simp only [RepD] at hx
   obtain ⟨x1, x2, rfl, hx1, hx2⟩ := hx
   simp only [nest] at hd
   rcases List.mem_cons.1 hf with rfl | hf
   ·obtain ⟨u, hu, hu'⟩ := run_part (xs := xs) (p := p1) (c := x1) (s := x2 ++ s) hg (by simp [e]) hx1.len w
    refine ⟨hne, u, by rw [ho]; exact hu, ihp.1 f.type x.1 u d hg ?_ (by omega)⟩
    rcases hu' with ⟨q, rfl⟩ | ⟨q, rfl⟩
    ·exact .inl ⟨q, _, rfl, by simpa using hx1⟩
    ·exact .inr ⟨q, hx1⟩
   ·exact ihq.2 l x.2 xs (p1 ++ x1) x2 s d (by simpa [hx1.len] using hrest) (by simp [e]) hx2 (by omega) f hf
 | unit => exact ⟨fun id x u d h => h.elim, fun l x xs p c s d h => h.elim⟩
 | opq => exact ⟨fun id x u d h => h.elim, fun l x xs p c s d h => h.elim⟩
 | slice e _ => exact ⟨fun id x u d h => h.elim, fun l x xs p c s d h => h.elim⟩
 | map _ _ _ _ => exact ⟨fun id x u d h => h.elim, fun l x xs p c s d h => h.elim⟩
 | dmap _ _ _ _ => exact ⟨fun id x u d h => h.elim, fun l x xs p c s d h => h.elim⟩
 | slf => exact ⟨fun id x u d h => h.elim, fun l x xs p c s d h => h.elim⟩
 | bld _ _ => exact ⟨fun id x u d h => h.elim, fun l x xs p c s d h => h.elim⟩
def EntsRep (Z : Nat → Prop) (w : World) (kt vt : Ty) (es : List MapEntry) (xs : List (kt.D × vt.D)) : Prop :=
 es.length = xs.length ∧ ∀ (i : Nat) (p : kt.D × vt.D), xs[i]? = some p → ∃ e, es[i]? = some e ∧ RepDV Z w kt p.1 e.key ∧ RepDV Z w vt p.2 e.val
theorem repDV_lies {Z : Nat → Prop} {t : Ty} {x : t.D} {v : Value} : RepDV Z w t x v ↔ ∃ c, RepD Z w t x c ∧ Lies t c v := by
 constructor
 ·rintro (⟨e, cs, rfl, h⟩ | ⟨e, h⟩)
  ·exact ⟨cs.toList, h, .inl ⟨e, by simp⟩⟩
  ·exact ⟨[v], h, .inr ⟨e, rfl⟩⟩
 ·rintro ⟨c, h, ⟨e, rfl⟩ | ⟨e, rfl⟩⟩
  ·exact .inl ⟨e, _, rfl, by simpa using h⟩
  ·exact .inr ⟨e, h⟩
theorem flat2_inj : ∀ {es fs : List (Value × Value)}, es.flatMap (fun e => [e.1, e.2]) = fs.flatMap (fun e => [e.1, e.2]) → es = fs := by
 intro es
 induction es with
 | nil => intro fs h; cases fs with
  | nil => rfl
  | cons f fs => simp at h
 | cons e es ih => intro fs h; cases fs with
  | nil => simp at h
  | cons f fs =>
   simp only [List.flatMap_cons, List.cons_append, List.nil_append, List.cons.injEq] at h
   obtain ⟨h1, h2, h3⟩ := h
   rw [ih h3, show e = f from Prod.ext h1 h2]
theorem mapCell_inj {es fs : List (Value × Value)} (h : mapCell es = mapCell fs) : es = fs := by
 simp only [mapCell, Value.func.injEq, true_and] at h
 exact flat2_inj (by simpa using congrArg Array.toList h)
theorem ents_of {Z : Nat → Prop} {kt vt : Ty} {xs : List (kt.D × vt.D)} {es : List MapEntry} (h : RepD Z w (.map kt vt) xs [mapCell (es.map fun e => (e.key, e.val))]) : EntsRep Z w kt vt es xs := by
 simp only [RepD] at h
 obtain ⟨fs, h1, h2, h3⟩ := h
 have h1 : mapCell (es.map fun e => (e.key, e.val)) = mapCell fs := by injection h1
 have h1 := mapCell_inj h1
 subst h1
 refine ⟨by simpa using h2, fun i p hp => ?_⟩
 obtain ⟨e, ck, cv, g1, g2, g3, g4, g5⟩ := h3 i p hp
 rw [List.getElem?_map, Option.map_eq_some_iff] at g1
 obtain ⟨e', g1, rfl⟩ := g1
 exact ⟨e', g1, repDV_lies.2 ⟨ck, g2, g3⟩, repDV_lies.2 ⟨cv, g4, g5⟩⟩
theorem of_ents {Z : Nat → Prop} {kt vt : Ty} {xs : List (kt.D × vt.D)} {es : List MapEntry} (h : EntsRep Z w kt vt es xs) : RepD Z w (.map kt vt) xs [mapCell (es.map fun e => (e.key, e.val))] := by
 simp only [RepD]
 refine ⟨_, rfl, by simpa using h.1, fun i p hp => ?_⟩
 obtain ⟨e, g1, g2, g3⟩ := h.2 i p hp
 obtain ⟨ck, k1, k2⟩ := repDV_lies.1 g2
 obtain ⟨cv, v1, v2⟩ := repDV_lies.1 g3
 exact ⟨(e.key, e.val), ck, cv, by rw [List.getElem?_map, g1]; rfl, k1, k2, v1, v2⟩
theorem EntsRep.tail {Z : Nat → Prop} {kt vt : Ty} {p : kt.D × vt.D} {xs : List (kt.D × vt.D)} {es : List MapEntry} (h : EntsRep Z w kt vt es (p :: xs)) : ∃ e r, es = e :: r ∧ RepDV Z w kt p.1 e.key ∧ RepDV Z w vt p.2 e.val ∧ EntsRep Z w kt vt r xs := by
 cases es with
 | nil => have := h.1; simp at this
 | cons e r =>
  obtain ⟨e', g1, g2, g3⟩ := h.2 0 p (by simp)
  simp only [List.getElem?_cons_zero, Option.some.injEq] at g1
  subst g1
  refine ⟨e, r, rfl, g2, g3, by simpa using h.1, fun i q hq => ?_⟩
  have := h.2 (i + 1) q (by simpa using hq)
  simpa using this
theorem EntsRep.cons {Z : Nat → Prop} {kt vt : Ty} {p : kt.D × vt.D} {xs : List (kt.D × vt.D)} {e : MapEntry} {r : List MapEntry} (h1 : RepDV Z w kt p.1 e.key) (h2 : RepDV Z w vt p.2 e.val) (h : EntsRep Z w kt vt r xs) : EntsRep Z w kt vt (e :: r) (p :: xs) := by
 refine ⟨by simpa using h.1, fun i q hq => ?_⟩
 cases i with
 | zero => simp only [List.getElem?_cons_zero, Option.some.injEq] at hq; subst hq; exact ⟨e, by simp, h1, h2⟩
 | succ i => simp only [List.getElem?_cons_succ] at hq ⊢; exact h.2 i q hq
theorem EntsRep.nil {Z : Nat → Prop} {kt vt : Ty} : EntsRep Z w kt vt [] [] := ⟨rfl, by simp⟩
theorem EntsRep.nil_of {Z : Nat → Prop} {kt vt : Ty} {es : List MapEntry} (h : EntsRep Z w kt vt es []) : es = [] := List.eq_nil_of_length_eq_zero (by simpa using h.1)
def KeysRep (Z : Nat → Prop) (w : World) (kt : Ty) {β : Type} (es : List MapEntry) (xs : List (kt.D × β)) : Prop :=
 es.length = xs.length ∧ ∀ (i : Nat) (p : kt.D × β), xs[i]? = some p → ∃ e, es[i]? = some e ∧ RepDV Z w kt p.1 e.key
theorem EntsRep.keys {Z : Nat → Prop} {kt vt : Ty} {es : List MapEntry} {xs : List (kt.D × vt.D)} (h : EntsRep Z w kt vt es xs) : KeysRep Z w kt es xs :=
 ⟨h.1, fun i p hp => by obtain ⟨e, h1, h2, _⟩ := h.2 i p hp; exact ⟨e, h1, h2⟩⟩
theorem KeysRep.tail {Z : Nat → Prop} {kt : Ty} {β : Type} {p : kt.D × β} {xs : List (kt.D × β)} {es : List MapEntry} (h : KeysRep Z w kt es (p :: xs)) : ∃ e r, es = e :: r ∧ RepDV Z w kt p.1 e.key ∧ KeysRep Z w kt r xs := by
 cases es with
 | nil => have := h.1; simp at this
 | cons e r =>
  obtain ⟨e', g1, g2⟩ := h.2 0 p (by simp)
  simp only [List.getElem?_cons_zero, Option.some.injEq] at g1
  subst g1
  refine ⟨e, r, rfl, g2, by simpa using h.1, fun i q hq => ?_⟩
  have := h.2 (i + 1) q (by simpa using hq)
  simpa using this
theorem KeysRep.nil_of {Z : Nat → Prop} {kt : Ty} {β : Type} {es : List MapEntry} (h : KeysRep Z w kt (β := β) es []) : es = [] := List.eq_nil_of_length_eq_zero (by simpa using h.1)
def loc {α β : Type} (f : α → α → Bool) : List (α × β) → α → Nat → Option Nat
 | [], _, _ => none
 | p :: r, k, i => match f k p.1 with
  | true => some i
  | false => loc f r k (i + 1)
theorem sameNow_spec {Z : Nat → Prop} {kt : Ty} (hnp : ∀ a b, kt ≠ .pair a b) {f : kt.D → kt.D → Bool} (hf : keyEq kt = some f) {kd : TypeDesc} {x y : kt.D} {u v : Value} (hu : RepDV Z w kt x u) (hv : RepDV Z w kt y v) {b : Bool} (h : Instr.sameNow kd u v = some b) : b = f x y := by
 have st : ∀ cs, u ≠ .agg cs := by
  rintro cs rfl
  cases kd <;> simp [Instr.sameNow] at h
 rcases hu with ⟨_, cs, rfl, _⟩ | ⟨e, hu⟩
 ·exact absurd rfl (st cs)
 rcases hv with ⟨e', _⟩ | ⟨_, hv⟩
 ·rw [e] at e'; cases e'
 cases kt with
 | bool =>
  simp only [keyEq] at hf
  injection hf with hf
  simp only [RepD] at hu hv
  injection hu with hu
  injection hv with hv
  subst hu; subst hv; subst hf
  cases kd <;> simp [Instr.sameNow] at h
  exact h.symm
 | int k =>
  simp only [keyEq] at hf
  injection hf with hf
  simp only [RepD] at hu hv
  injection hu with hu
  injection hv with hv
  subst hu; subst hv; subst hf
  cases kd <;> simp [Instr.sameNow] at h
  exact h.symm.trans (P.ieq_def x y).symm
 | str =>
  simp only [keyEq] at hf
  injection hf with hf
  simp only [RepD] at hu hv
  injection hu with hu
  injection hv with hv
  subst hu; subst hv; subst hf
  cases kd <;> simp [Instr.sameNow] at h
  subst h
  show _ = P.seq x y
  have hx : (P.seq x y = true) ↔ x = y := by
   simp only [P.seq_def, ByteArray.toList_eq, beq_iff_eq]
   cases x; cases y
   simp [Array.toList_inj]
  rw [Bool.eq_iff_iff, MapKept.bytes_beq, hx]
 | st b => cases e
 | pair a b => exact absurd rfl (hnp a b)
 | _ => simp [keyEq] at hf
theorem findNow_spec {Z : Nat → Prop} {kt : Ty} {β : Type} (hnp : ∀ a b, kt ≠ .pair a b) {f : kt.D → kt.D → Bool} (hf : keyEq kt = some f) {kd : TypeDesc} {x : kt.D} {u : Value} (hu : RepDV Z w kt x u) : ∀ (xs : List (kt.D × β)) (es : List MapEntry) (i : Nat) (z : Option (Nat × Value)), KeysRep Z w kt es xs →
  Instr.findNow kd u es i = some z → (z = none ∧ loc f xs x i = none) ∨ ∃ j e, z = some (i + j, e.val) ∧ es[j]? = some e ∧ loc f xs x i = some (i + j) := by
 intro xs
 induction xs with
 | nil =>
  intro es i z hE h
  rw [hE.nil_of] at h
  simp only [Instr.findNow] at h
  injection h with h
  exact .inl ⟨h.symm, rfl⟩
 | cons p xs ih =>
  intro es i z hE h
  obtain ⟨e, r, rfl, h1, h3⟩ := hE.tail
  simp only [Instr.findNow] at h
  split at h
  ·rename_i q
   have := sameNow_spec hnp hf hu h1 q
   injection h with h
   exact .inr ⟨0, e, by simp [← h], by simp, by simp [loc, ← this]⟩
  ·rename_i q
   have := sameNow_spec hnp hf hu h1 q
   rcases ih r (i + 1) z h3 h with ⟨g1, g2⟩ | ⟨j, e', g1, g2, g3⟩
   ·exact .inl ⟨g1, by simp [loc, ← this, g2]⟩
   ·exact .inr ⟨j + 1, e', by rw [g1]; congr 2; omega, by simpa using g2, by simp only [loc, ← this, g3]; congr 1; omega⟩
  ·cases h
theorem findAsk_spec {Z : Nat → Prop} {kt : Ty} {β : Type} {f : kt.D → kt.D → Bool} (hf : keyEq kt = some f) {k : TypeId} (hk : Eqs Pg kt (.typ k)) (hn : nest kt ≤ 9000) {x : kt.D} {u : Value} (hu : RepDV Z w kt x u) :
  ∀ (xs : List (kt.D × β)) (es : List MapEntry) (i : Nat), KeysRep Z w kt es xs →
   ((Instr.findAsking k u es i).run Pg w = .ok none w ∧ loc f xs x i = none) ∨ ∃ j e, (Instr.findAsking k u es i).run Pg w = .ok (some (i + j, e.val)) w ∧ es[j]? = some e ∧ loc f xs x i = some (i + j) := by
 intro xs
 induction xs with
 | nil =>
  intro es i hE
  rw [hE.nil_of]
  exact .inl ⟨by simp [Instr.findAsking], rfl⟩
 | cons p xs ih =>
  intro es i hE
  obtain ⟨e, r, rfl, h1, h3⟩ := hE.tail
  have heq : (Op.equal k u e.key).run Pg w = .ok (f x p.1) w := by
   have := (equal_ok (P := Pg) (Z := Z) (w := w) kt).1 k x p.1 u e.key (f x p.1) 9999 hk hu h1 ((keyEq_spec kt f hf).1 x p.1) (by omega)
   exact this
  cases q : f x p.1 with
  | true => exact .inr ⟨0, e, by simp [Instr.findAsking, heq, q], by simp, by simp [loc, q]⟩
  | false =>
   rcases ih r (i + 1) h3 with ⟨g1, g2⟩ | ⟨j, e', g1, g2, g3⟩
   ·exact .inl ⟨by simp [Instr.findAsking, heq, q, g1], by simp [loc, q, g2]⟩
   ·exact .inr ⟨j + 1, e', by simp only [Instr.findAsking, Sem.run_bind, heq, q, Result.andThen_ok, Bool.false_eq_true, if_false, g1]; congr 3; omega, by simpa using g2, by simp only [loc, q, g3]; congr 1; omega⟩
theorem find_ok {Z : Nat → Prop} {kt : Ty} {β : Type} {f : kt.D → kt.D → Bool} (hf : keyEq kt = some f) {k : TypeId} (hk : Eqs Pg kt (.typ k)) (hn : nest kt ≤ 9000) {kd : TypeDesc} (hkd : Pg.underlying k = some kd) {x : kt.D} {u : Value} (hu : RepDV Z w kt x u)
  {xs : List (kt.D × β)} {es : List MapEntry} (hE : KeysRep Z w kt es xs) :
  ((Instr.findKey k u es).run Pg w = .ok none w ∧ loc f xs x 0 = none) ∨ ∃ j e, (Instr.findKey k u es).run Pg w = .ok (some (j, e.val)) w ∧ es[j]? = some e ∧ loc f xs x 0 = some j := by
 unfold Instr.findKey
 simp only [Sem.run_bind, run_underlying hkd, Result.andThen_ok]
 cases q : Instr.findNow kd u es 0 with
 | none =>
  have := findAsk_spec hf hk hn hu xs es 0 hE
  simpa using this
 | some z =>
  rcases findNow_spec (fun a b e => by subst e; exact hk) hf hu xs es 0 z hE q with ⟨rfl, h2⟩ | ⟨j, e, rfl, h2, h3⟩
  ·exact .inl ⟨by simp, h2⟩
  ·exact .inr ⟨j, e, by simp, h2, by simpa using h3⟩
theorem loc_get {α β : Type} (f : α → α → Bool) (x : α) (z : β) : ∀ (xs : List (α × β)) (i : Nat),
  (loc f xs x i = none ∧ P.mhas f xs x = false ∧ P.mval f xs x z = z ∧ (∀ y, P.mput f xs x y = xs ++ [(x, y)]) ∧ P.mdel f xs x = xs) ∨
  ∃ j p, loc f xs x i = some (i + j) ∧ xs[j]? = some p ∧ f x p.1 = true ∧ P.mhas f xs x = true ∧ P.mval f xs x z = p.2 ∧ (∀ y, P.mput f xs x y = xs.set j (x, y)) ∧ P.mdel f xs x = xs.eraseIdx j := by
 intro xs
 induction xs with
 | nil => intro i; exact .inl ⟨rfl, rfl, rfl, fun _ => rfl, rfl⟩
 | cons p xs ih =>
  intro i
  cases q : f x p.1 with
  | true => exact .inr ⟨0, p, by simp [loc, q], by simp, q, by simp [P.mhas, q], by simp [P.mval, q], fun y => by simp [P.mput, q], by simp [P.mdel, q]⟩
  | false =>
   rcases ih (i + 1) with ⟨h1, h2, h3, h4, h5⟩ | ⟨j, p', h1, h2, h3, h4, h5, h6, h7⟩
   ·exact .inl ⟨by simp [loc, q, h1], by simp [P.mhas, q, h2], by simp [P.mval, q, h3], fun y => by simp [P.mput, q, h4], by simp [P.mdel, q, h5]⟩
   ·exact .inr ⟨j + 1, p', by simp only [loc, q, h1]; congr 1; omega, by simpa using h2, h3, by simp [P.mhas, q, h4], by simp [P.mval, q, h5], fun y => by simp [P.mput, q, h6], by simp [P.mdel, q, h7]⟩
theorem EntsRep.set {Z : Nat → Prop} {kt vt : Ty} {xs : List (kt.D × vt.D)} {es : List MapEntry} (h : EntsRep Z w kt vt es xs) {j : Nat} {e : MapEntry} (hj : es[j]? = some e) {x : kt.D} {y : vt.D} {u v : Value} (hu : RepDV Z w kt x u) (hv : RepDV Z w vt y v) :
  EntsRep Z w kt vt (es.set j { e with key := u, val := v }) (xs.set j (x, y)) := by
 refine ⟨by simpa using h.1, fun i p hp => ?_⟩
 rw [List.getElem?_set] at hp ⊢
 by_cases q : j = i
 ·subst q
  have hl : j < es.length := (List.getElem?_eq_some_iff.1 hj).1
  have hl' : j < xs.length := by rw [← h.1]; exact hl
  simp only [if_true, hl, hl'] at hp ⊢
  injection hp with hp
  subst hp
  exact ⟨_, rfl, hu, hv⟩
 ·simp only [q, if_false] at hp ⊢
  exact h.2 i p hp
theorem EntsRep.erase {Z : Nat → Prop} {kt vt : Ty} {xs : List (kt.D × vt.D)} {es : List MapEntry} (h : EntsRep Z w kt vt es xs) (j : Nat) : EntsRep Z w kt vt (es.eraseIdx j) (xs.eraseIdx j) := by
 refine ⟨by simp only [List.length_eraseIdx, h.1], fun i p hp => ?_⟩
 rw [List.getElem?_eraseIdx] at hp ⊢
 split at hp
 ·rename_i q; rw [if_pos q]; exact h.2 i p hp
 ·rename_i q; rw [if_neg q]; exact h.2 (i + 1) p hp
theorem EntsRep.snoc {Z : Nat → Prop} {kt vt : Ty} {xs : List (kt.D × vt.D)} {es : List MapEntry} (h : EntsRep Z w kt vt es xs) {x : kt.D} {y : vt.D} {e : MapEntry} (hu : RepDV Z w kt x e.key) (hv : RepDV Z w vt y e.val) : EntsRep Z w kt vt (es ++ [e]) (xs ++ [(x, y)]) := by
 refine ⟨by simp [h.1], fun i p hp => ?_⟩
 rw [List.getElem?_append] at hp ⊢
 split at hp
 ·rename_i q; rw [if_pos (by rw [h.1]; exact q)]; exact h.2 i p hp
 ·rename_i q
  rw [if_neg (by rw [h.1]; exact q), h.1]
  cases hd : i - xs.length with
  | zero => rw [hd] at hp; simp only [List.getElem?_cons_zero, Option.some.injEq] at hp; subst hp; exact ⟨e, by simp, hu, hv⟩
  | succ n => rw [hd] at hp; simp at hp
theorem EntsRep.held {Z Z' : Nat → Prop} {kt vt : Ty} {xs : List (kt.D × vt.D)} {es : List MapEntry} (k : Held Z Z' w w') (h : EntsRep Z w kt vt es xs) : EntsRep Z' w' kt vt es xs := by
 refine ⟨h.1, fun i p hp => ?_⟩
 obtain ⟨e, g1, g2, g3⟩ := h.2 i p hp
 obtain ⟨ck, k1, k2⟩ := repDV_lies.1 g2
 obtain ⟨cv, v1, v2⟩ := repDV_lies.1 g3
 exact ⟨e, g1, repDV_lies.2 ⟨ck, k1.held k, k2⟩, repDV_lies.2 ⟨cv, v1.held k, v2⟩⟩
theorem owns_key : ∀ (v : AV) (t : Ty) (f : t.D → t.D → Bool) (x : t.D), keyEq t = some f → toD h v t = some x → v.owns = [] := by
 intro v
 induction v with
 | st b ih =>
  intro t f x hf hx
  cases t with
  | st tb => simp only [toD] at hx; simp only [AV.owns]; exact ih tb f x (by simpa only [keyEq] using hf) hx
  | _ => simp [toD] at hx
 | pr p q ihp ihq =>
  intro t f x hf hx
  cases t with
  | pair ta tb =>
   simp only [keyEq] at hf
   split at hf
   case h_2 => cases hf
   rename_i g1 g2 k1 k2
   simp only [toD] at hx
   split at hx
   case h_2 => cases hx
   rename_i y hy
   split at hx
   case h_2 => cases hx
   rename_i z hz
   simp only [AV.owns, ihp ta g1 y k1 hy, ihq tb g2 z k2 hz, List.append_nil]
  | _ => simp [toD] at hx
 | own id => intro t f x hf hx; cases t <;> simp [toD, keyEq] at hx hf
 | view id a n => intro t f x hf hx; cases t <;> simp [toD, keyEq] at hx hf
 | _ => intros; rfl
theorem run_getMap {b : Nat} {es : Array MapEntry} {clk : Nat} (hb : w.heap[b]? = some (.map es clk)) : (getObj b).run Pg w = .ok (.map es clk) w := MapKept.run_getObj_map hb
theorem key_rep (H : HInv S B w0 h M w) {kt : Ty} {k : AV} {kv : Value} {f : kt.D → kt.D → Bool} {x : kt.D} (q4 : keyEq kt = some f) (q5 : toD h k kt = some x) (hkv : RepV (cx S h M w) k kv) : RepDV (cx S h M w).Z w kt x kv := by
 -- a key has no slices: it is the same under any Z
 have hk0 := hkv
 cases k with
 | data t' x' =>
  simp only [toD] at q5
  split at q5
  ·rename_i e; subst e
   injection q5 with q5
   subst q5
   exact repV_data hkv
  ·cases q5
 | st b =>
  cases kt with
  | st tb =>
   simp only [toD] at q5
   simp only [RepV] at hkv
   obtain ⟨cs, rfl, hkv⟩ := hkv
   refine .inl ⟨rfl, cs, rfl, ?_⟩
   simp only [RepD]
   refine toD_rep H (fun _ z => z) b tb x cs.toList (fun id hid b2 hl hb2 z => ?_) q5 hkv
   exact absurd hid (by rw [owns_key b tb f x (by simpa only [keyEq] using q4) q5]; simp)
  | _ => simp [toD] at q5
 | nilS e => cases kt <;> simp [toD, keyEq] at q5 q4
 | own id => cases kt <;> simp [toD, keyEq] at q5 q4
 | view id a n => cases kt <;> simp [toD, keyEq] at q5 q4
 | pr a b => simp only [RepV] at hkv
 | unit => simp only [RepV] at hkv
 | _ => simp [toD] at q5
theorem evMap_spec (HE : EnvOk Pg G E) (H : HInv S B w0 h M w) {t : TypeId} {kt vt : Ty} (ht : look E.maps t = some (kt, vt)) {m k : AV} {mv kv : Value} (hm : RepV (cx S h M w) m mv) (hkv : RepV (cx S h M w) k kv) {KK : Nat → (kt.D → kt.D → Bool) → List (kt.D × vt.D) → kt.D → Option ρ}
  (hr : evMap kt vt m k h KK = some r) : ∃ id f xs x c b es clk kid eid kd, KK id f xs x = some r ∧ h.e id = some (.box c (.map kt vt)) ∧ M id = .box b ∧ w.heap[b]? = some (.map es clk) ∧ mv = .map (some b) ∧ keyEq kt = some f ∧
   EntsRep (cx S h M w).Z w kt vt es.toList xs ∧ RepDV (cx S h M w).Z w kt x kv ∧ Pg.underlying t = some (.map kid eid) ∧ Eqs Pg kt (.typ kid) ∧ nest kt ≤ 9000 ∧ Pg.underlying kid = some kd ∧ Ok Pg vt (.typ eid) ∧ dataTy vt = true := by
 obtain ⟨kid, eid, h1, h2, h3, h4, h5, h6⟩ := HE.maps t kt vt ht
 unfold evMap at hr
 split at hr
 case h_2 => cases hr
 rename_i id
 split at hr
 case h_2 => cases hr
 rename_i c kt' vt' he
 split at hr
 case h_2 => cases hr
 rename_i xs f x q1 q2 q3 q4 q5
 simp only [decide_eq_true_eq] at q1 q2
 subst q1; subst q2
 simp only [RepV, Rep1] at hm
 obtain ⟨_, q, hmv, hm⟩ := hm
 injection hmv with hmv
 rcases hm with hm | ⟨b, v, L, hb, he', rfl⟩
 ·simp only [cx] at hm; rw [he] at hm; cases hm
 obtain ⟨b', cs, hh, hfit, hrep⟩ := H.ent id _ he
 have hat := hh.at (fun q => by simp only [cx] at hb q; rw [hb] at q; cases q)
 simp only [cx] at hb hat
 rw [hat] at hb
 injection hb with hb
 subst hb
 obtain ⟨es, clk, hM, hheap, rfl⟩ := hh
 have hZ : ∀ id ∈ c.owns, ∀ b, h.e id ≠ none → (M id).has b → ¬ (fun _ : Nat => False) b := fun _ _ _ _ _ z => z
 -- the content is data, or rows of one's own in none
 have hdata : RepD (cx S h M w).Z w (.map kt' vt') xs [mapCell (es.toList.map fun e => (e.key, e.val))] := by
  cases c with
  | data t' x' =>
   simp only [toD] at q3
   split at q3
   ·rename_i e; subst e
    injection q3 with q3
    subst q3
    simp only [RepC] at hrep
    exact hrep
   ·cases q3
  | _ => simp [toD] at q3
 have hkd : ∃ kd, Pg.underlying kid = some kd := by
  cases kt' with
  | st b => obtain ⟨⟨fs, g, _⟩, _⟩ := h2; exact ⟨_, g⟩
  | bool => exact ⟨_, h2⟩
  | int k => exact ⟨_, h2⟩
  | str => exact ⟨_, h2⟩
  | pair a b => exact absurd rfl (h4 a b)
  | _ => simp [keyEq] at q4
 obtain ⟨kd, hkd⟩ := hkd
 have hkey : RepDV (cx S h M w).Z w kt' x kv := key_rep H q4 q5 hkv
 exact ⟨id, f, xs, x, c, b', es, clk, kid, eid, kd, hr, he, hM, hheap, hmv, q4, ents_of hdata, hkey, h1, h2, h3, hkd, h5, h6⟩
theorem ok_zeroV {Z : Nat → Prop} {t : Ty} {id : TypeId} (h : Ok Pg t (.typ id)) (hd : dataTy t = true) : ∃ z, (zeroValue id).run Pg w = .ok z w ∧ RepDV Z w t t.zero z := by
 obtain ⟨i, z, h1, h2, h3, h4⟩ := ok_zeroD (Z := Z) (w := w) h hd
 refine ⟨z, by simp [zeroValue, typeInfo, h1, h3], ?_⟩
 have one : ∀ u, z = u → u.oneCell' = true → isSt t = false → RepDV Z w t t.zero z := by
  rintro u rfl hu hs
  rw [oneCell_cells hu] at h4
  exact .inr ⟨hs, h4⟩
 have same : ∀ {n v}, Info Pg id n v → z = v := by
  rintro n v ⟨j, g1, g2, g3⟩
  rw [h1] at g1
  injection g1 with g1
  subst g1
  rw [h3] at g3
  injection g3
 cases t with
 | unit => exact h.elim
 | map _ _ => exact h.elim
 | dmap _ _ => exact h.elim
 | slf => exact h.elim
 | bld _ _ => exact h.elim
 | pair a b => exact h.elim
 | opq => simp [dataTy] at hd
 | bool => exact one _ (same h.2) rfl rfl
 | int k => exact one _ (same h.2) rfl rfl
 | str => obtain ⟨_, s, g1, _⟩ := h; exact one _ (same g1) rfl rfl
 | slice e => exact one _ (same h.2) rfl rfl
 | st b =>
  obtain ⟨_, zs, g1, _⟩ := h
  have := same g1
  subst this
  exact .inl ⟨rfl, zs, rfl, h4⟩
theorem makeMap_ok (H : HInv S B w0 st.h M w) {t : TypeId} {kt vt : Ty} (ho : o.op = .makeMap t none) (hr : K (.mref st.h.next) (st.h.new (.box (.data (.map kt vt) []) (.map kt vt))) = some r) : Does Pg o a w (Post K r S B w0 st.h M w) := by
 obtain ⟨H', k⟩ := new_boxH H (av := .data (.map kt vt) []) (L := .map kt vt) (cs := [mapCell []]) (bk := .box w.heap.size) (o := .map #[] 0) (by simp [fitsT]) (by simp only [RepC]; exact of_ents (es := []) EntsRep.nil)
  ⟨#[], 0, rfl, alloc_get w _, rfl⟩ (fun b hb => by rw [box_has hb]; exact Nat.le_refl _)
 refine Does.value (v := .map (some w.heap.size)) (w' := w.alloc (.map #[] 0)) (by simp only [execOp, ho, Option.map_none, Sem.run_bind, run_makeMap, Result.andThen_ok, Sem.run_pure]) ⟨.mref st.h.next, _, _, hr, H', k, ?_⟩
 simp only [RepV, Rep1]
 exact ⟨by simp [cx, Hp.new], some w.heap.size, rfl, .inr ⟨w.heap.size, .data (.map kt vt) [], .map kt vt, by simp [cx, set1, Nat.beq_refl, Bk.at], by simp [cx, Hp.new, set1, Nat.beq_refl], rfl⟩⟩
theorem lookup_ok (HE : EnvOk Pg G E) (F : ∀ t, RepV (cx S st.h M w) (st.fr t) (a.tmps.getD t undef)) (H : HInv S B w0 st.h M w) {t : TypeId} {m k : Operand} {ok : Bool} (ho : o.op = .lookup t m k ok) {kt vt : Ty} (ht : look E.maps t = some (kt, vt))
  (hr : evMap kt vt (opnd none st.fr m) (opnd (some kt) st.fr k) st.h (fun _ f xs x => evLookup kt vt f xs x ok st.h K) = some r) : Does Pg o a w (Post K r S B w0 st.h M w) := by
 obtain ⟨_, _, _, _, _, hnp, _⟩ := HE.maps t kt vt ht
 obtain ⟨id, f, xs, x, c, b, es, clk, kid, eid, kd, hK, he, hM, hheap, hmv, hf, hE, hx, h1, h2, h3, h4, h5, h6⟩ := evMap_spec HE H ht (opnd_rep F none (by intros; simp) m) (opnd_rep F (some kt) (fun a b q => hnp a b (by injection q)) k) hr
 have hchk := (run_check (Pg := Pg) (Z := (cx S st.h M w).Z) (w := w) es.isEmpty kt).1 kid x (a.eval k) 9999 h2 hx (by omega)
 obtain ⟨z, hz1, hz2⟩ := ok_zeroV (Z := (cx S st.h M w).Z) (w := w) h5 h6
 have fin : ∀ (v : Value) (b : Bool), (Instr.lookup t (a.eval m) (a.eval k) ok).run Pg w = .ok (if ok then .tuple #[v, .bool b] else v) w → RepDV (cx S st.h M w).Z w vt (P.mval f xs x vt.zero) v → b = P.mhas f xs x → Does Pg o a w (Post K r S B w0 st.h M w) := by
  rintro v b hrun hv rfl
  cases ok with
  | false =>
   refine Does.value (v := v) (w' := w) (by simp only [execOp, ho, Sem.run_bind, hrun, Result.andThen_ok]; rfl) (Post.same H (av := .data vt (P.mval f xs x vt.zero)) (by simpa only [evLookup] using hK) (by simp only [RepV]; exact hv))
  | true =>
   refine Does.value (v := .tuple #[v, .bool (P.mhas f xs x)]) (w' := w) (by simp only [execOp, ho, Sem.run_bind, hrun, Result.andThen_ok]; rfl) (Post.same H (av := .tup (.pr (.data vt (P.mval f xs x vt.zero)) (.data .bool (P.mhas f xs x)))) (by simpa only [evLookup] using hK) ?_)
   simp only [RepV]
   refine ⟨_, rfl, ?_⟩
   simp only [RepT]
   exact ⟨v, _, rfl, by simp only [RepV]; exact hv, .bool _, rfl, .inr ⟨rfl, by simp [RepD]⟩⟩
 rcases find_ok hf h2 h3 h4 hx hE.keys with ⟨g1, g2⟩ | ⟨j, e, g1, g2, g3⟩
 ·rcases loc_get f x vt.zero xs 0 with ⟨_, l2, l3, _⟩ | ⟨j, p, l1, _⟩
  ·refine fin z false ?_ (by rw [l3]; exact hz2) l2.symm
   simp only [Instr.lookup, Sem.run_bind, run_underlying h1, hmv, run_getMap hheap, Result.andThen_ok, Sem.run_pure, hchk, g1, hz1]
  ·rw [g2] at l1; cases l1
 ·rcases loc_get f x vt.zero xs 0 with ⟨l1, _⟩ | ⟨j', p, l1, l2, l3, l4, l5, _⟩
  ·rw [g3] at l1; cases l1
  ·rw [g3] at l1
   injection l1 with l1
   obtain rfl : j' = j := by omega
   obtain ⟨e', q1, q2, q3⟩ := hE.2 j' p l2
   rw [g2] at q1
   injection q1 with q1
   subst q1
   refine fin e.val true ?_ (by rw [l5]; exact q3) l4.symm
   simp only [Instr.lookup, Sem.run_bind, run_underlying h1, hmv, run_getMap hheap, Result.andThen_ok, Sem.run_pure, hchk, g1]
theorem set_map (H : HInv S B w0 h M w) {id b : Nat} {c : AV} {kt vt : Ty} (he : h.e id = some (.box c (.map kt vt))) (hl : h.lk id = false) (hM : M id = .box b) {es es' : Array MapEntry} {clk clk' : Nat} (hheap : w.heap[b]? = some (.map es clk)) {xs' : List (kt.D × vt.D)}
  (hE : EntsRep (cx S h M w).Z w kt vt es'.toList xs') :
  HInv S B w0 (h.put id (.box (.data (.map kt vt) xs') (.map kt vt))) M { w with heap := w.heap.setIfInBounds b (.map es' clk') } ∧ HStp S h M w (h.put id (.box (.data (.map kt vt) xs') (.map kt vt))) M { w with heap := w.heap.setIfInBounds b (.map es' clk') } := by
 obtain ⟨g1, g2⟩ := MapKept.heap_set (o' := .map es' clk') hheap
 have hB : B ≤ b := H.own id b (by rw [he]; simp) (by rw [hM]; exact .inl rfl)
 refine H.upd he hl (.inl ⟨c, _, _, rfl, rfl⟩) (fun k _ hk => g2 k (fun q => hk (by rw [hM, q]; exact .inl rfl))) (by simp) ⟨rfl, rfl, rfl, by simp, fun k hk => g2 k (by omega)⟩ fun k => ?_
 exact ⟨b, _, ⟨es', clk', hM, g1, rfl⟩, by simp [fitsT], by simp only [RepC]; exact of_ents (hE.held k.held)⟩
theorem mapUpdate_ok (HE : EnvOk Pg G E) (F : ∀ t, RepV (cx S st.h M w) (st.fr t) (a.tmps.getD t undef)) (H : HInv S B w0 st.h M w) {t : TypeId} {m k v : Operand} (ho : o.op = .mapUpdate t m k v ∨ o.op = .insert t m k v) {kt vt : Ty} (ht : look E.maps t = some (kt, vt))
  (hr : evMap kt vt (opnd none st.fr m) (opnd (some kt) st.fr k) st.h (fun id f xs x => match st.h.lk id, nobody (opnd (some vt) st.fr v).owns, toD st.h (opnd (some vt) st.fr v) vt with
   | false, true, some y => K .undef (st.h.put id (.box (.data (.map kt vt) (P.mput f xs x y)) (.map kt vt)))
   | _, _, _ => none) = some r) : Does Pg o a w (Post K r S B w0 st.h M w) := by
 obtain ⟨_, _, _, _, _, hnp, hok, _⟩ := HE.maps t kt vt ht
 obtain ⟨id, f, xs, x, c, b, es, clk, kid, eid, kd, hK, he, hM, hheap, hmv, hf, hE, hx, h1, h2, h3, h4, h5, h6⟩ := evMap_spec HE H ht (opnd_rep F none (by intros; simp) m) (opnd_rep F (some kt) (fun a b q => hnp a b (by injection q)) k) hr
 have hchk := (run_check (Pg := Pg) (Z := (cx S st.h M w).Z) (w := w) false kt).1 kid x (a.eval k) 9999 h2 hx (by omega)
 split at hK
 case h_2 => cases hK
 rename_i y hlk hno hy
 have hown : (opnd (some vt) st.fr v).owns = [] := by
  cases q : (opnd (some vt) st.fr v).owns with
  | nil => rfl
  | cons i l => rw [q] at hno; cases hno
 have hyv : RepDV (cx S st.h M w).Z w vt y (a.eval v) := by
  have := toD_V H (Z' := (cx S st.h M w).Z) (fun _ z => z) (fun id hid => by rw [hown] at hid; cases hid) hy (opnd_rep F (some vt) (fun a b q => (by injection q with q; subst q; exact hok.elim)) v)
  exact this
 have fin : ∀ (es' : Array MapEntry) (clk' : Nat), (Instr.mapUpdate t (a.eval m) (a.eval k) (a.eval v)).run Pg w = .ok () { w with heap := w.heap.setIfInBounds b (.map es' clk') } → EntsRep (cx S st.h M w).Z w kt vt es'.toList (P.mput f xs x y) → Does Pg o a w (Post K r S B w0 st.h M w) := by
  intro es' clk' hrun hE'
  obtain ⟨H', k⟩ := set_map H he hlk hM hheap (clk' := clk') hE'
  refine Does.skip (w' := { w with heap := w.heap.setIfInBounds b (.map es' clk') }) (by rcases ho with ho | ho <;> simp only [execOp, ho, Sem.run_bind, hrun, Result.andThen_ok, Sem.run_pure]) ⟨.undef, _, _, hK, H', k, by simp only [RepV]⟩
 rcases find_ok hf h2 h3 h4 hx hE.keys with ⟨g1, g2⟩ | ⟨j, e, g1, g2, g3⟩
 ·rcases loc_get f x vt.zero xs 0 with ⟨_, _, _, l4, _⟩ | ⟨j, p, l1, _⟩
  ·refine fin (es.push { key := a.eval k, val := a.eval v, born := clk }) (clk + 1) ?_ (by rw [l4, Array.toList_push]; exact hE.snoc hx hyv)
   simp only [Instr.mapUpdate, Sem.run_bind, run_underlying h1, hmv, run_getMap hheap, Result.andThen_ok, hchk, g1, MapKept.run_setObj_map _ hheap]
  ·rw [g2] at l1; cases l1
 ·rcases loc_get f x vt.zero xs 0 with ⟨l1, _⟩ | ⟨j', p, l1, l2, l3, l4, l5, l6, _⟩
  ·rw [g3] at l1; cases l1
  ·rw [g3] at l1
   injection l1 with l1
   obtain rfl : j' = j := by omega
   obtain ⟨e', q1, q2, q3⟩ := hE.2 j' p l2
   rw [g2] at q1
   injection q1 with q1
   subst q1
   have hxp := (keyEq_spec kt f hf).2 _ _ l3
   rw [← hxp] at q2
   obtain ⟨hkey, hsame⟩ := key_same hf hx q2
   have g2' : es[j']? = some e := by rw [← Array.getElem?_toList]; exact g2
   refine fin (es.modify j' fun e => { e with key := a.eval k, val := a.eval v }) clk ?_ ?_
   ·have hst : (Instr.keyThatStays e.key (a.eval k)).run Pg w = .ok (a.eval k) w := by
     simp only [Instr.keyThatStays, ← hkey, hkey ▸ hsame 9999, if_true, Sem.run_pure]
    simp only [Instr.mapUpdate, Sem.run_bind, run_underlying h1, hmv, run_getMap hheap, Result.andThen_ok, hchk, g1, g2', Option.map_some, Option.getD_some, hst, MapKept.run_setObj_map _ hheap]
   ·rw [l6 y, Array.toList_modify]
    have : es.toList.modify j' (fun e => { e with key := a.eval k, val := a.eval v }) = es.toList.set j' { e with key := a.eval k, val := a.eval v } := by
     apply List.ext_getElem?
     intro i
     rw [List.getElem?_modify, List.getElem?_set]
     by_cases q : j' = i
     ·subst q
      have hl : j' < es.toList.length := (List.getElem?_eq_some_iff.1 g2).1
      simp only [if_true, hl, g2]
      rfl
     ·simp only [q, if_false]
      simp
    rw [this]
    exact hE.set g2 hx hyv
theorem delete_ok (HE : EnvOk Pg G E) (H : HInv S B w0 h M w) {t : TypeId} {kt vt : Ty} (ht : look E.maps t = some (kt, vt)) {m k : AV} {mv kv : Value} (tl : List TypeId) (ty : TypeId) (hm : RepV (cx S h M w) m mv) (hkv : RepV (cx S h M w) k kv)
  (hr : evMap kt vt m k h (fun id f xs x => match h.lk id with
   | false => K (.tup .unit) (h.put id (.box (.data (.map kt vt) (P.mdel f xs x)) (.map kt vt)))
   | true => none) = some r) : ∃ w', (Builtin.delete_ (t :: tl).toArray ty #[mv, kv]).run Pg w = .ok (.tuple #[]) w' ∧ Post K r S B w0 h M w (.tuple #[]) w' := by
 obtain ⟨id, f, xs, x, c, b, es, clk, kid, eid, kd, hK, he, hM, hheap, hmv, hf, hE, hx, h1, h2, h3, h4, h5, h6⟩ := evMap_spec HE H ht hm hkv hr
 have hchk := (run_check (Pg := Pg) (Z := (cx S h M w).Z) (w := w) es.isEmpty kt).1 kid x kv 9999 h2 hx (by omega)
 split at hK
 case h_2 => cases hK
 rename_i hlk
 have fin : ∀ (es' : Array MapEntry), (Builtin.delete_ (t :: tl).toArray ty #[mv, kv]).run Pg w = .ok (.tuple #[]) { w with heap := w.heap.setIfInBounds b (.map es' clk) } → EntsRep (cx S h M w).Z w kt vt es'.toList (P.mdel f xs x) → ∃ w', (Builtin.delete_ (t :: tl).toArray ty #[mv, kv]).run Pg w = .ok (.tuple #[]) w' ∧ Post K r S B w0 h M w (.tuple #[]) w' := by
  intro es' hrun hE'
  obtain ⟨H', k⟩ := set_map H he hlk hM hheap (clk' := clk) hE'
  exact ⟨_, hrun, .tup .unit, _, _, hK, H', k, by simp [RepV, RepT]⟩
 rcases find_ok hf h2 h3 h4 hx hE.keys with ⟨g1, g2⟩ | ⟨j, e, g1, g2, g3⟩
 ·rcases loc_get f x vt.zero xs 0 with ⟨_, _, _, _, l5⟩ | ⟨j, p, l1, _⟩
  ·refine fin es ?_ (by rw [l5]; exact hE)
   simp [Builtin.delete_, run_underlying h1, hmv, run_getMap hheap, Result.andThen_ok, hchk, g1, MapKept.run_setObj_map _ hheap]
  ·rw [g2] at l1; cases l1
 ·rcases loc_get f x vt.zero xs 0 with ⟨l1, _⟩ | ⟨j', p, l1, l2, l3, l4, l5, l6, l7⟩
  ·rw [g3] at l1; cases l1
  ·rw [g3] at l1
   injection l1 with l1
   obtain rfl : j' = j := by omega
   refine fin (es.eraseIdxIfInBounds j') ?_ ?_
   ·simp [Builtin.delete_, run_underlying h1, hmv, run_getMap hheap, Result.andThen_ok, hchk, g1, MapKept.run_setObj_map _ hheap]
   ·rw [l7, Array.toList_eraseIdxIfInBounds]
    exact hE.erase j'
end Go.PG
end
section
namespace Go.PG
open Go.RowKit
variable {Pg : Program} {G : World → Prop} {E : Env} {S : Nat → Prop} {B : Nat} {w0 w w' : World} {h h' : Hp} {M M' : Nat → Bk} {ρ : Type} {r : ρ} {K : AV → Hp → Option ρ} {st : St} {a : Act} {o : Oper}
theorem HInv.turn (H : HInv S B w0 h M w) {h' : Hp} {M' : Nat → Bk} {w' : World} (X : Nat → Prop) (nx : h.next ≤ h'.next) (lk : h'.lk = h.lk) (fr : ∀ id, h'.next ≤ id → h'.e id = none)
  (keep : ∀ j, ¬ X j → (h'.e j = none ∨ h'.e j = h.e j) ∧ M' j = M j) (kl : ∀ j, j < h.next → h.lk j = true → ¬ X j ∧ h'.e j = h.e j)
  (ids : ∀ j, X j → j < h.next → SameB (M j) (M' j) ∧ ∃ v v' L, h.e j = some (.box v L) ∧ h'.e j = some (.box v' L))
  (own : ∀ j b, X j → h'.e j ≠ none → (M' j).has b → (∃ i, h.e i ≠ none ∧ (M i).has b) ∨ w.heap.size ≤ b)
  (dist : ∀ i j b, X i → h'.e i ≠ none → h'.e j ≠ none → (M' i).has b → (M' j).has b → i = j)
  (hz : ∀ b, b < w.heap.size → (∀ i, h.e i ≠ none → ¬ (M i).has b) → w'.heap[b]? = w.heap[b]?)
  (hk : ∀ j b, ¬ X j → h'.e j ≠ none → (M j).has b → w'.heap[b]? = w.heap[b]?)
  (size : w.heap.size ≤ w'.heap.size) (bel : Below B w w')
  (ent : Tr (cx S h M w) (cx S h' M' w') → ∀ j e, X j → h'.e j = some e → EntOk (cx S h' M' w') j e) :
  HInv S B w0 h' M' w' ∧ HStp S h M w h' M' w' := by
 have live : ∀ j, ¬ X j → h'.e j ≠ none → h'.e j = h.e j := fun j hx hn => ((keep j hx).1).resolve_left hn
 have hZ : ∀ b, (cx S h' M' w').Z b → (cx S h M w).Z b ∨ w.heap.size ≤ b := by
  rintro b (z | ⟨j, f, q1, q2⟩)
  ·exact .inl (.inl z)
  ·have q1 : h'.e j = some f := q1
   have q2 : (M' j).has b := q2
   by_cases hx : X j
   ·rcases own j b hx (by rw [q1]; simp) q2 with ⟨i, i1, i2⟩ | q
    ·cases hi : h.e i with
     | none => exact absurd hi i1
     | some g => exact .inl (.inr ⟨i, g, hi, i2⟩)
    ·exact .inr q
   ·have := live j hx (by rw [q1]; simp)
    exact .inl (.inr ⟨j, f, by show h.e j = some f; rw [← this]; exact q1, by rw [(keep j hx).2] at q2; exact q2⟩)
 have k : Tr (cx S h M w) (cx S h' M' w') := by
  refine ⟨fun b hlt hn => ⟨fun z => ?_, hz b hlt fun i hi hb => hn ?_⟩, nx, fun j hj => ?_⟩
  ·rcases hZ b z with z | z
   ·exact hn z
   ·simp only [cx] at hlt; omega
  ·cases hg : h.e i with
   | none => exact absurd hg hi
   | some g => exact .inr ⟨i, g, hg, hb⟩
  ·show h'.e j = none ∨ (h.e j = some .rsv ∧ M j = .nil) ∨ (SameB (M j) (M' j) ∧ _)
   by_cases hx : X j
   ·obtain ⟨s, v, v', L, e1, e2⟩ := ids j hx hj
    exact .inr (.inr ⟨s, .inl ⟨v, v', L, e1, e2⟩⟩)
   ·obtain ⟨hl, hm⟩ := keep j hx
    rcases hl with hl | hl
    ·exact .inl hl
    ·rcases ids_self H j with q | q | ⟨_, q⟩
     ·exact .inl (hl.trans q)
     ·exact .inr (.inl q)
     ·refine .inr (.inr ⟨.of hm, ?_⟩)
      rcases q with ⟨v, v', L, q1, q2⟩ | ⟨e, xs, ys, q1, q2, q3⟩
      ·exact .inl ⟨v, v', L, q1, hl.trans q2⟩
      ·exact .inr ⟨e, xs, ys, q1, hl.trans q2, q3⟩
 refine ⟨⟨fun id e q => ?_, fr, fun i j b hi hj bi bj => ?_, fun i b hi hb => ?_, H.bel.trans bel, Nat.le_trans H.bsz size, H.old, H.bw⟩, k, lk, fun j hj hl => ⟨(kl j hj hl).2, (keep j (kl j hj hl).1).2⟩⟩
 ·by_cases hx : X id
  ·exact ent k id e hx q
  ·have hl := live id hx (by rw [q]; simp)
   exact (H.ent id e (hl ▸ q)).tr k (keep id hx).2 fun b hb => hk id b hx (by rw [q]; simp) hb
 ·by_cases xi : X i
  ·exact dist i j b xi hi hj bi bj
  ·by_cases xj : X j
   ·exact (dist j i b xj hj hi bj bi).symm
   ·rw [(keep i xi).2] at bi
    rw [(keep j xj).2] at bj
    exact H.dist i j b (by rw [← live i xi hi]; exact hi) (by rw [← live j xj hj]; exact hj) bi bj
 ·by_cases xi : X i
  ·rcases own i b xi hi hb with ⟨i', h1, h2⟩ | q
   ·exact H.own i' b h1 h2
   ·exact Nat.le_trans H.bsz q
  ·rw [(keep i xi).2] at hb
   exact H.own i b (by rw [← live i xi hi]; exact hi) hb
def RowsRep (Z : Nat → Prop) (w : World) (et : Ty) (l : List et.D) (rows : List (List Value)) : Prop :=
 rows.length = l.length ∧ ∀ (j : Nat) (x : et.D), l[j]? = some x → ∃ d, rows[j]? = some d ∧ RepD Z w et x d
def ORep (Z : Nat → Prop) (w : World) (et : Ty) (a : Option (List et.D)) (b : Option (List (List Value))) : Prop :=
 (a = none → b = none) ∧ ∀ l, a = some l → ∃ rows, b = some rows ∧ RowsRep Z w et l rows
def DEnts (Z : Nat → Prop) (w : World) (kt et : Ty) (ts : List DEnt) (xs : List (kt.D × Option (List et.D))) : Prop :=
 ts.length = xs.length ∧ ∀ (i : Nat) (p : kt.D × Option (List et.D)), xs[i]? = some p → ∃ t, ts[i]? = some t ∧ RepDV Z w kt p.1 t.1.key ∧ ORep Z w et p.2 t.2
theorem RowsRep.held {Z Z' : Nat → Prop} {et : Ty} {l : List et.D} {rows : List (List Value)} (k : Held Z Z' w w') (h : RowsRep Z w et l rows) : RowsRep Z' w' et l rows :=
 ⟨h.1, fun j x hx => by obtain ⟨d, h1, h2⟩ := h.2 j x hx; exact ⟨d, h1, h2.held k⟩⟩
theorem DEnts.held {Z Z' : Nat → Prop} {kt et : Ty} {ts : List DEnt} {xs : List (kt.D × Option (List et.D))} (k : Held Z Z' w w') (h : DEnts Z w kt et ts xs) : DEnts Z' w' kt et ts xs := by
 refine ⟨h.1, fun i p hp => ?_⟩
 obtain ⟨t, g1, g2, g3, g4⟩ := h.2 i p hp
 obtain ⟨ck, k1, k2⟩ := repDV_lies.1 g2
 exact ⟨t, g1, repDV_lies.2 ⟨ck, k1.held k, k2⟩, g3, fun l hl => by obtain ⟨rows, r1, r2⟩ := g4 l hl; exact ⟨rows, r1, r2.held k⟩⟩
theorem DEnts.keys {Z : Nat → Prop} {kt et : Ty} {ts : List DEnt} {xs : List (kt.D × Option (List et.D))} {es : List MapEntry} (h : DEnts Z w kt et ts xs) (he : es = ts.map Prod.fst) : KeysRep Z w kt es xs := by
 subst he
 refine ⟨by simpa using h.1, fun i p hp => ?_⟩
 obtain ⟨t, g1, g2, _⟩ := h.2 i p hp
 exact ⟨t.1, by rw [List.getElem?_map, g1]; rfl, g2⟩
theorem rowCell_inj {x y : Option (List (List Value))} (h : rowCell x = rowCell y) : x = y := by
 cases x with
 | none => cases y with
  | none => rfl
  | some _ => simp [rowCell] at h
 | some r => cases y with
  | none => simp [rowCell] at h
  | some q =>
   simp only [rowCell, Value.func.injEq, true_and] at h
   have h := congrArg Array.toList h
   simp only at h
   have inj : ∀ {x y : List (List Value)}, x.map (fun r => Value.agg r.toArray) = y.map (fun r => Value.agg r.toArray) → x = y := by
    intro x
    induction x with
    | nil => intro y h; cases y with
     | nil => rfl
     | cons _ _ => simp at h
    | cons a x ih => intro y h; cases y with
     | nil => simp at h
     | cons b y =>
      simp only [List.map_cons, List.cons.injEq, Value.agg.injEq] at h
      rw [ih h.2, show a = b from by simpa using congrArg Array.toList h.1]
   rw [inj h]
theorem cells_inj : ∀ {ts : List DEnt} {gs : List (Value × Option (List (List Value)))}, ts.map DEnt.cell = gs.map (fun g => (g.1, rowCell g.2)) → gs = ts.map fun t => (t.1.key, t.2) := by
 intro ts
 induction ts with
 | nil => intro gs h; cases gs with
  | nil => rfl
  | cons _ _ => simp at h
 | cons t ts ih => intro gs h; cases gs with
  | nil => simp at h
  | cons g gs =>
   simp only [List.map_cons, List.cons.injEq, DEnt.cell, Prod.mk.injEq] at h
   obtain ⟨⟨h1, h2⟩, h3⟩ := h
   rw [ih h3, List.map_cons, h1, rowCell_inj h2]
theorem dents_of {Z : Nat → Prop} {kt et : Ty} {xs : List (kt.D × Option (List et.D))} {ts : List DEnt} (h : RepD Z w (.dmap kt et) xs [mapCell (ts.map DEnt.cell)]) : DEnts Z w kt et ts xs := by
 simp only [RepD] at h
 obtain ⟨gs, h1, h2, h3⟩ := h
 have h1 : mapCell (ts.map DEnt.cell) = mapCell (gs.map fun g => (g.1, rowCell g.2)) := by injection h1
 have h1 := cells_inj (mapCell_inj h1)
 subst h1
 refine ⟨by simpa using h2, fun i p hp => ?_⟩
 obtain ⟨g, ck, g1, g2, g3, g4, g5⟩ := h3 i p hp
 rw [List.getElem?_map, Option.map_eq_some_iff] at g1
 obtain ⟨t, g1, rfl⟩ := g1
 exact ⟨t, g1, repDV_lies.2 ⟨ck, g2, g3⟩, g4, fun l hl => by obtain ⟨rows, r1, r2, r3⟩ := g5 l hl; exact ⟨rows, r1, r2, r3⟩⟩
theorem of_dents {Z : Nat → Prop} {kt et : Ty} {xs : List (kt.D × Option (List et.D))} {ts : List DEnt} (h : DEnts Z w kt et ts xs) : RepD Z w (.dmap kt et) xs [mapCell (ts.map DEnt.cell)] := by
 simp only [RepD]
 refine ⟨ts.map fun t => (t.1.key, t.2), by rw [List.map_map]; rfl, by simpa using h.1, fun i p hp => ?_⟩
 obtain ⟨t, g1, g2, g3, g4⟩ := h.2 i p hp
 obtain ⟨ck, k1, k2⟩ := repDV_lies.1 g2
 exact ⟨(t.1.key, t.2), ck, by rw [List.getElem?_map, g1]; rfl, k1, k2, g3, fun l hl => by obtain ⟨rows, r1, r2, r3⟩ := g4 l hl; exact ⟨rows, r1, r2, r3⟩⟩
theorem DEnts.set {Z : Nat → Prop} {kt et : Ty} {xs : List (kt.D × Option (List et.D))} {ts : List DEnt} (h : DEnts Z w kt et ts xs) {j : Nat} (hj : j < ts.length) {x : kt.D} {y : Option (List et.D)} {u : DEnt} (hu : RepDV Z w kt x u.1.key) (hy : ORep Z w et y u.2) :
  DEnts Z w kt et (ts.set j u) (xs.set j (x, y)) := by
 refine ⟨by simpa using h.1, fun i p hp => ?_⟩
 rw [List.getElem?_set] at hp ⊢
 by_cases q : j = i
 ·subst q
  have hl' : j < xs.length := by rw [← h.1]; exact hj
  simp only [if_true, hj, hl'] at hp ⊢
  injection hp with hp
  subst hp
  exact ⟨_, rfl, hu, hy⟩
 ·simp only [q, if_false] at hp ⊢
  exact h.2 i p hp
theorem DEnts.erase {Z : Nat → Prop} {kt et : Ty} {xs : List (kt.D × Option (List et.D))} {ts : List DEnt} (h : DEnts Z w kt et ts xs) (j : Nat) : DEnts Z w kt et (ts.eraseIdx j) (xs.eraseIdx j) := by
 refine ⟨by simp only [List.length_eraseIdx, h.1], fun i p hp => ?_⟩
 rw [List.getElem?_eraseIdx] at hp ⊢
 split at hp
 ·rename_i q; rw [if_pos q]; exact h.2 i p hp
 ·rename_i q; rw [if_neg q]; exact h.2 (i + 1) p hp
theorem DEnts.snoc {Z : Nat → Prop} {kt et : Ty} {xs : List (kt.D × Option (List et.D))} {ts : List DEnt} (h : DEnts Z w kt et ts xs) {x : kt.D} {y : Option (List et.D)} {u : DEnt} (hu : RepDV Z w kt x u.1.key) (hy : ORep Z w et y u.2) : DEnts Z w kt et (ts ++ [u]) (xs ++ [(x, y)]) := by
 refine ⟨by simp [h.1], fun i p hp => ?_⟩
 rw [List.getElem?_append] at hp ⊢
 split at hp
 ·rename_i q; rw [if_pos (by rw [h.1]; exact q)]; exact h.2 i p hp
 ·rename_i q
  rw [if_neg (by rw [h.1]; exact q), h.1]
  cases hd : i - xs.length with
  | zero => rw [hd] at hp; simp only [List.getElem?_cons_zero, Option.some.injEq] at hp; subst hp; exact ⟨u, by simp, hu, hy⟩
  | succ n => rw [hd] at hp; simp at hp
theorem DEnts.nil {Z : Nat → Prop} {kt et : Ty} : DEnts Z w kt et [] [] := ⟨rfl, by simp⟩
theorem DmIs.nil {sz b : Nat} : DmIs w sz b [] fun _ => False := ⟨by simp, by simp, by simp, by simp⟩
theorem DmIs.stay {sz b : Nat} {ts : List DEnt} {ex : Nat → Prop} (d : DmIs w sz b ts ex) (hk : ∀ c, ex c → w'.heap[c]? = w.heap[c]?) : DmIs w' sz b ts ex :=
 ⟨fun i t hi rows hr => (d.row i t hi rows hr).stay fun c hc => hk c ((d.ex c).2 ⟨i, t, hi, by rw [DEnt.blk, hr]; exact hc⟩), d.dist, d.ne, d.ex⟩
theorem DmIs.set {sz b : Nat} {ts : List DEnt} {ex : Nat → Prop} (d : DmIs w sz b ts ex) {j : Nat} {t u : DEnt} (ht : ts[j]? = some t) (hrow : ∀ rows, u.2 = some rows → RowOwn w sz u.1.val rows) (hb : u.blk ≠ some b)
  (hx : ∀ c, u.blk = some c → ex c → t.blk = some c) : DmIs w sz b (ts.set j u) fun c => (ex c ∧ t.blk ≠ some c) ∨ u.blk = some c := by
 have hj : j < ts.length := (List.getElem?_eq_some_iff.1 ht).1
 have at_ : ∀ {i s}, (ts.set j u)[i]? = some s → (i = j ∧ s = u) ∨ (i ≠ j ∧ ts[i]? = some s) := by
  intro i s h
  rw [List.getElem?_set] at h
  by_cases q : j = i
  ·subst q
   simp only [if_true, hj] at h
   injection h with h
   exact .inl ⟨rfl, h.symm⟩
  ·simp only [q, if_false] at h
   exact .inr ⟨fun e => q e.symm, h⟩
 have key : ∀ {i s c}, i ≠ j → ts[i]? = some s → s.blk = some c → u.blk = some c → False := by
  intro i s c hi hs hc hu
  have := hx c hu ((d.ex c).2 ⟨i, s, hs, hc⟩)
  exact hi (d.dist i j s t c hs ht hc this)
 refine ⟨fun i s hs rows hr => ?_, fun i k s s' c hs hs' hc hc' => ?_, fun i s hs => ?_, fun c => ?_⟩
 ·rcases at_ hs with ⟨_, rfl⟩ | ⟨_, q⟩
  ·exact hrow rows hr
  ·exact d.row i s q rows hr
 ·rcases at_ hs with ⟨rfl, rfl⟩ | ⟨n1, q⟩
  ·rcases at_ hs' with ⟨rfl, rfl⟩ | ⟨n2, q'⟩
   ·rfl
   ·exact (key n2 q' hc' hc).elim
  ·rcases at_ hs' with ⟨rfl, rfl⟩ | ⟨n2, q'⟩
   ·exact (key n1 q hc hc').elim
   ·exact d.dist i k s s' c q q' hc hc'
 ·rcases at_ hs with ⟨_, rfl⟩ | ⟨_, q⟩
  ·exact hb
  ·exact d.ne i s q
 ·constructor
  ·rintro (⟨h1, h2⟩ | h)
   ·obtain ⟨i, s, hs, hc⟩ := (d.ex c).1 h1
    have : i ≠ j := fun e => by subst e; rw [ht] at hs; injection hs with hs; subst hs; exact h2 hc
    exact ⟨i, s, by rw [List.getElem?_set_ne (fun e => this e.symm)]; exact hs, hc⟩
   ·exact ⟨j, u, by rw [List.getElem?_set_self hj], h⟩
  ·rintro ⟨i, s, hs, hc⟩
   rcases at_ hs with ⟨rfl, rfl⟩ | ⟨n1, q⟩
   ·exact .inr hc
   ·exact .inl ⟨(d.ex c).2 ⟨i, s, q, hc⟩, fun e => n1 (d.dist i j s t c q ht hc e)⟩
theorem DmIs.snoc {sz b : Nat} {ts : List DEnt} {ex : Nat → Prop} (d : DmIs w sz b ts ex) {u : DEnt} (hrow : ∀ rows, u.2 = some rows → RowOwn w sz u.1.val rows) (hb : u.blk ≠ some b) (hx : ∀ c, u.blk = some c → ¬ ex c) :
  DmIs w sz b (ts ++ [u]) fun c => ex c ∨ u.blk = some c := by
 have at_ : ∀ {i s}, (ts ++ [u])[i]? = some s → (i = ts.length ∧ s = u) ∨ ts[i]? = some s := by
  intro i s h
  rw [List.getElem?_append] at h
  split at h
  ·exact .inr h
  ·rename_i q
   cases hd : i - ts.length with
   | zero => rw [hd] at h; simp only [List.getElem?_cons_zero, Option.some.injEq] at h; exact .inl ⟨by omega, h.symm⟩
   | succ n => rw [hd] at h; simp at h
 refine ⟨fun i s hs rows hr => ?_, fun i k s s' c hs hs' hc hc' => ?_, fun i s hs => ?_, fun c => ?_⟩
 ·rcases at_ hs with ⟨_, rfl⟩ | q
  ·exact hrow rows hr
  ·exact d.row i s q rows hr
 ·rcases at_ hs with ⟨rfl, rfl⟩ | q
  ·rcases at_ hs' with ⟨rfl, rfl⟩ | q'
   ·rfl
   ·exact (hx c hc ((d.ex c).2 ⟨_, _, q', hc'⟩)).elim
  ·rcases at_ hs' with ⟨rfl, rfl⟩ | q'
   ·exact (hx c hc' ((d.ex c).2 ⟨_, _, q, hc⟩)).elim
   ·exact d.dist i k s s' c q q' hc hc'
 ·rcases at_ hs with ⟨_, rfl⟩ | q
  ·exact hb
  ·exact d.ne i s q
 ·constructor
  ·rintro (h1 | h)
   ·obtain ⟨i, s, hs, hc⟩ := (d.ex c).1 h1
    exact ⟨i, s, by rw [List.getElem?_append_left (List.getElem?_eq_some_iff.1 hs).1]; exact hs, hc⟩
   ·exact ⟨ts.length, u, by simp, h⟩
  ·rintro ⟨i, s, hs, hc⟩
   rcases at_ hs with ⟨rfl, rfl⟩ | q
   ·exact .inr hc
   ·exact .inl ((d.ex c).2 ⟨i, s, q, hc⟩)
theorem DmIs.erase {sz b : Nat} {ts : List DEnt} {ex : Nat → Prop} (d : DmIs w sz b ts ex) {j : Nat} {t : DEnt} (ht : ts[j]? = some t) : DmIs w sz b (ts.eraseIdx j) fun c => ex c ∧ t.blk ≠ some c := by
 have at_ : ∀ {i s}, (ts.eraseIdx j)[i]? = some s → (i < j ∧ ts[i]? = some s) ∨ (j ≤ i ∧ ts[i + 1]? = some s) := by
  intro i s h
  rw [List.getElem?_eraseIdx] at h
  split at h
  ·rename_i q; exact .inl ⟨q, h⟩
  ·rename_i q; exact .inr ⟨by omega, h⟩
 refine ⟨fun i s hs rows hr => ?_, fun i k s s' c hs hs' hc hc' => ?_, fun i s hs => ?_, fun c => ?_⟩
 ·rcases at_ hs with ⟨_, q⟩ | ⟨_, q⟩ <;> exact d.row _ s q rows hr
 ·rcases at_ hs with ⟨n1, q⟩ | ⟨n1, q⟩ <;> rcases at_ hs' with ⟨n2, q'⟩ | ⟨n2, q'⟩ <;> have := d.dist _ _ s s' c q q' hc hc' <;> omega
 ·rcases at_ hs with ⟨_, q⟩ | ⟨_, q⟩ <;> exact d.ne _ s q
 ·constructor
  ·rintro ⟨h1, h2⟩
   obtain ⟨i, s, hs, hc⟩ := (d.ex c).1 h1
   have : i ≠ j := fun e => by subst e; rw [ht] at hs; injection hs with hs; subst hs; exact h2 hc
   rcases Nat.lt_or_gt_of_ne this with q | q
   ·exact ⟨i, s, by rw [List.getElem?_eraseIdx, if_pos q]; exact hs, hc⟩
   ·exact ⟨i - 1, s, by rw [List.getElem?_eraseIdx, if_neg (by omega), show i - 1 + 1 = i by omega]; exact hs, hc⟩
  ·rintro ⟨i, s, hs, hc⟩
   rcases at_ hs with ⟨n1, q⟩ | ⟨n1, q⟩
   ·exact ⟨(d.ex c).2 ⟨_, s, q, hc⟩, fun e => by have := d.dist _ _ s t c q ht hc e; omega⟩
   ·exact ⟨(d.ex c).2 ⟨_, s, q, hc⟩, fun e => by have := d.dist _ _ s t c q ht hc e; omega⟩
theorem row_blk {A : Option Addr} {n m cap : Nat} : (Bk.row A n cap).blk = valBlk (.slice A m cap) := by
 cases cap with
 | zero => cases A <;> rfl
 | succ c => cases A <;> rfl
theorem two_has {b c : Nat} {ex : Nat → Prop} : (Bk.two b ex).has c ↔ c = b ∨ ex c := by
 constructor
 ·rintro (q | q)
  ·injection q with q; exact .inl q.symm
  ·exact .inr q
 ·rintro (q | q)
  ·exact .inl (by rw [q]; rfl)
  ·exact .inr q
theorem DmIs.ne_ex {sz b : Nat} {ts : List DEnt} {ex : Nat → Prop} (d : DmIs w sz b ts ex) {c : Nat} (h : ex c) : c ≠ b := by
 rintro rfl
 obtain ⟨i, t, h1, h2⟩ := (d.ex c).1 h
 exact d.ne i t h1 h2
theorem dm_split (H : HInv S B w0 h M w) {id b : Nat} {c : AV} {kt et : Ty} (he : h.e id = some (.box c (.dmap kt et))) (hlk : h.lk id = false) {ex ex' : Nat → Prop} (hM : M id = .two b ex) {es : Array MapEntry} {clk : Nat} (hheap : w.heap[b]? = some (.map es clk))
  {ts' : List DEnt} (hes : es.toList = ts'.map Prod.fst) (hd' : DmIs w et.size b ts' ex') (hsub : ∀ g, ex' g → ex g) (hne : ∀ g, ex g → g ≠ b) {xs' : List (kt.D × Option (List et.D))} (hD : DEnts (cx S h M w).Z w kt et ts' xs') {ys : List et.D} {v : Value} {rows : List (List Value)}
  (hrow : RowOwn w et.size v rows) (hys : RowsRep (cx S h M w).Z w et ys rows) (hblk : ∀ g, valBlk v = some g → ex g ∧ ¬ ex' g) :
  ∃ M2, HInv S B w0 ((h.put id (.box (.data (.dmap kt et) xs') (.dmap kt et))).new (.row et ys)) M2 w ∧ HStp S h M w ((h.put id (.box (.data (.dmap kt et) xs') (.dmap kt et))).new (.row et ys)) M2 w ∧
   RepV (cx S ((h.put id (.box (.data (.dmap kt et) xs') (.dmap kt et))).new (.row et ys)) M2 w) (.own h.next) v := by
 obtain ⟨A, cap, rfl, hle, hcap⟩ := hrow
 have hlt : id < h.next := H.lt he
 have hlen : rows.length = ys.length := hys.1
 have e_id : ((h.put id (.box (.data (.dmap kt et) xs') (.dmap kt et))).new (.row et ys)).e id = some (.box (.data (.dmap kt et) xs') (.dmap kt et)) := by
  simp [Hp.new, Hp.put, set1, beq_false (show id ≠ h.next by omega), Nat.beq_refl]
 have e_nx : ((h.put id (.box (.data (.dmap kt et) xs') (.dmap kt et))).new (.row et ys)).e h.next = some (.row et ys) := by
  simp [Hp.new, Hp.put, set1, Nat.beq_refl]
 have e_j : ∀ j, j ≠ id → j ≠ h.next → ((h.put id (.box (.data (.dmap kt et) xs') (.dmap kt et))).new (.row et ys)).e j = h.e j := fun j h1 h2 => by
  simp [Hp.new, Hp.put, set1, beq_false h1, beq_false h2]
 have m_id : set1 (set1 M id (.two b ex')) h.next (.row A ys.length cap) id = .two b ex' := by simp [set1, beq_false (show id ≠ h.next by omega), Nat.beq_refl]
 have m_nx : set1 (set1 M id (.two b ex')) h.next (.row A ys.length cap) h.next = .row A ys.length cap := by simp [set1, Nat.beq_refl]
 have m_j : ∀ j, j ≠ id → j ≠ h.next → set1 (set1 M id (.two b ex')) h.next (.row A ys.length cap) j = M j := fun j h1 h2 => by simp [set1, beq_false h1, beq_false h2]
 have hnow : ∀ {g}, (Bk.row A ys.length cap).has g → ex g ∧ ¬ ex' g := fun {g} hg => by
  rcases hg with hg | hg
  ·exact hblk g (by rw [← row_blk (n := ys.length)]; exact hg)
  ·exact hg.elim
 have hid : h.e id ≠ none := by rw [he]; simp
 have hold : ∀ {g}, ex g → (M id).has g := fun {g} hg => by rw [hM]; exact two_has.2 (.inr hg)
 obtain ⟨H', k⟩ := H.turn (h' := (h.put id (.box (.data (.dmap kt et) xs') (.dmap kt et))).new (.row et ys)) (M' := set1 (set1 M id (.two b ex')) h.next (.row A ys.length cap)) (w' := w) (fun j => j = id ∨ j = h.next)
  (Nat.le_succ _) rfl (fun j hj => by
   have hj : h.next + 1 ≤ j := hj
   rw [e_j j (by omega) (by omega)]; exact H.fresh j (by omega))
  (fun j hj => ⟨.inr (e_j j (fun q => hj (.inl q)) (fun q => hj (.inr q))), m_j j (fun q => hj (.inl q)) (fun q => hj (.inr q))⟩)
  (fun j h1 h2 => by
   have n1 : j ≠ id := fun q => by rw [q, hlk] at h2; cases h2
   exact ⟨fun q => by rcases q with q | q; exact n1 q; omega, e_j j n1 (by omega)⟩)
  (fun j hj hl => by
   rcases hj with rfl | hj
   ·exact ⟨.inr (.inl ⟨b, ex, ex', hM, m_id⟩), c, _, _, he, e_id⟩
   ·omega)
  (fun j g hj _ hg => by
   rcases hj with rfl | rfl
   ·rw [m_id] at hg
    refine .inl ⟨j, hid, ?_⟩
    rw [hM]
    exact two_has.2 ((two_has.1 hg).imp (fun z => z) (hsub g))
   ·rw [m_nx] at hg
    exact .inl ⟨id, hid, hold (hnow hg).1⟩)
  (fun i j g hi _ hj gi gj => by
   have other : ∀ {u}, u ≠ id → u ≠ h.next → ((h.put id (.box (.data (.dmap kt et) xs') (.dmap kt et))).new (.row et ys)).e u ≠ none → (set1 (set1 M id (.two b ex')) h.next (.row A ys.length cap) u).has g → (M id).has g → False := fun {u} n1 n2 hu hg hg' => by
    rw [e_j u n1 n2] at hu
    rw [m_j u n1 n2] at hg
    exact n1 (H.dist u id g hu hid hg hg')
   rcases hi with rfl | rfl
   ·rw [m_id] at gi
    have gM : (M i).has g := by rw [hM]; exact two_has.2 ((two_has.1 gi).imp (fun z => z) (hsub g))
    by_cases n1 : j = i
    ·exact n1.symm
    ·by_cases n2 : j = h.next
     ·subst n2
      rw [m_nx] at gj
      rcases two_has.1 gi with q | q
      ·exact absurd q (hne g (hnow gj).1)
      ·exact absurd q (hnow gj).2
     ·exact (other n1 n2 hj gj gM).elim
   ·rw [m_nx] at gi
    have gM := hold (hnow gi).1
    by_cases n1 : j = id
    ·subst n1
     rw [m_id] at gj
     rcases two_has.1 gj with q | q
     ·exact absurd q (hne g (hnow gi).1)
     ·exact absurd q (hnow gi).2
    ·by_cases n2 : j = h.next
     ·exact n2.symm
     ·exact (other n1 n2 hj gj gM).elim)
  (fun _ _ _ => rfl) (fun _ _ _ _ _ => rfl) (Nat.le_refl _) (Below.refl _ _)
  (fun k j e hj hje => by
   rcases hj with rfl | rfl
   ·rw [e_id] at hje
    injection hje with hje
    subst hje
    exact ⟨b, _, .inl ⟨ts', es, clk, ex', m_id, hheap, hes, rfl, hd'⟩, by simp [fitsT], by simp only [RepC]; exact of_dents (hD.held k.held)⟩
   ·rw [e_nx] at hje
    injection hje with hje
    subst hje
    refine ⟨A, cap, m_nx, by rw [← hlen]; exact hle, ?_⟩
    rcases hcap with q | ⟨q, b2, o2, cs, el, rfl, q1, q2, q3⟩
    ·exact .inl q
    ·refine .inr ⟨q, b2, o2, cs, el, rfl, q1, q2, fun i x hx => ?_⟩
     obtain ⟨d, d1, d2⟩ := hys.2 i x hx
     exact ⟨d, d2.held k.held, q3 i d d1⟩)
 refine ⟨_, H', k, ?_⟩
 simp only [RepV, Rep1]
 exact ⟨Nat.lt_succ_self _, A, ys.length, cap, by rw [hlen], .inr m_nx⟩
theorem dm_merge (H : HInv S B w0 h M w) {id b : Nat} {c : AV} {kt et : Ty} (he : h.e id = some (.box c (.dmap kt et))) (hlk : h.lk id = false) {ex ex' : Nat → Prop} (hM : M id = .two b ex) {es es' : Array MapEntry} {clk clk' : Nat} (hheap : w.heap[b]? = some (.map es clk)) {l : List Nat}
  (hl : unlocked h l = true) (hil : id ∉ l) {ts' : List DEnt} (hes : es'.toList = ts'.map Prod.fst) (hd' : DmIs w et.size b ts' ex') (hex : ∀ g, ex' g → ex g ∨ ∃ i ∈ l, h.e i ≠ none ∧ (M i).has g) {xs' : List (kt.D × Option (List et.D))} (hD : DEnts (cx S h M w).Z w kt et ts' xs') :
  HInv S B w0 ((h.kills l).put id (.box (.data (.dmap kt et) xs') (.dmap kt et))) (set1 M id (.two b ex')) { w with heap := w.heap.setIfInBounds b (.map es' clk') } ∧
  HStp S h M w ((h.kills l).put id (.box (.data (.dmap kt et) xs') (.dmap kt et))) (set1 M id (.two b ex')) { w with heap := w.heap.setIfInBounds b (.map es' clk') } := by
 obtain ⟨g1, g2⟩ := MapKept.heap_set (o' := .map es' clk') hheap
 have hid : h.e id ≠ none := by rw [he]; simp
 have hB : B ≤ b := H.own id b hid (by rw [hM]; exact two_has.2 (.inl rfl))
 have e_id : ((h.kills l).put id (.box (.data (.dmap kt et) xs') (.dmap kt et))).e id = some (.box (.data (.dmap kt et) xs') (.dmap kt et)) := by simp [Hp.put, set1, Nat.beq_refl]
 have e_j : ∀ j, j ≠ id → ((h.kills l).put id (.box (.data (.dmap kt et) xs') (.dmap kt et))).e j = if j ∈ l then none else h.e j := fun j q => by
  simp only [Hp.put, set1, beq_false q, kills_e]
 have m_id : set1 M id (.two b ex') id = .two b ex' := by simp [set1, Nat.beq_refl]
 have m_j : ∀ j, j ≠ id → set1 M id (.two b ex') j = M j := fun j q => by simp [set1, beq_false q]
 have ul := unlocked_mem hl
 have lives : ∀ {j}, j ≠ id → ((h.kills l).put id (.box (.data (.dmap kt et) xs') (.dmap kt et))).e j ≠ none → j ∉ l ∧ h.e j ≠ none := fun {j} q hn => by
  rw [e_j j q] at hn
  split at hn
  ·exact absurd rfl hn
  ·rename_i z; exact ⟨z, hn⟩
 have hne : ∀ {j}, j ≠ id → ((h.kills l).put id (.box (.data (.dmap kt et) xs') (.dmap kt et))).e j ≠ none → ∀ g, (M j).has g → ¬ (Bk.two b ex').has g := fun {j} q hn g hg hg' => by
  obtain ⟨n1, n2⟩ := lives q hn
  rcases two_has.1 hg' with rfl | z
  ·exact q (H.dist j id _ n2 hid hg (by rw [hM]; exact two_has.2 (.inl rfl)))
  ·rcases hex g z with z | ⟨i, i1, i2, i3⟩
   ·exact q (H.dist j id g n2 hid hg (by rw [hM]; exact two_has.2 (.inr z)))
   ·have := H.dist j i g n2 i2 hg i3
    subst this
    exact n1 i1
 refine H.turn (fun j => j = id) (Nat.le_of_eq (kills_next l h).symm) (kills_lk l h) (fun j hj => ?_) (fun j hj => ?_) (fun j h1 h2 => ?_) (fun j hj hl => ?_) (fun j g hj _ hg => ?_) (fun i j g hi _ hj gi gj => ?_) (fun g hg hn => ?_) (fun j g hj hn hg => ?_) (by simp) ⟨rfl, rfl, rfl, by simp, fun k hk => g2 k (by omega)⟩ (fun k j e hj hje => ?_)
 ·have hj : (h.kills l).next ≤ j := hj
  rw [kills_next] at hj
  have := H.lt he
  rw [e_j j (by omega), H.fresh j hj]
  simp
 ·rw [e_j j hj]
  refine ⟨?_, m_j j hj⟩
  split
  ·exact .inl rfl
  ·exact .inr rfl
 ·have n1 : j ≠ id := fun q => by rw [q, hlk] at h2; cases h2
  refine ⟨n1, ?_⟩
  rw [e_j j n1, if_neg fun z => by rw [ul j z] at h2; cases h2]
 ·subst hj
  exact ⟨.inr (.inl ⟨b, ex, ex', hM, m_id⟩), c, _, _, he, e_id⟩
 ·subst hj
  rw [m_id] at hg
  rcases two_has.1 hg with z | z
  ·exact .inl ⟨j, hid, by rw [hM]; exact two_has.2 (.inl z)⟩
  ·rcases hex g z with z | ⟨i, _, i2, i3⟩
   ·exact .inl ⟨j, hid, by rw [hM]; exact two_has.2 (.inr z)⟩
   ·exact .inl ⟨i, i2, i3⟩
 ·subst hi
  rw [m_id] at gi
  by_cases q : j = i
  ·exact q.symm
  ·rw [m_j j q] at gj
   exact absurd gi (hne q hj g gj)
 ·refine g2 g fun q => hn id hid ?_
  rw [hM]
  exact two_has.2 (.inl q)
 ·refine g2 g fun q => hne hj hn g hg ?_
  exact two_has.2 (.inl q)
 ·subst hj
  rw [e_id] at hje
  injection hje with hje
  subst hje
  refine ⟨b, _, .inl ⟨ts', es', clk', ex', m_id, g1, hes, rfl, hd'.stay fun c hc => g2 c (hd'.ne_ex hc)⟩, by simp [fitsT], by simp only [RepC]; exact of_dents (hD.held k.held)⟩
theorem choose_rows {α : Type} (Q : Nat → α → List Value → Prop) : ∀ (l : List α) (n : Nat), (∀ j x, l[j]? = some x → ∃ d, Q (n + j) x d) → ∃ rows : List (List Value), rows.length = l.length ∧ ∀ j x, l[j]? = some x → ∃ d, rows[j]? = some d ∧ Q (n + j) x d
 | [], n, _ => ⟨[], rfl, by simp⟩
 | x :: l, n, h => by
  obtain ⟨d, hd⟩ := h 0 x (by simp)
  obtain ⟨rows, h1, h2⟩ := choose_rows Q l (n + 1) fun j y hy => by
   have := h (j + 1) y (by simpa using hy)
   simpa [Nat.add_assoc, Nat.add_comm 1 j] using this
  refine ⟨d :: rows, by simp [h1], fun j y hy => ?_⟩
  cases j with
  | zero => simp only [List.getElem?_cons_zero, Option.some.injEq] at hy ⊢; subst hy; exact ⟨d, rfl, hd⟩
  | succ j =>
   simp only [List.getElem?_cons_succ] at hy ⊢
   obtain ⟨d', q1, q2⟩ := h2 j y hy
   exact ⟨d', q1, by simpa [Nat.add_assoc, Nat.add_comm 1 j] using q2⟩
theorem rowOf_spec (H : HInv S B w0 h M w) {et : Ty} {v : AV} {u : Value} {ys : List et.D} (hr : rowOf et h v = some ys) (hu : RepV (cx S h M w) v u) :
  ∃ rows, RowOwn w et.size u rows ∧ RowsRep (cx S h M w).Z w et ys rows ∧ unlocked h v.owns = true ∧ (∀ g, valBlk u = some g → ∃ i ∈ v.owns, h.e i ≠ none ∧ (M i).has g) ∧ ∀ i ∈ v.owns, ∃ e xs, h.e i = some (.row e xs) := by
 unfold rowOf at hr
 split at hr
 ·rename_i zs id hz
  split at hr
  case h_2 => cases hr
  rename_i hl
  injection hr with hr
  subst hr
  simp only [toD] at hz
  split at hz
  case h_2 => cases hz
  rename_i e xs he
  split at hz
  case isFalse => cases hz
  rename_i q
  subst q
  injection hz with hz
  subst hz
  simp only [RepV, Rep1] at hu
  obtain ⟨hn, A, n, cap, hc, hm⟩ := hu
  injection hc with hc
  subst hc
  obtain ⟨A', cap', h1, h2, h3⟩ := H.ent id _ he
  simp only [cx] at hm h1 h3
  rcases hm with hm | hm
  ·rw [he] at hm; cases hm
  rw [h1] at hm
  injection hm with q1 q2 q3
  subst q1; subst q2; subst q3
  refine (?_ : ∃ rows : List (List Value), _)
  have blk : ∀ g, valBlk (.slice A' (List.length xs) cap') = some g → ∃ i ∈ (AV.own id).owns, h.e i ≠ none ∧ (M i).has g := fun g hg => ⟨id, by simp [AV.owns], by rw [he]; simp, by
   rw [h1]; exact .inl (by rw [row_blk (m := List.length xs)]; exact hg)⟩
  have row : ∀ i ∈ (AV.own id).owns, ∃ e xs, h.e i = some (.row e xs) := fun i hi => by
   simp only [AV.owns, List.mem_singleton] at hi
   subst hi
   exact ⟨_, _, he⟩
  rcases h3 with h3 | ⟨hc, b, o, cs, el, rfl, h4, h5, h6⟩
  ·subst h3
   have : xs = [] := List.eq_nil_of_length_eq_zero (by omega)
   subst this
   exact ⟨[], ⟨A', 0, rfl, Nat.le_refl _, .inl rfl⟩, ⟨rfl, by simp⟩, hl, blk, row⟩
  ·obtain ⟨rows, r1, r2⟩ := choose_rows (fun i x d => RepD (cx S h M w).Z w e x d ∧ Mem w b (o + i * e.size) d) xs 0 (fun j x hx => by rw [Nat.zero_add]; exact h6 j x hx)
   refine ⟨rows, ⟨_, cap', by rw [r1], by rw [r1]; exact h2, .inr ⟨hc, b, o, cs, el, rfl, h4, h5, fun j d hd => ?_⟩⟩, ⟨r1, fun j x hx => ?_⟩, hl, blk, row⟩
   ·have hj : j < List.length xs := by rw [← r1]; exact (List.getElem?_eq_some_iff.1 hd).1
    obtain ⟨d', q1, q2, q3⟩ := r2 j _ (List.getElem?_eq_getElem hj)
    rw [hd] at q1
    injection q1 with q1
    subst q1
    simpa using q3
   ·obtain ⟨d', q1, q2, q3⟩ := r2 j x hx
    exact ⟨d', q1, q2⟩
 ·rename_i zs e hz
  injection hr with hr
  subst hr
  simp only [toD] at hz
  injection hz with hz
  subst hz
  simp only [RepV, Rep1] at hu
  obtain ⟨A, hc⟩ := hu
  injection hc with hc
  subst hc
  exact ⟨[], ⟨A, 0, rfl, Nat.le_refl _, .inl rfl⟩, ⟨rfl, by simp⟩, rfl, fun g hg => (by cases A <;> cases hg), by simp [AV.owns]⟩
 ·cases hr
theorem evDmap_spec (HE : EnvOk Pg G E) (H : HInv S B w0 h M w) {t : TypeId} {kt et : Ty} (ht : look E.dmaps t = some (kt, et)) {m k : AV} {mv kv : Value} (hm : RepV (cx S h M w) m mv) (hkv : RepV (cx S h M w) k kv) {KK : Nat → (kt.D → kt.D → Bool) → List (kt.D × Option (List et.D)) → kt.D → Option ρ}
  (hr : evDmap kt et m k h KK = some r) : ∃ id f xs x c b ts es clk ex kid eid kd, KK id f xs x = some r ∧ h.e id = some (.box c (.dmap kt et)) ∧ h.lk id = false ∧ M id = .two b ex ∧ w.heap[b]? = some (.map es clk) ∧ es.toList = ts.map Prod.fst ∧ DmIs w et.size b ts ex ∧ mv = .map (some b) ∧ keyEq kt = some f ∧
   DEnts (cx S h M w).Z w kt et ts xs ∧ RepDV (cx S h M w).Z w kt x kv ∧ Pg.underlying t = some (.map kid eid) ∧ Eqs Pg kt (.typ kid) ∧ nest kt ≤ 9000 ∧ Pg.underlying kid = some kd ∧ Ok Pg (.slice et) (.typ eid) := by
 obtain ⟨kid, eid, h1, h2, h3, h4, h5⟩ := HE.dmaps t kt et ht
 unfold evDmap at hr
 split at hr
 case h_2 => cases hr
 rename_i id
 split at hr
 case h_2 => cases hr
 rename_i c kt' et' he
 split at hr
 case h_2 => cases hr
 rename_i xs f x q1 q2 q3 q4 q5
 split at hr
 case h_2 => cases hr
 rename_i hlk
 simp only [decide_eq_true_eq] at q1 q2
 subst q1; subst q2
 simp only [RepV, Rep1] at hm
 obtain ⟨_, q, hmv, hm⟩ := hm
 injection hmv with hmv
 rcases hm with hm | ⟨b, v, L, hb, he', rfl⟩
 ·simp only [cx] at hm; rw [he] at hm; cases hm
 obtain ⟨b', cs, hh, hfit, hrep⟩ := H.ent id _ he
 have hh : _ ∨ _ := hh
 rcases hh with hh | ⟨_, _, _, _, hM, _⟩
 case inr => simp only [cx] at hb hM; rw [hM] at hb; cases hb
 obtain ⟨ts, es, clk, ex, hM, hheap, hes, rfl, hd⟩ := hh
 simp only [cx] at hb hM
 rw [hM] at hb
 injection hb with hb
 subst hb
 have hdata : RepD (cx S h M w).Z w (.dmap kt' et') xs [mapCell (ts.map DEnt.cell)] := by
  cases c with
  | data t' x' =>
   simp only [toD] at q3
   split at q3
   ·rename_i e; subst e
    injection q3 with q3
    subst q3
    simp only [RepC] at hrep
    exact hrep
   ·cases q3
  | _ => simp [toD] at q3
 have hkd : ∃ kd, Pg.underlying kid = some kd := by
  cases kt' with
  | st b => obtain ⟨⟨fs, g, _⟩, _⟩ := h2; exact ⟨_, g⟩
  | bool => exact ⟨_, h2⟩
  | int k => exact ⟨_, h2⟩
  | str => exact ⟨_, h2⟩
  | pair a b => exact absurd rfl (h4 a b)
  | _ => simp [keyEq] at q4
 obtain ⟨kd, hkd⟩ := hkd
 exact ⟨id, f, xs, x, c, b', ts, es, clk, ex, kid, eid, kd, hr, he, hlk, hM, hheap, hes, hd, hmv, q4, dents_of hdata, key_rep H q4 q5 hkv, h1, h2, h3, hkd, h5⟩
theorem loc_dget {α β : Type} (f : α → α → Bool) (x : α) : ∀ (xs : List (α × Option (List β))) (i : Nat),
  (loc f xs x i = none ∧ P.dget f xs x = some [] ∧ P.dtake f xs x = xs) ∨ ∃ j p, loc f xs x i = some (i + j) ∧ xs[j]? = some p ∧ P.dget f xs x = p.2 ∧ P.dtake f xs x = xs.set j (p.1, none) := by
 intro xs
 induction xs with
 | nil => intro i; exact .inl ⟨rfl, rfl, rfl⟩
 | cons p xs ih =>
  intro i
  cases q : f x p.1 with
  | true => exact .inr ⟨0, p, by simp [loc, q], by simp, by simp [P.dget, q], by simp [P.dtake, q]⟩
  | false =>
   rcases ih (i + 1) with ⟨h1, h2, h3⟩ | ⟨j, p', h1, h2, h3, h4⟩
   ·exact .inl ⟨by simp [loc, q, h1], by simp [P.dget, q, h2], by simp [P.dtake, q, h3]⟩
   ·exact .inr ⟨j + 1, p', by simp only [loc, q, h1]; congr 1; omega, by simpa using h2, by simp [P.dget, q, h3], by simp [P.dtake, q, h4]⟩
theorem makeDmap_ok (H : HInv S B w0 st.h M w) {t : TypeId} {kt et : Ty} (ho : o.op = .makeMap t none) (hr : K (.mref st.h.next) (st.h.new (.box (.data (.dmap kt et) []) (.dmap kt et))) = some r) : Does Pg o a w (Post K r S B w0 st.h M w) := by
 obtain ⟨H', k⟩ := new_boxH H (av := .data (.dmap kt et) []) (L := .dmap kt et) (cs := [mapCell []]) (bk := .two w.heap.size fun _ => False) (o := .map #[] 0) (by simp [fitsT]) (by simp only [RepC]; exact of_dents (ts := []) DEnts.nil)
  (.inl ⟨[], #[], 0, _, rfl, alloc_get w _, rfl, rfl, DmIs.nil⟩) (fun b hb => by
   rcases two_has.1 hb with q | q
   ·omega
   ·exact q.elim)
 refine Does.value (v := .map (some w.heap.size)) (w' := w.alloc (.map #[] 0)) (by simp only [execOp, ho, Option.map_none, Sem.run_bind, run_makeMap, Result.andThen_ok, Sem.run_pure]) ⟨.mref st.h.next, _, _, hr, H', k, ?_⟩
 simp only [RepV, Rep1]
 exact ⟨by simp [cx, Hp.new], some w.heap.size, rfl, .inr ⟨w.heap.size, .data (.dmap kt et) [], .dmap kt et, by simp [cx, set1, Nat.beq_refl, Bk.at], by simp [cx, Hp.new, set1, Nat.beq_refl], rfl⟩⟩
theorem dlookup_ok (HE : EnvOk Pg G E) (F : ∀ t, RepV (cx S st.h M w) (st.fr t) (a.tmps.getD t undef)) (H : HInv S B w0 st.h M w) {t : TypeId} {m k : Operand} (ho : o.op = .lookup t m k false) {kt et : Ty} (ht : look E.dmaps t = some (kt, et))
  (hr : evDmap kt et (opnd none st.fr m) (opnd (some kt) st.fr k) st.h (fun id f xs x => P.bind (P.dget f xs x) fun ys => K (.own st.h.next) ((st.h.put id (.box (.data (.dmap kt et) (P.dtake f xs x)) (.dmap kt et))).new (.row et ys))) = some r) : Does Pg o a w (Post K r S B w0 st.h M w) := by
 obtain ⟨_, _, _, _, _, hnp, _⟩ := HE.dmaps t kt et ht
 obtain ⟨id, f, xs, x, c, b, ts, es, clk, ex, kid, eid, kd, hK, he, hlk, hM, hheap, hes, hd, hmv, hf, hE, hx, h1, h2, h3, h4, h5⟩ := evDmap_spec HE H ht (opnd_rep F none (by intros; simp) m) (opnd_rep F (some kt) (fun a b q => hnp a b (by injection q)) k) hr
 have hchk := (run_check (Pg := Pg) (Z := (cx S st.h M w).Z) (w := w) es.isEmpty kt).1 kid x (a.eval k) 9999 h2 hx (by omega)
 obtain ⟨ys, hg, hK⟩ := bind_some hK
 have fin : ∀ (v : Value) (ts' : List DEnt) (ex' : Nat → Prop) (rows : List (List Value)), (Instr.lookup t (a.eval m) (a.eval k) false).run Pg w = .ok v w → es.toList = ts'.map Prod.fst → DmIs w et.size b ts' ex' → (∀ g, ex' g → ex g) → DEnts (cx S st.h M w).Z w kt et ts' (P.dtake f xs x) → RowOwn w et.size v rows → RowsRep (cx S st.h M w).Z w et ys rows →
   (∀ g, valBlk v = some g → ex g ∧ ¬ ex' g) → Does Pg o a w (Post K r S B w0 st.h M w) := by
  intro v ts' ex' rows hrun q1 q2 q3 q4 q5 q6 q7
  obtain ⟨M2, H', k', hv⟩ := dm_split H he hlk hM hheap q1 q2 q3 (fun g hg => hd.ne_ex hg) q4 q5 q6 q7
  exact Does.value (v := v) (w' := w) (by simp only [execOp, ho, Sem.run_bind, hrun, Result.andThen_ok]; rfl) ⟨_, _, M2, hK, H', k', hv⟩
 have hkeys := hE.keys hes
 rcases find_ok hf h2 h3 h4 hx hkeys with ⟨g1, g2⟩ | ⟨j, e, g1, g2, g3⟩
 ·rcases loc_dget f x xs 0 with ⟨_, l2, l3⟩ | ⟨j, p, l1, _⟩
  ·rw [l2] at hg
   injection hg with hg
   subst hg
   have hz : (zeroValue eid).run Pg w = .ok (.slice none 0 0) w := by
    obtain ⟨_, i, z1, z2, z3⟩ := h5
    simp [zeroValue, typeInfo, z1, z3]
   refine fin (.slice none 0 0) ts ex [] ?_ hes hd (fun _ h => h) (by rw [l3]; exact hE) ⟨none, 0, rfl, Nat.le_refl _, .inl rfl⟩ ⟨rfl, by simp⟩ (fun g hg => by cases hg)
   simp only [Instr.lookup, Sem.run_bind, run_underlying h1, hmv, run_getMap hheap, Result.andThen_ok, Sem.run_pure, hchk, g1, hz]
   rfl
  ·rw [g2] at l1; cases l1
 ·rcases loc_dget f x xs 0 with ⟨l1, _⟩ | ⟨j', p, l1, l2, l3, l4⟩
  ·rw [g3] at l1; cases l1
  ·rw [g3] at l1
   injection l1 with l1
   obtain rfl : j' = j := by omega
   obtain ⟨t', q1, q2, q3, q4⟩ := hE.2 j' p l2
   have q0 : t'.1 = e := by
    rw [hes, List.getElem?_map, q1] at g2
    injection g2
   rw [l3] at hg
   obtain ⟨rows, r1, r2⟩ := q4 ys hg
   have hj : j' < ts.length := (List.getElem?_eq_some_iff.1 q1).1
   refine fin e.val (ts.set j' (t'.1, none)) _ rows ?_ ?_ (hd.set (u := (t'.1, none)) q1 (fun _ hr => by cases hr) (by simp [DEnt.blk]) (fun c hc => by cases hc)) ?_ (by rw [l4]; exact hE.set hj q2 ⟨fun _ => rfl, fun l hl => by cases hl⟩) (by rw [← q0]; exact hd.row j' t' q1 rows r1) r2 ?_
   ·simp only [Instr.lookup, Sem.run_bind, run_underlying h1, hmv, run_getMap hheap, Result.andThen_ok, Sem.run_pure, hchk, g1]
    rfl
   ·rw [hes]
    apply List.ext_getElem?
    intro i
    rw [List.getElem?_map, List.getElem?_map, List.getElem?_set]
    by_cases q : j' = i
    ·subst q; simp only [if_true, hj, q1]; rfl
    ·simp only [q, if_false]
   ·rintro g (⟨z, _⟩ | z)
    ·exact z
    ·cases z
   ·intro g hg'
    have hb' : t'.blk = some g := by rw [DEnt.blk, r1, q0]; exact hg'
    refine ⟨(hd.ex g).2 ⟨j', t', q1, hb'⟩, ?_⟩
    rintro (⟨_, z⟩ | z)
    ·exact z hb'
    ·cases z
theorem toList_modify {es : Array MapEntry} {j : Nat} {e e' : MapEntry} {g : MapEntry → MapEntry} (h : es.toList[j]? = some e) (hg : g e = e') : (es.modify j g).toList = es.toList.set j e' := by
 rw [Array.toList_modify]
 apply List.ext_getElem?
 intro i
 rw [List.getElem?_modify, List.getElem?_set]
 by_cases q : j = i
 ·subst q
  have hl : j < es.toList.length := (List.getElem?_eq_some_iff.1 h).1
  simp only [if_true, hl, h, ← hg]
  rfl
 ·simp only [q, if_false]
  simp
theorem dmapUpdate_ok (HE : EnvOk Pg G E) (F : ∀ t, RepV (cx S st.h M w) (st.fr t) (a.tmps.getD t undef)) (H : HInv S B w0 st.h M w) {t : TypeId} {m k v : Operand} (ho : o.op = .mapUpdate t m k v) {kt et : Ty} (ht : look E.dmaps t = some (kt, et))
  (hr : evDmap kt et (opnd none st.fr m) (opnd (some kt) st.fr k) st.h (fun id f xs x => match rowOf et st.h (opnd (some (.slice et)) st.fr v) with
   | some ys => K .undef ((st.h.kills (opnd (some (.slice et)) st.fr v).owns).put id (.box (.data (.dmap kt et) (P.mput f xs x (some ys))) (.dmap kt et)))
   | none => none) = some r) : Does Pg o a w (Post K r S B w0 st.h M w) := by
 obtain ⟨_, _, _, _, _, hnp, _⟩ := HE.dmaps t kt et ht
 obtain ⟨id, f, xs, x, c, b, ts, es, clk, ex, kid, eid, kd, hK, he, hlk, hM, hheap, hes, hd, hmv, hf, hE, hx, h1, h2, h3, h4, h5⟩ := evDmap_spec HE H ht (opnd_rep F none (by intros; simp) m) (opnd_rep F (some kt) (fun a b q => hnp a b (by injection q)) k) hr
 have hchk := (run_check (Pg := Pg) (Z := (cx S st.h M w).Z) (w := w) false kt).1 kid x (a.eval k) 9999 h2 hx (by omega)
 split at hK
 case h_2 => cases hK
 rename_i ys hy
 obtain ⟨rows, hrow, hrep, hul, hbl, hrows⟩ := rowOf_spec H hy (opnd_rep F (some (.slice et)) (fun a b q => by cases q) v)
 have hil : id ∉ (opnd (some (.slice et)) st.fr v).owns := fun q => by
  obtain ⟨e, zs, q⟩ := hrows id q
  rw [he] at q
  cases q
 have hid : st.h.e id ≠ none := by rw [he]; simp
 have apart : ∀ g, valBlk (a.eval v) = some g → g ≠ b ∧ ¬ ex g := fun g hg => by
  obtain ⟨i, i1, i2, i3⟩ := hbl g hg
  have ne : i ≠ id := fun q => hil (q ▸ i1)
  exact ⟨fun q => ne (H.dist i id g i2 hid i3 (by rw [hM]; exact two_has.2 (.inl q))), fun q => ne (H.dist i id g i2 hid i3 (by rw [hM]; exact two_has.2 (.inr q)))⟩
 have fin : ∀ (es' : Array MapEntry) (clk' : Nat) (ts' : List DEnt) (ex' : Nat → Prop), (Instr.mapUpdate t (a.eval m) (a.eval k) (a.eval v)).run Pg w = .ok () { w with heap := w.heap.setIfInBounds b (.map es' clk') } → es'.toList = ts'.map Prod.fst → DmIs w et.size b ts' ex' → (∀ g, ex' g → ex g ∨ valBlk (a.eval v) = some g) →
   DEnts (cx S st.h M w).Z w kt et ts' (P.mput f xs x (some ys)) → Does Pg o a w (Post K r S B w0 st.h M w) := by
  intro es' clk' ts' ex' hrun q1 q2 q3 q4
  obtain ⟨H', k'⟩ := dm_merge H he hlk hM hheap hul hil (clk' := clk') q1 q2 (fun g hg => (q3 g hg).imp (fun z => z) (hbl g)) q4
  exact Does.skip (w' := { w with heap := w.heap.setIfInBounds b (.map es' clk') }) (by simp only [execOp, ho, Sem.run_bind, hrun, Result.andThen_ok, Sem.run_pure]) ⟨.undef, _, _, hK, H', k', by simp only [RepV]⟩
 have hor : ORep (cx S st.h M w).Z w et (some ys) (some rows) := ⟨fun q => (by cases q), fun l hl => ⟨rows, rfl, by injection hl with hl; subst hl; exact hrep⟩⟩
 rcases find_ok hf h2 h3 h4 hx (hE.keys hes) with ⟨g1, g2⟩ | ⟨j, e, g1, g2, g3⟩
 ·rcases loc_get f x none xs 0 with ⟨_, _, _, l4, _⟩ | ⟨j, p, l1, _⟩
  ·refine fin (es.push { key := a.eval k, val := a.eval v, born := clk }) (clk + 1) (ts ++ [({ key := a.eval k, val := a.eval v, born := clk }, some rows)]) _ ?_ (by rw [Array.toList_push, hes, List.map_append]; rfl)
    (hd.snoc (u := ({ key := a.eval k, val := a.eval v, born := clk }, some rows)) (fun rs hr => by injection hr with hr; subst hr; exact hrow) (fun q => (apart b q).1 rfl) (fun g hg => (apart g hg).2)) (fun g hg => hg) (by rw [l4]; exact hE.snoc hx hor)
   simp only [Instr.mapUpdate, Sem.run_bind, run_underlying h1, hmv, run_getMap hheap, Result.andThen_ok, hchk, g1, MapKept.run_setObj_map _ hheap]
  ·rw [g2] at l1; cases l1
 ·rcases loc_get f x none xs 0 with ⟨l1, _⟩ | ⟨j', p, l1, l2, l3, l4, l5, l6, _⟩
  ·rw [g3] at l1; cases l1
  ·rw [g3] at l1
   injection l1 with l1
   obtain rfl : j' = j := by omega
   obtain ⟨t', q1, q2, q3⟩ := hE.2 j' p l2
   have q0 : t'.1 = e := by
    rw [hes, List.getElem?_map, q1] at g2
    injection g2
   rw [q0] at q2
   have hxp := (keyEq_spec kt f hf).2 _ _ l3
   rw [← hxp] at q2
   obtain ⟨hkey, hsame⟩ := key_same hf hx q2
   have g2' : es[j']? = some e := by rw [← Array.getElem?_toList]; exact g2
   have hj : j' < ts.length := (List.getElem?_eq_some_iff.1 q1).1
   refine fin (es.modify j' fun e => { e with key := a.eval k, val := a.eval v }) clk (ts.set j' ({ e with key := a.eval k, val := a.eval v }, some rows)) _ ?_ ?_
    (hd.set (u := ({ e with key := a.eval k, val := a.eval v }, some rows)) q1 (fun rs hr => by injection hr with hr; subst hr; exact hrow) (fun q => (apart b q).1 rfl) (fun g hg hx => absurd hx (apart g hg).2)) (fun g hg => ?_) (by rw [l6]; exact hE.set hj hx hor)
   ·have hst : (Instr.keyThatStays e.key (a.eval k)).run Pg w = .ok (a.eval k) w := by
     simp only [Instr.keyThatStays, ← hkey, hkey ▸ hsame 9999, if_true, Sem.run_pure]
    simp only [Instr.mapUpdate, Sem.run_bind, run_underlying h1, hmv, run_getMap hheap, Result.andThen_ok, hchk, g1, g2', Option.map_some, Option.getD_some, hst, MapKept.run_setObj_map _ hheap]
   ·rw [toList_modify g2 rfl, hes, List.map_set]
   ·rcases hg with ⟨z, _⟩ | z
    ·exact .inl z
    ·exact .inr z
theorem ddelete_ok (HE : EnvOk Pg G E) (H : HInv S B w0 h M w) {t : TypeId} {kt et : Ty} (ht : look E.dmaps t = some (kt, et)) {m k : AV} {mv kv : Value} (tl : List TypeId) (ty : TypeId) (hm : RepV (cx S h M w) m mv) (hkv : RepV (cx S h M w) k kv)
  (hr : evDmap kt et m k h (fun id f xs x => K (.tup .unit) (h.put id (.box (.data (.dmap kt et) (P.mdel f xs x)) (.dmap kt et)))) = some r) : ∃ w', (Builtin.delete_ (t :: tl).toArray ty #[mv, kv]).run Pg w = .ok (.tuple #[]) w' ∧ Post K r S B w0 h M w (.tuple #[]) w' := by
 obtain ⟨id, f, xs, x, c, b, ts, es, clk, ex, kid, eid, kd, hK, he, hlk, hM, hheap, hes, hd, hmv, hf, hE, hx, h1, h2, h3, h4, h5⟩ := evDmap_spec HE H ht hm hkv hr
 have hchk := (run_check (Pg := Pg) (Z := (cx S h M w).Z) (w := w) es.isEmpty kt).1 kid x kv 9999 h2 hx (by omega)
 have fin : ∀ (es' : Array MapEntry) (ts' : List DEnt) (ex' : Nat → Prop), (Builtin.delete_ (t :: tl).toArray ty #[mv, kv]).run Pg w = .ok (.tuple #[]) { w with heap := w.heap.setIfInBounds b (.map es' clk) } → es'.toList = ts'.map Prod.fst → DmIs w et.size b ts' ex' → (∀ g, ex' g → ex g) →
   DEnts (cx S h M w).Z w kt et ts' (P.mdel f xs x) → ∃ w', (Builtin.delete_ (t :: tl).toArray ty #[mv, kv]).run Pg w = .ok (.tuple #[]) w' ∧ Post K r S B w0 h M w (.tuple #[]) w' := by
  intro es' ts' ex' hrun q1 q2 q3 q4
  obtain ⟨H', k'⟩ := dm_merge H he hlk hM hheap (l := []) rfl (by simp) (clk' := clk) q1 q2 (fun g hg => .inl (q3 g hg)) q4
  exact ⟨_, hrun, .tup .unit, _, _, hK, H', k', by simp [RepV, RepT]⟩
 rcases find_ok hf h2 h3 h4 hx (hE.keys hes) with ⟨g1, g2⟩ | ⟨j, e, g1, g2, g3⟩
 ·rcases loc_get f x none xs 0 with ⟨_, _, _, _, l5⟩ | ⟨j, p, l1, _⟩
  ·refine fin es ts ex ?_ hes hd (fun _ h => h) (by rw [l5]; exact hE)
   simp [Builtin.delete_, run_underlying h1, hmv, run_getMap hheap, Result.andThen_ok, hchk, g1, MapKept.run_setObj_map _ hheap]
  ·rw [g2] at l1; cases l1
 ·rcases loc_get f x none xs 0 with ⟨l1, _⟩ | ⟨j', p, l1, l2, l3, l4, l5, l6, l7⟩
  ·rw [g3] at l1; cases l1
  ·rw [g3] at l1
   injection l1 with l1
   obtain rfl : j' = j := by omega
   obtain ⟨t', q1, q2, q3⟩ := hE.2 j' p l2
   refine fin (es.eraseIdxIfInBounds j') (ts.eraseIdx j') _ ?_ ?_ (hd.erase q1) (fun g hg => hg.1) (by rw [l7]; exact hE.erase j')
   ·simp [Builtin.delete_, run_underlying h1, hmv, run_getMap hheap, Result.andThen_ok, hchk, g1, MapKept.run_setObj_map _ hheap]
   ·rw [Array.toList_eraseIdxIfInBounds, hes]
    apply List.ext_getElem?
    intro i
    rw [List.getElem?_map, List.getElem?_eraseIdx, List.getElem?_eraseIdx]
    split <;> rw [List.getElem?_map]
end Go.PG
end
section
namespace Go.PG
open Go.RowKit
variable {Pg : Program} {G : World → Prop} {E : Env} {S : Nat → Prop} {B : Nat} {w0 w w' : World} {h : Hp} {M : Nat → Bk} {ρ : Type} {K : AV → Hp → Option ρ} {r : ρ} {st : St} {a : Act} {o : Oper}
theorem alloc_bld (HE : EnvOk Pg G E) (H : HInv S B w0 st.h M w) {t : TypeId} {e : Nat} (ho : o.op = .alloc t) (hb : look E.blds t = some e) (hr : K (.ptr st.h.next []) (st.h.new (.box (.data (.bld t e) ⟨#[]⟩) (.bld t e))) = some r) : Does Pg o a w (Post K r S B w0 st.h M w) := by
 obtain ⟨i, h1, h2⟩ := HE.blds t e hb
 obtain ⟨H', k⟩ := new_boxH H (av := .data (.bld t e) ⟨#[]⟩) (L := .bld t e) (cs := [.string ⟨#[]⟩]) (bk := .two w.heap.size fun _ => False) (o := .cells #[.pointer none, .slice none 0 0] t (0, 0)) (by simp [fitsT]) (by simp only [RepC, RepD])
  ⟨⟨#[]⟩, fun _ => False, rfl, rfl, .pointer none, .slice none 0 0, .inl rfl, alloc_get w _, by
   have e1 : (ByteArray.mk #[]).size = 0 := rfl
   rw [e1]
   exact World.ownsRowF_nil _ _ _ _, by simp [Value.ownBlock], fun g => by simp [Value.ownBlock]⟩
  (fun b hb => by
   rcases hb with hb | hb
   ·injection hb with hb; omega
   ·exact hb.elim)
 refine Does.value (v := .pointer (some ⟨w.heap.size, 0, none⟩)) (w' := w.alloc (.cells #[.pointer none, .slice none 0 0] t (0, 0))) (by simp [execOp, ho, Instr.alloc, zeroValue, typeInfo, h1, h2, newVar, newRow, Value.cells]) ⟨.ptr st.h.next [], _, _, hr, H', k, ?_⟩
 simp only [RepV, Rep1]
 exact ⟨by simp [cx, Hp.new], some ⟨w.heap.size, 0, none⟩, rfl, .inr ⟨w.heap.size, .data (.bld t e) ⟨#[]⟩, .bld t e, 0, .bld t e, by simp [cx, set1, Nat.beq_refl, Bk.at], by simp [cx, Hp.new, set1, Nat.beq_refl], rfl, rfl⟩⟩
theorem bld_at (H : HInv S B w0 h M w) {id : Nat} {c : AV} {T e : Nat} {x : ByteArray} (he : h.e id = some (.box c (.bld T e))) (hx : toD h c (.bld T e) = some x) {p : Value} (hp : RepV (cx S h M w) (.ptr id []) p) :
  ∃ b ex, p = .pointer (some ⟨b, 0, none⟩) ∧ M id = .two b ex ∧ BldIs w T e b x ex := by
 simp only [RepV, Rep1] at hp
 obtain ⟨_, q, hpv, hp⟩ := hp
 injection hpv with hpv
 rcases hp with hp | ⟨b, v, L, o, u, hb, he', ho, rfl⟩
 ·simp only [cx] at hp; rw [he] at hp; cases hp
 simp only [cx] at he'
 rw [he] at he'
 injection he' with he'
 injection he' with q1 q2
 subst q2
 simp only [offs] at ho
 injection ho with ho
 injection ho with ho _
 subst ho
 obtain ⟨b', cs, hh, hfit, hrep⟩ := H.ent id _ he
 have hat := hh.at (fun q => by simp only [cx] at hb q; rw [hb] at q; cases q)
 rw [hat] at hb
 injection hb with hb
 subst hb
 obtain ⟨y, ex, hM, rfl, hbl⟩ := hh
 have : y = x := by
  cases c with
  | data t' x' =>
   simp only [toD] at hx
   split at hx
   ·rename_i q; subst q
    injection hx with hx
    subst hx
    simp only [RepC, RepD] at hrep
    injection hrep with hrep
    injection hrep with hrep
   ·cases hx
  | _ => simp [toD] at hx
 subst this
 exact ⟨b', ex, hpv, hM, hbl⟩
theorem reps_one {c : Cx} {a : AV} {vals : List Value} (h : Reps c [a] vals) : ∃ v, vals = [v] ∧ RepV c a v := by
 obtain ⟨v, vs, rfl, h1, h2⟩ := reps_cons h
 have := h2.1
 cases vs with
 | nil => exact ⟨v, rfl, h1⟩
 | cons _ _ => simp at this
theorem reps_two {c : Cx} {a b : AV} {vals : List Value} (h : Reps c [a, b] vals) : ∃ u v, vals = [u, v] ∧ RepV c a u ∧ RepV c b v := by
 obtain ⟨u, vs, rfl, h1, h2⟩ := reps_cons h
 obtain ⟨v, rfl, h3⟩ := reps_one h2
 exact ⟨u, v, rfl, h1, h3⟩
theorem bld_set (H : HInv S B w0 h M w) {id b : Nat} {c : AV} {T e : Nat} {x y : ByteArray} {ex ex' : Nat → Prop} (he : h.e id = some (.box c (.bld T e))) (hlk : h.lk id = false) (hM : M id = .two b ex) (hbl : BldIs w T e b x ex) (hb' : BldIs w' T e b y ex')
  (hex : ∀ g, ex' g → ex g ∨ w.heap.size ≤ g) (fr : ∀ k, k < w.heap.size → k ≠ b → ¬ ex k → w'.heap[k]? = w.heap[k]?) (t1 : w'.os = w.os) (t2 : w'.tape = w.tape) (t3 : w'.output = w.output) (t4 : w.heap.size ≤ w'.heap.size) :
  ∃ M', HInv S B w0 (h.put id (.box (.data (.bld T e) y) (.bld T e))) M' w' ∧ HStp S h M w (h.put id (.box (.data (.bld T e) y) (.bld T e))) M' w' := by
 have hown : ∀ k, (M id).has k → B ≤ k := fun k hk => H.own id k (by rw [he]; simp) hk
 have hasM : ∀ k, (M id).has k ↔ k = b ∨ ex k := fun k => by
  rw [hM]
  constructor
  ·rintro (q | q)
   ·injection q with q; exact .inl q.symm
   ·exact .inr q
  ·rintro (q | q)
   ·exact .inl (by rw [q]; rfl)
   ·exact .inr q
 obtain ⟨H', k⟩ := H.updM (k' := .two b ex') (w' := w') (v' := .data (.bld T e) y) he hlk (by rw [hM]; exact .inr (.inl ⟨b, ex, ex', rfl, rfl⟩))
  (fun k hk => by
   rcases hk with q | q
   ·injection q with q; exact .inl ((hasM k).2 (.inl q.symm))
   ·exact (hex k q).imp (fun z => (hasM k).2 (.inr z)) (fun z => z))
  (fun k hk hn => fr k hk (fun z => hn ((hasM k).2 (.inl z))) (fun z => hn ((hasM k).2 (.inr z)))) t4
  ⟨t1, t2, t3, t4, fun k hk => fr k (by have := H.bsz; omega) (fun z => by have := hown k ((hasM k).2 (.inl z)); omega) (fun z => by have := hown k ((hasM k).2 (.inr z)); omega)⟩
  (fun k => ⟨b, [.string y], ⟨y, ex', by simp [cx, set1, Nat.beq_refl], rfl, hb'⟩, by simp [fitsT], by simp only [RepC, RepD]⟩)
 exact ⟨_, H', k⟩
theorem bld_ok (H : HInv S B w0 h M w) (hGw : G w) {f : FuncId} {k : Nat} {bl : List (Nat × Nat)} (hbw : ∀ T e, look bl T = some e → BwOk Pg G f T e k) {args : List AV} {vals : Array Value} (hargs : Reps (cx S h M w) args vals.toList) (hr : evBld bl k args h K = some r) :
  Calls Pg f vals w fun e w' => ∃ v, e = .returned v ∧ Post K r S B w0 h M w v w' := by
 unfold evBld at hr
 split at hr
 ·rename_i id s
  split at hr
  case h_2 => cases hr
  rename_i y c T e hy he hlk
  split at hr
  case h_2 => cases hr
  rename_i x hx hd
  obtain ⟨hroom, hK⟩ := test_some hr
  obtain ⟨p, sv, hvals, hp, hs⟩ := reps_two hargs
  obtain ⟨b, ex, rfl, hM, hbl⟩ := bld_at H he hx hp
  have hsv : sv = .string y := by
   cases s with
   | data t' x' =>
    simp only [toD] at hy
    split at hy
    ·rename_i q; subst q
     injection hy with hy
     subst hy
     exact repV_str hs
    ·cases hy
   | _ => simp [toD] at hy
  subst hsv
  obtain rfl : vals = #[.pointer (some ⟨b, 0, none⟩), .string y] := Array.toList_inj.1 (by simpa using hvals)
  have hlen : x.size + y.size ≤ 140737488355328 := by
   simp only [P.room_def, P.add, P.slen] at hroom
   have hroom := of_decide_eq_true hroom
   omega
  have hw := hbw T e (by simpa using hd)
  refine (hw w b x y ex hGw hbl hlen).mono fun e' w' ⟨he', ⟨ex', hb', hex⟩, fr, t1, t2, t3, t4⟩ => ⟨_, he', ?_⟩
  obtain ⟨M', H', k⟩ := bld_set H he hlk hM hbl hb' hex fr t1 t2 t3 t4
  refine ⟨_, _, M', hK, H', k, ?_⟩
  simp only [RepV, RepT]
  exact ⟨_, rfl, _, _, rfl, .inr ⟨rfl, by simp [RepD, P.slen]⟩, _, [], rfl, trivial, rfl⟩
 ·rename_i id
  split at hr
  case h_2 => cases hr
  rename_i c T e he hlk
  split at hr
  case h_2 => cases hr
  rename_i x hx hd
  obtain ⟨p, hvals, hp⟩ := reps_one hargs
  obtain ⟨b, ex, rfl, hM, hbl⟩ := bld_at H he hx hp
  obtain rfl : vals = #[.pointer (some ⟨b, 0, none⟩)] := Array.toList_inj.1 (by simpa using hvals)
  have hw := hbw T e (by simpa using hd)
  refine (hw w b x ex hGw hbl).mono fun e' w' ⟨he', ⟨ex', hb', hex⟩, fr, t1, t2, t3, t4⟩ => ⟨_, he', ?_⟩
  obtain ⟨M', H', k⟩ := bld_set H he hlk hM hbl hb' hex fr t1 t2 t3 t4
  exact ⟨_, _, M', hr, H', k, rep_str _ _⟩
 ·cases hr
end Go.PG
end
section
namespace Go.PG
open Go.RowKit
variable {Pg : Program} {G : World → Prop} {E : Env} {S : Nat → Prop} {B : Nat} {w0 w w' : World} {h : Hp} {M : Nat → Bk} {ρ : Type} {K : AV → Hp → Option ρ} {r : ρ} {st : St} {a : Act} {o : Oper}
theorem call_ok (HE : EnvOk Pg G E) (hG : G w0) {call : Handler} (HC : HandlerOk Pg G S B w0 call) (F : ∀ t, RepV (cx S st.h M w) (st.fr t) (a.tmps.getD t undef)) (H : HInv S B w0 st.h M w) {c : Call} (ho : o.op = .call c)
  {f : Operand} (hc : c.callee = .value f) {g : FuncId} {caps : AV} (hf : opnd none st.fr f = .fn g caps) (hlen : Nat.beq c.args.toList.length c.argTypes.toList.length = true)
  (hr : (match (generalizing := false) look E.specs g, caps with
     | some s, .unit => callSpec s ((c.args.toList.zip c.argTypes.toList).map fun p => opnd (E.ty p.2) st.fr p.1) st.h K
     | none, .unit => match look E.inpl g, look E.ins g with
      | some p, _ => evInpl p ((c.args.toList.zip c.argTypes.toList).map fun p => opnd (E.ty p.2) st.fr p.1) st.h K
      | none, some (e, b) => evIns e b ((c.args.toList.zip c.argTypes.toList).map fun p => opnd (E.ty p.2) st.fr p.1) st.h K
      | none, none => match look E.bw g with
       | some k => evBld E.blds k ((c.args.toList.zip c.argTypes.toList).map fun p => opnd (E.ty p.2) st.fr p.1) st.h K
       | none => match look E.ospecs g with
        | some s => evOspec s ((c.args.toList.zip c.argTypes.toList).map fun p => opnd (E.ty p.2) st.fr p.1) st.h K
        | none => call g ((c.args.toList.zip c.argTypes.toList).map fun p => opnd (E.ty p.2) st.fr p.1) st.h K
     | _, _ => call g (((c.args.toList.zip c.argTypes.toList).map fun p => opnd (E.ty p.2) st.fr p.1) ++ capsList caps) st.h K) = some r) : Does Pg o a w (Post K r S B w0 st.h M w) := by
 have hx := opnd_rep F none (by intros; simp) f
 rw [hf] at hx
 simp only [RepV] at hx
 obtain ⟨vs, hv, hcaps⟩ := hx
 have hlen' : c.args.toList.length = c.argTypes.toList.length := Nat.eq_of_beq_eq_true hlen
 have hargs : Reps (cx S st.h M w) ((c.args.toList.zip c.argTypes.toList).map fun p => opnd (E.ty p.2) st.fr p.1) (c.args.map a.eval).toList := by
  refine ⟨by simp at hlen' ⊢; omega, fun i x v hx hv => ?_⟩
  simp only [List.getElem?_map, Option.map_eq_some_iff] at hx
  obtain ⟨⟨op, t⟩, h1, rfl⟩ := hx
  rw [List.getElem?_zip_eq_some] at h1
  simp only [Array.toList_map, List.getElem?_map, h1.1, Option.map_some] at hv
  injection hv with hv
  subst hv
  exact opnd_rep F (E.ty t) (HE.noPair t) op
 have enter : ∀ (args : Array Value), args = c.args.map a.eval ++ vs → (Pg.funcs[g]?).any (fun fn => fn.name != "runtime.NumGoroutine" && fn.body.isSome) = true →
   (Calls Pg g args w fun e w' => ∃ v, e = .returned v ∧ Post K r S B w0 st.h M w v w') → Does Pg o a w (Post K r S B w0 st.h M w) := by
  rintro args rfl hany hcall
  refine Does.enter (f := g) (args := c.args.map a.eval ++ vs) ?_ hcall
  simp [execOp, ho, resolve, hc, hv, Deferred.ofValue, invoke, run_callFunc hany]
 have hGw : G w := HE.G w0 w hG (by rw [H.bw]; exact H.bel)
 have gen : call g (((c.args.toList.zip c.argTypes.toList).map fun p => opnd (E.ty p.2) st.fr p.1) ++ capsList caps) st.h K = some r → Does Pg o a w (Post K r S B w0 st.h M w) := by
  intro hr
  obtain ⟨hany, hcall⟩ := HC g _ st.h K r M w (c.args.map a.eval ++ vs) hr H hGw (by
   have := reps_append hargs (caps_reps caps _ hcaps)
   obtain ⟨h1, h2⟩ := this
   exact ⟨by simpa using h1, fun i x v hx hv => h2 i x v hx (by rw [← Array.toList_append, Array.getElem?_toList]; exact hv)⟩)
  exact enter _ rfl hany hcall
 cases hs : look E.specs g with
 | none =>
  rw [hs] at hr
  cases caps with
  | unit =>
   have hvs : vs = #[] := by
    simp only [RepT] at hcaps
    exact Array.toList_inj.1 (by simpa using hcaps)
   subst hvs
   cases hi : look E.inpl g with
   | some p =>
    rw [hi] at hr
    obtain ⟨hp, hany⟩ := HE.inpl g p hi
    exact enter (c.args.map a.eval) (by simp) hany (inpl_ok H hGw hp hargs hr)
   | none =>
    rw [hi] at hr
    cases hj : look E.ins g with
    | some p =>
     rw [hj] at hr
     obtain ⟨hp, _, hany⟩ := HE.ins g p hj
     exact enter (c.args.map a.eval) (by simp) hany (ins_ok H hGw hp hargs hr)
    | none =>
     rw [hj] at hr
     cases hb : look E.bw g with
     | some k =>
      rw [hb] at hr
      obtain ⟨hp, hany⟩ := HE.bw g k hb
      exact enter (c.args.map a.eval) (by simp) hany (bld_ok H hGw hp hargs hr)
     | none =>
      rw [hb] at hr
      cases hq : look E.ospecs g with
      | some s =>
       rw [hq] at hr
       obtain ⟨hp, hany⟩ := HE.ospecs g s hq
       exact enter (c.args.map a.eval) (by simp) hany (ospec_ok HE hG H hp hargs hr)
      | none =>
       rw [hq] at hr
       exact gen (by simpa [capsList] using hr)
  | _ => exact gen hr
 | some s =>
  rw [hs] at hr
  cases caps with
  | unit =>
   obtain ⟨hspec, hany⟩ := HE.specs g s hs
   have hvs : vs = #[] := by
    simp only [RepT] at hcaps
    exact Array.toList_inj.1 (by simpa using hcaps)
   subst hvs
   exact enter (c.args.map a.eval) (by simp) hany (spec_ok HE hG H hspec hargs hr)
  | _ => exact gen hr
theorem builtin_run {c : Call} {b : Builtin} {f : Array TypeId → TypeId → Array Value → Sem Value} {z : Value} (ho : o.op = .call c) (hc : c.callee = .builtin b)
  (hb : ∀ at_ t cs args, Go.builtin b at_ t cs args = (do pure (.value (← f at_ t args)))) (hrun : (f c.argTypes o.type (c.args.map a.eval)).run Pg w = .ok z w') : (execOp a.eval o).run Pg w = .ok (.value z) w' := by
 simp [execOp, ho, resolve, hc, invoke, hb, hrun]
theorem evBuiltin_ok (HE : EnvOk Pg G E) (F : ∀ t, RepV (cx S st.h M w) (st.fr t) (a.tmps.getD t undef)) (H : HInv S B w0 st.h M w) {c : Call} (ho : o.op = .call c) {b : Builtin} (hc : c.callee = .builtin b)
  (hr : evBuiltin E b c.argTypes (c.args.toList.map (opnd none st.fr)) st.h K = some r) : Does Pg o a w (Post K r S B w0 st.h M w) := by
 unfold evBuiltin at hr
 split at hr
 ·rename_i x hargs
  obtain ⟨y, hy, rfl⟩ : ∃ y, c.args.toList = [y] ∧ x = opnd none st.fr y := by
   cases q : c.args.toList with
   | nil => rw [q] at hargs; cases hargs
   | cons y l => cases l with
    | nil => rw [q] at hargs; simp at hargs; exact ⟨y, rfl, hargs.symm⟩
    | cons z l => rw [q] at hargs; simp at hargs
  have hca : c.args = #[y] := by apply Array.toList_inj.1; simpa using hy
  have hx := opnd_rep F none (by intros; simp) y
  split at hr
  case h_2 => cases hr
  rename_i t l ht
  obtain ⟨tl, hat⟩ : ∃ tl : List TypeId, c.argTypes = (t :: tl).toArray := ⟨l, by apply Array.toList_inj.1; simpa using ht⟩
  have fin : ∀ n, (Builtin.len_ c.argTypes o.type (c.args.map a.eval)).run Pg w = .ok (.int .i64 n) w → K (.data (.int .i64) n) st.h = some r → Does Pg o a w (Post K r S B w0 st.h M w) := by
   intro n h1 h2
   exact Does.value (builtin_run ho hc (fun _ _ _ _ => rfl) h1) (Post.same H h2 (rep_int _ _ _))
  split at hr
  ·rename_i s hty e
   obtain ⟨hu, _⟩ := HE.ty t _ hty
   rw [e] at hx
   have hx := repV_str hx
   refine fin _ ?_ hr
   simp [Builtin.len_, hca, hat, hx, run_underlying hu, goInt, P.slen]
  ·cases hr
  ·rename_i e2 hty hno
   obtain ⟨⟨e', hu, _⟩, _⟩ := HE.ty t _ hty
   split at hr
   case h_2 => cases hr
   rename_i n hn
   rcases len_rep H hn hx with ⟨s, hs, hv, _⟩ | ⟨A, m, cap, hv, hm, _⟩
   ·exact (hno s hs).elim
   ·refine fin _ ?_ hr
    simp [Builtin.len_, hca, hat, hv, run_underlying hu, goInt, hm]
  ·cases hr
 ·rename_i s x hargs
  obtain ⟨y, z, hyz, rfl, rfl⟩ : ∃ y z, c.args.toList = [y, z] ∧ s = opnd none st.fr y ∧ x = opnd none st.fr z := by
   cases q : c.args.toList with
   | nil => rw [q] at hargs; cases hargs
   | cons y l => cases l with
    | nil => rw [q] at hargs; simp at hargs
    | cons z l => cases l with
     | nil => rw [q] at hargs; simp at hargs; exact ⟨y, z, rfl, hargs.1.symm, hargs.2.symm⟩
     | cons u l => rw [q] at hargs; simp at hargs
  have hca : c.args = #[y, z] := by apply Array.toList_inj.1; simpa using hyz
  have hy := opnd_rep F none (by intros; simp) y
  have hz := opnd_rep F none (by intros; simp) z
  split at hr
  case h_2 => cases hr
  rename_i t u ht
  have hat : c.argTypes = #[t, u] := by apply Array.toList_inj.1; simpa using ht
  split at hr
  ·rename_i e2 hu2
   split at hr
   case h_2 => cases hr
   rename_i row hrow
   split at hr
   case h_2 => cases hr
   rename_i e hre
   obtain ⟨⟨xe, hux, _⟩, _⟩ := HE.ty u _ hu2
   obtain ⟨e', info, h1, h2, h3, h4, h5⟩ := HE.bytes t row e hrow hre
   obtain ⟨v, w', hrun, hpost⟩ := append_ok H o.type h1 hux h2 h3 h5 h4 hy hz hr
   refine Does.value (builtin_run ho hc (fun _ _ _ _ => rfl) ?_) hpost
   simpa [hca, hat] using hrun
  ·rename_i kn hu2
   split at hr
   case h_2 => cases hr
   rename_i row hrow
   split at hr
   case h_2 => cases hr
   rename_i e hre
   obtain ⟨hun, _⟩ := HE.ty u _ hu2
   obtain ⟨e', info, h1, h2, h3, h4, h5⟩ := HE.bytes t row e hrow hre
   obtain ⟨v, w', hrun, hpost⟩ := zeros_ok H o.type h1 hun h2 h3 h5 h4 hy hz hr
   refine Does.value (builtin_run ho hc (fun _ _ _ _ => rfl) ?_) hpost
   simpa [hca, hat] using hrun
  ·cases hr
 ·rename_i x hargs
  obtain ⟨y, hy, rfl⟩ : ∃ y, c.args.toList = [y] ∧ x = opnd none st.fr y := by
   cases q : c.args.toList with
   | nil => rw [q] at hargs; cases hargs
   | cons y l => cases l with
    | nil => rw [q] at hargs; simp at hargs; exact ⟨y, rfl, hargs.symm⟩
    | cons z l => rw [q] at hargs; simp at hargs
  have hca : c.args = #[y] := by apply Array.toList_inj.1; simpa using hy
  have hx := opnd_rep F none (by intros; simp) y
  split at hr
  case h_2 => cases hr
  rename_i t ht
  have hat : c.argTypes = #[t] := by apply Array.toList_inj.1; simpa using ht
  split at hr
  case h_2 => cases hr
  rename_i e hty
  split at hr
  case h_2 => cases hr
  rename_i hd
  obtain ⟨w', hrun, hpost⟩ := clear_ok HE H hty hd o.type hx hr
  refine Does.value (builtin_run ho hc (fun _ _ _ _ => rfl) ?_) hpost
  simpa [hca, hat] using hrun
 ·rename_i x hargs
  obtain ⟨y, hy, rfl⟩ : ∃ y, c.args.toList = [y] ∧ x = opnd none st.fr y := by
   cases q : c.args.toList with
   | nil => rw [q] at hargs; cases hargs
   | cons y l => cases l with
    | nil => rw [q] at hargs; simp at hargs; exact ⟨y, rfl, hargs.symm⟩
    | cons z l => rw [q] at hargs; simp at hargs
  have hca : c.args = #[y] := by apply Array.toList_inj.1; simpa using hy
  have hx := opnd_rep F none (by intros; simp) y
  split at hr
  case h_2 => cases hr
  rename_i t ht
  have hat : c.argTypes = #[t] := by apply Array.toList_inj.1; simpa using ht
  split at hr
  case h_2 => cases hr
  rename_i e3 e2 hty e
  obtain ⟨⟨e', hu, _⟩, _⟩ := HE.ty t _ hty
  rw [e] at hx
  simp only [RepV, Rep1] at hx
  obtain ⟨A, h1⟩ := hx
  injection h1 with h1
  refine Does.value (v := .int .i64 0) (builtin_run ho hc (fun _ _ _ _ => rfl) ?_) (Post.same H hr (rep_int _ _ _))
  simp [Builtin.cap_, hca, hat, h1, run_underlying hu, goInt]
 ·rename_i m k hargs
  obtain ⟨y, z, hyz, rfl, rfl⟩ : ∃ y z, c.args.toList = [y, z] ∧ m = opnd none st.fr y ∧ k = opnd none st.fr z := by
   cases q : c.args.toList with
   | nil => rw [q] at hargs; cases hargs
   | cons y l => cases l with
    | nil => rw [q] at hargs; simp at hargs
    | cons z l => cases l with
     | nil => rw [q] at hargs; simp at hargs; exact ⟨y, z, rfl, hargs.1.symm, hargs.2.symm⟩
     | cons u l => rw [q] at hargs; simp at hargs
  have hca : c.args = #[y, z] := by apply Array.toList_inj.1; simpa using hyz
  have hy := opnd_rep F none (by intros; simp) y
  have hz := opnd_rep F none (by intros; simp) z
  split at hr
  case h_2 => cases hr
  rename_i t tl ht
  have hat : c.argTypes = (t :: tl).toArray := by apply Array.toList_inj.1; simpa using ht
  split at hr
  case h_2 =>
   split at hr
   case h_2 => cases hr
   rename_i kt et hmt
   obtain ⟨w', hrun, hpost⟩ := ddelete_ok HE H hmt tl o.type hy hz hr
   refine Does.value (builtin_run ho hc (fun _ _ _ _ => rfl) ?_) hpost
   simpa [hca, hat] using hrun
  rename_i kt vt hmt
  obtain ⟨w', hrun, hpost⟩ := delete_ok HE H hmt tl o.type hy hz hr
  refine Does.value (builtin_run ho hc (fun _ _ _ _ => rfl) ?_) hpost
  simpa [hca, hat] using hrun
 ·rename_i m k hargs
  obtain ⟨y, z, hyz, rfl, rfl⟩ : ∃ y z, c.args.toList = [y, z] ∧ m = opnd none st.fr y ∧ k = opnd none st.fr z := by
   cases q : c.args.toList with
   | nil => rw [q] at hargs; cases hargs
   | cons y l => cases l with
    | nil => rw [q] at hargs; simp at hargs
    | cons z l => cases l with
     | nil => rw [q] at hargs; simp at hargs; exact ⟨y, z, rfl, hargs.1.symm, hargs.2.symm⟩
     | cons u l => rw [q] at hargs; simp at hargs
  have hca : c.args = #[y, z] := by apply Array.toList_inj.1; simpa using hyz
  have hy := opnd_rep F none (by intros; simp) y
  have hz := opnd_rep F none (by intros; simp) z
  split at hr
  case h_2 => cases hr
  rename_i k1 n1 k2 n2 e1 e2
  split at hr
  case h_2 => cases hr
  rename_i hk
  obtain rfl : k1 = k2 := by simpa using hk
  rw [e1] at hy
  rw [e2] at hz
  have hy := repV_int hy
  have hz := repV_int hz
  refine Does.value (v := .int k1 (P.imax n1 n2)) (builtin_run ho hc (fun _ _ _ _ => rfl) ?_) (Post.same H hr (rep_int _ _ _))
  by_cases q : n1 < n2 <;> simp [Builtin.max_, Builtin.max2, hca, hy, hz, P.imax, q]
 ·cases hr
theorem buildSliceD_ok (HE : EnvOk Pg G E) (F : ∀ t, RepV (cx S st.h M w) (st.fr t) (a.tmps.getD t undef)) (H : HInv S B w0 st.h M w) {t : TypeId} {n : Nat} {ps : Array (Nat × Operand)} (ho : o.op = .buildSlice t n ps)
  {e : Ty} (hty : E.ty t = some (.slice e)) {xs : List e.D} (hf : fillParts e st.h (ps.toList.map fun p => (p.1, opnd (some e.un) st.fr p.2)) (List.replicate n e.zero) = some xs) (hdt : dataTy e = true) (hsm : Nat.ble (n * e.size) 16777216 = true)
  (hul : ps.toList.flatMap (fun p => (opnd (some e.un) st.fr p.2).owns) = [])
  (hr : K (.data (.slice e) xs) st.h = some r) : Does Pg o a w (Post K r S B w0 st.h M w) := by
 obtain ⟨⟨e', hu, he⟩, _⟩ := HE.ty t _ hty
 have hpos := okE_pos he
 obtain ⟨ie, z, hi1, hi2, hi3, hz⟩ := okE_zeroD (Z := (cx S st.h M w).Z) (w := w) he hdt
 have hzr := zero_row hz n
 have hown : ∀ p ∈ ps.toList, ∀ id ∈ (opnd (some e.un) st.fr p.2).owns, ∀ b, st.h.e id ≠ none → (M id).has b → ¬ (cx S st.h M w).Z b := by
  intro p hp id hid
  have : id ∈ ps.toList.flatMap (fun p => (opnd (some e.un) st.fr p.2).owns) := List.mem_flatMap.2 ⟨p, hp, hid⟩
  rw [hul] at this
  cases this
 obtain ⟨cs', h1, h2, h3⟩ := fillParts_rep HE F H (fun x y => okE_pair he) hpos (fun _ z => z) ps.toList _ xs _ hown hf hzr
 have hlen : List.length xs = n := by rw [h3]; simp
 have hmap : (ps.map fun (i, x) => (i, a.eval x)).toList = ps.toList.map fun p => (p.1, a.eval p.2) := by simp
 have hfin : Post K r S B w0 st.h M w (.slice (some ⟨w.heap.size, 0, none⟩) n n) (w.alloc (.cells cs' e' (0, 0))) := by
  obtain ⟨H', k⟩ := H.grow (w' := w.alloc (.cells cs' e' (0, 0))) ((Below.refl _ _).alloc (Nat.le_refl _) _)
  refine ⟨_, _, _, hr, H', k, ?_⟩
  simp only [RepV, RepD, hlen]
  refine .inr ⟨rfl, _, _, rfl, Nat.le_refl _, ?_⟩
  by_cases hn : n = 0
  ·left
   exact List.length_eq_zero_iff.1 (by rw [hlen]; exact hn)
  ·right
   have hz : ¬ (cx S st.h M (w.alloc (.cells cs' e' (0, 0)))).Z w.heap.size := fun z => Nat.lt_irrefl _ (cx_lt H _ z)
   refine ⟨w.heap.size, 0, rfl, (by show w.heap.size < (w.alloc (.cells cs' e' (0, 0))).heap.size; rw [alloc_size]; omega), hz, fun i x hx => ?_⟩
   obtain ⟨d, q1, q2⟩ := h2.2 i x hx
   refine ⟨d, q1.held (fun b hb z => ⟨z, alloc_old w _ b hb⟩), fun j v hv => ?_⟩
   have := q2 j v hv
   have hg : (cx S st.h M (w.alloc (.cells cs' e' (0, 0)))).w.heap[w.heap.size]? = some (.cells cs' e' (0, 0)) := alloc_get w _
   simp only [World.cell?, hg, Option.isSome_none, Bool.false_eq_true, if_false, Nat.zero_add]
   simpa using this
 have hsm' : n * e.size ≤ 16777216 := Nat.le_of_ble_eq_true hsm
 refine Does.value (v := .slice (some ⟨w.heap.size, 0, none⟩) n n) (w' := w.alloc (.cells cs' e' (0, 0))) ?_ hfin
 by_cases hn : n = 0
 ·subst hn
  have hps : ps.toList = [] := by
   cases q : ps.toList with
   | nil => rfl
   | cons p l => rw [q] at hf; simp [fillParts] at hf
  rw [hps, Nat.zero_mul, show Array.range 0 = #[] from rfl] at h1
  simp [Instr.fill] at h1
  have hpe : ps = #[] := by apply Array.toList_inj.1; simpa using hps
  subst hpe
  subst h1
  simp [execOp, ho, Instr.buildSlice, run_underlying hu, sizeOf, typeInfo, hi1, Instr.fill, newRow]
  rw [show Array.range 0 = #[] from rfl, Array.map_empty]
 ·have hrun := run_buildSlice (P := Pg) w t e' n (ps.map fun (i, x) => (i, a.eval x)) cs' ie z hu hi1 hi3 (by rw [hi2]; omega) (by
   rw [hi2]
   have : n * e.size ≠ 0 := Nat.mul_ne_zero hn (by omega)
   exact this) (by rw [hmap, hi2]; exact h1)
  simp only [execOp, ho, Sem.run_bind, hrun, Result.andThen_ok, Sem.run_pure]
end Go.PG
end

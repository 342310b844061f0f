/- The evaluator's soundness: regions whose order is drawn. -/
import Derived.Test.YtmklilemnfkppaaPGA
set_option linter.all false
namespace Go.PG
open Go.RowKit

variable {Pg : Program} {G : World → Prop} {E : Env} {S : Nat → Prop} {B : Nat} {w0 w w' w'' : World} {h h' h2 : Hp} {M M' M'' : Nat → Bk} {ρ : Type} {r : ρ} {K : AV → Hp → Option ρ} {st st' st'' st1 st2 st3 : St} {a a' a'' : Act} {o : Oper}

/-! ### what a step does -/
theorem noCall_ok : HandlerOk Pg G S B w0 noCall := fun f args h K r M w vals hr => by simp [noCall] at hr

theorem evLight_ok (HE : EnvOk Pg G E) (hG : G w0) (F : ∀ t, RepV (cx S st.h M w) (st.fr t) (a.tmps.getD t undef)) (H : HInv S B w0 st.h M w) (hr : evLight E o st K = some r) : Does Pg o a w (Post K r S B w0 st.h M w) := by
  unfold evLight at hr
  split at hr
  · rename_i c ho
    unfold evLcall at hr
    split at hr
    · rename_i hc
      exact evBuiltin_ok HE F H ho hc hr
    · rename_i g hc
      split at hr
      case h_2 => cases hr
      rename_i s hlen hs
      split at hr
      case h_2 => cases hr
      rename_i v hv
      split at hr
      case h_2 => cases hr
      rename_i x hx hb
      refine call_ok HE hG noCall_ok F H ho hc (g := g) (caps := .unit) rfl hlen ?_
      rw [hs]
      simp only [callSpec, hv]
      cases hf : s.r.flat with
      | true => simp only [hx]; exact hr
      | false =>
        rw [hf] at hb
        simp only at hb
        have hn : v.owns = [] := by
          cases q : v.owns with
          | nil => rfl
          | cons i l => rw [q] at hb; simp [nobody] at hb
        simp only [freeze, hx, hn, unlocked, Hp.kills]
        exact hr
    · cases hr
  · rename_i t x lo hi mx ho
    unfold evLslice at hr
    split at hr
    · cases hr
    · exact slice_ok HE F H ho hr
  · exact evOp_ok HE hG noCall_ok F H hr

theorem alloc_at (HE : EnvOk Pg G E) (H : HInv S B w0 st.h M w) {t : TypeId} (ho : o.op = .alloc t) {L : Ty} (hL : E.ty t = some L) {id : Nat} (he : st.h.e id = some .rsv) (hl : st.h.lk id = false)
    (hr : K (.ptr id []) (st.h.put id (.box (zeroAV L) L)) = some r) : Does Pg o a w (Post K r S B w0 st.h M w) := by
  obtain ⟨z, hz, hrep, hfit⟩ := ok_zero (c := cx S st.h M w) (HE.ty t _ hL) w
  refine Does.value (v := .pointer (some ⟨w.heap.size, 0, none⟩)) (w' := w.alloc (.cells z.cells t (0, 0))) (by simp [execOp, ho, Instr.alloc, hz, newVar, newRow]) ?_
  obtain ⟨H', k⟩ := H.fill he hl (.box (zeroAV L) L) (.box w.heap.size) (w' := w.alloc (.cells z.cells t (0, 0))) (fun b hb => alloc_old w _ b hb) (by rw [alloc_size]; omega) (below_alloc' H _)
    (fun b hb => by injection hb with hb; omega)
    (fun k => ⟨w.heap.size, z.cells, t, by simp [cx, set1, Nat.beq_refl], alloc_get w _, hfit, RepC.tr k _ _ hrep⟩)
  refine ⟨.ptr id [], _, _, hr, H', k, ?_⟩
  simp only [RepV, Rep1]
  exact ⟨H.lt he, _, rfl, .inr ⟨w.heap.size, zeroAV L, L, 0, L, by simp [cx, set1, Nat.beq_refl], by simp [cx, Hp.put, set1, Nat.beq_refl], rfl, rfl⟩⟩

theorem makes_spec {op : Op} {m : Maker} (h : makes E op = some m) : ∃ c g, op = .call c ∧ c.callee = .value (.func g) ∧ c.args.toList = [] ∧ look E.lays g = some m := by
  unfold makes at h
  split at h
  · rename_i c
    split at h
    · rename_i g h1 h2
      exact ⟨c, g, rfl, h1, h2, h⟩
    · cases h
  · cases h

theorem maker_at (HE : EnvOk Pg G E) (hG : G w0) (H : HInv S B w0 st.h M w) {m : Maker} (ho : makes E o.op = some m) {id : Nat} (he : st.h.e id = some .rsv) (hl : st.h.lk id = false)
    (hr : K (m.f id) (st.h.put id (.box m.v m.L)) = some r) : Does Pg o a w (Post K r S B w0 st.h M w) := by
  obtain ⟨c, g, h1, h2, h3, h4⟩ := makes_spec ho
  obtain ⟨hm, hany⟩ := HE.lays g m h4
  have hGw : G w := HE.G w0 w hG (by rw [H.bw]; exact H.bel)
  have h3' : c.args = #[] := Array.toList_inj.1 (by simpa using h3)
  refine Does.enter (f := g) (args := #[]) ?_ ((hm w hGw).mono fun e w' ⟨v, b, z, t, q1, bel, q2, q3, q4, q5, q6⟩ => ⟨v, q1, ?_⟩)
  · simp [execOp, h1, resolve, h2, h3', Act.eval, Deferred.ofValue, invoke, run_callFunc hany]
  · obtain ⟨H', k⟩ := H.fill he hl (.box m.v m.L) (.box b) (w' := w') (fun c hc => bel.block c hc) bel.size (bel.mono H.bsz)
      (fun c hc => by injection hc with hc; omega)
      (fun k => ⟨b, z, t, by simp [cx, set1, Nat.beq_refl], q3, q5, q4 _⟩)
    refine ⟨m.f id, _, _, hr, H', k, q6 _ id (H.lt he) (by simp [cx, set1, Nat.beq_refl]) (by simp [cx, Hp.put, set1, Nat.beq_refl])⟩

theorem evDop_ok (HE : EnvOk Pg G E) (hG : G w0) {call : Handler} (HC : HandlerOk Pg G S B w0 call) (F : ∀ t, RepV (cx S st.h M w) (st.fr t) (a.tmps.getD t undef)) (H : HInv S B w0 st.h M w) {n0 i : Nat} (hr : evDop E call n0 i o st K = some r) :
    Does Pg o a w (Post K r S B w0 st.h M w) := by
  unfold evDop at hr
  split at hr
  · exact evLight_ok HE hG F H hr
  · split at hr
    · rename_i t ho
      split at hr
      case h_2 => cases hr
      rename_i L hL he hl
      exact alloc_at HE H ho hL he hl hr
    · split at hr
      · rename_i m hm
        split at hr
        case h_2 => cases hr
        rename_i he hl
        exact maker_at HE hG H hm he hl hr
      · exact evOp_ok HE hG HC F H hr

theorem evDstep_ok (HE : EnvOk Pg G E) (hG : G w0) {call : Handler} (HC : HandlerOk Pg G S B w0 call) {ops : Array Oper} {n0 i : Nat} (ho : ops[i]? = some o) (g : Good S B w0 st a M w) {K : St → Option ρ} (hr : evDstep E call n0 ops.toList i o st K = some r)
    {X : Act → World → Prop} {Q : Exit → Act → World → Prop} (hX : Then S B w0 st a M w K r X) : wpOp Pg ops Q i X a w := by
  have hdo : Region.wanted o (yielded ops a.tmps) = true → evDop E call n0 i o st (putK o st K) = some r → wpOp Pg ops Q i X a w := by
    intro hw hk
    simp only [wpOp, ho, hw, if_true]
    refine .inl (evDop_ok HE hG HC g.F g.H hk X Q fun v w' ⟨av, h', M', hk, H', k, hv⟩ => ?_)
    unfold putK at hk
    split at hk
    · rename_i st' hp
      obtain ⟨g', s'⟩ := put_ok g H' k hv hp
      exact hX _ _ _ _ g' s' hk
    · cases hk
  have hsk : Region.wanted o (yielded ops a.tmps) = false → skipOp o st K = some r → wpOp Pg ops Q i X a w := by
    intro hw hk
    simp only [wpOp, ho, hw, Bool.false_eq_true, if_false]
    exact skipOp_ok (o := o) g hk hX
  unfold evDstep at hr
  split at hr
  · rename_i hg
    exact hdo (by simp [Region.wanted, hg]) hr
  · rename_i j want hg
    split at hr
    case h_2 => cases hr
    rename_i oj hoj
    split at hr
    case h_2 => cases hr
    rename_i t ht
    have hoj' : ops[j]? = some oj := by rw [← Array.getElem?_toList]; exact hoj
    split at hr
    · rename_i b hb
      have hF := g.F t
      rw [hb] at hF
      have hF := getD_bool (repV_bool hF)
      have hy : yielded ops a.tmps j = some b := by simp [yielded, hoj', ht, hF]
      have hr := cond_some hr
      cases b with
      | true =>
        simp only [if_true] at hr
        rw [refine1_eq hb] at hr
        cases want with
        | true => exact hdo (by simp [Region.wanted, hg, hy]) hr
        | false => exact hsk (by simp [Region.wanted, hg, hy]) hr
      | false =>
        simp only [Bool.false_eq_true, if_false] at hr
        rw [refine1_eq hb] at hr
        cases want with
        | true => exact hsk (by simp [Region.wanted, hg, hy]) hr
        | false => exact hdo (by simp [Region.wanted, hg, hy]) hr
    · rename_i hb
      have hF := g.F t
      rw [hb] at hF
      simp only [RepV, RepT] at hF
      obtain ⟨vs, hv, hvs⟩ := hF
      have hy : yielded ops a.tmps j = none := by
        simp only [yielded, hoj', ht, Option.bind_some]
        rw [Array.getD_eq_getD_getElem?] at hv
        cases q : a.tmps[t]? with
        | none => rfl
        | some u => rw [q] at hv; simp only [Option.getD_some] at hv; rw [hv]
      exact hsk (by simp [Region.wanted, hg, hy]) hr
    · cases hr

/-! ### steps in like states -/
structure AgreeS (l : List Nat) (st st2 : St) : Prop where
  fr : ∀ t, t ∈ l → st2.fr t = st.fr t
  row : ∀ id e xs, st.h.e id = some (.row e xs) → st2.h.e id = some (.row e xs)
  live : ∀ id, st.h.e id ≠ none → st2.h.e id ≠ none
  box : ∀ t, t ∈ l → ∀ id p v L, st.fr t = .ptr id p → st.h.e id = some (.box v L) → st2.h.e id = some (.box v L)

theorem AgreeS.trans {l : List Nat} (h1 : AgreeS l st st1) (h2 : AgreeS l st1 st2) : AgreeS l st st2 :=
  ⟨fun t ht => (h2.fr t ht).trans (h1.fr t ht), fun id e xs q => h2.row id e xs (h1.row id e xs q), fun id q => h2.live id (h1.live id q), fun t ht id p v L q1 q2 => h2.box t ht id p v L ((h1.fr t ht).trans q1) (h1.box t ht id p v L q1 q2)⟩
theorem AgreeS.refl (l : List Nat) (st : St) : AgreeS l st st := ⟨fun _ _ => rfl, fun _ _ _ q => q, fun _ q => q, fun _ _ _ _ _ _ _ q => q⟩

theorem tmpsOf_mem {t : Nat} : ∀ {l : List Operand}, Operand.tmp t ∈ l → t ∈ tmpsOf l
  | [], h => by simp at h
  | x :: l, h => by
    rcases List.mem_cons.1 h with rfl | hm
    · simp [tmpsOf]
    · cases x with
      | tmp u => simp only [tmpsOf]; exact List.mem_cons_of_mem _ (tmpsOf_mem hm)
      | _ => simp only [tmpsOf]; exact tmpsOf_mem hm

theorem opnd_ptr {fr : Nat → AV} {x : Operand} {id : Nat} {p : List Nat} (h : opnd none fr x = .ptr id p) : ∃ t, x = .tmp t ∧ fr t = .ptr id p := by
  cases x with
  | tmp t => exact ⟨t, rfl, h⟩
  | const v => cases v <;> simp [opnd, constAV] at h
  | global g => simp [opnd] at h
  | func f => simp [opnd] at h

theorem AgreeS.ops {all : List Oper} (h : AgreeS (looks all o) st st2) : Agree o.op.operands.toList st st2 := by
  refine ⟨fun x hx ty => ?_, h.row, h.live, fun x hx id p v L q1 q2 => ?_⟩
  · cases x with
    | tmp t => exact h.fr t (List.mem_append_right _ (tmpsOf_mem hx))
    | _ => rfl
  · obtain ⟨t, rfl, q⟩ := opnd_ptr q1
    exact h.box t (List.mem_append_right _ (tmpsOf_mem hx)) id p v L q q2

def upd1 (h : Hp) (id : Nat) : Option Ent → Hp
  | none => h
  | some e => h.put id e

structure Step (E : Env) (n0 : Nat) (all : List Oper) (i : Nat) (o : Oper) (v : AV) (e : Option Ent) (st : St) : Prop where
  cond : e = none ∨ (st.h.e (n0 + i) = some .rsv ∧ st.h.lk (n0 + i) = false ∧ ∃ u L, e = some (.box u L))
  run : ∀ {σ : Type} (call2 : Handler) (st2 : St) (K' : St → Option σ), AgreeS (looks all o) st st2 → (e ≠ none → st2.h.e (n0 + i) = some .rsv ∧ st2.h.lk (n0 + i) = false) → evDstep E call2 n0 all i o st2 K' = putK o st2 K' v (upd1 st2.h (n0 + i) e)

theorem dop_agree {call : Handler} {n0 i : Nat} (hf : free E o = true) (hr : evDop E call n0 i o st K = some r) :
    ∃ v e, K v (upd1 st.h (n0 + i) e) = some r ∧ (e = none ∨ (st.h.e (n0 + i) = some .rsv ∧ st.h.lk (n0 + i) = false ∧ ∃ u L, e = some (.box u L))) ∧
      ∀ {σ : Type} (call2 : Handler) (st2 : St) (K' : AV → Hp → Option σ), Agree o.op.operands.toList st st2 → (e ≠ none → st2.h.e (n0 + i) = some .rsv ∧ st2.h.lk (n0 + i) = false) → evDop E call2 n0 i o st2 K' = K' v (upd1 st2.h (n0 + i) e) := by
  unfold evDop at hr
  split at hr
  · rename_i hl
    obtain ⟨v, h1, h2⟩ := light_agree hl hr
    refine ⟨v, none, h1, .inl rfl, fun call2 st2 K' ag _ => ?_⟩
    simp only [evDop, hl]
    exact h2 st2 K' ag
  · rename_i hl
    simp only [free, hl] at hf
    split at hr
    · rename_i t ho
      split at hr
      case h_2 => cases hr
      rename_i L hL he hlk
      refine ⟨_, some (.box (zeroAV L) L), hr, .inr ⟨he, hlk, _, _, rfl⟩, fun call2 st2 K' ag q => ?_⟩
      obtain ⟨q1, q2⟩ := q (by simp)
      have hl2 : isLight E (.alloc t) = false := rfl
      simp only [evDop, ho, hl2, hL, q1, q2, upd1]
    · rename_i hno
      split at hr
      · rename_i m hm
        split at hr
        case h_2 => cases hr
        rename_i he hlk
        refine ⟨_, some (.box m.v m.L), hr, .inr ⟨he, hlk, _, _, rfl⟩, fun call2 st2 K' ag q => ?_⟩
        obtain ⟨q1, q2⟩ := q (by simp)
        obtain ⟨c, g, ho, _⟩ := makes_spec hm
        rw [ho] at hl hm
        simp only [evDop, ho, hl, hm, q1, q2, upd1]
      · rename_i hm
        exfalso
        unfold isAlloc at hf
        split at hf
        · rename_i t q; exact hno t q
        · rw [hm] at hf; cases hf

theorem looks_guard {all : List Oper} {j : Nat} {want : Bool} {oj : Oper} {t : Nat} (hg : o.guard = some (j, want)) (hoj : all[j]? = some oj) (ht : oj.dst = some t) : t ∈ looks all o := by
  simp only [looks, hg, hoj, ht]
  simp

theorem step_agree {call : Handler} {n0 i : Nat} {all : List Oper} {K : St → Option ρ} (hf : free E o = true) (hr : evDstep E call n0 all i o st K = some r) : ∃ v e, Step E n0 all i o v e st ∧ putK o st K v (upd1 st.h (n0 + i) e) = some r := by
  unfold evDstep at hr
  split at hr
  · rename_i hg
    obtain ⟨v, e, h1, h2, h3⟩ := dop_agree hf hr
    refine ⟨v, e, ⟨h2, fun call2 st2 K' ag q => ?_⟩, h1⟩
    simp only [evDstep, hg]
    exact h3 call2 st2 _ ag.ops q
  · rename_i j want hg
    split at hr
    case h_2 => cases hr
    rename_i oj hoj
    split at hr
    case h_2 => cases hr
    rename_i t ht
    have hmem := looks_guard hg hoj ht
    have skip : ∀ (b : AV), st.fr t = b → (∀ {σ : Type} (call2 : Handler) (st2 : St) (K' : St → Option σ), st2.fr t = b → evDstep E call2 n0 all i o st2 K' = skipOp o st2 K') → skipOp o st K = some r →
        ∃ v e, Step E n0 all i o v e st ∧ putK o st K v (upd1 st.h (n0 + i) e) = some r := by
      intro b hb hrun hk
      refine ⟨.tup .unit, none, ⟨.inl rfl, fun call2 st2 K' ag _ => ?_⟩, hk⟩
      rw [hrun call2 st2 K' ((ag.fr t hmem).trans hb)]
      rfl
    split at hr
    · rename_i b hb
      have hr := cond_some hr
      have hdo : (∀ {σ : Type} (call2 : Handler) (st2 : St) (K' : St → Option σ), st2.fr t = .data .bool b → evDstep E call2 n0 all i o st2 K' = evDop E call2 n0 i o st2 (putK o st2 K')) → evDop E call n0 i o st (putK o st K) = some r →
          ∃ v e, Step E n0 all i o v e st ∧ putK o st K v (upd1 st.h (n0 + i) e) = some r := by
        intro hrun hk
        obtain ⟨v, e, h1, h2, h3⟩ := dop_agree hf hk
        refine ⟨v, e, ⟨h2, fun call2 st2 K' ag q => ?_⟩, h1⟩
        rw [hrun call2 st2 K' ((ag.fr t hmem).trans hb)]
        exact h3 call2 st2 _ ag.ops q
      cases b with
      | true =>
        simp only [if_true] at hr
        rw [refine1_eq hb] at hr
        cases want with
        | true => exact hdo (fun call2 st2 K' q => by simp only [evDstep, hg, hoj, ht, q, P.cond, refine1_eq q]) hr
        | false => exact skip _ hb (fun call2 st2 K' q => by simp only [evDstep, hg, hoj, ht, q, P.cond, refine1_eq q]) hr
      | false =>
        simp only [Bool.false_eq_true, if_false] at hr
        rw [refine1_eq hb] at hr
        cases want with
        | true => exact skip _ hb (fun call2 st2 K' q => by simp only [evDstep, hg, hoj, ht, q, P.cond, refine1_eq q]) hr
        | false => exact hdo (fun call2 st2 K' q => by simp only [evDstep, hg, hoj, ht, q, P.cond, refine1_eq q]) hr
    · rename_i hb
      exact skip _ hb (fun call2 st2 K' q => by simp only [evDstep, hg, hoj, ht, q]) hr
    · cases hr

/-! ### one step ahead of others -/
def NoRsv (l : List Nat) (st : St) : Prop := ∀ t, t ∈ l → ∀ id p, st.fr t = .ptr id p → st.h.e id ≠ some .rsv

theorem putK_some {K : St → Option ρ} {v : AV} (h : putK o st K v h2 = some r) : ∃ st', ({ st with h := h2 } : St).put o.dst v = some st' ∧ K st' = some r := by
  unfold putK at h
  split at h
  · rename_i st' q; exact ⟨st', q, h⟩
  · cases h

theorem put_facts {d : Option Tmp} {v : AV} (h : ({ st with h := h2 } : St).put d v = some st') : st'.n = st.n ∧ st'.ro = st.ro ∧ st'.h = h2 ∧ (∀ t, d ≠ some t → st'.fr t = st.fr t) ∧ (∀ t, d = some t → st.ro t = false ∧ t < st.n ∧ st'.fr = set1 st.fr t v) ∧ (d = none → st'.fr = st.fr) := by
  cases d with
  | none => have := put_none h; subst this; exact ⟨rfl, rfl, rfl, fun _ _ => rfl, fun t q => by simp at q, fun _ => rfl⟩
  | some t =>
    obtain ⟨h1, h2', rfl⟩ := put_some h
    refine ⟨rfl, rfl, rfl, fun u hu => ?_, fun u hu => ?_, fun q => by simp at q⟩
    · have : u ≠ t := fun q => hu (by rw [q])
      simp [set1, beq_false this]
    · injection hu with hu
      subst hu
      exact ⟨h1, h2', rfl⟩

theorem upd1_e {id j : Nat} {e : Option Ent} (h : Hp) (hj : j ≠ id) : (upd1 h id e).e j = h.e j := by
  cases e with
  | none => rfl
  | some e => simp [upd1, Hp.put, set1, beq_false hj]
theorem upd1_lk {id : Nat} {e : Option Ent} (h : Hp) : (upd1 h id e).lk = h.lk := by cases e <;> rfl
theorem upd1_at {id : Nat} {e : Ent} (h : Hp) : (upd1 h id (some e)).e id = some e := by simp [upd1, Hp.put, set1, Nat.beq_refl]

theorem clear_spec {d : Option Tmp} {l : List Nat} (h : clear d l = true) : ∀ t, t ∈ l → d ≠ some t := by
  rintro t ht rfl
  simp only [clear] at h
  split at h
  · cases h
  · rename_i q; exact memb_not.1 q ht

/-- Past a step of another: the states are alike for whoever looks elsewhere. -/
theorem past {v : AV} {e : Option Ent} {id : Nat} {d : Option Tmp} {l : List Nat} (hc : e = none ∨ (st.h.e id = some .rsv ∧ st.h.lk id = false ∧ ∃ u L, e = some (.box u L))) (hp : ({ st with h := upd1 st.h id e } : St).put d v = some st1) (hd : ∀ t, t ∈ l → d ≠ some t) :
    AgreeS l st st1 ∧ (NoRsv l st → AgreeS l st1 st ∧ NoRsv l st1) := by
  obtain ⟨p1, p2, p3, p4, p5, p6⟩ := put_facts hp
  have fr : ∀ t, t ∈ l → st1.fr t = st.fr t := fun t ht => p4 t (hd t ht)
  have he : ∀ j, st1.h.e j = st.h.e j ∨ (st.h.e j = some .rsv ∧ ∃ u L, st1.h.e j = some (.box u L)) := by
    intro j
    rw [p3]
    by_cases hj : j = id
    · subst hj
      rcases hc with rfl | ⟨q1, _, u, L, rfl⟩
      · exact .inl rfl
      · exact .inr ⟨q1, u, L, upd1_at _⟩
    · exact .inl (upd1_e _ hj)
  refine ⟨⟨fr, fun j t xs q => ?_, fun j q => ?_, fun t ht j p u L q1 q2 => ?_⟩, fun nr => ⟨⟨fun t ht => (fr t ht).symm, fun j t xs q => ?_, fun j q => ?_, fun t ht j p u L q1 q2 => ?_⟩, fun t ht j p q1 => ?_⟩⟩
  · rcases he j with z | ⟨z, _⟩
    · rw [z]; exact q
    · rw [z] at q; cases q
  · rcases he j with z | ⟨_, u, L, z⟩
    · rw [z]; exact q
    · rw [z]; simp
  · rcases he j with z | ⟨z, _⟩
    · rw [z]; exact q2
    · rw [z] at q2; cases q2
  · rcases he j with z | ⟨_, u, L, z⟩
    · rw [← z]; exact q
    · rw [z] at q; cases q
  · rcases he j with z | ⟨z, _⟩
    · rw [← z]; exact q
    · rw [z]; simp
  · rcases he j with z | ⟨z, _⟩
    · rw [← z]; exact q2
    · exact absurd z (nr t ht j p ((fr t ht).symm.trans q1))
  · rcases he j with z | ⟨_, u, L, z⟩
    · rw [z]; exact nr t ht j p ((fr t ht).symm.trans q1)
    · rw [z]; simp

theorem put_of {d : Option Tmp} {v : AV} (hn : st1.n = st.n) (hro : st1.ro = st.ro) {h3 : Hp} (h : ({ st with h := h2 } : St).put d v = some st') : ∃ s, ({ st1 with h := h3 } : St).put d v = some s := by
  cases d with
  | none => exact ⟨_, rfl⟩
  | some t =>
    simp only [St.put] at h ⊢
    rw [hn, hro]
    split at h
    · exact ⟨_, rfl⟩
    · cases h

theorem st_ext {s t : St} (h1 : s.n = t.n) (h2 : s.fr = t.fr) (h3 : s.ro = t.ro) (h4 : s.h = t.h) : s = t := by
  cases s; cases t; simp only at h1 h2 h3 h4; subst h1; subst h2; subst h3; subst h4; rfl

theorem set1_comm {α : Type} (f : Nat → α) {i j : Nat} (h : i ≠ j) (x y : α) : set1 (set1 f i x) j y = set1 (set1 f j y) i x := by
  funext k
  simp only [set1]
  by_cases hj : k = j
  · subst hj
    simp [Nat.beq_refl, beq_false (Ne.symm h)]
  · simp only [beq_false hj]

theorem upd1_comm {h : Hp} {i j : Nat} (hij : i ≠ j) (e f : Option Ent) : upd1 (upd1 h i e) j f = upd1 (upd1 h j f) i e := by
  cases e with
  | none => rfl
  | some e => cases f with
    | none => rfl
    | some f => simp only [upd1, Hp.put]; rw [set1_comm _ hij]

theorem front {call : Handler} {n0 : Nat} {all : List Oper} {K : St → Option ρ} {j : Nat} {oy : Oper} {post : List (Nat × Oper)} : ∀ (pre : List (Nat × Oper)) (st : St), (pre ≠ [] → free E oy = true) → (∀ p, p ∈ pre → p.1 ≠ j ∧ indep E all p.2 oy = true) →
    NoRsv (looks all oy) st → evD E call n0 all (pre ++ (j, oy) :: post) st K = some r → evDstep E call n0 all j oy st (fun st' => evD E call n0 all (pre ++ post) st' K) = some r := by
  intro pre
  induction pre with
  | nil => intro st _ _ _ h; exact h
  | cons x pre ih =>
    obtain ⟨i, ox⟩ := x
    intro st hfree hind hnr h
    obtain ⟨hij, hx⟩ := hind (i, ox) (by simp)
    simp only at hij hx
    have hfy := hfree (by simp)
    unfold indep at hx
    split at hx
    case h_2 => cases hx
    rename_i hfx _
    split at hx
    case h_2 => cases hx
    rename_i c1 c2 c3
    have c1 := clear_spec c1
    have c2 := clear_spec c2
    have c3 := clear_spec c3
    simp only [List.cons_append, evD] at h
    obtain ⟨vx, ex, sx, hk⟩ := step_agree hfx h
    obtain ⟨st1, hp1, hk1⟩ := putK_some hk
    obtain ⟨ag1, back1⟩ := past sx.cond hp1 c1
    obtain ⟨ag1', hnr1⟩ := back1 hnr
    have h1 := ih st1 (fun _ => hfy) (fun p hp => hind p (List.mem_cons_of_mem _ hp)) hnr1 hk1
    obtain ⟨vy, ey, sy, hk2⟩ := step_agree hfy h1
    obtain ⟨st2, hp2, hk2⟩ := putK_some hk2
    obtain ⟨p1, p2, p3, p4, p5, p6⟩ := put_facts hp1
    obtain ⟨q1, q2, q3, q4, q5, q6⟩ := put_facts hp2
    have hne : n0 + i ≠ n0 + j := by omega
    have cy : ey ≠ none → st.h.e (n0 + j) = some .rsv ∧ st.h.lk (n0 + j) = false := by
      intro hne'
      rcases sy.cond with z | ⟨z1, z2, _⟩
      · exact absurd z hne'
      · rw [p3] at z1 z2
        rw [upd1_e _ (Ne.symm hne)] at z1
        rw [upd1_lk] at z2
        exact ⟨z1, z2⟩
    rw [sy.run call st _ ag1' cy]
    obtain ⟨s, hs⟩ := put_of (st1 := st) (st := st1) p1.symm p2.symm (h3 := upd1 st.h (n0 + j) ey) hp2
    unfold putK
    rw [hs]
    simp only [List.cons_append, evD]
    have condy : ey = none ∨ (st.h.e (n0 + j) = some .rsv ∧ st.h.lk (n0 + j) = false ∧ ∃ u L, ey = some (.box u L)) := by
      rcases sy.cond with z | ⟨_, _, u, L, z⟩
      · exact .inl z
      · have := cy (by rw [z]; simp)
        exact .inr ⟨this.1, this.2, u, L, z⟩
    obtain ⟨ag2, _⟩ := past (l := looks all ox) condy hs c2
    obtain ⟨r1, r2, r3, r4, r5, r6⟩ := put_facts hs
    have cx' : ex ≠ none → s.h.e (n0 + i) = some .rsv ∧ s.h.lk (n0 + i) = false := by
      intro hne'
      rcases sx.cond with z | ⟨z1, z2, _⟩
      · exact absurd z hne'
      · rw [r3, upd1_e _ hne, upd1_lk]
        exact ⟨z1, z2⟩
    rw [sx.run call s _ ag2 cx']
    obtain ⟨s2, hs2⟩ := put_of (st1 := s) (st := st) r1 r2 (h3 := upd1 s.h (n0 + i) ex) hp1
    unfold putK
    rw [hs2]
    simp only
    obtain ⟨t1, t2, t3, t4, t5, t6⟩ := put_facts hs2
    have : s2 = st2 := by
      refine st_ext ?_ ?_ ?_ ?_
      · rw [t1, r1, q1, p1]
      · cases hdx : ox.dst with
        | none =>
          rw [t6 hdx]
          cases hdy : oy.dst with
          | none => rw [r6 hdy, q6 hdy, p6 hdx]
          | some u => rw [(r5 u hdy).2.2, (q5 u hdy).2.2, p6 hdx]
        | some t =>
          rw [(t5 t hdx).2.2]
          cases hdy : oy.dst with
          | none => rw [r6 hdy, q6 hdy, (p5 t hdx).2.2]
          | some u =>
            have hut : u ≠ t := by
              rintro rfl
              exact c3 u (by simp [hdy]) hdx
            rw [(r5 u hdy).2.2, (q5 u hdy).2.2, (p5 t hdx).2.2, set1_comm _ hut]
      · rw [t2, r2, q2, p2]
      · rw [t3, r3, q3, p3, upd1_comm hne]
    rw [this]
    exact hk2
end Go.PG

/- Lemmas for the claim. -/
import Derived.Test.YtoicfdfjjnfgaaaGreatDoorG3
import Derived.ChangeArms
import Derived.OpenShut
import Derived.WalkKit
import Derived.ProofKit
import Derived.Below
import Derived.Carry
import Derived.SizedLaws
import Derived.RowKit
import Derived.Shelf.Strings.Builder1
import Derived.Shelf.Strings.Builder2
import Derived.Shelf.Strings.OnBuilder
import Derived.Shelf.Strings.BuilderF
import Derived.Shelf.Strings.BuilderK
import Derived.Shelf.Strings.Builder2Cap
import Derived.Shelf.Strconv.Itoa0
import Derived.Shelf.Strconv.Itoa1
import Derived.Shelf.LaysM
import Derived.Shelf.Strconv.Itoa2
import Derived.Shelf.Strconv.Itoa3
import Derived.Shelf.Strings.BuilderCap
import Derived.Test.YtoicfdfjjnfgaaaGreatDoorProg
import Derived.KernelRfl
import Derived.Lib.Strings
import Derived.Lib.Slices
import Derived.Lib.Walk
import Derived.Lib.Bytealg
import Derived.Test.YtoicfdfjjnfgaaaGreatDoorG1
import Derived.Laws.Strings
set_option linter.all false
section
namespace Go.PG
open Go.RowKit
variable {Pg : Program} {G : World → Prop} {E : Env} {S : Nat → Prop} {B : Nat} {w0 w w' w'' : World} {h h' h2 : Hp} {M M' M'' : Nat → Bk} {ρ : Type} {r : ρ} {K : AV → Hp → Option ρ} {st st' st'' st1 st2 st3 : St} {a a' a'' : Act} {o : Oper}
theorem noCall_ok : HandlerOk Pg G S B w0 noCall := fun f args h K r M w vals hr => by simp [noCall] at hr
theorem evLight_ok (HE : EnvOk Pg G E) (hG : G w0) (F : ∀ t, RepV (cx S st.h M w) (st.fr t) (a.tmps.getD t undef)) (H : HInv S B w0 st.h M w) (hr : evLight E o st K = some r) : Does Pg o a w (Post K r S B w0 st.h M w) := by
 unfold evLight at hr
 split at hr
 ·rename_i t n ps ho
  unfold evLbs at hr
  split at hr
  case h_2 => cases hr
  rename_i e hty
  split at hr
  case h_2 => cases hr
  rename_i xs hf hd hs
  split at hr
  case h_2 => cases hr
  rename_i hnb
  refine buildSliceD_ok HE F H ho hty hf hd hs ?_ hr
  cases q : ps.toList.flatMap (fun p => (opnd (some e.un) st.fr p.2).owns) with
  | nil => rfl
  | cons i l => rw [q] at hnb; simp [nobody] at hnb
 ·rename_i c ho
  unfold evLcall at hr
  split at hr
  ·rename_i hc
   exact evBuiltin_ok HE F H ho hc hr
  ·rename_i hc
   exact evBuiltin_ok HE F H ho hc hr
  ·rename_i g hc
   split at hr
   case h_2 => cases hr
   rename_i s hlen hs
   split at hr
   case h_2 => cases hr
   rename_i v hv
   split at hr
   case h_2 => cases hr
   rename_i x hx hb
   refine call_ok HE hG noCall_ok F H ho hc (g := g) (caps := .unit) rfl hlen ?_
   rw [hs]
   simp only [callSpec, hv]
   cases hf : s.r.flat with
   | true => simp only [hx]; exact hr
   | false =>
    rw [hf] at hb
    simp only at hb
    have hn : v.owns = [] := by
     cases q : v.owns with
     | nil => rfl
     | cons i l => rw [q] at hb; simp [nobody] at hb
    simp only [freeze, hx, hn, unlocked, Hp.kills]
    exact hr
  ·cases hr
 ·rename_i t x lo hi mx ho
  refine slice_ok HE F H ho ?_
  unfold evLslice at hr
  split at hr
  ·rename_i id e
   rw [e]
   split at hr
   ·rename_i h1 h2 h3
    rw [h2, h3]
    exact hr
   ·cases hr
  ·rename_i id a n e
   rw [e]
   split at hr
   ·rename_i h1 h2
    rw [h2]
    exact hr
   ·cases hr
  ·exact hr
 ·exact evOp0_ok HE hG noCall_ok F H hr
theorem alloc_at (HE : EnvOk Pg G E) (H : HInv S B w0 st.h M w) {t : TypeId} (ho : o.op = .alloc t) {L : Ty} (hL : E.ty t = some L) {id : Nat} (he : st.h.e id = some .rsv) (hl : st.h.lk id = false)
  (hr : K (.ptr id []) (st.h.put id (.box (zeroAV L) L)) = some r) : Does Pg o a w (Post K r S B w0 st.h M w) := by
 obtain ⟨z, hz, hrep, hfit⟩ := ok_zero (c := cx S st.h M w) (HE.ty t _ hL) w
 refine Does.value (v := .pointer (some ⟨w.heap.size, 0, none⟩)) (w' := w.alloc (.cells z.cells t (0, 0))) (by simp [execOp, ho, Instr.alloc, hz, newVar, newRow]) ?_
 obtain ⟨H', k⟩ := H.fill he hl (.box (zeroAV L) L) (.box w.heap.size) (w' := w.alloc (.cells z.cells t (0, 0))) (fun b hb => alloc_old w _ b hb) (by rw [alloc_size]; omega) (below_alloc' H _)
  (fun b hb => by rw [box_has hb]; exact Nat.le_refl _)
  (fun k => ⟨w.heap.size, _, Holds.of (plain_of_ok (HE.ty t _ hL)) (el := t) (by simp [cx, set1, Nat.beq_refl]) (alloc_get w _), hfit, RepC.tr k _ _ hrep⟩)
 refine ⟨.ptr id [], _, _, hr, H', k, ?_⟩
 simp only [RepV, Rep1]
 exact ⟨H.lt he, _, rfl, .inr ⟨w.heap.size, zeroAV L, L, 0, L, by simp [cx, set1, Nat.beq_refl, Bk.at], by simp [cx, Hp.put, set1, Nat.beq_refl], rfl, rfl⟩⟩
theorem makes_spec {op : Op} {m : Maker} (h : makes E op = some m) : ∃ c g, op = .call c ∧ c.callee = .value (.func g) ∧ c.args.toList = [] ∧ look E.lays g = some m := by
 unfold makes at h
 split at h
 ·rename_i c
  split at h
  ·rename_i g h1 h2
   exact ⟨c, g, rfl, h1, h2, h⟩
  ·cases h
 ·cases h
theorem maker_at (HE : EnvOk Pg G E) (hG : G w0) (H : HInv S B w0 st.h M w) {m : Maker} (ho : makes E o.op = some m) {id : Nat} (he : st.h.e id = some .rsv) (hl : st.h.lk id = false)
  (hr : K (m.f id) (st.h.put id (.box m.v m.L)) = some r) : Does Pg o a w (Post K r S B w0 st.h M w) := by
 obtain ⟨c, g, h1, h2, h3, h4⟩ := makes_spec ho
 obtain ⟨⟨hpl, hm⟩, hany⟩ := HE.lays g m h4
 have hGw : G w := HE.G w0 w hG (by rw [H.bw]; exact H.bel)
 have h3' : c.args = #[] := Array.toList_inj.1 (by simpa using h3)
 refine Does.enter (f := g) (args := #[]) ?_ ((hm w hGw).mono fun e w' ⟨v, b, z, t, q1, bel, q2, q3, q4, q5, q6⟩ => ⟨v, q1, ?_⟩)
 ·simp [execOp, h1, resolve, h2, h3', Act.eval, Deferred.ofValue, invoke, run_callFunc hany]
 ·obtain ⟨H', k⟩ := H.fill he hl (.box m.v m.L) (.box b) (w' := w') (fun c hc => bel.block c hc) bel.size (bel.mono H.bsz)
   (fun c hc => by rw [box_has hc]; exact q2)
   (fun k => ⟨b, z.toList, Holds.of hpl (el := t) (by simp [cx, set1, Nat.beq_refl]) (by simpa [cx] using q3), q5, q4 _⟩)
  refine ⟨m.f id, _, _, hr, H', k, q6 _ id (H.lt he) (by simp [cx, set1, Nat.beq_refl]) (by simp [cx, Hp.put, set1, Nat.beq_refl])⟩
theorem HInv.like {g : Hp} (H : HInv S B w0 h M w) (e : g.e = h.e) (n : g.next = h.next) : HInv S B w0 g M w := by
 have c : cx S g M w = cx S h M w := by unfold cx; rw [e, n]
 refine ⟨?_, ?_, ?_, ?_, H.bel, H.bsz, H.old, H.bw⟩
 ·rw [c, e]; exact H.ent
 ·rw [e, n]; exact H.fresh
 ·rw [e]; exact H.dist
 ·rw [e]; exact H.own
theorem stilled (H : HInv S B w0 h' M' w') (k : HStp S (quiet h) M w h' M' w') : HInv S B w0 (still h h') M' w' ∧ HStp S h M w (still h h') M' w' ∧ ∀ av v, RepV (cx S h' M' w') av v → RepV (cx S (still h h') M' w') av v := by
 have lock : ∀ id, id < h.next → h'.e id = h.e id ∧ M' id = M id := fun id q => k.lock id q (by
  have : Nat.blt id h.next = true := by rw [Nat.blt_eq]; exact q
  simp [quiet, this])
 have e : (still h h').e = h'.e := by
  funext id
  simp only [still]
  split
  ·rename_i q
   exact (lock id (by rw [Nat.blt_eq] at q; exact q)).1.symm
  ·rfl
 have c : cx S (still h h') M' w' = cx S h' M' w' := by unfold cx; rw [e]; rfl
 refine ⟨H.like e rfl, ⟨?_, rfl, fun id q _ => ?_⟩, fun av v q => by rw [c]; exact q⟩
 ·rw [c]; exact k.tr
 ·rw [e]; exact lock id q
theorem evDop_ok (HE : EnvOk Pg G E) (hG : G w0) {call : Handler} (HC : HandlerOk Pg G S B w0 call) (F : ∀ t, RepV (cx S st.h M w) (st.fr t) (a.tmps.getD t undef)) (H : HInv S B w0 st.h M w) {n0 i : Nat} (hr : evDop E call n0 i o st K = some r) :
  Does Pg o a w (Post K r S B w0 st.h M w) := by
 unfold evDop at hr
 split at hr
 ·split at hr
  ·split at hr
   ·exact evLight_ok HE hG F H hr
   ·cases hr
  ·exact evLight_ok HE hG F H hr
 ·split at hr
  ·split at hr
   ·exact evOp_ok HE hG HC F H hr
   have := evOp_ok (o := o) (a := a) (st := { st with h := quiet st.h }) HE hG HC F (H.like (g := quiet st.h) rfl rfl) hr
   intro next Q hX
   refine this next Q fun v w' ⟨av, h', M', q1, q2, q3, q4⟩ => hX v w' ?_
   obtain ⟨z1, z2, z3⟩ := stilled q2 q3
   exact ⟨av, _, M', q1, z1, z2, z3 _ _ q4⟩
  ·split at hr
   ·rename_i t ho
    split at hr
    case h_2 => cases hr
    rename_i L hL he hl
    exact alloc_at HE H ho hL he hl hr
   ·split at hr
    ·rename_i m hm
     split at hr
     case h_2 => cases hr
     rename_i he hl
     exact maker_at HE hG H hm he hl hr
    ·exact evOp_ok HE hG HC F H hr
theorem evDstep_ok (HE : EnvOk Pg G E) (hG : G w0) {call : Handler} (HC : HandlerOk Pg G S B w0 call) {ops : Array Oper} {n0 i : Nat} (ho : ops[i]? = some o) (g : Good S B w0 st a M w) {K : St → Option ρ} (hr : evDstep E call n0 ops.toList i o st K = some r)
  {X : Act → World → Prop} {Q : Exit → Act → World → Prop} (hX : Then S B w0 st a M w K r X) : wpOp Pg ops Q i X a w := by
 have hdo : Region.wanted o (yielded ops a.tmps) = true → evDop E call n0 i o st (putK o st K) = some r → wpOp Pg ops Q i X a w := by
  intro hw hk
  simp only [wpOp, ho, hw, if_true]
  refine .inl (evDop_ok HE hG HC g.F g.H hk X Q fun v w' ⟨av, h', M', hk, H', k, hv⟩ => ?_)
  unfold putK at hk
  split at hk
  ·rename_i st' hp
   obtain ⟨g', s'⟩ := put_ok g H' k hv hp
   exact hX _ _ _ _ g' s' hk
  ·cases hk
 have hsk : Region.wanted o (yielded ops a.tmps) = false → skipOp o st K = some r → wpOp Pg ops Q i X a w := by
  intro hw hk
  simp only [wpOp, ho, hw, Bool.false_eq_true, if_false]
  exact skipOp_ok (o := o) g hk hX
 unfold evDstep at hr
 split at hr
 ·rename_i hg
  exact hdo (by simp [Region.wanted, hg]) hr
 ·rename_i j want hg
  split at hr
  case h_2 => cases hr
  rename_i oj hoj
  split at hr
  case h_2 => cases hr
  rename_i t ht
  have hoj' : ops[j]? = some oj := by rw [← Array.getElem?_toList]; exact hoj
  split at hr
  ·rename_i b hb
   have hF := g.F t
   rw [hb] at hF
   have hF := getD_bool (repV_bool hF)
   have hy : yielded ops a.tmps j = some b := by simp [yielded, hoj', ht, hF]
   have hr := cond_some hr
   cases b with
   | true =>
    simp only [if_true] at hr
    rw [refine1_eq hb] at hr
    cases want with
    | true => exact hdo (by simp [Region.wanted, hg, hy]) hr
    | false => exact hsk (by simp [Region.wanted, hg, hy]) hr
   | false =>
    simp only [Bool.false_eq_true, if_false] at hr
    rw [refine1_eq hb] at hr
    cases want with
    | true => exact hsk (by simp [Region.wanted, hg, hy]) hr
    | false => exact hdo (by simp [Region.wanted, hg, hy]) hr
  ·rename_i hb
   have hF := g.F t
   rw [hb] at hF
   simp only [RepV, RepT] at hF
   obtain ⟨vs, hv, hvs⟩ := hF
   have hy : yielded ops a.tmps j = none := by
    simp only [yielded, hoj', ht, Option.bind_some]
    rw [Array.getD_eq_getD_getElem?] at hv
    cases q : a.tmps[t]? with
    | none => rfl
    | some u => rw [q] at hv; simp only [Option.getD_some] at hv; rw [hv]
   exact hsk (by simp [Region.wanted, hg, hy]) hr
  ·cases hr
def Boxy (h : Hp) (id : Nat) : Prop := h.e id = some .rsv ∨ ∃ v L, h.e id = some (.box v L)
structure AgreeS (l : List Nat) (st st2 : St) : Prop where
 fr : ∀ t, t ∈ l → st2.fr t = st.fr t
 row : ∀ id e xs, st.h.e id = some (.row e xs) → st2.h.e id = some (.row e xs)
 live : ∀ id, st.h.e id ≠ none → st2.h.e id ≠ none
 box : ∀ t, t ∈ l → ∀ id p v L, st.fr t = .ptr id p → st.h.e id = some (.box v L) → st2.h.e id = some (.box v L)
 boxy : ∀ id, Boxy st.h id → Boxy st2.h id
theorem AgreeS.trans {l : List Nat} (h1 : AgreeS l st st1) (h2 : AgreeS l st1 st2) : AgreeS l st st2 :=
 ⟨fun t ht => (h2.fr t ht).trans (h1.fr t ht), fun id e xs q => h2.row id e xs (h1.row id e xs q), fun id q => h2.live id (h1.live id q), fun t ht id p v L q1 q2 => h2.box t ht id p v L ((h1.fr t ht).trans q1) (h1.box t ht id p v L q1 q2), fun id q => h2.boxy id (h1.boxy id q)⟩
theorem AgreeS.refl (l : List Nat) (st : St) : AgreeS l st st := ⟨fun _ _ => rfl, fun _ _ _ q => q, fun _ q => q, fun _ _ _ _ _ _ _ q => q, fun _ q => q⟩
theorem veil_box {h : Hp} {id : Nat} {v : AV} {L : Ty} : (veil h).e id = some (.box v L) ↔ h.e id = some (.box v L) ∧ L.plain = true := by
 simp only [veil]
 cases q : h.e id with
 | none => simp
 | some e => cases e with
  | box v' L' =>
   cases hp : L'.plain with
   | true =>
    simp only [hp, Option.some.injEq, Ent.box.injEq]
    exact ⟨fun z => ⟨z, z.2 ▸ hp⟩, fun z => z.1⟩
   | false =>
    simp only [hp, Option.some.injEq, Ent.box.injEq]
    constructor
    ·intro z; cases z
    ·rintro ⟨⟨_, rfl⟩, z⟩; rw [hp] at z; cases z
  | row e xs => simp
  | rsv => simp
theorem veil_row {h : Hp} {id : Nat} {e : Ty} {xs : List e.D} (q : (veil h).e id = some (.row e xs)) : False := by
 simp only [veil] at q
 split at q
 ·split at q <;> cases q
 ·cases q
 ·cases q
theorem veil_boxy {h : Hp} {id : Nat} : (veil h).e id ≠ none ↔ Boxy h id := by
 simp only [veil, Boxy]
 cases q : h.e id with
 | none => simp
 | some e => cases e with
  | box v' L' => cases hp : L'.plain <;> simp [hp]
  | row e xs => simp
  | rsv => simp
theorem boxy_veil {h : Hp} {id : Nat} : Boxy (veil h) id ↔ Boxy h id := by
 rw [← veil_boxy (h := h)]
 constructor
 ·rintro (q | ⟨v, L, q⟩) <;> rw [q] <;> simp
 ·intro q
  cases z : (veil h).e id with
  | none => exact absurd z q
  | some e => cases e with
   | box v L => exact .inr ⟨v, L, z⟩
   | rsv => exact .inl z
   | row e xs => exact (veil_row z).elim
def veilIf (E : Env) (st : St) : St := match veiled E with
 | true => { st with h := veil st.h }
 | false => st
theorem veilIf_fr (E : Env) (st : St) : (veilIf E st).fr = st.fr := by unfold veilIf; split <;> rfl
theorem AgreeS.veil {l : List Nat} (ag : AgreeS l st st2) : AgreeS l (veilIf E st) (veilIf E st2) := by
 unfold veilIf
 cases veiled E with
 | false => exact ag
 | true =>
  refine ⟨ag.fr, fun id e xs q => (veil_row q).elim, fun id q => ?_, fun t ht id p v L q1 q2 => ?_, fun id q => ?_⟩
  ·exact veil_boxy.2 (ag.boxy id (veil_boxy.1 q))
  ·obtain ⟨g1, g2⟩ := veil_box.1 q2
   exact veil_box.2 ⟨ag.box t ht id p v L q1 g1, g2⟩
  ·exact boxy_veil.2 (ag.boxy id (boxy_veil.1 q))
theorem AgreeS.fr' {l : List Nat} (ag : AgreeS l (veilIf E st) (veilIf E st2)) {t : Nat} (ht : t ∈ l) : st2.fr t = st.fr t := by
 have := ag.fr t ht
 rwa [veilIf_fr, veilIf_fr] at this
theorem Agree.trans {st3 : St} {l : List Operand} (h1 : Agree l st st2) (h2 : Agree l st2 st3) : Agree l st st3 :=
 ⟨fun x hx ty => (h2.op x hx ty).trans (h1.op x hx ty), fun id e xs q => h2.row id e xs (h1.row id e xs q), fun id q => h2.live id (h1.live id q), fun x hx id p v L q1 q2 => h2.box x hx id p v L ((h1.op x hx none).trans q1) (h1.box x hx id p v L q1 q2)⟩
theorem Agree.unveil (l : List Operand) (st : St) : Agree l { st with h := veil st.h } st :=
 ⟨fun _ _ _ => rfl, fun id e xs q => (veil_row q).elim, fun id q => by
  rcases veil_boxy.1 q with z | ⟨v, L, z⟩ <;> rw [z] <;> simp, fun x hx id p v L _ q => (veil_box.1 q).1⟩
theorem tmpsOf_mem {t : Nat} : ∀ {l : List Operand}, Operand.tmp t ∈ l → t ∈ tmpsOf l
 | [], h => by simp at h
 | x :: l, h => by
  rcases List.mem_cons.1 h with rfl | hm
  ·simp [tmpsOf]
  ·cases x with
   | tmp u => simp only [tmpsOf]; exact List.mem_cons_of_mem _ (tmpsOf_mem hm)
   | _ => simp only [tmpsOf]; exact tmpsOf_mem hm
theorem opnd_ptr {fr : Nat → AV} {x : Operand} {id : Nat} {p : List Nat} (h : opnd none fr x = .ptr id p) : ∃ t, x = .tmp t ∧ fr t = .ptr id p := by
 cases x with
 | tmp t => exact ⟨t, rfl, h⟩
 | const v => cases v <;> simp [opnd, constAV] at h
 | global g => simp [opnd] at h
 | func f => simp [opnd] at h
theorem AgreeS.ops {all : List Oper} (h : AgreeS (looks all o) st st2) : Agree o.op.operands.toList st st2 := by
 refine ⟨fun x hx ty => ?_, h.row, h.live, fun x hx id p v L q1 q2 => ?_⟩
 ·cases x with
  | tmp t => exact h.fr t (List.mem_append_right _ (tmpsOf_mem hx))
  | _ => rfl
 ·obtain ⟨t, rfl, q⟩ := opnd_ptr q1
  exact h.box t (List.mem_append_right _ (tmpsOf_mem hx)) id p v L q q2
def upd1 (h : Hp) (id : Nat) : Option Ent → Hp
 | none => h
 | some e => h.put id e
structure Step (E : Env) (n0 : Nat) (all : List Oper) (i : Nat) (o : Oper) (v : AV) (e : Option Ent) (st : St) : Prop where
 cond : e = none ∨ (st.h.e (n0 + i) = some .rsv ∧ st.h.lk (n0 + i) = false ∧ ∃ u L, e = some (.box u L))
 run : ∀ {σ : Type} (call2 : Handler) (st2 : St) (K' : St → Option σ), AgreeS (looks all o) (veilIf E st) (veilIf E st2) → (e ≠ none → st2.h.e (n0 + i) = some .rsv ∧ st2.h.lk (n0 + i) = false) → evDstep E call2 n0 all i o st2 K' = putK o st2 K' v (upd1 st2.h (n0 + i) e)
theorem dop_agree {call : Handler} {n0 i : Nat} (hf : free E o = true) (hr : evDop E call n0 i o st K = some r) :
  ∃ v e, (isLight E o.op = true → e = none) ∧ K v (upd1 st.h (n0 + i) e) = some r ∧ (e = none ∨ (st.h.e (n0 + i) = some .rsv ∧ st.h.lk (n0 + i) = false ∧ ∃ u L, e = some (.box u L))) ∧
   ∀ {σ : Type} (call2 : Handler) (st2 : St) (K' : AV → Hp → Option σ), Agree o.op.operands.toList (veilIf E st) (veilIf E st2) → (e ≠ none → st2.h.e (n0 + i) = some .rsv ∧ st2.h.lk (n0 + i) = false) → evDop E call2 n0 i o st2 K' = K' v (upd1 st2.h (n0 + i) e) := by
 unfold evDop at hr
 split at hr
 ·rename_i hl
  split at hr
  ·rename_i hv
   split at hr
   case h_2 => cases hr
   rename_i u hu
   obtain ⟨v, _, h2⟩ := light_agree hl hu
   have h1 := h2 st K (Agree.unveil _ st)
   rw [h1] at hr
   refine ⟨v, none, fun _ => rfl, hr, .inl rfl, fun call2 st2 K' ag _ => ?_⟩
   simp only [veilIf, hv] at ag
   have g1 := h2 _ (fun _ _ => some ()) ag
   have g2 := h2 st2 K' (ag.trans (Agree.unveil _ st2))
   simp only [evDop, hl, hv, g1, g2]
   rfl
  ·rename_i hv
   obtain ⟨v, h1, h2⟩ := light_agree hl hr
   refine ⟨v, none, fun _ => rfl, h1, .inl rfl, fun call2 st2 K' ag _ => ?_⟩
   simp only [veilIf, hv] at ag
   simp only [evDop, hl, hv]
   exact h2 st2 K' ag
 ·rename_i hl
  have hcalm : isCalm E o = false := by simp only [isCalm, hf]
  have hlne : isLight E o.op = true → ∀ P : Prop, P := fun q => by rw [hl] at q; cases q
  rw [hcalm] at hr
  simp only at hr
  simp only [free, hl] at hf
  split at hr
  ·rename_i t ho
   split at hr
   case h_2 => cases hr
   rename_i L hL he hlk
   refine ⟨_, some (.box (zeroAV L) L), fun q => hlne q _, hr, .inr ⟨he, hlk, _, _, rfl⟩, fun call2 st2 K' ag q => ?_⟩
   obtain ⟨q1, q2⟩ := q (by simp)
   have hl2 : isLight E (.alloc t) = false := by unfold isLight; split <;> rfl
   simp only [evDop, ho, hl2, hcalm, hL, q1, q2, upd1]
  ·rename_i hno
   split at hr
   ·rename_i m hm
    split at hr
    case h_2 => cases hr
    rename_i he hlk
    refine ⟨_, some (.box m.v m.L), fun q => hlne q _, hr, .inr ⟨he, hlk, _, _, rfl⟩, fun call2 st2 K' ag q => ?_⟩
    obtain ⟨q1, q2⟩ := q (by simp)
    obtain ⟨c, g, ho, _⟩ := makes_spec hm
    rw [ho] at hl hm
    simp only [evDop, ho, hl, hcalm, hm, q1, q2, upd1]
   ·rename_i hm
    exfalso
    unfold isAlloc at hf
    split at hf
    ·rename_i t q; exact hno t q
    ·rw [hm] at hf; cases hf
theorem looks_guard {all : List Oper} {j : Nat} {want : Bool} {oj : Oper} {t : Nat} (hg : o.guard = some (j, want)) (hoj : all[j]? = some oj) (ht : oj.dst = some t) : t ∈ looks all o := by
 simp only [looks, hg, hoj, ht]
 simp
theorem step_agree {call : Handler} {n0 i : Nat} {all : List Oper} {K : St → Option ρ} (hf : free E o = true) (hr : evDstep E call n0 all i o st K = some r) : ∃ v e, (isLight E o.op = true → e = none) ∧ Step E n0 all i o v e st ∧ putK o st K v (upd1 st.h (n0 + i) e) = some r := by
 unfold evDstep at hr
 split at hr
 ·rename_i hg
  obtain ⟨v, e, h0, h1, h2, h3⟩ := dop_agree hf hr
  refine ⟨v, e, h0, ⟨h2, fun call2 st2 K' ag q => ?_⟩, h1⟩
  simp only [evDstep, hg]
  exact h3 call2 st2 _ ag.ops q
 ·rename_i j want hg
  split at hr
  case h_2 => cases hr
  rename_i oj hoj
  split at hr
  case h_2 => cases hr
  rename_i t ht
  have hmem := looks_guard hg hoj ht
  have skip : ∀ (b : AV), st.fr t = b → (∀ {σ : Type} (call2 : Handler) (st2 : St) (K' : St → Option σ), st2.fr t = b → evDstep E call2 n0 all i o st2 K' = skipOp o st2 K') → skipOp o st K = some r →
    ∃ v e, (isLight E o.op = true → e = none) ∧ Step E n0 all i o v e st ∧ putK o st K v (upd1 st.h (n0 + i) e) = some r := by
   intro b hb hrun hk
   refine ⟨.tup .unit, none, fun _ => rfl, ⟨.inl rfl, fun call2 st2 K' ag _ => ?_⟩, hk⟩
   rw [hrun call2 st2 K' ((ag.fr' hmem).trans hb)]
   rfl
  split at hr
  ·rename_i b hb
   have hr := cond_some hr
   have hdo : (∀ {σ : Type} (call2 : Handler) (st2 : St) (K' : St → Option σ), st2.fr t = .data .bool b → evDstep E call2 n0 all i o st2 K' = evDop E call2 n0 i o st2 (putK o st2 K')) → evDop E call n0 i o st (putK o st K) = some r →
     ∃ v e, (isLight E o.op = true → e = none) ∧ Step E n0 all i o v e st ∧ putK o st K v (upd1 st.h (n0 + i) e) = some r := by
    intro hrun hk
    obtain ⟨v, e, h0, h1, h2, h3⟩ := dop_agree hf hk
    refine ⟨v, e, h0, ⟨h2, fun call2 st2 K' ag q => ?_⟩, h1⟩
    rw [hrun call2 st2 K' ((ag.fr' hmem).trans hb)]
    exact h3 call2 st2 _ ag.ops q
   cases b with
   | true =>
    simp only [if_true] at hr
    rw [refine1_eq hb] at hr
    cases want with
    | true => exact hdo (fun call2 st2 K' q => by simp only [evDstep, hg, hoj, ht, q, P.cond_def, refine1_eq q]) hr
    | false => exact skip _ hb (fun call2 st2 K' q => by simp only [evDstep, hg, hoj, ht, q, P.cond_def, refine1_eq q]) hr
   | false =>
    simp only [Bool.false_eq_true, if_false] at hr
    rw [refine1_eq hb] at hr
    cases want with
    | true => exact skip _ hb (fun call2 st2 K' q => by simp only [evDstep, hg, hoj, ht, q, P.cond_def, refine1_eq q]) hr
    | false => exact hdo (fun call2 st2 K' q => by simp only [evDstep, hg, hoj, ht, q, P.cond_def, refine1_eq q]) hr
  ·rename_i hb
   exact skip _ hb (fun call2 st2 K' q => by simp only [evDstep, hg, hoj, ht, q]) hr
  ·cases hr
def NoRsv (l : List Nat) (st : St) : Prop := ∀ t, t ∈ l → ∀ id p, st.fr t = .ptr id p → st.h.e id ≠ some .rsv
theorem putK_some {K : St → Option ρ} {v : AV} (h : putK o st K v h2 = some r) : ∃ st', ({ st with h := h2 } : St).put o.dst v = some st' ∧ K st' = some r := by
 unfold putK at h
 split at h
 ·rename_i st' q; exact ⟨st', q, h⟩
 ·cases h
theorem put_facts {d : Option Tmp} {v : AV} (h : ({ st with h := h2 } : St).put d v = some st') : st'.n = st.n ∧ st'.ro = st.ro ∧ st'.h = h2 ∧ (∀ t, d ≠ some t → st'.fr t = st.fr t) ∧ (∀ t, d = some t → st.ro t = false ∧ t < st.n ∧ st'.fr = set1 st.fr t v) ∧ (d = none → st'.fr = st.fr) := by
 cases d with
 | none => have := put_none h; subst this; exact ⟨rfl, rfl, rfl, fun _ _ => rfl, fun t q => by simp at q, fun _ => rfl⟩
 | some t =>
  obtain ⟨h1, h2', rfl⟩ := put_some h
  refine ⟨rfl, rfl, rfl, fun u hu => ?_, fun u hu => ?_, fun q => by simp at q⟩
  ·have : u ≠ t := fun q => hu (by rw [q])
   simp [set1, beq_false this]
  ·injection hu with hu
   subst hu
   exact ⟨h1, h2', rfl⟩
theorem upd1_e {id j : Nat} {e : Option Ent} (h : Hp) (hj : j ≠ id) : (upd1 h id e).e j = h.e j := by
 cases e with
 | none => rfl
 | some e => simp [upd1, Hp.put, set1, beq_false hj]
theorem upd1_lk {id : Nat} {e : Option Ent} (h : Hp) : (upd1 h id e).lk = h.lk := by cases e <;> rfl
theorem upd1_at {id : Nat} {e : Ent} (h : Hp) : (upd1 h id (some e)).e id = some e := by simp [upd1, Hp.put, set1, Nat.beq_refl]
theorem clear_spec {d : Option Tmp} {l : List Nat} (h : clear d l = true) : ∀ t, t ∈ l → d ≠ some t := by
 rintro t ht rfl
 simp only [clear] at h
 split at h
 ·cases h
 ·rename_i q; exact memb_not.1 q ht
theorem past {v : AV} {e : Option Ent} {id : Nat} {d : Option Tmp} {l : List Nat} (hc : e = none ∨ (st.h.e id = some .rsv ∧ st.h.lk id = false ∧ ∃ u L, e = some (.box u L))) (hp : ({ st with h := upd1 st.h id e } : St).put d v = some st1) (hd : ∀ t, t ∈ l → d ≠ some t) :
  AgreeS l st st1 ∧ (NoRsv l st → AgreeS l st1 st ∧ NoRsv l st1) := by
 obtain ⟨p1, p2, p3, p4, p5, p6⟩ := put_facts hp
 have fr : ∀ t, t ∈ l → st1.fr t = st.fr t := fun t ht => p4 t (hd t ht)
 have he : ∀ j, st1.h.e j = st.h.e j ∨ (st.h.e j = some .rsv ∧ ∃ u L, st1.h.e j = some (.box u L)) := by
  intro j
  rw [p3]
  by_cases hj : j = id
  ·subst hj
   rcases hc with rfl | ⟨q1, _, u, L, rfl⟩
   ·exact .inl rfl
   ·exact .inr ⟨q1, u, L, upd1_at _⟩
  ·exact .inl (upd1_e _ hj)
 have bx : ∀ j, Boxy st.h j ↔ Boxy st1.h j := by
  intro j
  unfold Boxy
  rcases he j with z | ⟨z, u, L, z2⟩
  ·rw [z]
  ·rw [z, z2]; simp
 refine ⟨⟨fr, fun j t xs q => ?_, fun j q => ?_, fun t ht j p u L q1 q2 => ?_, fun j q => (bx j).1 q⟩, fun nr => ⟨⟨fun t ht => (fr t ht).symm, fun j t xs q => ?_, fun j q => ?_, fun t ht j p u L q1 q2 => ?_, fun j q => (bx j).2 q⟩, fun t ht j p q1 => ?_⟩⟩
 ·rcases he j with z | ⟨z, _⟩
  ·rw [z]; exact q
  ·rw [z] at q; cases q
 ·rcases he j with z | ⟨_, u, L, z⟩
  ·rw [z]; exact q
  ·rw [z]; simp
 ·rcases he j with z | ⟨z, _⟩
  ·rw [z]; exact q2
  ·rw [z] at q2; cases q2
 ·rcases he j with z | ⟨_, u, L, z⟩
  ·rw [← z]; exact q
  ·rw [z] at q; cases q
 ·rcases he j with z | ⟨z, _⟩
  ·rw [← z]; exact q
  ·rw [z]; simp
 ·rcases he j with z | ⟨z, _⟩
  ·rw [← z]; exact q2
  ·exact absurd z (nr t ht j p ((fr t ht).symm.trans q1))
 ·rcases he j with z | ⟨_, u, L, z⟩
  ·rw [z]; exact nr t ht j p ((fr t ht).symm.trans q1)
  ·rw [z]; simp
theorem put_of {d : Option Tmp} {v : AV} (hn : st1.n = st.n) (hro : st1.ro = st.ro) {h3 : Hp} (h : ({ st with h := h2 } : St).put d v = some st') : ∃ s, ({ st1 with h := h3 } : St).put d v = some s := by
 cases d with
 | none => exact ⟨_, rfl⟩
 | some t =>
  simp only [St.put] at h ⊢
  rw [hn, hro]
  split at h
  ·exact ⟨_, rfl⟩
  ·cases h
theorem st_ext {s t : St} (h1 : s.n = t.n) (h2 : s.fr = t.fr) (h3 : s.ro = t.ro) (h4 : s.h = t.h) : s = t := by
 cases s; cases t; simp only at h1 h2 h3 h4; subst h1; subst h2; subst h3; subst h4; rfl
theorem set1_comm {α : Type} (f : Nat → α) {i j : Nat} (h : i ≠ j) (x y : α) : set1 (set1 f i x) j y = set1 (set1 f j y) i x := by
 funext k
 simp only [set1]
 by_cases hj : k = j
 ·subst hj
  simp [Nat.beq_refl, beq_false (Ne.symm h)]
 ·simp only [beq_false hj]
theorem upd1_comm {h : Hp} {i j : Nat} (hij : i ≠ j) (e f : Option Ent) : upd1 (upd1 h i e) j f = upd1 (upd1 h j f) i e := by
 cases e with
 | none => rfl
 | some e => cases f with
  | none => rfl
  | some f => simp only [upd1, Hp.put]; rw [set1_comm _ hij]
theorem shy_congr {fr fr2 : Nat → AV} {P : List Nat} : ∀ (l : List Nat), (∀ t, t ∈ l → fr2 t = fr t) → shy fr2 P l = shy fr P l := by
 intro l
 induction l with
 | nil => intro _; rfl
 | cons t l ih =>
  intro h
  simp only [shy, h t (by simp)]
  split
  ·split
   ·rfl
   ·exact ih fun u hu => h u (List.mem_cons_of_mem _ hu)
  ·exact ih fun u hu => h u (List.mem_cons_of_mem _ hu)
theorem shy_spec {fr : Nat → AV} {P : List Nat} : ∀ (l : List Nat), shy fr P l = true → ∀ t, t ∈ l → ∀ id p, fr t = .ptr id p → memb id P = false := by
 intro l
 induction l with
 | nil => intro _ t h; cases h
 | cons u l ih =>
  intro h t ht id p he
  simp only [shy] at h
  split at h
  ·rename_i id' p' q
   split at h
   ·cases h
   ·rename_i hm
    rcases List.mem_cons.1 ht with rfl | ht
    ·rw [q] at he; injection he with h1 h2; subst h1; exact hm
    ·exact ih h t ht id p he
  ·rename_i q
   rcases List.mem_cons.1 ht with rfl | ht
   ·exact (q id p he).elim
   ·exact ih h t ht id p he
theorem chk_congr {P : List Nat} {all : List Oper} {fr fr2 : Nat → AV} (h : ∀ t, t ∈ looks all o → fr2 t = fr t) : chk E P all o fr2 = chk E P all o fr := by
 unfold chk
 split
 ·exact shy_congr _ h
 ·split
  ·unfold aims
   split
   ·rename_i t p x ho
    rw [h p (by simp [looks, ho, Op.operands, tmpsOf])]
   ·rfl
  ·rfl
theorem evD_cons {call : Handler} {n0 i : Nat} {P : List Nat} {all : List Oper} {l : List (Nat × Oper)} {K : St → Option ρ} (h : evD E call n0 P all ((i, o) :: l) st K = some r) :
  chk E P all o st.fr = true ∧ evDstep E call n0 all i o st (fun st' => evD E call n0 P all l st' K) = some r := by
 simp only [evD] at h
 split at h
 ·rename_i q; exact ⟨q, h⟩
 ·cases h
theorem evD_step {call : Handler} {n0 i : Nat} {P : List Nat} {all : List Oper} {l : List (Nat × Oper)} {K : St → Option ρ} (h : chk E P all o st.fr = true) :
  evD E call n0 P all ((i, o) :: l) st K = evDstep E call n0 all i o st (fun st' => evD E call n0 P all l st' K) := by
 simp only [evD, h]
theorem front {call : Handler} {n0 : Nat} {P : List Nat} {all : List Oper} {K : St → Option ρ} {j : Nat} {oy : Oper} {post : List (Nat × Oper)} : ∀ (pre : List (Nat × Oper)) (st : St), (pre ≠ [] → free E oy = true) → (∀ p, p ∈ pre → p.1 ≠ j ∧ free E p.2 = true ∧ apart all p.2 oy = true) →
  NoRsv (looks all oy) st → evD E call n0 P all (pre ++ (j, oy) :: post) st K = some r → chk E P all oy st.fr = true ∧ evDstep E call n0 all j oy st (fun st' => evD E call n0 P all (pre ++ post) st' K) = some r := by
 intro pre
 induction pre with
 | nil => intro st _ _ _ h; exact evD_cons h
 | cons x pre ih =>
  obtain ⟨i, ox⟩ := x
  intro st hfree hind hnr h
  obtain ⟨hij, hfx, hx⟩ := hind (i, ox) (by simp)
  simp only at hij hx hfx
  have hfy := hfree (by simp)
  unfold apart at hx
  split at hx
  case h_2 => cases hx
  rename_i c1 c2 c3
  have c1 := clear_spec c1
  have c2 := clear_spec c2
  have c3 := clear_spec c3
  obtain ⟨chx, h⟩ := evD_cons h
  obtain ⟨vx, ex, _, sx, hk⟩ := step_agree hfx h
  obtain ⟨st1, hp1, hk1⟩ := putK_some hk
  obtain ⟨ag1, back1⟩ := past sx.cond hp1 c1
  obtain ⟨ag1', hnr1⟩ := back1 hnr
  obtain ⟨chy, h1⟩ := ih st1 (fun _ => hfy) (fun p hp => hind p (List.mem_cons_of_mem _ hp)) hnr1 hk1
  obtain ⟨vy, ey, _, sy, hk2⟩ := step_agree hfy h1
  obtain ⟨st2, hp2, hk2⟩ := putK_some hk2
  obtain ⟨p1, p2, p3, p4, p5, p6⟩ := put_facts hp1
  obtain ⟨q1, q2, q3, q4, q5, q6⟩ := put_facts hp2
  have hne : n0 + i ≠ n0 + j := by omega
  have cy : ey ≠ none → st.h.e (n0 + j) = some .rsv ∧ st.h.lk (n0 + j) = false := by
   intro hne'
   rcases sy.cond with z | ⟨z1, z2, _⟩
   ·exact absurd z hne'
   ·rw [p3] at z1 z2
    rw [upd1_e _ (Ne.symm hne)] at z1
    rw [upd1_lk] at z2
    exact ⟨z1, z2⟩
  refine ⟨by rw [← chk_congr (fun t ht => ag1'.fr t ht)] at chy; exact chy, ?_⟩
  rw [sy.run call st _ ag1'.veil cy]
  obtain ⟨s, hs⟩ := put_of (st1 := st) (st := st1) p1.symm p2.symm (h3 := upd1 st.h (n0 + j) ey) hp2
  unfold putK
  rw [hs]
  simp only
  rw [List.cons_append, evD_step (chk_congr (fun t ht => (put_facts hs).2.2.2.1 t (c2 t ht)) |>.trans chx)]
  have condy : ey = none ∨ (st.h.e (n0 + j) = some .rsv ∧ st.h.lk (n0 + j) = false ∧ ∃ u L, ey = some (.box u L)) := by
   rcases sy.cond with z | ⟨_, _, u, L, z⟩
   ·exact .inl z
   ·have := cy (by rw [z]; simp)
    exact .inr ⟨this.1, this.2, u, L, z⟩
  obtain ⟨ag2, _⟩ := past (l := looks all ox) condy hs c2
  obtain ⟨r1, r2, r3, r4, r5, r6⟩ := put_facts hs
  have cx' : ex ≠ none → s.h.e (n0 + i) = some .rsv ∧ s.h.lk (n0 + i) = false := by
   intro hne'
   rcases sx.cond with z | ⟨z1, z2, _⟩
   ·exact absurd z hne'
   ·rw [r3, upd1_e _ hne, upd1_lk]
    exact ⟨z1, z2⟩
  rw [sx.run call s _ ag2.veil cx']
  obtain ⟨s2, hs2⟩ := put_of (st1 := s) (st := st) r1 r2 (h3 := upd1 s.h (n0 + i) ex) hp1
  unfold putK
  rw [hs2]
  simp only
  obtain ⟨t1, t2, t3, t4, t5, t6⟩ := put_facts hs2
  have : s2 = st2 := by
   refine st_ext ?_ ?_ ?_ ?_
   ·rw [t1, r1, q1, p1]
   ·cases hdx : ox.dst with
    | none =>
     rw [t6 hdx]
     cases hdy : oy.dst with
     | none => rw [r6 hdy, q6 hdy, p6 hdx]
     | some u => rw [(r5 u hdy).2.2, (q5 u hdy).2.2, p6 hdx]
    | some t =>
     rw [(t5 t hdx).2.2]
     cases hdy : oy.dst with
     | none => rw [r6 hdy, q6 hdy, (p5 t hdx).2.2]
     | some u =>
      have hut : u ≠ t := by
       rintro rfl
       exact c3 u (by simp [hdy]) hdx
      rw [(r5 u hdy).2.2, (q5 u hdy).2.2, (p5 t hdx).2.2, set1_comm _ hut]
   ·rw [t2, r2, q2, p2]
   ·rw [t3, r3, q3, p3, upd1_comm hne]
  rw [this]
  exact hk2
theorem calm_spec (h : isCalm E o = true) : free E o = false ∧ isLight E o.op = false ∧ o.guard = none := by
 unfold isCalm at h
 split at h
 ·rename_i h1 h2
  refine ⟨h1, ?_, h2⟩
  unfold free at h1
  split at h1
  ·cases h1
  ·rename_i q; exact q
 ·cases h
theorem frontC0 {call : Handler} {n0 : Nat} {P : List Nat} {all : List Oper} {K : St → Option ρ} {j : Nat} {oy : Oper} {post : List (Nat × Oper)} (hc : isCalm E oy = true) (hnt : isTame E oy = false) : ∀ (pre : List (Nat × Oper)) (st : St), (∀ p, p ∈ pre → isLight E p.2.op = true ∧ apart all p.2 oy = true) →
  (∀ id, st.h.next ≤ id → st.h.e id = none) → evD E call n0 P all (pre ++ (j, oy) :: post) st K = some r → chk E P all oy st.fr = true ∧ evDstep E call n0 all j oy st (fun st' => evD E call n0 P all (pre ++ post) st' K) = some r := by
 obtain ⟨c1, c2, c3⟩ := calm_spec hc
 intro pre
 induction pre with
 | nil => intro st _ _ h; exact evD_cons h
 | cons x pre ih =>
  obtain ⟨i, ox⟩ := x
  intro st hind hfr h
  obtain ⟨hlx, hx⟩ := hind (i, ox) (by simp)
  simp only at hlx hx
  have hfx : free E ox = true := by simp only [free, hlx]
  unfold apart at hx
  split at hx
  case h_2 => cases hx
  rename_i d1 d2 d3
  have d1 := clear_spec d1
  have d2 := clear_spec d2
  have d3 := clear_spec d3
  obtain ⟨chx, h⟩ := evD_cons h
  obtain ⟨vx, ex, h0, sx, hk⟩ := step_agree hfx h
  have hex := h0 hlx
  subst hex
  simp only [upd1] at hk
  obtain ⟨st1, hp1, hk1⟩ := putK_some hk
  obtain ⟨p1, p2, p3, p4, p5, p6⟩ := put_facts hp1
  obtain ⟨chy, h1⟩ := ih st1 (fun p hp => hind p (List.mem_cons_of_mem _ hp)) (by rw [p3]; exact hfr) hk1
  have expand : ∀ (s : St) {σ : Type} (F : St → Option σ), evDstep E call n0 all j oy s F = evOp E call oy { s with h := quiet s.h } fun v h' => putK oy s F v (still s.h h') := by
   intro s σ F
   simp only [evDstep, c3, evDop, c2, hc, hnt]
  refine ⟨by rw [chk_congr (fun t ht => p4 t (d1 t ht))] at chy; exact chy, ?_⟩
  rw [expand] at h1
  rw [expand]
  have key : (fun v h' => putK oy st (fun st' => evD E call n0 P all ((i, ox) :: pre ++ post) st' K) v (still st.h h')) = (fun v h' => putK oy st1 (fun st' => evD E call n0 P all (pre ++ post) st' K) v (still st1.h h')) := by
   funext v h'
   rw [p3]
   unfold putK
   cases hs : ({ st with h := still st.h h' } : St).put oy.dst v with
   | none =>
    cases hs1 : ({ st1 with h := still st.h h' } : St).put oy.dst v with
    | none => rfl
    | some s1 =>
     obtain ⟨s, hs'⟩ := put_of (st1 := st) (st := st1) p1.symm p2.symm (h3 := still st.h h') hs1
     rw [hs] at hs'
     cases hs'
   | some s =>
    obtain ⟨s1, hs1⟩ := put_of (st1 := st1) (st := st) p1 p2 (h3 := still st.h h') hs
    rw [hs1]
    simp only
    rw [List.cons_append, evD_step (chk_congr (fun t ht => (put_facts hs).2.2.2.1 t (d2 t ht)) |>.trans chx)]
    obtain ⟨r1, r2, r3, r4, r5, r6⟩ := put_facts hs
    obtain ⟨q1, q2, q3, q4, q5, q6⟩ := put_facts hs1
    have he : ∀ id, st.h.e id ≠ none → s.h.e id = st.h.e id := by
     intro id hne
     rw [r3]
     have hlt : id < st.h.next := by
      rcases Nat.lt_or_ge id st.h.next with z | z
      ·exact z
      ·exact absurd (hfr id z) hne
     have : Nat.blt id st.h.next = true := by rw [Nat.blt_eq]; exact hlt
     simp only [still, this]
    have ag : AgreeS (looks all ox) st s := by
     refine ⟨fun t ht => r4 t (d2 t ht), fun id e xs q => ?_, fun id q => ?_, fun t _ id p u L _ q => ?_, fun id q => ?_⟩
     ·rw [he id (by rw [q]; simp)]; exact q
     ·rw [he id q]; exact q
     ·rw [he id (by rw [q]; simp)]; exact q
     ·unfold Boxy
      rw [he id (by rcases q with q | ⟨_, _, q⟩ <;> rw [q] <;> simp)]
      exact q
    rw [sx.run call s _ ag.veil (fun z => absurd rfl z)]
    obtain ⟨s2, hs2⟩ := put_of (st1 := s) (st := st) r1 r2 (h3 := s.h) hp1
    unfold putK
    simp only [upd1]
    rw [hs2]
    simp only
    obtain ⟨t1, t2, t3, t4, t5, t6⟩ := put_facts hs2
    have : s2 = s1 := by
     refine st_ext ?_ ?_ ?_ ?_
     ·rw [t1, r1, q1, p1]
     ·cases hdx : ox.dst with
      | none =>
       rw [t6 hdx]
       cases hdy : oy.dst with
       | none => rw [r6 hdy, q6 hdy, p6 hdx]
       | some u => rw [(r5 u hdy).2.2, (q5 u hdy).2.2, p6 hdx]
      | some t =>
       rw [(t5 t hdx).2.2]
       cases hdy : oy.dst with
       | none => rw [r6 hdy, q6 hdy, (p5 t hdx).2.2]
       | some u =>
        have hut : u ≠ t := by
         rintro rfl
         exact d3 u (by simp [hdy]) hdx
        rw [(r5 u hdy).2.2, (q5 u hdy).2.2, (p5 t hdx).2.2, set1_comm _ hut]
     ·rw [t2, r2, q2, p2]
     ·rw [t3, r3, q3]
    rw [this]
  rw [key]
  refine (evOp_congr (fun x hx ty => ?_) ?_).trans h1
  ·cases x with
   | tmp t => exact (p4 t (d1 t (List.mem_append_right _ (tmpsOf_mem hx)))).symm
   | _ => rfl
  ·show quiet st.h = quiet st1.h
   rw [p3]
def Kept (h h' : Hp) : Prop := ∀ id, (h.e id = some .rsv → h'.e id = some .rsv) ∧ ∀ v L, h.e id = some (.box v L) → ∃ v' L', h'.e id = some (.box v' L') ∧ (L.plain = true → v' = v ∧ L' = L)
theorem Kept.refl (h : Hp) : Kept h h := fun _ => ⟨fun q => q, fun v L q => ⟨v, L, q, fun _ => ⟨rfl, rfl⟩⟩⟩
theorem Kept.trans {h h' h2 : Hp} (k : Kept h h') (l : Kept h' h2) : Kept h h2 := fun id => ⟨fun q => (l id).1 ((k id).1 q), fun v L q => by
 obtain ⟨v', L', q1, q2⟩ := (k id).2 v L q
 obtain ⟨v2, L2, q3, q4⟩ := (l id).2 v' L' q1
 refine ⟨v2, L2, q3, fun hp => ?_⟩
 obtain ⟨e1, e2⟩ := q2 hp
 subst e1; subst e2
 exact q4 hp⟩
theorem Kept.new {h : Hp} (hn : h.e h.next = none) (e : Ent) : Kept h (h.new e) := fun id => by
 by_cases q : id = h.next
 ·subst q; rw [hn]; exact ⟨fun z => (by cases z), fun _ _ z => (by cases z)⟩
 ·have : (h.new e).e id = h.e id := by simp [Hp.new, set1, beq_false q]
  rw [this]
  exact Kept.refl h id
theorem Kept.put {h : Hp} {id : Nat} {v : AV} {L : Ty} (he : h.e id = some (.box v L)) (hL : L.plain = false) (v' : AV) (L' : Ty) : Kept h (h.put id (.box v' L')) := fun j => by
 by_cases q : j = id
 ·subst q
  rw [he]
  refine ⟨fun z => (by cases z), fun u U z => ?_⟩
  injection z with z
  injection z with z1 z2
  subst z1; subst z2
  exact ⟨v', L', by simp [Hp.put, set1, Nat.beq_refl], fun hp => by rw [hL] at hp; cases hp⟩
 ·have : (h.put id (.box v' L')).e j = h.e j := by simp [Hp.put, set1, beq_false q]
  rw [this]
  exact Kept.refl h j
theorem Kept.kills {h : Hp} {l : List Nat} (hl : ∀ i ∈ l, ∃ e xs, h.e i = some (.row e xs)) : Kept h (h.kills l) := fun j => by
 have : (∃ e xs, h.e j = some (.row e xs)) ∨ (h.kills l).e j = h.e j := by
  rw [kills_e]
  by_cases q : j ∈ l
  ·exact .inl (hl j q)
  ·exact .inr (by simp [q])
 rcases this with ⟨e, xs, q⟩ | q
 ·rw [q]; exact ⟨fun z => (by cases z), fun _ _ z => (by cases z)⟩
 ·rw [q]; exact Kept.refl h j
theorem owns_rows {h : Hp} {v : AV} {e : Ty} {xs : List e.D} (hx : toD h v (.slice e) = some xs) : ∀ i ∈ v.owns, ∃ e xs, h.e i = some (.row e xs) := by
 intro i hi
 cases v with
 | own id =>
  simp only [AV.owns, List.mem_singleton] at hi
  subst hi
  simp only [toD] at hx
  split at hx
  ·rename_i e' ys q; exact ⟨e', ys, q⟩
  ·cases hx
 | view id a n =>
  simp only [AV.owns, List.mem_singleton] at hi
  subst hi
  simp only [toD] at hx
  split at hx
  ·rename_i e' ys q; exact ⟨e', ys, q⟩
  ·cases hx
 | st b => simp [toD] at hx
 | pr a b => simp [toD] at hx
 | _ => simp [AV.owns] at hi
theorem evMap_run {kt vt : Ty} {m k : AV} {h : Hp} {KK : Nat → (kt.D → kt.D → Bool) → List (kt.D × vt.D) → kt.D → Option ρ} (hr : evMap kt vt m k h KK = some r) :
  ∃ id f xs x c, h.e id = some (.box c (.map kt vt)) ∧ KK id f xs x = some r ∧ ∀ {σ : Type} (KK' : Nat → (kt.D → kt.D → Bool) → List (kt.D × vt.D) → kt.D → Option σ), evMap kt vt m k h KK' = KK' id f xs x := by
 unfold evMap at hr
 split at hr
 case h_2 => cases hr
 rename_i id
 split at hr
 case h_2 => cases hr
 rename_i c kt' vt' he
 split at hr
 case h_2 => cases hr
 rename_i xs f x q1 q2 q3 q4 q5
 have e1 := of_decide_eq_true q1
 have e2 := of_decide_eq_true q2
 subst e1; subst e2
 exact ⟨id, f, xs, x, c, he, hr, fun KK' => by simp [evMap, he, q3, q4, q5]⟩
theorem evDmap_run {kt et : Ty} {m k : AV} {h : Hp} {KK : Nat → (kt.D → kt.D → Bool) → List (kt.D × Option (List et.D)) → kt.D → Option ρ} (hr : evDmap kt et m k h KK = some r) :
  ∃ id f xs x c, h.e id = some (.box c (.dmap kt et)) ∧ KK id f xs x = some r ∧ ∀ {σ : Type} (KK' : Nat → (kt.D → kt.D → Bool) → List (kt.D × Option (List et.D)) → kt.D → Option σ), evDmap kt et m k h KK' = KK' id f xs x := by
 unfold evDmap at hr
 split at hr
 case h_2 => cases hr
 rename_i id
 split at hr
 case h_2 => cases hr
 rename_i c kt' vt' he
 split at hr
 case h_2 => cases hr
 rename_i xs f x q1 q2 q3 q4 q5
 split at hr
 case h_2 => cases hr
 rename_i hl
 have e1 := of_decide_eq_true q1
 have e2 := of_decide_eq_true q2
 subst e1; subst e2
 exact ⟨id, f, xs, x, c, he, hr, fun KK' => by simp [evDmap, he, q3, q4, q5, hl]⟩
theorem plain_map (k v : Ty) : (Ty.map k v).plain = false := rfl
theorem plain_dmap (k v : Ty) : (Ty.dmap k v).plain = false := rfl
theorem append_run {ts : Array TypeId} {args : List AV} {h : Hp} {K : AV → Hp → Option ρ} (hnx : h.e h.next = none) (hr : evBuiltin E .append ts args h K = some r) :
  ∃ v h', K v h' = some r ∧ Kept h h' ∧ ∀ {σ : Type} (K' : AV → Hp → Option σ), evBuiltin E .append ts args h K' = K' v h' := by
 match args, hr with
 | [], hr => simp [evBuiltin] at hr
 | [_], hr => simp [evBuiltin] at hr
 | _ :: _ :: _ :: _, hr => simp [evBuiltin] at hr
 | [s, x], hr =>
  simp only [evBuiltin] at hr
  split at hr
  case h_2 => cases hr
  rename_i t u hts
  split at hr
  ·rename_i e' hu
   split at hr
   case h_2 => cases hr
   rename_i row ht
   split at hr
   case h_2 => cases hr
   rename_i e hty
   unfold evAppend at hr
   have fin : ∀ (xs ys : List e.D), toD h s (.slice e) = some xs → toD h x (.slice e) = some ys → unlocked h (s.owns ++ x.owns) = true → test (P.room (P.add (P.len xs) (P.len ys)) row.bytes) (K (.own h.next) (((h.kills (s.owns ++ x.owns))).new (.row e (P.app xs ys)))) = some r →
     (∀ {σ : Type} (K' : AV → Hp → Option σ), evAppend row.bytes e s x h K' = test (P.room (P.add (P.len xs) (P.len ys)) row.bytes) (K' (.own h.next) (((h.kills (s.owns ++ x.owns))).new (.row e (P.app xs ys))))) →
     ∃ v h', K v h' = some r ∧ Kept h h' ∧ ∀ {σ : Type} (K' : AV → Hp → Option σ), evBuiltin E .append ts [s, x] h K' = K' v h' := by
    intro xs ys h1 h2 h3 h4 h5
    obtain ⟨hroom, hK⟩ := test_some h4
    refine ⟨_, _, hK, (Kept.kills fun i hi => ?_).trans (Kept.new ?_ _), fun K' => ?_⟩
    ·rcases List.mem_append.1 hi with q | q
     ·exact owns_rows h1 i q
     ·exact owns_rows h2 i q
    ·rw [kills_next, kills_e, hnx]; simp
    ·simp only [evBuiltin, hts, hu, ht, hty]
     rw [h5 K', hroom]
     simp only [test, P.cond_def, kills_next]
   split at hr
   ·rename_i xs id hx
    split at hr
    case h_2 => cases hr
    rename_i ys hy
    split at hr
    case h_2 => cases hr
    rename_i hl
    exact fin xs ys hx hy hl hr fun K' => by simp only [evAppend, hx, hy, hl]
   ·rename_i xs e0 hx
    split at hr
    case h_2 => cases hr
    rename_i ys hy
    split at hr
    case h_2 => cases hr
    rename_i hl
    exact fin xs ys hx hy hl hr fun K' => by simp only [evAppend, hx, hy, hl]
   ·rename_i xs id a n hx
    split at hr
    case h_2 => cases hr
    rename_i ys hy
    split at hr
    case h_2 => cases hr
    rename_i hl
    exact fin xs ys hx hy hl hr fun K' => by simp only [evAppend, hx, hy, hl]
   ·cases hr
  ·rename_i k hu
   split at hr
   case h_2 => cases hr
   rename_i row ht
   split at hr
   case h_2 => cases hr
   rename_i e hty
   unfold evZeros at hr
   split at hr
   case h_2 => cases hr
   rename_i e0 k0 n
   split at hr
   case h_2 => cases hr
   rename_i hd
   obtain ⟨t1, hr⟩ := test_some hr
   obtain ⟨t2, hr⟩ := test_some hr
   refine ⟨_, _, hr, Kept.new hnx _, fun K' => ?_⟩
   simp only [evBuiltin, hts, hu, ht, hty, evZeros, hd, t1, t2, test, P.cond_def]
  ·cases hr
theorem delete_run {ts : Array TypeId} {args : List AV} {h : Hp} {K : AV → Hp → Option ρ} (hr : evBuiltin E .delete ts args h K = some r) :
  ∃ v h', K v h' = some r ∧ Kept h h' ∧ ∀ {σ : Type} (K' : AV → Hp → Option σ), evBuiltin E .delete ts args h K' = K' v h' := by
 match args, hr with
 | [], hr => simp [evBuiltin] at hr
 | [_], hr => simp [evBuiltin] at hr
 | _ :: _ :: _ :: _, hr => simp [evBuiltin] at hr
 | [m, k], hr =>
  simp only [evBuiltin] at hr
  split at hr
  case h_2 => cases hr
  rename_i t tl hts
  split at hr
  ·rename_i kt vt hm
   obtain ⟨id, f, xs, x, c, he, hK, hall⟩ := evMap_run hr
   split at hK
   case h_2 => cases hK
   rename_i hl
   exact ⟨_, _, hK, Kept.put he (plain_map _ _) _ _, fun K' => by simp only [evBuiltin, hts, hm]; rw [hall]; simp only [hl]⟩
  ·rename_i hm
   split at hr
   case h_2 => cases hr
   rename_i kt et hd
   obtain ⟨id, f, xs, x, c, he, hK, hall⟩ := evDmap_run hr
   exact ⟨_, _, hK, Kept.put he (plain_dmap _ _) _ _, fun K' => by simp only [evBuiltin, hts, hm, hd]; rw [hall]⟩
theorem rowOf_rows {h : Hp} {v : AV} {e : Ty} {ys : List e.D} (hy : rowOf e h v = some ys) : ∀ i ∈ v.owns, ∃ e xs, h.e i = some (.row e xs) := by
 unfold rowOf at hy
 split at hy
 ·rename_i hz
  split at hy
  ·exact owns_rows hz
  ·cases hy
 ·rename_i hz; exact owns_rows hz
 ·cases hy
theorem Kept.drop {h : Hp} {id : Nat} {v : AV} {L : Ty} (he : h.e id = some (.box v L)) (hL : L.plain = false) (e : Ty) : Kept h (h.drop e id) := Kept.put he hL _ _
theorem deep_box {h : Hp} {id : Nat} {e : Ty} {xs : (drow e).D} (hx : rowsOf e h id = some xs) : ∃ v k t, h.e id = some (.box v (.dmap k t)) := by
 unfold rowsOf at hx
 split at hx
 ·rename_i c k t q; exact ⟨c, k, t, q⟩
 ·cases hx
theorem deep0_keeps {call : Handler} {K : AV → Hp → Option ρ} (hnx : st.h.e st.h.next = none) (hr : evDeep0 E call o st K = some r) :
  ∃ v h', K v h' = some r ∧ Kept st.h h' ∧ ∀ {σ : Type} (K' : AV → Hp → Option σ), evDeep0 E call o st K' = K' v h' := by
 have light : isLight0 E o.op = true → (∀ {σ : Type} (K' : AV → Hp → Option σ), evDeep0 E call o st K' = evLight E o st K') →
   ∃ v h', K v h' = some r ∧ Kept st.h h' ∧ ∀ {σ : Type} (K' : AV → Hp → Option σ), evDeep0 E call o st K' = K' v h' := fun hl he => by
  have hr2 := hr
  rw [he] at hr2
  obtain ⟨v, h1, h2⟩ := light0_agree hl hr2
  exact ⟨v, st.h, h1, Kept.refl _, fun K' => (he K').trans (h2 st K' ⟨fun _ _ _ => rfl, fun _ _ _ q => q, fun _ q => q, fun _ _ _ _ _ _ _ q => q⟩)⟩
 unfold evDeep0 at hr
 split at hr
 ·rename_i t n ps ho
  split at hr
  case h_2 => cases hr
  rename_i e bytes x ht hps
  unfold evDlit at hr
  split at hr
  case h_2 => cases hr
  rename_i ys hy
  refine ⟨_, _, hr, (Kept.kills (rowOf_rows hy)).trans (Kept.new ?_ _), fun K' => by simp only [evDeep0, ho, ht, hps, evDlit, hy]⟩
  rw [kills_next, kills_e, hnx]; simp
 ·rename_i t x i ho
  split at hr
  ·rename_i e bytes id k n ht e1 e2
   unfold evDidx at hr
   split at hr
   case h_2 => cases hr
   rename_i xs hxs
   obtain ⟨hin, hr⟩ := test_some hr
   exact ⟨_, _, hr, Kept.refl _, fun K' => by simp only [evDeep0, ho, ht, e1, e2, evDidx, hxs, hin, test, P.cond_def]⟩
  ·rename_i d ht hno
   refine light (by rw [ho]; rfl) fun K' => ?_
   simp only [evDeep0, evLight, ho]
   split
   ·rename_i q1 q2 q3; exact (hno _ _ _ _ _ q2 q3 (Option.some.inj (ht.symm.trans q1))).elim
   ·simp only [evOp0, ho]
   ·rename_i q; rw [ht] at q; cases q
  ·cases hr
 ·rename_i t x ho
  split at hr
  case h_2 => cases hr
  rename_i e id i hty e1
  unfold evDload at hr
  split at hr
  case h_2 => cases hr
  rename_i xs hxs hlk
  obtain ⟨ys, hys, hr⟩ := bind_some hr
  obtain ⟨v, k, tt, he⟩ := deep_box hxs
  have hlt : id ≠ st.h.next := fun q => by rw [q, hnx] at he; cases he
  refine ⟨_, _, hr, (Kept.put he (plain_dmap _ _) _ _).trans (Kept.new ?_ _), fun K' => by simp only [evDeep0, ho, hty, e1, evDload, hxs, hlk, hys]; rfl⟩
  show (st.h.put id _).e st.h.next = none
  simp [Hp.put, set1, beq_false (Ne.symm hlt), hnx]
 ·rename_i t x y ho
  split at hr
  case h_2 => cases hr
  rename_i e id i hty e1
  unfold evDstore at hr
  split at hr
  case h_2 => cases hr
  rename_i xs ys hxs hlk hy
  obtain ⟨v, k, tt, he⟩ := deep_box hxs
  have hrows := rowOf_rows hy
  have hnot : id ∉ (opnd (some (.slice e)) st.fr y).owns := fun q => by
   obtain ⟨e0, zs, z⟩ := hrows id q
   rw [he] at z; cases z
  refine ⟨_, _, hr, (Kept.kills hrows).trans (Kept.put (id := id) (v := v) (L := .dmap k tt) ?_ (plain_dmap _ _) _ _), fun K' => by simp only [evDeep0, ho, hty, e1, evDstore, hxs, hlk, hy]⟩
  rw [kills_e, if_neg hnot]
  exact he
 ·rename_i c ho
  split at hr
  ·rename_i t u s x hc hat hargs
   split at hr
   case h_2 => cases hr
   rename_i e bytes ht htu
   unfold evDapp at hr
   split at hr
   ·rename_i e0 j
    split at hr
    case h_2 => cases hr
    rename_i ys hys hlk
    obtain ⟨hroom, hr⟩ := test_some hr
    obtain ⟨v, k, tt, he⟩ := deep_box hys
    have hlt : j ≠ st.h.next := fun q => by rw [q, hnx] at he; cases he
    refine ⟨_, _, hr, (Kept.drop he (plain_dmap _ _) e).trans (Kept.new ?_ _), fun K' => by simp only [evDeep0, ho, hc, hat, hargs, ht, htu, evDapp, hys, hlk, hroom, test, P.cond_def]⟩
    show (st.h.put j _).e st.h.next = none
    simp [Hp.put, set1, beq_false (Ne.symm hlt), hnx]
   ·rename_i i j
    split at hr
    case h_2 => cases hr
    rename_i xs ys hij hxs hlk hys hlk2
    obtain ⟨hroom, hr⟩ := test_some hr
    obtain ⟨v, k, tt, he⟩ := deep_box hys
    obtain ⟨v2, k2, tt2, he2⟩ := deep_box hxs
    have hlt : j ≠ st.h.next := fun q => by rw [q, hnx] at he; cases he
    have hlt2 : i ≠ st.h.next := fun q => by rw [q, hnx] at he2; cases he2
    have hne : j ≠ i := fun q => by rw [q, Nat.beq_refl] at hij; cases hij
    refine ⟨_, _, hr, ((Kept.drop he2 (plain_dmap _ _) e).trans (Kept.drop (id := j) (v := v) (L := .dmap k tt) ?_ (plain_dmap _ _) e)).trans (Kept.new ?_ _), fun K' => by simp only [evDeep0, ho, hc, hat, hargs, ht, htu, evDapp, hij, hxs, hlk, hys, hlk2, hroom, test, P.cond_def]⟩
    ·simp [Hp.drop, Hp.put, set1, beq_false hne, he]
    ·show ((st.h.put i _).put j _).e st.h.next = none
     simp [Hp.put, set1, beq_false (Ne.symm hlt), beq_false (Ne.symm hlt2), hnx]
   ·cases hr
  ·rename_i t tl id hc hat hargs
   split at hr
   case h_2 => cases hr
   rename_i e bytes ht
   split at hr
   case h_2 => cases hr
   rename_i xs hxs
   exact ⟨_, _, hr, Kept.refl _, fun K' => by simp only [evDeep0, ho, hc, hat, hargs, ht, hxs]⟩
  ·rename_i hc hno
   refine light (by rw [ho]; simp only [isLight0, hc]) fun K' => ?_
   have e1 : evDeep0 E call o st K' = evOp0 E call o st K' := by
    unfold evDeep0
    simp only [ho]
    split
    ·rename_i q _ _; rw [hc] at q; cases q
    ·rename_i q1 q2; exact (hno _ _ _ q1 q2).elim
    ·rfl
    ·simp_all
   rw [e1]
   simp only [evOp0, evLight, evLcall, ho, hc]
  ·cases hr
 ·cases hr
theorem tie_plain (e t : Ty) : (tieT e t).plain = false := rfl
theorem tie_keeps {call : Handler} {K : AV → Hp → Option ρ} (hcv : isConv E o.op = false) (hr : evTie E call o st K = some r) :
  ∃ v h', K v h' = some r ∧ Kept st.h h' ∧ ∀ {σ : Type} (K' : AV → Hp → Option σ), evTie E call o st K' = K' v h' := by
 have light : isLight0 E o.op = true → (∀ {σ : Type} (K' : AV → Hp → Option σ), evTie E call o st K' = evLight E o st K') →
   ∃ v h', K v h' = some r ∧ Kept st.h h' ∧ ∀ {σ : Type} (K' : AV → Hp → Option σ), evTie E call o st K' = K' v h' := fun hl he => by
  have hr2 := hr
  rw [he] at hr2
  obtain ⟨v, h1, h2⟩ := light0_agree hl hr2
  exact ⟨v, st.h, h1, Kept.refl _, fun K' => (he K').trans (h2 st K' ⟨fun _ _ _ => rfl, fun _ _ _ q => q, fun _ q => q, fun _ _ _ _ _ _ _ q => q⟩)⟩
 unfold evTie at hr
 split at hr
 ·cases hr
 rename_i T hT
 split at hr
 ·rename_i t x i ho
  split at hr
  ·rename_i id k n e1 e2
   split at hr
   case h_2 => cases hr
   rename_i hty
   unfold evTidx at hr
   split at hr
   case h_2 => cases hr
   rename_i v m b l hx
   obtain ⟨hin, hr⟩ := test_some hr
   exact ⟨_, _, hr, Kept.refl _, fun K' => by simp only [evTie, hT, ho, e1, e2, hty, evTidx, hx, hin, test, P.cond_def]⟩
  ·rename_i hno
   refine light (by rw [ho]; rfl) fun K' => ?_
   unfold evTie
   simp only [hT, ho, evLight, evOp0]
 ·rename_i t x ho
  split at hr
  ·rename_i id i s e1
   have key : ∀ {σ : Type} (K' : AV → Hp → Option σ) (wh : Bool), (∀ {σ : Type} (K' : AV → Hp → Option σ), evTie E call o st K' = evTload T.e T.r id i wh (isTmpIn T.lend x) st.h K') → evTload T.e T.r id i wh (isTmpIn T.lend x) st.h K = some r →
     ∃ v h', K v h' = some r ∧ Kept st.h h' ∧ ∀ {σ : Type} (K' : AV → Hp → Option σ), evTie E call o st K' = K' v h' := by
    intro σ K' wh he hr
    unfold evTload at hr
    split at hr
    case h_2 => cases hr
    rename_i v m b l hx
    split at hr
    ·rename_i q1 q2
     obtain ⟨hin, hr⟩ := test_some hr
     exact ⟨_, _, hr, Kept.refl _, fun K' => by rw [he]; simp only [evTload, hx, q2, hin, test, P.cond_def]⟩
    ·rename_i q1 q2
     obtain ⟨hin, hr⟩ := test_some hr
     exact ⟨_, _, hr, Kept.refl _, fun K' => by rw [he]; simp only [evTload, hx, q2, hin, test, P.cond_def]⟩
    ·rename_i q1 q2
     obtain ⟨hin, hr⟩ := test_some hr
     exact ⟨_, _, hr, Kept.refl _, fun K' => by rw [he]; simp only [evTload, hx, q2, hin, test, P.cond_def]⟩
    ·cases hr
   split at hr
   ·rename_i hs hty
    exact key K true (fun K' => by simp only [evTie, hT, ho, e1, hs, hty]) hr
   ·rename_i hty hs hty2
    exact key K false (fun K' => by simp only [evTie, hT, ho, e1, hs, hty, hty2]) hr
   ·cases hr
  ·rename_i hno
   refine light (by rw [ho]; rfl) fun K' => ?_
   unfold evTie
   simp only [hT, ho, evLight, evOp0]
 ·rename_i t x y ho
  split at hr
  case h_2 => cases hr
  rename_i id i s e1
  split at hr
  case h_2 => cases hr
  rename_i hs hty
  unfold evTstore at hr
  split at hr
  case h_2 => cases hr
  rename_i v m b l j hx hlk hy
  split at hr
  case h_2 => cases hr
  rename_i ys hys hlj hji
  have hji' : j ≠ id := fun q => by rw [q, Nat.beq_refl] at hji; cases hji
  have he := tie_box hx
  have hrow : ∃ e xs, st.h.e j = some (.row e xs) := by
   simp only [toD] at hys
   split at hys
   ·rename_i e xs q; exact ⟨e, xs, q⟩
   ·cases hys
  cases hc : P.ieq i m with
  | true =>
   rw [hc] at hr
   exact ⟨_, _, hr, Kept.put he (tie_plain _ _) _ _, fun K' => by simp only [evTie, hT, ho, e1, hs, hty, evTstore, hx, hlk, hy, hys, hlj, hji, hc, P.cond_def]⟩
  | false =>
   rw [hc] at hr
   refine ⟨_, _, hr, (Kept.kills (l := [j]) (fun i hi => by simp only [List.mem_singleton] at hi; subst hi; exact hrow)).trans (Kept.put (id := id) (v := tieV T.e T.r v m b l) (L := tieT T.e T.r) ?_ (tie_plain _ _) _ _), fun K' => by simp only [evTie, hT, ho, e1, hs, hty, evTstore, hx, hlk, hy, hys, hlj, hji, hc, P.cond_def]⟩
   rw [kills_e, if_neg (by simp; exact fun q => hji' q.symm)]
   exact he
 ·rename_i s x j ho
  refine light (by rw [ho]; rfl) fun K' => ?_
  simp only [evTie, hT, ho, evLight, evOp0]
 ·rename_i c ho
  split at hr
  ·rename_i id hc ha
   split at hr
   case h_2 => cases hr
   rename_i v m b l t tl hx hat
   split at hr
   case h_2 => cases hr
   rename_i hty
   exact ⟨_, _, hr, Kept.refl _, fun K' => by simp only [evTie, hT, ho, hc, ha, hx, hat, hty]⟩
  ·rename_i hc hno
   refine light (by rw [ho]; simp only [isLight0, hc]) fun K' => ?_
   have e1 : evTie E call o st K' = evOp0 E call o st K' := by
    unfold evTie
    simp only [hT, ho, hc]
   rw [e1]
   simp only [evOp0, evLight, evLcall, ho, hc]
  ·rename_i f hc
   exfalso
   simp only [isConv, ho, hc, hT] at hcv
   cases hcv
  ·cases hr
 ·cases hr
theorem deep_keeps {call : Handler} {K : AV → Hp → Option ρ} (hcv : isConv E o.op = false) (hnx : st.h.e st.h.next = none) (hr : evDeep E call o st K = some r) :
  ∃ v h', K v h' = some r ∧ Kept st.h h' ∧ ∀ {σ : Type} (K' : AV → Hp → Option σ), evDeep E call o st K' = K' v h' := by
 cases ht : tieOp E o.op with
 | true =>
  have e1 : ∀ {σ : Type} (K' : AV → Hp → Option σ), evDeep E call o st K' = evTie E call o st K' := fun K' => by simp only [evDeep, ht]
  rw [e1] at hr
  obtain ⟨v, h', h1, h2, h3⟩ := tie_keeps hcv hr
  exact ⟨v, h', h1, h2, fun K' => (e1 K').trans (h3 K')⟩
 | false =>
  have e1 : ∀ {σ : Type} (K' : AV → Hp → Option σ), evDeep E call o st K' = evDeep0 E call o st K' := fun K' => by simp only [evDeep, ht]
  rw [e1] at hr
  obtain ⟨v, h', h1, h2, h3⟩ := deep0_keeps hnx hr
  exact ⟨v, h', h1, h2, fun K' => (e1 K').trans (h3 K')⟩
theorem insSrc_owns {y : AV} {l : List Nat} (h : insSrc y = some l) : ∀ i ∈ l, i ∈ y.owns := by
 intro i hi
 cases y <;> simp only [insSrc] at h <;> first | (cases h; done) | (injection h with h; subst h; simpa [AV.owns] using hi) | simp_all [AV.owns]
theorem ins_run {e : Ty} {b : Nat} {args : List AV} {h : Hp} {K : AV → Hp → Option ρ} (hnx : h.e h.next = none) (hr : evIns e (b + 1) args h K = some r) :
  ∃ v h', K v h' = some r ∧ Kept h h' ∧ ∀ {σ : Type} (K' : AV → Hp → Option σ), evIns e (b + 1) args h K' = K' v h' := by
 replace hr : evIns0 e (b + 1) args h K = some r := hr
 unfold evIns0 at hr
 split at hr
 case h_2 => cases hr
 rename_i s n y
 have go : ∀ (xs : List e.D), toD h s (.slice e) = some xs → (match toD h y (.slice e), insSrc y with
   | some ys, some l => match unlocked h (s.owns ++ l), meets l s.owns with
    | true, false => test (P.ilt 0 (P.len ys)) (test (P.cut 0 n (P.len xs)) (test (P.room (P.add (P.len xs) (P.len ys)) (b + 1)) (K (.own h.next) ((h.kills (s.owns ++ l)).new (.row e (P.insAt xs n ys))))))
    | _, _ => none
   | _, _ => none) = some r → (∀ {σ : Type} (K' : AV → Hp → Option σ), evIns e (b + 1) [s, .data (.int .i64) n, y] h K' = (match toD h y (.slice e), insSrc y with
   | some ys, some l => match unlocked h (s.owns ++ l), meets l s.owns with
    | true, false => test (P.ilt 0 (P.len ys)) (test (P.cut 0 n (P.len xs)) (test (P.room (P.add (P.len xs) (P.len ys)) (b + 1)) (K' (.own h.next) ((h.kills (s.owns ++ l)).new (.row e (P.insAt xs n ys))))))
    | _, _ => none
   | _, _ => none)) → ∃ v h', K v h' = some r ∧ Kept h h' ∧ ∀ {σ : Type} (K' : AV → Hp → Option σ), evIns e (b + 1) [s, .data (.int .i64) n, y] h K' = K' v h' := by
  intro xs hxs hr hall
  split at hr
  case h_2 => cases hr
  rename_i ys l hys hl
  split at hr
  case h_2 => cases hr
  rename_i hu hm
  obtain ⟨t1, hr⟩ := test_some hr
  obtain ⟨t2, hr⟩ := test_some hr
  obtain ⟨t3, hr⟩ := test_some hr
  refine ⟨_, _, hr, (Kept.kills (l := s.owns ++ l) (fun i hi => ?_)).trans (Kept.new ?_ _), fun K' => by rw [hall]; simp only [hys, hl, hu, hm, t1, t2, t3, test, P.cond_def]⟩
  ·rcases List.mem_append.1 hi with q | q
   ·exact owns_rows hxs i q
   ·exact owns_rows hys i (insSrc_owns hl i q)
  ·rw [kills_next, kills_e, hnx]; simp
 split at hr
 ·rename_i xs _ hxs
  exact go xs hxs hr fun K' => by unfold evIns evIns0; simp only [hxs]; rfl
 ·rename_i xs _ hxs
  exact go xs hxs hr fun K' => by unfold evIns evIns0; simp only [hxs]; rfl
 ·rename_i xs _ _ _ hxs
  exact go xs hxs hr fun K' => by unfold evIns evIns0; simp only [hxs]; rfl
 ·cases hr
theorem tame_keeps {call : Handler} {K : AV → Hp → Option ρ} (ht : isTame E o = true) (hfr : ∀ id, st.h.next ≤ id → st.h.e id = none) (hr : evOp E call o st K = some r) :
  ∃ v h', K v h' = some r ∧ Kept st.h h' ∧ ∀ {σ : Type} (K' : AV → Hp → Option σ), evOp E call o st K' = K' v h' := by
 have hnx := hfr st.h.next (Nat.le_refl _)
 unfold isTame at ht
 split at ht
 case h_2 => cases ht
 split at ht
 ·rename_i hdp
  split at ht
  ·cases ht
  rename_i hcv
  have e1 : ∀ {σ : Type} (K' : AV → Hp → Option σ), evOp E call o st K' = evDeep E call o st K' := fun K' => by simp only [evOp, hdp]
  rw [e1] at hr
  obtain ⟨v, h', h1, h2, h3⟩ := deep_keeps hcv hnx hr
  exact ⟨v, h', h1, h2, fun K' => (e1 K').trans (h3 K')⟩
 ·rename_i hvl _
  cases hdp : deepOp E o.op with
  | true =>
   have hcv : isConv E o.op = false := by
    unfold isVlen at hvl
    split at hvl
    ·rename_i c ho
     split at hvl
     ·rename_i hc
      simp only [isConv, ho, hc]
     ·cases hvl
    ·cases hvl
   have e1 : ∀ {σ : Type} (K' : AV → Hp → Option σ), evOp E call o st K' = evDeep E call o st K' := fun K' => by simp only [evOp, hdp]
   rw [e1] at hr
   obtain ⟨v, h', h1, h2, h3⟩ := deep_keeps hcv hnx hr
   exact ⟨v, h', h1, h2, fun K' => (e1 K').trans (h3 K')⟩
  | false =>
   unfold isVlen at hvl
   split at hvl
   ·rename_i c ho
    split at hvl
    ·rename_i hc
     have hdp' : deepOp E (.call c) = false := by rw [← ho]; exact hdp
     have e1 : ∀ {σ : Type} (K' : AV → Hp → Option σ), evOp E call o st K' = evLight E o st K' := fun K' => by simp only [evOp, hdp', evOp0, evLight, evLcall, ho, hc]
     rw [e1] at hr
     obtain ⟨v, h1, h2⟩ := light0_agree (by rw [ho]; simp only [isLight0, hc]) hr
     exact ⟨v, st.h, h1, Kept.refl _, fun K' => (e1 K').trans (h2 st K' ⟨fun _ _ _ => rfl, fun _ _ _ q => q, fun _ q => q, fun _ _ _ _ _ _ _ q => q⟩)⟩
    ·cases hvl
   ·cases hvl
 rename_i hdp _
 have e1 : ∀ {σ : Type} (K' : AV → Hp → Option σ), evOp E call o st K' = evOp0 E call o st K' := fun K' => by simp only [evOp, hdp]
 simp only [e1] at hr ⊢
 clear e1 hdp
 split at ht
 ·
  rename_i t m k ok ho
  simp only [evOp0, ho] at hr
  split at hr
  ·rename_i kt vt hm
   obtain ⟨id, f, xs, x, c, he, hK, hall⟩ := evMap_run hr
   cases ok with
   | false => exact ⟨_, _, by simpa only [evLookup] using hK, Kept.refl _, fun K' => by simp only [evOp0, ho, hm]; rw [hall]; rfl⟩
   | true => exact ⟨_, _, by simpa only [evLookup] using hK, Kept.refl _, fun K' => by simp only [evOp0, ho, hm]; rw [hall]; rfl⟩
  ·rename_i hm
   split at hr
   case h_2 => cases hr
   rename_i kt et hd
   obtain ⟨id, f, xs, x, c, he, hK, hall⟩ := evDmap_run hr
   obtain ⟨ys, hg, hK⟩ := bind_some hK
   have hlt : id ≠ st.h.next := fun q => by rw [q, hnx] at he; cases he
   refine ⟨_, _, hK, (Kept.put he (plain_dmap _ _) _ _).trans (Kept.new ?_ _), fun K' => ?_⟩
   ·show (st.h.put id _).e st.h.next = none
    simp [Hp.put, set1, beq_false (Ne.symm hlt), hnx]
   ·simp only [evOp0, ho, hm, hd]
    rw [hall, hg]
    rfl
 ·
  rename_i t m k v ho
  simp only [evOp0, ho] at hr
  split at hr
  ·rename_i kt vt hm
   obtain ⟨id, f, xs, x, c, he, hK, hall⟩ := evMap_run hr
   split at hK
   case h_2 => cases hK
   rename_i y q1 q2 q3
   exact ⟨_, _, hK, Kept.put he (plain_map _ _) _ _, fun K' => by simp only [evOp0, ho, hm]; rw [hall]; simp only [q1, q2, q3]⟩
  ·rename_i hm
   split at hr
   case h_2 => cases hr
   rename_i kt et hd
   obtain ⟨id, f, xs, x, c, he, hK, hall⟩ := evDmap_run hr
   split at hK
   case h_2 => cases hK
   rename_i ys hy
   have hrows : ∀ i ∈ (opnd (some (.slice et)) st.fr v).owns, ∃ e xs, st.h.e i = some (.row e xs) := by
    unfold rowOf at hy
    split at hy
    ·rename_i zs id' hz _; exact owns_rows hz
    ·rename_i zs e' hz _; exact owns_rows hz
    ·cases hy
   have hnot : id ∉ (opnd (some (.slice et)) st.fr v).owns := fun q => by
    obtain ⟨e, zs, z⟩ := hrows id q
    rw [he] at z; cases z
   refine ⟨_, _, hK, (Kept.kills hrows).trans (Kept.put (id := id) (v := c) (L := .dmap kt et) ?_ (plain_dmap _ _) _ _), fun K' => by simp only [evOp0, ho, hm, hd]; rw [hall]; simp only [hy]⟩
   rw [kills_e, if_neg hnot]
   exact he
 ·
  rename_i c ho
  split at ht
  ·rename_i hc
   simp only [evOp0, ho, hc] at hr
   obtain ⟨v, h', h1, h2, h3⟩ := append_run hnx hr
   exact ⟨v, h', h1, h2, fun K' => by simp only [evOp0, ho, hc]; exact h3 K'⟩
  ·rename_i hc
   simp only [evOp0, ho, hc] at hr
   obtain ⟨v, h', h1, h2, h3⟩ := delete_run hr
   exact ⟨v, h', h1, h2, fun K' => by simp only [evOp0, ho, hc]; exact h3 K'⟩
  ·rename_i g hc
   unfold insT at ht
   split at ht
   ·rename_i T e b _ g1 g2 g3
    have hop : ∀ fr : Nat → AV, opnd none fr (.func g) = .fn g .unit := fun _ => rfl
    simp only [evOp0, ho, hc, hop, g1, g2, g3] at hr ⊢
    split at hr
    ·cases hr
    rename_i hlen
    obtain ⟨v, h', h1, h2, h3⟩ := ins_run hnx hr
    exact ⟨v, h', h1, h2, fun K' => by first | exact h3 K' | (simp only [hlen]; exact h3 K')⟩
   ·cases ht
  ·cases ht
 ·cases ht
theorem frontT {call : Handler} {n0 : Nat} {P : List Nat} {all : List Oper} {K : St → Option ρ} {j : Nat} {oy : Oper} {post : List (Nat × Oper)} (hc : isCalm E oy = true) (htm : isTame E oy = true) : ∀ (pre : List (Nat × Oper)) (st : St), (∀ p, p ∈ pre → isLight E p.2.op = true ∧ apart all p.2 oy = true) →
  (∀ id, st.h.next ≤ id → st.h.e id = none) → evD E call n0 P all (pre ++ (j, oy) :: post) st K = some r → chk E P all oy st.fr = true ∧ evDstep E call n0 all j oy st (fun st' => evD E call n0 P all (pre ++ post) st' K) = some r := by
 obtain ⟨c1, c2, c3⟩ := calm_spec hc
 have hve : veiled E = true := by
  unfold isTame at htm
  split at htm
  ·rename_i q; exact q
  ·cases htm
 intro pre
 induction pre with
 | nil => intro st _ _ h; exact evD_cons h
 | cons x pre ih =>
  obtain ⟨i, ox⟩ := x
  intro st hind hfr h
  obtain ⟨hlx, hx⟩ := hind (i, ox) (by simp)
  simp only at hlx hx
  have hfx : free E ox = true := by simp only [free, hlx]
  unfold apart at hx
  split at hx
  case h_2 => cases hx
  rename_i d1 d2 d3
  have d1 := clear_spec d1
  have d2 := clear_spec d2
  have d3 := clear_spec d3
  obtain ⟨chx, h⟩ := evD_cons h
  obtain ⟨vx, ex, h0, sx, hk⟩ := step_agree hfx h
  have hex := h0 hlx
  subst hex
  simp only [upd1] at hk
  obtain ⟨st1, hp1, hk1⟩ := putK_some hk
  obtain ⟨p1, p2, p3, p4, p5, p6⟩ := put_facts hp1
  obtain ⟨chy, h1⟩ := ih st1 (fun p hp => hind p (List.mem_cons_of_mem _ hp)) (by rw [p3]; exact hfr) hk1
  have expand : ∀ (s : St) {σ : Type} (F : St → Option σ), evDstep E call n0 all j oy s F = evOp E call oy s (putK oy s F) := by
   intro s σ F
   simp only [evDstep, c3, evDop, c2, hc, htm]
  refine ⟨by rw [chk_congr (fun t ht => p4 t (d1 t ht))] at chy; exact chy, ?_⟩
  rw [expand] at h1
  rw [expand]
  obtain ⟨v, h', hv, kept, hall⟩ := tame_keeps htm (by rw [p3]; exact hfr) h1
  have same : ∀ {σ : Type} (K' : AV → Hp → Option σ), evOp E call oy st K' = K' v h' := fun K' => by
   rw [← hall K']
   refine evOp_congr (fun x hx ty => ?_) p3.symm
   cases x with
   | tmp t => exact (p4 t (d1 t (List.mem_append_right _ (tmpsOf_mem hx)))).symm
   | _ => rfl
  rw [same]
  unfold putK at hv ⊢
  cases hs : ({ st with h := h' } : St).put oy.dst v with
  | none =>
   cases hs1 : ({ st1 with h := h' } : St).put oy.dst v with
   | none => rw [hs1] at hv; cases hv
   | some s1 =>
    obtain ⟨s, hs'⟩ := put_of (st1 := st) (st := st1) p1.symm p2.symm (h3 := h') hs1
    rw [hs] at hs'
    cases hs'
  | some s =>
   obtain ⟨s1, hs1⟩ := put_of (st1 := st1) (st := st) p1 p2 (h3 := h') hs
   rw [hs1] at hv
   simp only at hv ⊢
   rw [List.cons_append, evD_step (chk_congr (fun t ht => (put_facts hs).2.2.2.1 t (d2 t ht)) |>.trans chx)]
   obtain ⟨r1, r2, r3, r4, r5, r6⟩ := put_facts hs
   obtain ⟨q1, q2, q3, q4, q5, q6⟩ := put_facts hs1
   have boxy : ∀ id, Boxy st.h id → Boxy s.h id := by
    intro id q
    rw [r3]
    have kp := kept id
    rw [p3] at kp
    rcases q with q | ⟨u, L, q⟩
    ·exact .inl (kp.1 q)
    ·obtain ⟨u', L', z, _⟩ := kp.2 u L q
     exact .inr ⟨u', L', z⟩
   have ag : AgreeS (looks all ox) (veilIf E st) (veilIf E s) := by
    simp only [veilIf, hve]
    refine ⟨fun t ht => r4 t (d2 t ht), fun id e xs q => (veil_row q).elim, fun id q => veil_boxy.2 (boxy id (veil_boxy.1 q)), fun t _ id p u L _ q => ?_, fun id q => boxy_veil.2 (boxy id (boxy_veil.1 q))⟩
    obtain ⟨z1, z2⟩ := veil_box.1 q
    have kp := kept id
    rw [p3] at kp
    obtain ⟨u', L', z3, z4⟩ := kp.2 u L z1
    obtain ⟨e1, e2⟩ := z4 z2
    subst e1; subst e2
    exact veil_box.2 ⟨by show s.h.e id = _; rw [r3]; exact z3, z2⟩
   rw [sx.run call s _ ag (fun z => absurd rfl z)]
   obtain ⟨s2, hs2⟩ := put_of (st1 := s) (st := st) r1 r2 (h3 := s.h) hp1
   unfold putK
   simp only [upd1]
   rw [hs2]
   simp only
   obtain ⟨t1, t2, t3, t4, t5, t6⟩ := put_facts hs2
   have : s2 = s1 := by
    refine st_ext ?_ ?_ ?_ ?_
    ·rw [t1, r1, q1, p1]
    ·cases hdx : ox.dst with
     | none =>
      rw [t6 hdx]
      cases hdy : oy.dst with
      | none => rw [r6 hdy, q6 hdy, p6 hdx]
      | some u => rw [(r5 u hdy).2.2, (q5 u hdy).2.2, p6 hdx]
     | some t =>
      rw [(t5 t hdx).2.2]
      cases hdy : oy.dst with
      | none => rw [r6 hdy, q6 hdy, (p5 t hdx).2.2]
      | some u =>
       have hut : u ≠ t := by
        rintro rfl
        exact d3 u (by simp [hdy]) hdx
       rw [(r5 u hdy).2.2, (q5 u hdy).2.2, (p5 t hdx).2.2, set1_comm _ hut]
    ·rw [t2, r2, q2, p2]
    ·rw [t3, r3, q3]
   rw [this]
   exact hv
theorem toD_owns {h : Hp} : ∀ (v : AV) (t : Ty) (x : t.D), toD h v t = some x → ∀ i ∈ v.owns, ∃ e xs, h.e i = some (.row e xs) := by
 intro v
 induction v with
 | st b ih =>
  intro t x hx i hi
  cases t with
  | st tb => simp only [toD] at hx; exact ih tb x hx i hi
  | _ => simp [toD] at hx
 | pr a r iha ihr =>
  intro t x hx i hi
  cases t with
  | pair ta tr =>
   simp only [toD] at hx
   split at hx
   ·rename_i y hy
    split at hx
    ·rename_i z hz
     simp only [AV.owns] at hi
     rcases List.mem_append.1 hi with q | q
     ·exact iha ta y hy i q
     ·exact ihr tr z hz i q
    ·cases hx
   ·cases hx
  | _ => simp [toD] at hx
 | own id =>
  intro t x hx
  cases t with
  | slice e => exact owns_rows hx
  | _ => simp [toD] at hx
 | view id a n =>
  intro t x hx
  cases t with
  | slice e => exact owns_rows hx
  | _ => simp [toD] at hx
 | _ => intro t x _ i hi; simp [AV.owns] at hi
theorem give_spec (h : isGive E o = true) : (veiled E = false ∧ E.ties = none) ∧ ∃ c g s, o.op = .call c ∧ c.callee = .value (.func g) ∧ look E.specs g = none ∧ look E.inpl g = none ∧ look E.ins g = none ∧ look E.bw g = none ∧ look E.ospecs g = some s := by
 unfold isGive at h
 split at h
 case h_2 => cases h
 rename_i hv hti
 refine ⟨⟨hv, hti⟩, ?_⟩
 split at h
 ·rename_i c ho
  split at h
  ·rename_i g hc
   split at h
   ·rename_i s h1 h2 h3 h4 h5
    exact ⟨c, g, s, ho, hc, h1, h2, h3, h4, h5⟩
   ·cases h
  ·cases h
 ·cases h
theorem give_run {call : Handler} {K : AV → Hp → Option ρ} (hg : isGive E o = true) (hfr : ∀ id, st.h.next ≤ id → st.h.e id = none) (hr : evOp E call o { st with h := quiet st.h } K = some r) :
  ∃ e ys, K (.own st.h.next) ((quiet st.h).new (.row e ys)) = some r ∧ ∀ {σ : Type} (st2 : St) (K' : AV → Hp → Option σ), (∀ x, x ∈ o.op.operands.toList → ∀ ty, opnd ty st2.fr x = opnd ty st.fr x) →
   (∀ id e xs, st.h.e id = some (.row e xs) → st2.h.e id = some (.row e xs)) → evOp E call o { st2 with h := quiet st2.h } K' = K' (.own st2.h.next) ((quiet st2.h).new (.row e ys)) := by
 obtain ⟨⟨_, hti⟩, c, g, s, ho, hc, g1, g2, g3, g4, g5⟩ := give_spec hg
 have hdp : deepOp E (.call c) = false := by simp only [deepOp, tieOp, hti, deepOp0, hc]
 have hop : ∀ fr : Nat → AV, opnd none fr (.func g) = .fn g .unit := fun _ => rfl
 simp only [evOp, hdp, evOp0, ho, hc, hop, g1, g2, g3, g4, g5] at hr
 split at hr
 case h_1 => cases hr
 rename_i hlen
 unfold evOspec at hr
 split at hr
 case h_1 => cases hr
 rename_i v hv
 unfold freeze at hr
 split at hr
 case h_2 => cases hr
 rename_i x hx
 split at hr
 case h_2 => cases hr
 rename_i hul
 have hown : v.owns = [] := by
  cases q : v.owns with
  | nil => rfl
  | cons i l =>
   exfalso
   have hi : i ∈ v.owns := by rw [q]; simp
   obtain ⟨e, xs, z⟩ := toD_owns v s.a x hx i hi
   have z : st.h.e i = some (.row e xs) := z
   have hlt : i < st.h.next := by
    rcases Nat.lt_or_ge i st.h.next with y | y
    ·exact y
    ·rw [hfr i y] at z; cases z
   have := unlocked_mem hul i hi
   simp only [quiet] at this
   rw [show Nat.blt i st.h.next = true by rw [Nat.blt_eq]; exact hlt] at this
   cases this
 rw [hown] at hr
 obtain ⟨ys, hys, hr⟩ := bind_some hr
 refine ⟨s.e, ys, hr, fun st2 K' hops hrows => ?_⟩
 simp only [ho, Op.operands] at hops
 have ha : ∀ x, x ∈ c.args.toList → ∀ ty, opnd ty st2.fr x = opnd ty st.fr x := fun x hx ty => hops x (by
  simp only [Call.operands]
  cases c.callee <;> simp <;> first | exact .inr (by simpa using hx) | simpa using hx) ty
 have h2 : (c.args.toList.zip c.argTypes.toList).map (fun p => opnd (E.ty p.2) st2.fr p.1) = (c.args.toList.zip c.argTypes.toList).map (fun p => opnd (E.ty p.2) st.fr p.1) :=
  List.map_congr_left fun p hp => ha p.1 (List.of_mem_zip hp).1 _
 have hv2 : argsD (quiet st2.h) ((c.args.toList.zip c.argTypes.toList).map fun p => opnd (E.ty p.2) st.fr p.1) s.a = some v := (argsD_any (h := quiet st2.h) (h2 := quiet st.h) _ _).trans hv
 have hx2 : toD (quiet st2.h) v s.a = some x := toD_agree (h := quiet st.h) (h2 := quiet st2.h) (fun id e xs q => hrows id e xs q) v s.a x hx
 simp only [evOp, hdp, evOp0, ho, hc, hop, g1, g2, g3, g4, g5, hlen, h2, evOspec, hv2, freeze, hx2, hown, unlocked, hys, P.bind_def]
 rfl
theorem still_new (h : Hp) (ent : Ent) : still h ((quiet h).new ent) = h.new ent := by
 unfold still quiet Hp.new
 simp only [Hp.mk.injEq, and_true, true_and]
 funext id
 split
 ·rename_i q
  rw [Nat.blt_eq] at q
  simp [set1, beq_false (show id ≠ h.next by omega)]
 ·rfl
theorem upd1_new {h : Hp} {id : Nat} {ex : Option Ent} (ent : Ent) (hc : ex = none ∨ id ≠ h.next) : upd1 (h.new ent) id ex = (upd1 h id ex).new ent := by
 cases ex with
 | none => rfl
 | some e =>
  rcases hc with q | q
  ·cases q
  ·simp only [upd1, Hp.put, Hp.new, Hp.mk.injEq, and_true]
   exact set1_comm _ (Ne.symm q) _ _
theorem frontO {call : Handler} {n0 : Nat} {P : List Nat} {all : List Oper} {K : St → Option ρ} {j : Nat} {oy : Oper} {post : List (Nat × Oper)} (hc : isCalm E oy = true) (hg : isGive E oy = true) : ∀ (pre : List (Nat × Oper)) (st : St), (∀ p, p ∈ pre → free E p.2 = true ∧ apart all p.2 oy = true) →
  (∀ id, st.h.next ≤ id → st.h.e id = none) → evD E call n0 P all (pre ++ (j, oy) :: post) st K = some r → chk E P all oy st.fr = true ∧ evDstep E call n0 all j oy st (fun st' => evD E call n0 P all (pre ++ post) st' K) = some r := by
 obtain ⟨c1, c2, c3⟩ := calm_spec hc
 have hve := (give_spec hg).1
 have hnt : isTame E oy = false := by simp only [isTame, hve]
 intro pre
 induction pre with
 | nil => intro st _ _ h; exact evD_cons h
 | cons x pre ih =>
  obtain ⟨i, ox⟩ := x
  intro st hind hfr h
  obtain ⟨hfx, hx⟩ := hind (i, ox) (by simp)
  simp only at hfx hx
  unfold apart at hx
  split at hx
  case h_2 => cases hx
  rename_i d1 d2 d3
  have d1 := clear_spec d1
  have d2 := clear_spec d2
  have d3 := clear_spec d3
  obtain ⟨chx, h⟩ := evD_cons h
  obtain ⟨vx, ex, h0, sx, hk⟩ := step_agree hfx h
  obtain ⟨st1, hp1, hk1⟩ := putK_some hk
  obtain ⟨p1, p2, p3, p4, p5, p6⟩ := put_facts hp1
  have hnx : (upd1 st.h (n0 + i) ex).next = st.h.next := by cases ex <;> rfl
  have hid : ex = none ∨ n0 + i ≠ st.h.next := by
   rcases sx.cond with q | ⟨q, _⟩
   ·exact .inl q
   ·right
    intro z
    rw [z, hfr _ (Nat.le_refl _)] at q
    cases q
  have hfr1 : ∀ id, st1.h.next ≤ id → st1.h.e id = none := fun id q => by
   rw [p3] at q ⊢
   rw [hnx] at q
   by_cases z : id = n0 + i
   ·rcases sx.cond with y | ⟨y, _⟩
    ·rw [y]; exact hfr id q
    ·rw [← z, hfr id q] at y; cases y
   ·rw [upd1_e _ z]; exact hfr id q
  have hrows : ∀ id e xs, st1.h.e id = some (.row e xs) → st.h.e id = some (.row e xs) := fun id e xs q => by
   rw [p3] at q
   by_cases z : id = n0 + i
   ·rcases sx.cond with y | ⟨_, _, u, L, y⟩
    ·rw [y] at q; exact q
    ·rw [y, z, upd1_at] at q; cases q
   ·rw [upd1_e _ z] at q; exact q
  obtain ⟨chy, h1⟩ := ih st1 (fun p hp => hind p (List.mem_cons_of_mem _ hp)) hfr1 hk1
  have expand : ∀ (s : St) {σ : Type} (F : St → Option σ), evDstep E call n0 all j oy s F = evOp E call oy { s with h := quiet s.h } fun v h' => putK oy s F v (still s.h h') := by
   intro s σ F
   simp only [evDstep, c3, evDop, c2, hc, hnt]
  refine ⟨by rw [chk_congr (fun t ht => p4 t (d1 t ht))] at chy; exact chy, ?_⟩
  rw [expand] at h1
  rw [expand]
  obtain ⟨e, ys, hv, hall⟩ := give_run hg hfr1 h1
  rw [hall st _ (fun x hx ty => by
   cases x with
   | tmp t => exact (p4 t (d1 t (List.mem_append_right _ (tmpsOf_mem hx)))).symm
   | _ => rfl) hrows]
  rw [still_new] at hv ⊢
  rw [p3, hnx] at hv
  unfold putK at hv ⊢
  cases hs : ({ st with h := st.h.new (.row e ys) } : St).put oy.dst (.own st.h.next) with
  | none =>
   cases hs1 : ({ st1 with h := (upd1 st.h (n0 + i) ex).new (.row e ys) } : St).put oy.dst (.own st.h.next) with
   | none => rw [hs1] at hv; cases hv
   | some s1 =>
    obtain ⟨s, hs'⟩ := put_of (st1 := st) (st := st1) p1.symm p2.symm (h3 := st.h.new (.row e ys)) hs1
    rw [hs] at hs'
    cases hs'
  | some s =>
   obtain ⟨s1, hs1⟩ := put_of (st1 := st1) (st := st) p1 p2 (h3 := (upd1 st.h (n0 + i) ex).new (.row e ys)) hs
   rw [hs1] at hv
   simp only at hv ⊢
   rw [List.cons_append, evD_step (chk_congr (fun t ht => (put_facts hs).2.2.2.1 t (d2 t ht)) |>.trans chx)]
   obtain ⟨r1, r2, r3, r4, r5, r6⟩ := put_facts hs
   obtain ⟨q1, q2, q3, q4, q5, q6⟩ := put_facts hs1
   have hne : ∀ id, st.h.e id ≠ none → s.h.e id = st.h.e id := fun id z => by
    rw [r3]
    have : id ≠ st.h.next := fun y => z (by rw [y]; exact hfr _ (Nat.le_refl _))
    simp [Hp.new, set1, beq_false this]
   have ag : AgreeS (looks all ox) (veilIf E st) (veilIf E s) := by
    simp only [veilIf, hve]
    refine ⟨fun t ht => r4 t (d2 t ht), fun id e xs q => ?_, fun id q => ?_, fun t _ id p u L _ q => ?_, fun id q => ?_⟩
    ·rw [hne id (by rw [q]; simp)]; exact q
    ·rw [hne id q]; exact q
    ·rw [hne id (by rw [q]; simp)]; exact q
    ·unfold Boxy
     rw [hne id (by rcases q with q | ⟨_, _, q⟩ <;> rw [q] <;> simp)]
     exact q
   rw [sx.run call s _ ag (fun z => by
    rcases sx.cond with y | ⟨y1, y2, _⟩
    ·exact absurd y z
    ·exact ⟨by rw [hne _ (by rw [y1]; simp)]; exact y1, by rw [r3]; exact y2⟩)]
   obtain ⟨s2, hs2⟩ := put_of (st1 := s) (st := st) r1 r2 (h3 := upd1 s.h (n0 + i) ex) hp1
   unfold putK
   rw [hs2]
   simp only
   obtain ⟨t1, t2, t3, t4, t5, t6⟩ := put_facts hs2
   have : s2 = s1 := by
    refine st_ext ?_ ?_ ?_ ?_
    ·rw [t1, r1, q1, p1]
    ·cases hdx : ox.dst with
     | none =>
      rw [t6 hdx]
      cases hdy : oy.dst with
      | none => rw [r6 hdy, q6 hdy, p6 hdx]
      | some u => rw [(r5 u hdy).2.2, (q5 u hdy).2.2, p6 hdx]
     | some t =>
      rw [(t5 t hdx).2.2]
      cases hdy : oy.dst with
      | none => rw [r6 hdy, q6 hdy, (p5 t hdx).2.2]
      | some u =>
       have hut : u ≠ t := by
        rintro rfl
        exact d3 u (by simp [hdy]) hdx
       rw [(r5 u hdy).2.2, (q5 u hdy).2.2, (p5 t hdx).2.2, set1_comm _ hut]
    ·rw [t2, r2, q2, p2]
    ·rw [t3, r3, q3]
     exact upd1_new _ hid
   rw [this]
   exact hv
theorem frontC {call : Handler} {n0 : Nat} {P : List Nat} {all : List Oper} {K : St → Option ρ} {j : Nat} {oy : Oper} {post : List (Nat × Oper)} (hc : isCalm E oy = true) (pre : List (Nat × Oper)) (st : St) (h1 : ∀ p, p ∈ pre → isLight E p.2.op = true ∧ apart all p.2 oy = true)
  (h2 : ∀ id, st.h.next ≤ id → st.h.e id = none) (h3 : evD E call n0 P all (pre ++ (j, oy) :: post) st K = some r) : chk E P all oy st.fr = true ∧ evDstep E call n0 all j oy st (fun st' => evD E call n0 P all (pre ++ post) st' K) = some r := by
 cases ht : isTame E oy with
 | true => exact frontT hc ht pre st h1 h2 h3
 | false => exact frontC0 hc ht pre st h1 h2 h3
theorem lst_spec {all : List Oper} (h : isLst E all o = true) : o.guard = none ∧ o.dst = none ∧ ∃ t p x, o.op = .store t (.tmp p) x := by
 unfold isLst at h
 split at h
 ·rename_i t p x h1 h2 h3
  exact ⟨h1, h2, t, p, x, h3⟩
 ·cases h
theorem lst_run {call : Handler} {n0 j : Nat} {all : List Oper} {F : St → Option ρ} {k : Nat} (h : isLst E all o = true) (hk : ∀ t p x, o.op = .store t (.tmp p) x → st.fr p = .ptr k []) (hr : evDstep E call n0 all j o st F = some r) :
  ∃ v L u, st.h.e k = some (.box v L) ∧ st.h.lk k = false ∧ F { st with h := st.h.put k (.box u L) } = some r ∧
   ∀ {σ : Type} (call2 : Handler) (st2 : St) (F2 : St → Option σ), (∀ t, t ∈ looks all o → st2.fr t = st.fr t) → st2.h.e k = some (.box v L) → st2.h.lk k = false → evDstep E call2 n0 all j o st2 F2 = F2 { st2 with h := st2.h.put k (.box u L) } := by
 obtain ⟨hg, hd, t, p, x, ho⟩ := lst_spec h
 have hp := hk t p x ho
 have hl' : isLight E (.store t (.tmp p) x) = false := by unfold isLight; split <;> rfl
 have hl : isLight E o.op = false := by rw [ho]; exact hl'
 have ha : isAlloc E (.store t (.tmp p) x) = false := rfl
 have hf : free E o = false := by unfold free; rw [hl, ho]; exact ha
 have hm : makes E (.store t (.tmp p) x) = none := rfl
 have hop : ∀ fr : Nat → AV, opnd none fr (.tmp p) = fr p := fun _ => rfl
 have hdp : deepOp E o.op = false := by
  cases q : deepOp E o.op with
  | false => rfl
  | true =>
   exfalso
   have hev : ∀ {σ : Type} (s : St) (K' : AV → Hp → Option σ), s.fr p = .ptr k [] → evOp E call o s K' = none := by
    intro σ s K' hs
    have e1 : evOp E call o s K' = evDeep E call o s K' := by simp only [evOp, q]
    rw [e1]
    unfold evDeep
    split
    ·unfold evTie
     cases E.ties with
     | none => rfl
     | some T => simp only [ho, hop, hs]
    ·unfold evDeep0
     simp only [ho, hop, hs]
     try (split <;> simp_all)
   simp only [evDstep, hg, evDop, hl', ho, hm] at hr
   (repeat' split at hr) <;> first | cases hr | (rw [hev st _ hp] at hr; cases hr) | (rw [hev { st with h := quiet st.h } _ hp] at hr; cases hr)
 have hdp' : deepOp E (.store t (.tmp p) x) = false := by rw [← ho]; exact hdp
 have htm : isTame E o = false := by unfold isTame; rw [ho, hdp']; cases veiled E <;> rfl
 have hc : isCalm E o = false := by unfold isCalm; rw [hf, hg, htm, ho]
 simp only [evDstep, hg, evDop, hl, hc, ho, hm, evOp, evOp0, hdp', hop, hp, hl'] at hr
 split at hr
 case h_2 => cases hr
 rename_i v L he hlk
 split at hr
 case h_2 => cases hr
 rename_i off u hoff
 have hoff' : off = 0 ∧ u = L := by
  simp only [offs] at hoff
  injection hoff with hoff
  injection hoff with h1 h2
  exact ⟨h1.symm, h2.symm⟩
 obtain ⟨rfl, rfl⟩ := hoff'
 split at hr
 case h_2 => cases hr
 rename_i hty hs hft
 simp only [AV.set] at hr
 have hput : ∀ {σ : Type} (st2 : St) (F2 : St → Option σ) (av : AV) (h2 : Hp), putK o st2 F2 av h2 = F2 { st2 with h := h2 } := by
  intro σ st2 F2 av h2
  unfold putK
  rw [hd]
  rfl
 rw [hput] at hr
 refine ⟨v, u, _, he, hlk, hr, fun call2 st2 F2 hfr he2 hlk2 => ?_⟩
 have hx : opnd (E.ty t) st2.fr x = opnd (E.ty t) st.fr x := by
  cases x with
  | tmp y => exact hfr y (by simp [looks, ho, Op.operands, tmpsOf])
  | _ => rfl
 have hp2 : st2.fr p = .ptr k [] := (hfr p (by simp [looks, ho, Op.operands, tmpsOf])).trans hp
 simp only [evDstep, hg, evDop, hl, hc, ho, hm, evOp, evOp0, hdp', hop, hp2, he2, hlk2, hoff, hx, hty, hs, hft, AV.set, hl']
 rw [hput]
theorem frontS {call : Handler} {n0 : Nat} {P : List Nat} {all : List Oper} {K : St → Option ρ} {j : Nat} {oy : Oper} {post : List (Nat × Oper)} (hl : isLst E all oy = true) (hfy : free E oy = false) : ∀ (pre : List (Nat × Oper)) (st : St), (∀ p, p ∈ pre → free E p.2 = true ∧ apart all p.2 oy = true) →
  NoRsv (looks all oy) st → evD E call n0 P all (pre ++ (j, oy) :: post) st K = some r → chk E P all oy st.fr = true ∧ evDstep E call n0 all j oy st (fun st' => evD E call n0 P all (pre ++ post) st' K) = some r := by
 obtain ⟨hg, hd, ty, pt, x0, ho⟩ := lst_spec hl
 intro pre
 induction pre with
 | nil => intro st _ _ h; exact evD_cons h
 | cons x pre ih =>
  obtain ⟨i, ox⟩ := x
  intro st hind hnr h
  obtain ⟨hfx, hx⟩ := hind (i, ox) (by simp)
  simp only at hfx hx
  unfold apart at hx
  split at hx
  case h_2 => cases hx
  rename_i d1 d2 d3
  have d1 := clear_spec d1
  have d2 := clear_spec d2
  obtain ⟨chx, h⟩ := evD_cons h
  obtain ⟨vx, ex, _, sx, hk⟩ := step_agree hfx h
  obtain ⟨st1, hp1, hk1⟩ := putK_some hk
  obtain ⟨ag1, back1⟩ := past sx.cond hp1 d1
  obtain ⟨ag1', hnr1⟩ := back1 hnr
  obtain ⟨chy, h1⟩ := ih st1 (fun p hp => hind p (List.mem_cons_of_mem _ hp)) hnr1 hk1
  obtain ⟨p1, p2, p3, p4, p5, p6⟩ := put_facts hp1
  -- the box
  have hmem : pt ∈ looks all oy := by simp [looks, ho, Op.operands, tmpsOf]
  obtain ⟨k, hkp, hkP⟩ : ∃ k, st1.fr pt = .ptr k [] ∧ memb k P = true := by
   simp only [chk, hfy, hl, ho, aims] at chy
   split at chy
   ·rename_i id q; exact ⟨id, q, chy⟩
   ·cases chy
  obtain ⟨v, L, u, he1, hlk1, hF, hall⟩ := lst_run hl (fun t p x q => by rw [ho] at q; injection q with q1 q2 q3; injection q2 with q2; subst q2; exact hkp) h1
  have hkst : st.fr pt = .ptr k [] := (ag1.fr pt hmem).symm.trans hkp
  have hnk : st.h.e k ≠ some .rsv := hnr pt hmem k [] hkst
  have hik : ex ≠ none → n0 + i ≠ k := by
   intro hne q
   rcases sx.cond with z | ⟨z, _⟩
   ·exact hne z
   ·rw [q] at z; exact hnk z
  have hek : st.h.e k = some (.box v L) := by
   rw [p3] at he1
   cases ex with
   | none => exact he1
   | some e => rwa [upd1_e _ (Ne.symm (hik (by simp)))] at he1
  have hlk : st.h.lk k = false := by rw [p3, upd1_lk] at hlk1; exact hlk1
  refine ⟨by rw [chk_congr (fun t ht => ag1.fr t ht)] at chy; exact chy, ?_⟩
  rw [hall call st _ (fun t ht => (ag1.fr t ht).symm) hek hlk]
  have hchs : chk E P all ox ({ st with h := st.h.put k (.box u L) } : St).fr = true := chx
  rw [List.cons_append, evD_step hchs]
  have hshy : shy st.fr P (looks all ox) = true := by simpa only [chk, hfx] using chx
  have ag2 : AgreeS (looks all ox) st { st with h := st.h.put k (.box u L) } := by
   have oth : ∀ id, id ≠ k → (st.h.put k (.box u L)).e id = st.h.e id := fun id q => by simp [Hp.put, set1, beq_false q]
   refine ⟨fun _ _ => rfl, fun id e xs q => ?_, fun id q => ?_, fun t ht id p v' L' q1 q2 => ?_, fun id q => ?_⟩
   ·have : id ≠ k := by rintro rfl; rw [hek] at q; cases q
    exact (oth id this).trans q
   ·by_cases q' : id = k
    ·subst q'; simp [Hp.put, set1, Nat.beq_refl]
    ·show (st.h.put k (.box u L)).e id ≠ none
     rw [oth id q']; exact q
   ·have : id ≠ k := by
     rintro rfl
     have := shy_spec _ hshy t ht id p q1
     rw [hkP] at this; cases this
    exact (oth id this).trans q2
   ·by_cases q' : id = k
    ·subst q'; exact .inr ⟨u, L, by simp [Hp.put, set1, Nat.beq_refl]⟩
    ·show Boxy (st.h.put k (.box u L)) id
     unfold Boxy
     rw [oth id q']; exact q
  have cx' : ex ≠ none → (st.h.put k (.box u L)).e (n0 + i) = some .rsv ∧ (st.h.put k (.box u L)).lk (n0 + i) = false := by
   intro hne
   rcases sx.cond with z | ⟨z1, z2, _⟩
   ·exact absurd z hne
   ·refine ⟨?_, z2⟩
    have := hik hne
    simp only [Hp.put, set1, beq_false this]
    exact z1
  rw [sx.run call _ _ ag2.veil cx']
  obtain ⟨s2, hs2⟩ := put_of (st1 := ({ st with h := st.h.put k (.box u L) } : St)) (st := st) rfl rfl (h3 := upd1 (st.h.put k (.box u L)) (n0 + i) ex) hp1
  unfold putK
  rw [hs2]
  simp only
  obtain ⟨t1, t2, t3, t4, t5, t6⟩ := put_facts hs2
  have : s2 = { st1 with h := st1.h.put k (.box u L) } := by
   refine st_ext (t1.trans p1.symm) ?_ (t2.trans p2.symm) ?_
   ·cases hdx : ox.dst with
    | none => rw [t6 hdx]; exact (p6 hdx).symm
    | some t => rw [(t5 t hdx).2.2]; exact ((p5 t hdx).2.2).symm
   ·rw [t3]
    show upd1 (st.h.put k (.box u L)) (n0 + i) ex = st1.h.put k (.box u L)
    rw [p3]
    cases ex with
    | none => rfl
    | some e =>
     have := hik (by simp)
     simp only [upd1, Hp.put]
     rw [set1_comm _ this]
  rw [this]
  exact hF
end Go.PG
end
section
namespace Go.PG
open Go.RowKit
variable {Pg : Program} {G : World → Prop} {E : Env} {S : Nat → Prop} {B : Nat} {w0 w w' w'' : World} {h h' h2 : Hp} {M M' M'' : Nat → Bk} {ρ : Type} {r : ρ} {st st' st'' st1 st2 st3 : St} {a a' a'' : Act} {o : Oper}
structure Rem (L : List Bool) (ops : Array Oper) (listed : Array Bool) (rem : List (Nat × Oper)) : Prop where
 at_ : ∀ p, p ∈ rem → ops[p.1]? = some p.2
 sorted : rem.Pairwise (fun p q => keyOf L ops.size p.1 < keyOf L ops.size q.1)
 left : ∀ i, i < ops.size → (listed.getD i true = false ↔ ∃ o, (i, o) ∈ rem)
 closed : Closed ops.toList (fun i => listed.getD i false = true)
 size : listed.size = ops.size
theorem keyOf_lt {L : List Bool} {n i j : Nat} (h : i < j) (hj : j < n) (ha : Go.PG.after L i j = false) : keyOf L n i < keyOf L n j := by
 rw [after_spec] at ha
 unfold keyOf
 cases qi : lateB L i <;> cases qj : lateB L j <;> simp_all <;> omega
theorem getD_lt {l : Array Bool} {i : Nat} (h : i < l.size) (d : Bool) : l.getD i d = l[i] := by simp [Array.getD_eq_getD_getElem?, h]
theorem Rem.listed {L : List Bool} {ops : Array Oper} {listed : Array Bool} {rem : List (Nat × Oper)} (R : Rem L ops listed rem) {i : Nat} (hi : i < ops.size) : listed.getD i false = true ↔ ¬ ∃ o, (i, o) ∈ rem := by
 rw [← R.left i hi, getD_lt (by rw [R.size]; exact hi), getD_lt (by rw [R.size]; exact hi)]
 cases listed[i]'(by rw [R.size]; exact hi) <;> simp
theorem Rem.lt {L : List Bool} {ops : Array Oper} {listed : Array Bool} {rem : List (Nat × Oper)} (R : Rem L ops listed rem) {p : Nat × Oper} (hp : p ∈ rem) : p.1 < ops.size := (Array.getElem?_eq_some_iff.1 (R.at_ p hp)).1
theorem Rem.next {L : List Bool} {ops : Array Oper} {listed : Array Bool} {pre post : List (Nat × Oper)} {j : Nat} {oj : Oper} (R : Rem L ops listed (pre ++ (j, oj) :: post)) (hr : j ∈ Region.ready .any ops listed) : Rem L ops (listed.setIfInBounds j true) (pre ++ post) := by
 have hj : j < ops.size := R.lt (p := (j, oj)) (by simp)
 have hjo : ops[j]? = some oj := R.at_ (j, oj) (by simp)
 have hne : ∀ p, p ∈ pre ++ post → p.1 ≠ j := by
  intro p hp q
  have hs := R.sorted
  rw [List.pairwise_append] at hs
  obtain ⟨h1, h2, h3⟩ := hs
  rw [List.pairwise_cons] at h2
  rcases List.mem_append.1 hp with hp | hp
  ·have := h3 p hp (j, oj) (by simp)
   simp only at this
   rw [q] at this
   omega
  ·have := h2.1 p hp
   simp only at this
   rw [q] at this
   omega
 refine ⟨fun p hp => R.at_ p ?_, ?_, fun i hi => ?_, fun k ok hk hl e he hb => ?_, by rw [Array.size_setIfInBounds]; exact R.size⟩
 ·rcases List.mem_append.1 hp with hp | hp
  ·exact List.mem_append_left _ hp
  ·exact List.mem_append_right _ (List.mem_cons_of_mem _ hp)
 ·refine R.sorted.sublist ?_
  exact List.Sublist.append_left (List.sublist_cons_self _ _) _
 ·by_cases hij : i = j
  ·subst hij
   constructor
   ·intro q
    rw [getD_lt (by rw [Array.size_setIfInBounds, R.size]; exact hi)] at q
    simp at q
   ·rintro ⟨o, ho⟩
    exact absurd rfl (hne (i, o) ho)
  ·rw [getD_set_ne true (Ne.symm hij), R.left i hi]
   constructor
   ·rintro ⟨o, ho⟩
    refine ⟨o, ?_⟩
    rcases List.mem_append.1 ho with ho | ho
    ·exact List.mem_append_left _ ho
    ·rcases List.mem_cons.1 ho with q | ho
     ·injection q with q; exact absurd q hij
     ·exact List.mem_append_right _ ho
   ·rintro ⟨o, ho⟩
    refine ⟨o, ?_⟩
    rcases List.mem_append.1 ho with ho | ho
    ·exact List.mem_append_left _ ho
    ·exact List.mem_append_right _ (List.mem_cons_of_mem _ ho)
 ·by_cases hkj : k = j
  ·subst hkj
   rw [mem_ready] at hr
   obtain ⟨_, o', ho', hall⟩ := hr
   rw [Array.getElem?_toList] at hk
   rw [hk] at ho'
   injection ho' with ho'
   subst ho'
   exact getD_set_true (hall e he hb)
  ·have hl : (listed.setIfInBounds j true).getD k false = true := hl
   rw [getD_set_ne false (Ne.symm hkj)] at hl
   exact getD_set_true (R.closed k ok hk hl e he hb)
theorem anyOrder (HE : EnvOk Pg G E) (hG : G w0) {call : Handler} (HC : HandlerOk Pg G S B w0 call) {ops : Array Oper} {L : List Bool} (D : DrawOk E ops.toList L) {n0 : Nat} {P : List Nat} {K : St → Option ρ} {Q : Exit → Act → World → Prop} : ∀ (fuel : Nat) (listed : Array Bool) (rem : List (Nat × Oper)) (st : St) (a : Act) (M : Nat → Bk) (w : World),
  Rem L ops listed rem → rem.length ≤ fuel → Good S B w0 st a M w → evD E call n0 P ops.toList rem st K = some r → Then S B w0 st a M w K r (Q .normal) → wpAny Pg .any ops Q fuel listed a w := by
 have fin : ∀ (listed : Array Bool) (rem : List (Nat × Oper)) (st : St) (a : Act) (M : Nat → Bk) (w : World), Rem L ops listed rem → Good S B w0 st a M w → evD E call n0 P ops.toList rem st K = some r → Then S B w0 st a M w K r (Q .normal) → Region.ready .any ops listed = [] → Q .normal a w := by
  intro listed rem st a M w R g hr hX he
  cases rem with
  | nil => exact hX st a M w g (Stp.refl g) hr
  | cons p rem =>
   exfalso
   have hp := R.at_ p (by simp)
   have hmem : p.1 ∈ Region.ready .any ops listed := by
    rw [mem_ready]
    refine ⟨(R.left p.1 (R.lt (by simp))).2 ⟨p.2, by simp⟩, p.2, hp, fun e hem hb => ?_⟩
    obtain ⟨hlt, haf⟩ := D.edge p.1 p.2 (by rw [Array.getElem?_toList]; exact hp) e hem hb
    rw [R.listed (Nat.lt_trans hlt (R.lt (p := p) (by simp)))]
    rintro ⟨o, ho⟩
    rcases List.mem_cons.1 ho with q | q
    ·have : e.on = p.1 := by rw [← q]
     omega
    ·have := (List.pairwise_cons.1 R.sorted).1 _ q
     simp only at this
     have hk := keyOf_lt (n := ops.size) hlt (R.lt (p := p) (by simp)) haf
     omega
   rw [he] at hmem
   cases hmem
 intro fuel
 induction fuel with
 | zero =>
  intro listed rem st a M w R hl g hr hX
  have hnil : rem = [] := List.eq_nil_of_length_eq_zero (by omega)
  subst hnil
  have hready : Region.ready .any ops listed = [] := by
   cases q : Region.ready .any ops listed with
   | nil => rfl
   | cons j l =>
    have hj : j ∈ Region.ready .any ops listed := by rw [q]; simp
    rw [mem_ready] at hj
    obtain ⟨h1, o, h2, _⟩ := hj
    have := (R.left j (Array.getElem?_eq_some_iff.1 h2).1).1 h1
    simp at this
  exact ⟨hready, fin listed [] st a M w R g hr hX hready⟩
 | succ fuel ih =>
  intro listed rem st a M w R hl g hr hX
  refine ⟨fun he => fin listed rem st a M w R g hr hX he, fun j hj => ?_⟩
  have hj0 := hj
  rw [mem_ready] at hj
  obtain ⟨h1, oj, h2, h3⟩ := hj
  have hjlt := (Array.getElem?_eq_some_iff.1 h2).1
  obtain ⟨oj', hmem⟩ := (R.left j hjlt).1 h1
  have e : oj' = oj := by
   have := R.at_ (j, oj') hmem
   simp only at this
   rw [h2] at this
   injection this with this
   exact this.symm
  subst e
  obtain ⟨pre, post, rfl⟩ := List.append_of_mem hmem
  have hs := R.sorted
  rw [List.pairwise_append] at hs
  have hpre : ∀ p, p ∈ pre → p.1 ≠ j ∧ indep E ops.toList p.2 oj' = true := by
   intro p hp
   have hlt := hs.2.2 p hp (j, oj') (by simp)
   simp only at hlt
   have hpj : p.1 ≠ j := by intro q; rw [q] at hlt; omega
   have hps : p.1 < ops.size := R.lt (p := p) (List.mem_append_left _ hp)
   refine ⟨hpj, ?_⟩
   rcases D.pair p.1 j p.2 oj' (by rw [Array.getElem?_toList]; exact R.at_ p (List.mem_append_left _ hp)) (by rw [Array.getElem?_toList]; exact h2) hpj (by simpa using hlt) with q | q
   ·exfalso
    have := q (fun i => listed.getD i false = true ∨ i = j) (by
     intro k ok hk hL e he hb
     rcases hL with hL | rfl
     ·exact .inl (R.closed k ok hk hL e he hb)
     ·rw [Array.getElem?_toList, h2] at hk
      injection hk with hk
      subst hk
      exact .inl (h3 e he hb)) (.inr rfl)
    rcases this with z | z
    ·rw [R.listed hps] at z
     exact z ⟨p.2, List.mem_append_left _ hp⟩
    ·exact hpj z
   ·exact q
  have hstep : evDstep E call n0 ops.toList j oj' st (fun st' => evD E call n0 P ops.toList (pre ++ post) st' K) = some r := by
   cases hcalm : isCalm E oj' with
   | true =>
    cases hgive : isGive E oj' with
    | true =>
     refine (frontO hcalm hgive pre st (fun p hp => ?_) g.H.fresh hr).2
     have := (hpre p hp).2
     unfold indep at this
     rw [hcalm] at this
     have hfj := (calm_spec hcalm).1
     split at this
     ·rename_i q _; exact ⟨by simp only [free, q], this⟩
     ·rw [hfj] at this
      split at this
      ·rename_i q1 q2; exact ⟨q1, this⟩
      ·cases this
    | false =>
    refine (frontC hcalm pre st (fun p hp => ?_) g.H.fresh hr).2
    have := (hpre p hp).2
    unfold indep at this
    rw [hcalm] at this
    have hfj := (calm_spec hcalm).1
    split at this
    ·rename_i q _; exact ⟨q, this⟩
    ·rw [hfj] at this
     split at this
     ·rename_i q1 q2
      rw [hgive] at q2
      cases q2
     ·cases this
   | false =>
    have hfr : ∀ p, p ∈ pre → free E p.2 = true ∧ (free E oj' = true ∨ isLst E ops.toList oj' = true) ∧ apart ops.toList p.2 oj' = true := by
     intro p hp
     have := (hpre p hp).2
     unfold indep at this
     rw [hcalm] at this
     split at this
     ·rename_i q; cases q
     ·split at this
      ·rename_i q1 q2
       refine ⟨q1, ?_, this⟩
       split at q2
       ·rename_i q; exact .inl q
       ·exact .inr q2
      ·cases this
    have hnr : NoRsv (looks ops.toList oj') st := by
     intro t _ id p hp he
     have := g.F t
     rw [hp] at this
     simp only [RepV, Rep1] at this
     obtain ⟨_, q, _, z⟩ := this
     rcases z with z | ⟨b, v, L, of, u, _, z, _⟩
     ·simp only [cx] at z; rw [he] at z; cases z
     ·simp only [cx] at z; rw [he] at z; cases z
    cases hfo : free E oj' with
    | true => exact (front pre st (fun _ => hfo) (fun p hp => ⟨(hpre p hp).1, (hfr p hp).1, (hfr p hp).2.2⟩) hnr hr).2
    | false =>
     cases pre with
     | nil => exact (evD_cons hr).2
     | cons p0 pre =>
      have hl : isLst E ops.toList oj' = true := by
       rcases (hfr p0 (by simp)).2.1 with q | q
       ·rw [hfo] at q; cases q
       ·exact q
      exact (frontS hl hfo (p0 :: pre) st (fun p hp => ⟨(hfr p hp).1, (hfr p hp).2.2⟩) hnr hr).2
  refine evDstep_ok HE hG HC h2 g hstep ?_
  intro st' a' M' w' g' k' hk
  refine ih _ (pre ++ post) st' a' M' w' (R.next hj0) ?_ g' hk (hX.after k')
  simp at hl ⊢
  omega
theorem enum_mem {α : Type} : ∀ (l : List α) (i : Nat) (p : Nat × α), p ∈ enum i l → i ≤ p.1 ∧ l[p.1 - i]? = some p.2 := by
 intro l
 induction l with
 | nil => intro i p h; simp [enum] at h
 | cons x l ih =>
  intro i p h
  simp only [enum] at h
  rcases List.mem_cons.1 h with rfl | h
  ·simp
  ·obtain ⟨h1, h2⟩ := ih (i + 1) p h
   refine ⟨by omega, ?_⟩
   have : p.1 - i = (p.1 - (i + 1)) + 1 := by omega
   rw [this]
   exact h2
theorem mem_enum {α : Type} : ∀ (l : List α) (i j : Nat) (x : α), l[j]? = some x → (i + j, x) ∈ enum i l := by
 intro l
 induction l with
 | nil => intro i j x h; simp at h
 | cons y l ih =>
  intro i j x h
  simp only [enum]
  cases j with
  | zero => simp at h; subst h; simp
  | succ j =>
   have := ih (i + 1) j x (by simpa using h)
   have e : i + 1 + j = i + (j + 1) := by omega
   rw [e] at this
   exact List.mem_cons_of_mem _ this
theorem enum_sorted {α : Type} : ∀ (l : List α) (i : Nat), (enum i l).Pairwise (fun p q => p.1 < q.1) := by
 intro l
 induction l with
 | nil => intro i; exact List.Pairwise.nil
 | cons x l ih =>
  intro i
  simp only [enum]
  refine List.pairwise_cons.2 ⟨fun p hp => ?_, ih (i + 1)⟩
  have := (enum_mem l (i + 1) p hp).1
  simp only
  omega
theorem enum_length {α : Type} : ∀ (l : List α) (i : Nat), (enum i l).length = l.length := by
 intro l
 induction l with
 | nil => intro i; rfl
 | cons x l ih => intro i; simp [enum, ih]
theorem pickLate_mem {α : Type} {L : List Bool} {b : Bool} : ∀ (l : List (Nat × α)) (p : Nat × α), p ∈ pickLate L b l ↔ p ∈ l ∧ lateB L p.1 = b := by
 intro l
 induction l with
 | nil => intro p; simp [pickLate]
 | cons x l ih =>
  intro p
  simp only [pickLate]
  split
  ·rename_i q
   simp only [List.mem_cons, ih]
   constructor
   ·rintro (rfl | h)
    ·exact ⟨.inl rfl, q⟩
    ·exact ⟨.inr h.1, h.2⟩
   ·rintro ⟨rfl | h, z⟩
    ·exact .inl rfl
    ·exact .inr ⟨h, z⟩
  ·rename_i q
   simp only [List.mem_cons, ih]
   constructor
   ·rintro (rfl | h)
    ·exact ⟨.inl rfl, q⟩
    ·exact ⟨.inr h.1, h.2⟩
   ·rintro ⟨rfl | h, z⟩
    ·exact .inl rfl
    ·exact .inr ⟨h, z⟩
  ·rename_i q1 q2
   rw [ih]
   constructor
   ·rintro ⟨h, z⟩
    exact ⟨List.mem_cons_of_mem _ h, z⟩
   ·rintro ⟨h, z⟩
    rcases List.mem_cons.1 h with rfl | h
    ·exfalso
     cases hq : lateB L p.1
     ·exact q2 hq (z.symm.trans hq)
     ·exact q1 hq (z.symm.trans hq)
    ·exact ⟨h, z⟩
theorem pickLate_sub {α : Type} {L : List Bool} {b : Bool} : ∀ (l : List (Nat × α)), (pickLate L b l).Sublist l := by
 intro l
 induction l with
 | nil => exact List.Sublist.refl _
 | cons x l ih =>
  simp only [pickLate]
  split
  ·exact ih.cons_cons _
  ·exact ih.cons_cons _
  ·exact ih.cons _
theorem arrange_mem {α : Type} {L : List Bool} {l : List (Nat × α)} {p : Nat × α} : p ∈ arrange L l ↔ p ∈ l := by
 unfold arrange
 rw [List.mem_append, pickLate_mem, pickLate_mem]
 cases lateB L p.1 <;> simp
theorem arrange_length {α : Type} {L : List Bool} : ∀ (l : List (Nat × α)), (arrange L l).length = l.length := by
 intro l
 induction l with
 | nil => rfl
 | cons x l ih =>
  unfold arrange at ih ⊢
  simp only [pickLate]
  simp only [List.length_append, List.length_cons] at ih ⊢
  cases lateB L x.1 <;> simp <;> omega
theorem arrange_sorted {α : Type} {L : List Bool} {l : List α} : (arrange L (enum 0 l)).Pairwise (fun p q => keyOf L l.length p.1 < keyOf L l.length q.1) := by
 unfold arrange
 rw [List.pairwise_append]
 refine ⟨?_, ?_, fun p hp q hq => ?_⟩
 ·refine (((enum_sorted l 0).sublist (pickLate_sub _)).imp_of_mem ?_)
  intro p q hp hq h
  unfold keyOf
  rw [((pickLate_mem _ _).1 hp).2, ((pickLate_mem _ _).1 hq).2]
  simpa using h
 ·refine (((enum_sorted l 0).sublist (pickLate_sub _)).imp_of_mem ?_)
  intro p q hp hq h
  unfold keyOf
  rw [((pickLate_mem _ _).1 hp).2, ((pickLate_mem _ _).1 hq).2]
  simpa using h
 ·obtain ⟨p1, p2⟩ := (pickLate_mem _ _).1 hp
  obtain ⟨q1, q2⟩ := (pickLate_mem _ _).1 hq
  have := (enum_mem l 0 p p1).2
  have := (List.getElem?_eq_some_iff.1 this).1
  unfold keyOf
  rw [p2, q2]
  simp
  omega
theorem settle_ok {h : Hp} (H : HInv S B w0 h M w) (id : Nat) : HInv S B w0 (settle h id) M w ∧ HStp S h M w (settle h id) M w := by
 unfold settle
 split
 case h_2 => exact ⟨H, HStp.refl H⟩
 rename_i v L he hl
 split
 case h_2 => exact ⟨H, HStp.refl H⟩
 rename_i x hx hul hm
 obtain ⟨H1, k1⟩ := H.kills hul
 obtain ⟨b, cs, hh, hfit, hrep⟩ := H.ent id _ he
 have he1 : (h.kills v.owns).e id = some (.box v L) := by rw [kills_e, if_neg (memb_false hm)]; exact he
 have hl1 : (h.kills v.owns).lk id = false := by rw [kills_lk]; exact hl
 have hd := freeze_rep H hx hrep
 obtain ⟨H2, k2⟩ := H1.upd (w' := w) he1 hl1 (e' := .box (.data L x) L) (.inl ⟨v, .data L x, L, rfl, rfl⟩) (fun _ _ _ => rfl) (Nat.le_refl _) (Below.refl _ _)
  (fun k => ⟨b, cs, hh, by simp [fitsT], by simp only [RepC]; exact hd.held k.held⟩)
 exact ⟨H2, k1.trans k2⟩
theorem settles_ok (fr : Nat → AV) : ∀ (ops : List Oper) {h : Hp}, HInv S B w0 h M w → HInv S B w0 (settles fr ops h) M w ∧ HStp S h M w (settles fr ops h) M w := by
 intro ops
 induction ops with
 | nil => intro h H; exact ⟨H, HStp.refl H⟩
 | cons o r ih =>
  intro h H
  simp only [settles]
  split
  ·split
   ·obtain ⟨H1, k1⟩ := settle_ok H _
    obtain ⟨H2, k2⟩ := ih H1
    exact ⟨H2, k1.trans k2⟩
   ·exact ih H
  ·exact ih H
theorem draw_ok0 (HE : EnvOk Pg G E) (hG : G w0) {call : Handler} (HC : HandlerOk Pg G S B w0 call) {ops : Array Oper} {Q : Exit → Act → World → Prop} {id : Nat} {K : St → Option ρ} (hd : drawOk E ops.toList = true)
  (g : Good S B w0 st a M w) (hr : evDraw0 E call ops.toList st K = some r) (hX : Then S B w0 st a M w K r (Q .normal)) : (Code.region id ops true).wp Pg Q a w := by
 apply wp_region_any HE.mixed
 have hb : Below B w { w with drawn := w.drawn + 1 } := ?_
 obtain ⟨H1, k1⟩ := g.H.world (w' := { w with drawn := w.drawn + 1 }) rfl hb
 obtain ⟨H2, k2⟩ := H1.reserve ops.toList.length
 obtain ⟨ms, hms, D⟩ := drawOk_spec hd
 unfold evDraw0 at hr
 rw [hms] at hr
 simp only at hr
 have k := k1.trans k2
 have g2 : Good S B w0 { st with h := reserve st.h ops.toList.length } a (fun id => if st.h.next ≤ id then .nil else M id) { w with drawn := w.drawn + 1 } :=
  ⟨H2, fun t => RepV.tr k.tr _ _ (g.F t), g.n, g.d⟩
 have s2 : Stp S st a M w { st with h := reserve st.h ops.toList.length } a (fun id => if st.h.next ≤ id then .nil else M id) { w with drawn := w.drawn + 1 } := ⟨k, rfl, rfl, fun _ _ => rfl⟩
 refine anyOrder HE hG HC D ops.size _ (arrange _ (enum 0 ops.toList)) _ a _ _ ⟨fun p hp => ?_, by have := arrange_sorted (L := lates E ops.toList ms) (l := ops.toList); simpa using this, fun i hi => ?_, fun j o hj hl => ?_, by simp⟩ (by rw [arrange_length, enum_length]; simp) g2 hr (hX.after s2)
 ·have := (enum_mem _ _ p (arrange_mem.1 hp)).2
  simpa using this
 ·constructor
  ·intro _
   exact ⟨ops[i], arrange_mem.2 <| by have := mem_enum ops.toList 0 i ops[i] (by simp [hi]); simpa using this⟩
  ·intro _
   simp [Array.getD_eq_getD_getElem?, hi]
 ·exfalso
  have hl : (Array.replicate ops.size false).getD j false = true := hl
  rw [Array.getD_eq_getD_getElem?, Array.getElem?_replicate] at hl
  split at hl <;> simp at hl
 ·exact ⟨rfl, rfl, rfl, Nat.le_refl _, fun _ _ => rfl⟩
theorem draw_ok (HE : EnvOk Pg G E) (hG : G w0) {call : Handler} (HC : HandlerOk Pg G S B w0 call) {ops : Array Oper} {Q : Exit → Act → World → Prop} {id : Nat} {K : St → Option ρ} (hd : drawOk E ops.toList = true)
  (g : Good S B w0 st a M w) (hr : evDraw E call ops.toList st K = some r) (hX : Then S B w0 st a M w K r (Q .normal)) : (Code.region id ops true).wp Pg Q a w := by
 unfold evDraw at hr
 split at hr
 ·obtain ⟨H1, k1⟩ := settles_ok st.fr ops.toList g.H
  have g1 : Good S B w0 { st with h := settles st.fr ops.toList st.h } a M w := ⟨H1, fun t => RepV.tr k1.tr _ _ (g.F t), g.n, g.d⟩
  have s1 : Stp S st a M w { st with h := settles st.fr ops.toList st.h } a M w := ⟨k1, rfl, rfl, fun _ _ => rfl⟩
  exact draw_ok0 HE hG HC hd g1 hr (hX.after s1)
 ·exact draw_ok0 HE hG HC hd g hr hX
end Go.PG
end
section
namespace Go.PG
open Go.RowKit
variable {Pg : Program} {G : World → Prop} {E : Env} {S : Nat → Prop} {B : Nat} {w0 w w' w'' w1 : World} {h h' : Hp} {M0 M M' M'' M1 : Nat → Bk} {ρ : Type} {r : ρ} {st st' st'' b s s2 s' : St} {a a' a'' a1 : Act} {o : Oper}
theorem amb_some {α : Type} {x y : Option α} {r : α} (h : P.amb x y = some r) : x = some r ∧ y = some r := by
 unfold P.amb at h
 split at h
 ·rename_i e; exact ⟨h, by rw [← e]; exact h⟩
 ·cases h
theorem evC_ok (HE : EnvOk Pg G E) (hG : G w0) {call : Handler} (HC : HandlerOk Pg G S B w0 call) {hs : List (Nat × Hint)} : ∀ (c : Code), CodeOk Pg E S B w0 call hs c := by
 intro c
 induction c with
 | skip =>
  intro ρ st kn ke kr r a M w Q g hr hn he hk
  simp only [evC] at hr
  exact wp_skip (hn st a M w g (Stp.refl g) hr)
 | region id ops draw =>
  intro ρ st kn ke kr r a M w Q g hr hn he hk
  simp only [evC] at hr
  split at hr
  ·exact region_ok HE hG HC g hr hn
  ·split at hr
   ·rename_i hd; exact draw_ok HE hG HC hd g hr hn
   ·split at hr
    ·rename_i hd; exact draw_ok HE.veil hG HC hd g hr hn
    ·split at hr
     ·rename_i hd; exact draw_ok HE.lax hG HC hd g hr hn
     ·cases hr
 | seq x y ihx ihy =>
  intro ρ st kn ke kr r a M w Q g hr hn he hk
  simp only [evC] at hr
  apply wp_seq
  refine ihx st _ ke kr r a M w _ g hr ?_ he hk
  intro st' a' M' w' g' k' hr'
  exact ihy st' kn ke kr r a' M' w' Q g' hr' (hn.after k') (fun i => (he i).after k') (hk.after k')
 | cond c x y ihx ihy =>
  intro ρ st kn ke kr r a M w Q g hr hn he hk
  cases c with
  | tmp t =>
   simp only [evC] at hr
   split at hr
   ·rename_i v hv
    have hF := g.F t
    rw [hv] at hF
    have hF := repV_bool hF
    have hr := cond_some hr
    cases v with
    | true =>
     simp only [if_true] at hr
     rw [refine1_eq hv] at hr
     exact wp_cond_true (c := .tmp t) hF (ihx st kn ke kr r a M w Q g hr hn he hk)
    | false =>
     simp only [Bool.false_eq_true, if_false] at hr
     rw [refine1_eq hv] at hr
     exact wp_cond_false (c := .tmp t) hF (ihy st kn ke kr r a M w Q g hr hn he hk)
   ·rename_i hb
    have hF := g.F t
    rw [hb] at hF
    simp only [RepV, Rep1] at hF
    obtain ⟨b, hF⟩ := hF
    injection hF with hF
    obtain ⟨h1, h2⟩ := amb_some hr
    cases b with
    | true => exact wp_cond_true (c := .tmp t) hF (ihx st kn ke kr r a M w Q g h1 hn he hk)
    | false => exact wp_cond_false (c := .tmp t) hF (ihy st kn ke kr r a M w Q g h2 hn he hk)
   ·cases hr
  | const v =>
   cases v with
   | bool b =>
    simp only [evC] at hr
    have hr := cond_some hr
    cases b with
    | true => exact wp_cond_true (c := .const (.bool true)) rfl (ihx st kn ke kr r a M w Q g (by simpa using hr) hn he hk)
    | false => exact wp_cond_false (c := .const (.bool false)) rfl (ihy st kn ke kr r a M w Q g (by simpa using hr) hn he hk)
   | _ => simp [evC] at hr
  | _ => simp [evC] at hr
 | block id c ih =>
  intro ρ st kn ke kr r a M w Q g hr hn he hk
  simp only [evC] at hr
  apply wp_block
  refine ih st kn _ kr r a M w _ g hr hn ?_ hk
  intro i st' a' M' w' g' k' hr'
  simp only at hr'
  show Exit.inBlock id Q (.exit i) a' w'
  simp only [Exit.inBlock]
  split at hr'
  ·rename_i e
   have := Nat.eq_of_beq_eq_true e
   subst this
   simp only [if_true]
   exact hn st' a' M' w' g' k' hr'
  ·rename_i e
   have : i ≠ id := by rintro rfl; simp [Nat.beq_refl] at e
   simp only [this, if_false]
   exact he i st' a' M' w' g' k' hr'
 | loop c ih =>
  intro ρ st kn ke kr r a M w Q g hr hn he hk
  simp only [evC] at hr
  exact evLoop_ok ih g hr he hk
 | exit id =>
  intro ρ st kn ke kr r a M w Q g hr hn he hk
  simp only [evC] at hr
  exact wp_exit (he id st a M w g (Stp.refl g) hr)
 | ret =>
  intro ρ st kn ke kr r a M w Q g hr hn he hk
  simp only [evC] at hr
  exact wp_ret (hk st a M w g (Stp.refl g) hr)
 | _ =>
  intro ρ st kn ke kr r a M w Q g hr hn he hk
  simp [evC] at hr
theorem run_loadVar_ok {t : Ty} {id : TypeId} (h : Ok Pg t (.typ id)) {b o : Nat} {cs : List Value} (hm : Mem w b o cs) (hl : cs.length = t.size) :
  ∃ v, (loadVar id ⟨b, o, none⟩).run Pg w = .ok v w ∧ valOf t cs v := by
 have ha := ok_agg h w
 have hs := run_sizeOf_ok h w
 cases e : isSt t with
 | true =>
  rw [e] at ha
  refine ⟨.agg cs.toArray, ?_, .inl ⟨e, rfl⟩⟩
  have hc := run_loadCells_list (P := Pg) w ⟨b, o, none⟩ cs (fun j v hv => by rw [Addr.add_mid]; exact hm j v hv)
  rw [hl] at hc
  simp [loadVar, ha, hs, hc]
 | false =>
  rw [e] at ha
  have h1 : t.size = 1 := by
   cases t <;> first | rfl | exact h.elim | cases e
  obtain ⟨v, rfl⟩ : ∃ v, cs = [v] := List.length_eq_one_iff.1 (by omega)
  refine ⟨v, ?_, .inr ⟨e, rfl⟩⟩
  have := hm 0 v rfl
  simp at this
  simp [loadVar, ha, this]
def resRun (tmps : Array Value) : ResultVar → Sem Value
 | .tmp t => pure (tmps.getD t undef)
 | .cell a t => do loadVar t (← asAddr (tmps.getD a undef))
theorem resOf_ok (HE : EnvOk Pg G E) (g : Good S B w0 st a M w) {rv : ResultVar} {v : AV} (hr : resOf E st.h st.fr rv = some v) : ∃ u, (resRun a.tmps rv).run Pg w = .ok u w ∧ RepV (cx S st.h M w) v u := by
 cases rv with
 | tmp t =>
  simp only [resOf] at hr
  injection hr with hr
  subst hr
  exact ⟨_, by simp [resRun], g.F t⟩
 | cell x t =>
  simp only [resOf] at hr
  split at hr
  case h_2 => cases hr
  rename_i id p e
  split at hr
  case h_2 => cases hr
  rename_i v0 L he
  split at hr
  case h_2 => cases hr
  rename_i off u hoff
  split at hr
  case h_2 => cases hr
  rename_i hd
  have hty : E.ty t = some u := by simpa using hd
  have hx := g.F x
  rw [e] at hx
  simp only [RepV, Rep1] at hx
  obtain ⟨_, q, hv, hx⟩ := hx
  injection hv with hv
  rcases hx with hx | ⟨b, v1, L1, o1, u1, h1, h2, h3, h4⟩
  ·simp only [cx] at hx; rw [he] at hx; cases hx
  ·simp only [cx] at h2
   rw [he] at h2
   injection h2 with h2
   injection h2 with e1 e2
   subst e1; subst e2
   rw [hoff] at h3
   injection h3 with h3
   injection h3 with e3 e4
   subst e3; subst e4
   subst h4
   obtain ⟨b2, cs, el, k1, k2, k3, k4⟩ := ent_box g.H he (plain_of_offs hoff (HE.ty t u hty))
   simp only [cx] at h1
   rw [k1] at h1
   injection h1 with h1
   have h1 := h1.symm
   subst h1
   obtain ⟨f1, c1, d, c2, ec, hl, hd⟩ := av_get p v0 L v cs.toList off u hr hoff k3 k4
   have hm : Mem w b off d := by
    have := mem_of_heap k2
    rw [ec] at this
    have := mem_part this
    rw [hl] at this
    simpa using this
   obtain ⟨z, q1, q2⟩ := run_loadVar_ok (HE.ty t u hty) hm (fits_len v u d f1 hd)
   exact ⟨z, by simp [resRun, hv, asAddr, q1], repC_repV f1 (fun a b q => HE.noPair t a b (by rw [hty, q])) hd q2⟩
theorem ressOf_ok (HE : EnvOk Pg G E) (g : Good S B w0 st a M w) : ∀ (l : List ResultVar) (v : AV), ressOf E st.h st.fr l = some v → ∃ us, (l.mapM (resRun a.tmps)).run Pg w = .ok us w ∧ us.length = l.length ∧ RepT (cx S st.h M w) v us := by
 intro l
 induction l with
 | nil =>
  intro v hr
  simp only [ressOf] at hr
  injection hr with hr
  subst hr
  exact ⟨[], by simp, rfl, by simp only [RepT]⟩
 | cons rv l ih =>
  intro v hr
  simp only [ressOf] at hr
  split at hr
  case h_2 => cases hr
  rename_i v1 h1
  split at hr
  case h_2 => cases hr
  rename_i v2 h2
  injection hr with hr
  subst hr
  obtain ⟨u, k1, k2⟩ := resOf_ok HE g h1
  obtain ⟨us, k3, k4, k5⟩ := ih v2 h2
  exact ⟨u :: us, by simp [List.mapM_cons, k1, k3], by simp [k4], by simp only [RepT]; exact ⟨u, us, rfl, k2, k5⟩⟩
theorem results_run (fn : Func) (tmps : Array Value) : results fn tmps = (do let vs ← fn.results.mapM (resRun tmps); pure (if h : vs.size = 1 then vs[0] else .tuple vs)) := by
 unfold results
 congr 1
theorem resultAV_ok (HE : EnvOk Pg G E) (g : Good S B w0 st a M w) {fn : Func} {v : AV} (hr : resultAV E st.h st.fr fn.results.toList = some v) : ∃ u, (results fn a.tmps).run Pg w = .ok u w ∧ RepV (cx S st.h M w) v u := by
 rw [results_run]
 have hrs : fn.results = fn.results.toList.toArray := by simp
 rw [hrs, List.mapM_toArray]
 generalize fn.results.toList = l at hr
 match l, hr with
 | [rv], hr =>
  simp only [resultAV] at hr
  obtain ⟨u, k1, k2⟩ := resOf_ok HE g hr
  exact ⟨u, by simp [List.mapM_cons, k1], k2⟩
 | [], hr =>
  simp only [resultAV] at hr
  split at hr
  case h_2 => cases hr
  rename_i v1 h1
  injection hr with hr
  subst hr
  obtain ⟨us, k3, k4, k5⟩ := ressOf_ok HE g _ v1 h1
  refine ⟨.tuple us.toArray, ?_, by simp only [RepV]; exact ⟨us.toArray, rfl, by simpa using k5⟩⟩
  have : us = [] := List.eq_nil_of_length_eq_zero k4
  subst this
  simp
 | x :: y :: l, hr =>
  simp only [resultAV] at hr
  split at hr
  case h_2 => cases hr
  rename_i v1 h1
  injection hr with hr
  subst hr
  obtain ⟨us, k3, k4, k5⟩ := ressOf_ok HE g _ v1 h1
  refine ⟨.tuple us.toArray, ?_, by simp only [RepV]; exact ⟨us.toArray, rfl, by simpa using k5⟩⟩
  have hne : us.length ≠ 1 := by simp at k4; omega
  simp only [Sem.run_bind, Sem.run_map, k3]
  simp [hne]
theorem argsFr_rep {c : Cx} : ∀ (args : List AV) (vals : List Value), Reps c args vals → ∀ t u, vals[t]? = some u → RepV c (argsFr args t) u := by
 intro args
 induction args with
 | nil => intro vals h t u hu; simp only [argsFr, RepV]
 | cons x args ih =>
  intro vals h t u hu
  obtain ⟨v, vs, rfl, h1, h2⟩ := reps_cons h
  cases t with
  | zero => simp at hu; subst hu; exact h1
  | succ t => exact ih vs h2 t u (by simpa using hu)
theorem argsFr_none : ∀ (args : List AV) (t : Nat), args.length ≤ t → argsFr args t = .undef := by
 intro args
 induction args with
 | nil => intro t _; rfl
 | cons x args ih =>
  intro t ht
  cases t with
  | zero => simp at ht
  | succ t => exact ih t (by simpa using ht)
theorem evBody_ok (HE : EnvOk Pg G E) (hG : G w0) {call : Handler} (HC : HandlerOk Pg G S B w0 call) {fn : Func} {f : FuncId} (hf : Pg.funcs[f]? = some fn) {hs : List (Nat × Hint)} {args : List AV} {vals : Array Value} {K : AV → Hp → Option ρ}
  (H : HInv S B w0 h M w) (ha : Reps (cx S h M w) args vals.toList) (hr : evBody E call fn hs args h K = some r) : Calls Pg f vals w fun e w' => ∃ v, e = .returned v ∧ Post K r S B w0 h M w v w' := by
 unfold evBody at hr
 split at hr
 ·cases hr
 rename_i c hc
 simp only at hr
 refine calls_of_wp hf hc ?_
 have hlen : args.length = vals.size := by simpa using ha.1
 have g : Good S B w0 { n := fn.ntmps, fr := argsFr args, ro := fun _ => false, h := h } { tmps := vals ++ Array.replicate (fn.ntmps - vals.size) undef, defers := [] } M w := by
  refine ⟨H, fun t => ?_, by simp only [Array.size_append, Array.size_replicate]; omega, rfl⟩
  rcases Nat.lt_or_ge t vals.size with q | q
  ·have e1 : (vals ++ Array.replicate (fn.ntmps - vals.size) undef).getD t undef = vals[t] := by
    rw [Array.getD_eq_getD_getElem?, Array.getElem?_append_left q]
    simp [q]
   simp only [e1]
   exact argsFr_rep args vals.toList ha t _ (by simp [q])
  ·simp only [argsFr_none args t (by omega), RepV]
 refine evC_ok HE hG HC c _ _ _ _ r _ M w _ g hr ?_ ?_ ?_
 ·intro st' a' M' w' g' k' hk
  simp only at hk
  split at hk
  ·rename_i v hv
   obtain ⟨u, q1, q2⟩ := resultAV_ok HE g' hv
   exact ⟨g'.d, u, q1, u, rfl, v, st'.h, M', hk, g'.H, k'.k, q2⟩
  ·cases hk
 ·intro i st' a' M' w' g' k' hk
  cases hk
 ·intro st' a' M' w' g' k' hk
  simp only at hk
  split at hk
  ·rename_i v hv
   obtain ⟨u, q1, q2⟩ := resultAV_ok HE g' hv
   exact ⟨g'.d, u, q1, u, rfl, v, st'.h, M', hk, g'.H, k'.k, q2⟩
  ·cases hk
theorem evCall_ok (HE : EnvOk Pg G E) (hG : G w0) : ∀ n, HandlerOk Pg G S B w0 (evCall E n) := by
 intro n
 induction n with
 | zero => intro ρ f args h K r M w vals hr; simp [evCall] at hr
 | succ n ih =>
  intro ρ f args h K r M w vals hr H _ ha
  simp only [evCall] at hr
  split at hr
  case h_2 => cases hr
  rename_i fn hs hl
  obtain ⟨h1, h2⟩ := HE.codes f fn hs hl
  refine ⟨by rw [h1]; simpa using h2, ?_⟩
  exact evBody_ok HE hG ih h1 H ⟨by simpa using ha.1, fun i x v hx hv => ha.2 i x v hx (by simpa using hv)⟩ hr
theorem argRep_reps {Z : Nat → Prop} {c : Cx} {w : World} (hZ : ∀ b, b < w.heap.size → ¬ Z b → ¬ c.Z b) (hw : c.w = w) : ∀ (t : Ty) (x : t.D) (vals : List Value), RepT (cz Z w) (argAV t x) vals → Reps c (argList t x) vals := by
 have one : ∀ (t : Ty) (x : t.D) (vals : List Value), RepT (cz Z w) (.data t x) vals → Reps c [.data t x] vals := by
  intro t x vals h
  rw [repT_data] at h
  obtain ⟨v, rfl, h⟩ := h
  refine ⟨rfl, fun i a u ha hu => ?_⟩
  cases i with
  | succ i => simp at ha
  | zero =>
   simp at ha hu
   subst ha; subst hu
   simp only [RepV]
   have hk : Held (cz Z w).Z c.Z (cz Z w).w c.w := by
    rw [hw]
    exact fun b hb hz => ⟨hZ b hb (fun z => hz ((cz_Z Z w b).2 z)), rfl⟩
   rcases h with ⟨e, cs, rfl, h⟩ | ⟨e, h⟩
   ·exact .inl ⟨e, cs, rfl, h.held hk⟩
   ·exact .inr ⟨e, h.held hk⟩
 intro t
 induction t with
 | unit => intro x vals h; simp only [argAV, RepT] at h; subst h; exact ⟨rfl, by simp [argList]⟩
 | pair p q ihp ihq =>
  intro x vals h
  simp only [argAV, RepT] at h
  obtain ⟨v, vs, rfl, h1, h2⟩ := h
  have k1 := one p x.1 [v] (by rw [repT_data]; exact ⟨v, rfl, repV_data h1⟩)
  have k2 := ihq x.2 vs h2
  have := reps_append k1 k2
  simpa [argList] using this
 | bool => intro x vals h; exact one _ x vals h
 | str => intro x vals h; exact one _ x vals h
 | opq => intro x vals h; exact one _ x vals h
 | int k => intro x vals h; exact one _ x vals h
 | slice e ih => intro x vals h; exact one _ x vals h
 | map _ _ _ _ => intro x vals h; exact one _ x vals h
 | dmap _ _ _ _ => intro x vals h; exact one _ x vals h
 | slf => intro x vals h; exact one _ x vals h
 | bld _ _ => intro x vals h; exact one _ x vals h
 | st b ih => intro x vals h; exact one _ x vals h
theorem all_get {α β : Type} : ∀ {l : List (α × Option (List β))} {ys : List (List β)}, P.dall l = some ys → l.length = ys.length ∧ ∀ (i : Nat) (y : List β), ys[i]? = some y → ∃ p : α × Option (List β), l[i]? = some p ∧ p.2 = some y := by
 intro l
 induction l with
 | nil => intro ys h; simp only [P.dall, Option.some.injEq] at h; subst h; simp
 | cons p l ih =>
  intro ys h
  simp only [P.dall] at h
  split at h
  case h_2 => cases h
  rename_i y zs h1 h2
  injection h with h
  subst h
  obtain ⟨q1, q2⟩ := ih h2
  refine ⟨by simp [q1], fun i y' hy => ?_⟩
  cases i with
  | zero => simp only [List.getElem?_cons_zero, Option.some.injEq] at hy; subst hy; exact ⟨p, rfl, h1⟩
  | succ i => simp only [List.getElem?_cons_succ] at hy ⊢; exact q2 i y' hy
theorem toL_deep (H : HInv S B w0 h M w) {Z : Nat → Prop} (hZ : ∀ b, Z b → (cx S h M w).Z b) (hown : ∀ id b, h.e id ≠ none → (M id).has b → ¬ Z b) {id : Nat} {e : Ty} {xs : (drow e).D} (hxs : rowsOf e h id = some xs) {ys : List (List e.D)} (hys : P.dall xs = some ys)
  {u : Value} (hr : RepV (cx S h M w) (.dref id) u) : RepD Z w (.slice (.slice e)) ys [u] := by
 obtain ⟨A, n, cap, ex, b, ts, ex0, rfl, hM, he, d⟩ := dref_spec H hxs hr
 obtain ⟨hl, hget⟩ := all_get hys
 have hn : n = List.length ys := (d.len.trans d.rep.1).trans hl
 have hid : h.e id ≠ none := by rw [he]; simp
 have hnz : ∀ c, ex c → c < w.heap.size ∧ ¬ Z c := fun c hc => ⟨blk_lt H hid (by rw [hM]; exact rows_has.2 hc), hown id c hid (by rw [hM]; exact rows_has.2 hc)⟩
 simp only [RepD]
 refine ⟨A, cap, by rw [hn], by rw [← hn]; exact d.le, ?_⟩
 rcases d.own with ⟨h0, _⟩ | ⟨h0, o, arr, el, rfl, h2, h3, h4, h5⟩
 ·left
  have := d.le
  exact List.eq_nil_of_length_eq_zero (by omega)
 ·right
  obtain ⟨z1, z2⟩ := hnz b ((h5 b).2 (.inl rfl))
  refine ⟨b, o, rfl, z1, z2, fun i y hy => ?_⟩
  obtain ⟨p, hp, hp2⟩ := hget i y hy
  obtain ⟨t, t1, t2, t3, t4⟩ := d.rep.2 i p hp
  obtain ⟨rows, r1, r2, r3⟩ := t4 y hp2
  obtain ⟨A0, cap0, hv, hle, hcap⟩ := d.dm.row i t t1 rows r1
  refine ⟨[t.1.val], ⟨A0, cap0, by rw [hv, r2], by rw [← r2]; exact hle, ?_⟩, fun j v hv => ?_⟩
  ·rcases hcap with q | ⟨q, b2, o2, cs, el2, rfl, q1, q2, q3⟩
   ·left
    exact List.eq_nil_of_length_eq_zero (by omega)
   ·right
    have hb2 : ex0 b2 := (d.dm.ex b2).2 ⟨i, t, t1, by
     rw [DEnt.blk, r1, hv]
     cases cap0 with
     | zero => exact absurd rfl q
     | succ n => rfl⟩
    obtain ⟨z3, z4⟩ := hnz b2 ((h5 b2).2 (.inr hb2))
    refine ⟨b2, o2, rfl, z3, z4, fun j x hx => ?_⟩
    obtain ⟨dd, d1, d2⟩ := r3 j x hx
    exact ⟨dd, d2.held (Held.of_le w hZ), q3 j dd d1⟩
  ·cases j with
   | zero =>
    simp only [List.getElem?_cons_zero, Option.some.injEq] at hv
    subst hv
    simp only [World.cell?, h2, Option.isSome_none, Bool.false_eq_true, if_false, Nat.add_zero, Ty.size, Nat.mul_one]
    exact h4 i t t1
   | succ j => simp at hv
theorem tres_at {e t : Ty} {b : Bool} {n : Int} {l : (tieL e t).D} {ys : List e.D} {d : List e.D × t.D} {i : Nat} {p : (List e.D × t.D) × Option (List e.D)} (hp : l[i]? = some p) : (P.tres b n l ys d)[i]? = some (if b = true ∧ (i : Int) = n then (ys, p.1.2) else p.1) := by
 have hm : (l.map fun p => p.1)[i]? = some p.1 := by rw [List.getElem?_map, hp]; rfl
 have hi := (List.getElem?_eq_some_iff.1 hp).1
 unfold P.tres
 cases b with
 | false => rw [if_neg (by simp)]; exact hm
 | true =>
  cases q : P.ile 0 n with
  | false =>
   have : ¬ 0 ≤ n := by simpa [P.ile_def] using q
   rw [if_neg (by rintro ⟨_, z⟩; omega)]
   exact hm
  | true =>
   have h0 : 0 ≤ n := by simpa [P.ile_def] using q
   show ((l.map fun p => p.1).set n.toNat (ys, (P.tget l n d).2))[i]? = _
   rw [List.getElem?_set]
   by_cases z : n.toNat = i
   ·rw [if_pos z, if_pos (by rw [List.length_map]; omega), if_pos ⟨rfl, by omega⟩, tget_some hp z]
   ·rw [if_neg z, if_neg (by rintro ⟨_, z2⟩; omega)]
    exact hm
theorem tres_len {e t : Ty} (b : Bool) (n : Int) (l : (tieL e t).D) (ys : List e.D) (d : List e.D × t.D) : (P.tres b n l ys d).length = l.length := by
 unfold P.tres
 cases b with
 | false => simp
 | true => cases P.ile 0 n <;> simp
theorem toL_tie (H : HInv S B w0 h M w) {Z : Nat → Prop} (hZ : ∀ b, Z b → (cx S h M w).Z b) (hown : ∀ id b, h.e id ≠ none → (M id).has b → ¬ Z b) {id : Nat} {e t : Ty} {v : AV} {n : Int} {b : Bool} {l : (tieL e t).D} (hx : tieOf e t h id = some (v, n, b, l)) {ys : List e.D} (hys : toD h v (.slice e) = some ys) (z0 : List e.D × t.D)
  {u : Value} (hr : RepV (cx S h M w) (.dref id) u) : RepD Z w (.slice (eO e t)) (P.tres b n l ys z0) [u] := by
 obtain ⟨he, hf, A, m, cap, ex, bk, hd, gs, hM, r1, d⟩ := tie_of H hx
 simp only [RepV, Rep1] at hr
 obtain ⟨_, A', m', cap', hc, hr⟩ := hr
 injection hc with hc
 rcases hr with hr | ⟨ex', hM'⟩
 ·simp only [cx] at hr; rw [he] at hr; cases hr
 simp only [cx] at hM'
 rw [hM] at hM'
 injection hM' with q1 q2 q3 q4
 subst q1; subst q2; subst q3; subst q4; subst hc
 have hlen : gs.length = l.length := by have := d.rep.1; simpa using this
 have hl := d.len
 have htl : (P.tres b n l ys z0).length = m := by rw [tres_len]; omega
 have hid : h.e id ≠ none := by rw [he]; simp
 have hgoal : ∃ (A2 : Option Addr) (cap2 : Nat), [Value.slice A m cap] = [Value.slice A2 (P.tres b n l ys z0).length cap2] ∧ (P.tres b n l ys z0).length ≤ cap2 ∧ ((P.tres b n l ys z0) = [] ∨ ∃ b2 o2, A2 = some ⟨b2, o2, none⟩ ∧ b2 < w.heap.size ∧ ¬ Z b2 ∧ ∀ (i : Nat) (x : List e.D × t.D), (P.tres b n l ys z0)[i]? = some x → ∃ c, RepD Z w (eO e t) x c ∧ Mem w b2 (o2 + i * (eO e t).size) c) := by
  refine ⟨A, cap, by rw [htl], by rw [htl]; exact d.le, ?_⟩
  rcases d.own with ⟨h0, _⟩ | ⟨h0, o, arr, el, rfl, h2, h3, h4, _⟩
  ·left
   have := d.le
   exact List.eq_nil_of_length_eq_zero (by omega)
  ·right
   refine ⟨bk, o, rfl, blk_lt H hid (by rw [hM]; exact rows_has.2 ((h4 bk).2 rfl)), hown id bk hid (by rw [hM]; exact rows_has.2 ((h4 bk).2 rfl)), fun i y hy => ?_⟩
   have hi : i < m := by
    have := (List.getElem?_eq_some_iff.1 hy).1
    omega
   obtain ⟨p, c0, rest, o', arr', el', g1, g2, g3, g4, g5, hA, _, _, _, hm⟩ := d.at hi
   injection hA with hA
   injection hA with _ hA
   subst hA
   rw [tres_at g1] at hy
   injection hy with hy
   have le := Held.of_le w hZ
   by_cases q : b = true ∧ (i : Int) = n
   ·rw [if_pos q] at hy hm
    subst hy
    refine ⟨hd :: rest, ?_, hm⟩
    have k1 := toD_rep H hZ v (.slice e) ys [hd] (fun id _ b => hown id b) hys r1
    have k2 := g4.held le
    simp only [RepD] at k1 ⊢
    exact ⟨[hd], rest, rfl, k1, k2⟩
   ·rw [if_neg q] at hy hm
    subst hy
    refine ⟨c0 :: rest, ?_, hm⟩
    have k1 := g3.held le
    have k2 := g4.held le
    simp only [RepD] at k1 ⊢
    exact ⟨[c0], rest, rfl, k1, k2⟩
 simp only [RepD]
 simpa only [RepD] using hgoal
theorem toL_C (H : HInv S B w0 h M w) {Z : Nat → Prop} (hZ : ∀ b, Z b → (cx S h M w).Z b) (hown : ∀ id b, h.e id ≠ none → (M id).has b → ¬ Z b) : ∀ (v : AV) (t : Ty) {ρ : Type} (K : t.D → Option ρ) (r : ρ), toL h v t K = some r → ∃ x, K x = some r ∧ ∀ cs, RepC (cx S h M w) v cs → RepD Z w t x cs := by
 have base : ∀ (v : AV) (t : Ty) {ρ : Type} (K : t.D → Option ρ) (r : ρ), (match toD h v t with | some x => K x | none => none) = some r → ∃ x, K x = some r ∧ ∀ cs, RepC (cx S h M w) v cs → RepD Z w t x cs := by
  intro v t ρ K r hr
  split at hr
  case h_2 => cases hr
  rename_i x hx
  exact ⟨x, hr, fun cs hcs => toD_rep H hZ v t x cs (fun id _ b => hown id b) hx hcs⟩
 intro v
 induction v with
 | dref id =>
  intro t ρ K r hr
  unfold toL at hr
  split at hr
  ·rename_i id2 e K2 hq
   injection hq with hq
   subst hq
   split at hr
   case h_2 => cases hr
   rename_i xs hxs
   obtain ⟨ys, hys, hr⟩ := bind_some hr
   refine ⟨ys, hr, fun cs hcs => ?_⟩
   simp only [RepC] at hcs
   obtain ⟨u, rfl, _⟩ := hcs.one
   exact toL_deep H hZ hown hxs hys (by simp only [RepV]; exact hcs)
  ·rename_i id2 e t K2 hq
   injection hq with hq
   subst hq
   split at hr
   case h_2 => cases hr
   rename_i v n b l hx
   split at hr
   case h_2 => cases hr
   rename_i ys hys
   refine ⟨_, hr, fun cs hcs => ?_⟩
   simp only [RepC] at hcs
   obtain ⟨u, rfl, _⟩ := hcs.one
   exact toL_tie H hZ hown hx hys _ (by simp only [RepV]; exact hcs)
  ·rename_i q; cases q
  ·rename_i q; cases q
  ·exact base _ _ _ _ hr
 | st b ih =>
  intro t ρ K r hr
  cases t with
  | st tb =>
   simp only [toL] at hr
   obtain ⟨x, h1, h2⟩ := ih tb K r hr
   exact ⟨x, h1, fun cs hcs => by simp only [RepC] at hcs; simp only [RepD]; exact h2 cs hcs⟩
  | _ => simp only [toL] at hr; exact base _ _ _ _ hr
 | pr a b iha ihb =>
  intro t ρ K r hr
  cases t with
  | pair ta tb =>
   simp only [toL] at hr
   obtain ⟨x, h1, h2⟩ := iha ta _ r hr
   obtain ⟨y, h3, h4⟩ := ihb tb _ r h1
   exact ⟨(x, y), h3, fun cs hcs => by
    simp only [RepC] at hcs
    obtain ⟨c1, c2, rfl, g1, g2⟩ := hcs
    simp only [RepD]
    exact ⟨c1, c2, rfl, h2 c1 g1, h4 c2 g2⟩⟩
  | _ => simp only [toL] at hr; exact base _ _ _ _ hr
 | _ => intro t ρ K r hr; simp only [toL] at hr; exact base _ _ _ _ hr
theorem toL_V (H : HInv S B w0 h M w) {Z : Nat → Prop} (hZ : ∀ b, Z b → (cx S h M w).Z b) (hown : ∀ id b, h.e id ≠ none → (M id).has b → ¬ Z b) {v : AV} {t : Ty} {ρ : Type} {K : t.D → Option ρ} {r : ρ} (hr : toL h v t K = some r) :
  ∃ x, K x = some r ∧ ∀ u, RepV (cx S h M w) v u → (isSt t = true ∧ ∃ cs, u = .agg cs ∧ RepD Z w t x cs.toList) ∨ (isSt t = false ∧ RepD Z w t x [u]) := by
 have base : (match toD h v t with | some x => K x | none => none) = some r → ∃ x, K x = some r ∧ ∀ u, RepV (cx S h M w) v u → (isSt t = true ∧ ∃ cs, u = .agg cs ∧ RepD Z w t x cs.toList) ∨ (isSt t = false ∧ RepD Z w t x [u]) := by
  intro hr
  split at hr
  case h_2 => cases hr
  rename_i x hx
  exact ⟨x, hr, fun u hu => toD_V H hZ (fun id _ b => hown id b) hx hu⟩
 cases v with
 | dref id =>
  unfold toL at hr
  split at hr
  ·rename_i id2 e K2 hq
   injection hq with hq
   subst hq
   split at hr
   case h_2 => cases hr
   rename_i xs hxs
   obtain ⟨ys, hys, hr⟩ := bind_some hr
   exact ⟨ys, hr, fun u hu => .inr ⟨rfl, toL_deep H hZ hown hxs hys hu⟩⟩
  ·rename_i id2 e t K2 hq
   injection hq with hq
   subst hq
   split at hr
   case h_2 => cases hr
   rename_i v n b l hx
   split at hr
   case h_2 => cases hr
   rename_i ys hys
   exact ⟨_, hr, fun u hu => .inr ⟨rfl, toL_tie H hZ hown hx hys _ hu⟩⟩
  ·rename_i q; cases q
  ·rename_i q; cases q
  ·exact base hr
 | st b =>
  cases t with
  | st tb =>
   simp only [toL] at hr
   obtain ⟨x, h1, h2⟩ := toL_C H hZ hown b tb K r hr
   refine ⟨x, h1, fun u hu => .inl ⟨rfl, ?_⟩⟩
   simp only [RepV] at hu
   obtain ⟨cs, rfl, hu⟩ := hu
   exact ⟨cs, rfl, by simp only [RepD]; exact h2 _ hu⟩
  | _ => simp only [toL] at hr; exact base hr
 | pr a b =>
  cases t with
  | pair ta tb =>
   obtain ⟨x, h1, _⟩ := toL_C H hZ hown (.pr a b) (.pair ta tb) K r hr
   exact ⟨x, h1, fun u hu => by simp only [RepV] at hu⟩
  | _ => simp only [toL] at hr; exact base hr
 | _ => simp only [toL] at hr; exact base hr
theorem chain_rep (H : HInv S B w0 h M w) {Z : Nat → Prop} (hZ : ∀ b, Z b → (cx S h M w).Z b) (hown : ∀ id b, h.e id ≠ none → (M id).has b → ¬ Z b) : ∀ (v : AV) (t : Ty) {ρ : Type} (K : t.D → Option ρ) (r : ρ), toChain h v t K = some r → ∃ x, K x = some r ∧ ∀ vs, RepT (cx S h M w) v vs → RepT (cz Z w) (spread t x) vs := by
 intro v
 induction v with
 | pr p q _ ihq =>
  intro t ρ K r hr
  have leaf : ∀ (t : Ty) {ρ : Type} (K : t.D → Option ρ) (r : ρ), q = .unit → toL h p t K = some r → ∃ x, K x = some r ∧ ∀ vs, RepT (cx S h M w) (.pr p q) vs → RepT (cz Z w) (.data t x) vs := by
   rintro t ρ K r rfl hr
   obtain ⟨x, h1, h2⟩ := toL_V H hZ hown hr
   refine ⟨x, h1, fun vs hvs => ?_⟩
   simp only [RepT] at hvs
   obtain ⟨u, us, rfl, g1, g2⟩ := hvs
   subst g2
   rw [repT_data]
   refine ⟨u, rfl, ?_⟩
   rw [cz_Zeq]
   exact h2 u g1
  cases t with
  | pair ta tr =>
   simp only [toChain] at hr
   obtain ⟨x1, h1, h2⟩ := toL_V H hZ hown hr
   obtain ⟨x2, h3, h4⟩ := ihq tr _ r h1
   refine ⟨(x1, x2), h3, fun vs hvs => ?_⟩
   simp only [RepT] at hvs
   obtain ⟨u, us, rfl, g1, g2⟩ := hvs
   simp only [spread, RepT, RepV]
   rw [cz_Zeq]
   exact ⟨u, us, rfl, h2 u g1, h4 us g2⟩
  | unit => simp [toChain] at hr
  | _ =>
   cases q with
   | unit => exact leaf _ K r rfl (by simpa only [toChain] using hr)
   | _ => simp [toChain] at hr
 | _ => intro t ρ K r hr; cases t <;> simp [toChain] at hr
theorem fn_spec (HE : EnvOk Pg G E) {n : Nat} {fn : Func} {f : FuncId} {hs : List (Nat × Hint)} {t u : Ty} (hf : Pg.funcs[f]? = some fn) {F : t.D → Option u.D} (hF : ∀ x, F x = evFn E n fn hs t u x) : SpecOk Pg G f ⟨t, u, F⟩ := by
 intro Z w vals x res hG hlt hx hargs
 simp only at x res hx hargs
 rw [hF] at hx
 have H : HInv Z w.heap.size w h0 (fun _ => .nil) w := by
  refine ⟨fun id e he => ?_, fun _ _ => rfl, fun i j b hi => ?_, fun i b hi => ?_, Below.refl _ _, Nat.le_refl _, hlt, rfl⟩
  ·simp [h0] at he
  ·simp [h0] at hi
  ·simp [h0] at hi
 have hcZ : ∀ b, (cx Z h0 (fun _ => .nil) w).Z b → Z b := by
  rintro b (z | ⟨id, e, q1, _⟩)
  ·exact z
  ·simp [cx, h0] at q1
 have ha : Reps (cx Z h0 (fun _ => .nil) w) (argList t x) vals.toList := argRep_reps (Z := Z) (w := w) (fun b _ hz z => hz (hcZ b z)) rfl t x vals.toList hargs
 refine (evBody_ok HE hG (evCall_ok HE hG n) hf H ha hx).mono fun e w' ⟨v, he, av, h', M', hk, H', k', hv⟩ => ⟨v, he, H'.bel, ?_⟩
 have hZ : ∀ b, Z b → (cx Z h' M' w').Z b := fun b z => .inl z
 have hown : ∀ id b, h'.e id ≠ none → (M' id).has b → ¬ Z b := fun id b hl hb z => by
  have := H'.own id b hl hb
  have := hlt b z
  omega
 have leaf : ∀ (t : Ty) (y : t.D), toL h' av t some = some y → (∀ p q, t ≠ .pair p q) → t ≠ .unit → RepV (cz Z w') (resAV t y) v := by
  intro t y hy hp hu
  obtain ⟨y', h1, h2⟩ := toL_V H' hZ hown hy
  injection h1 with h1
  subst h1
  have := h2 v hv
  have e : resAV t y' = .data t y' := by
   cases t with
   | pair p q => exact absurd rfl (hp p q)
   | unit => exact absurd rfl hu
   | _ => rfl
  rw [e]
  simp only [RepV]
  rw [cz_Zeq]
  exact this
 cases u with
 | pair p q =>
  cases av with
  | tup b =>
   simp only [toRes] at hk
   simp only [RepV] at hv
   obtain ⟨vs, rfl, hT⟩ := hv
   simp only [resAV, RepV]
   obtain ⟨y, h1, h2⟩ := chain_rep H' hZ hown b (.pair p q) some res hk
   injection h1 with h1
   subst h1
   exact ⟨vs, rfl, h2 vs.toList hT⟩
  | _ => simp [toRes] at hk
 | unit =>
  cases av with
  | tup b =>
   cases b with
   | unit =>
    simp only [RepV, RepT] at hv
    simp only [resAV, RepV, RepT]
    exact hv
   | _ => simp [toRes] at hk
  | _ => simp [toRes] at hk
 | _ => exact leaf _ res (by simpa only [toRes] using hk) (by simp) (by simp)
end Go.PG
end
section
namespace Go.PG
open Go.RowKit
variable {P : Program}
def infoB (P : Program) (t : TypeId) (n : Nat) (z : Value → Bool) : Bool := match P.info? t with
 | some i => match Nat.beq i.size n with
  | true => match i.zero with
   | some v => z v
   | none => false
  | false => false
 | none => false
theorem infoB_spec {t : TypeId} {n : Nat} {z : Value → Bool} (h : infoB P t n z = true) : ∃ v, Info P t n v ∧ z v = true := by
 unfold infoB at h
 split at h
 case h_2 => cases h
 rename_i i hi
 split at h
 case h_2 => cases h
 rename_i hs
 split at h
 case h_2 => cases h
 rename_i v hv
 exact ⟨v, ⟨i, hi, Nat.eq_of_beq_eq_true hs, hv⟩, h⟩
def liftB (q : TypeId → Bool) : Mode → Bool
 | .typ t => q t
 | .flds [f] o => match Nat.beq f.offset o with
  | true => match decide (f.name = "_") with
   | true => false
   | false => q f.type
  | false => false
 | .arr 1 e => q e
 | _ => false
theorem liftB_spec {q : TypeId → Bool} {Q : TypeId → Prop} (hq : ∀ t, q t = true → Q t) : ∀ {m : Mode}, liftB q m = true → lift Q m
 | .typ t, h => hq t h
 | .flds [f] o, h => by
  simp only [liftB] at h
  split at h
  case h_2 => cases h
  rename_i h1
  split at h
  ·cases h
  ·rename_i h2
   exact ⟨Nat.eq_of_beq_eq_true h1, by simpa using h2, hq _ h⟩
 | .flds [] o, h => by simp [liftB] at h
 | .flds (f :: g :: l) o, h => by simp [liftB] at h
 | .arr 0 e, h => by simp [liftB] at h
 | .arr 1 e, h => hq e h
 | .arr (n + 2) e, h => by simp [liftB] at h
def slfOkB (P : Program) (t : TypeId) : Bool := match P.underlying t with
 | some (.struct _) => infoB P t 8 fun v => match v with
  | .agg zs => match zeroRun slfB zs.toList with
   | some [] => true
   | _ => false
  | _ => false
 | _ => false
theorem slfOkB_spec {P : Program} {t : TypeId} (h : slfOkB P t = true) : SlfOk P t := by
 unfold slfOkB at h
 split at h
 ·rename_i fs hu
  obtain ⟨v, hv, hz⟩ := infoB_spec h
  split at hz
  ·rename_i zs
   split at hz
   ·rename_i hzr
    exact ⟨⟨fs, hu⟩, zs, hv, hzr⟩
   ·cases hz
  ·cases hz
 ·cases h
def okB (P : Program) : Ty → Mode → Bool
 | .slf, _ => false
 | .unit, _ => false
 | .map _ _, _ => false
 | .dmap _ _, _ => false
 | .bld _ _, _ => false
 | .bool, m => liftB (fun t => match P.underlying t with
  | some .bool => infoB P t 1 fun v => match v with
   | .bool false => true
   | _ => false
  | _ => false) m
 | .int k, m => liftB (fun t => match P.underlying t with
  | some (.int k') => match decide (k' = k) with
   | true => infoB P t 1 fun v => match v with
    | .int k2 n => match decide (k2 = k) with
     | true => decide (n = 0)
     | false => false
    | _ => false
   | false => false
  | _ => false) m
 | .str, m => liftB (fun t => match P.underlying t with
  | some .string => infoB P t 1 fun v => match v with
   | .string s => Nat.beq s.data.size 0
   | _ => false
  | _ => false) m
 | .slice e, m => liftB (fun t => match P.underlying t with
  | some (.slice e') => match okB P e (.typ e') || (decide (e = .slf) && slfOkB P e') with
   | true => infoB P t 1 fun v => match v with
    | .slice none 0 0 => true
    | _ => false
   | false => false
  | _ => false) m
 | .opq, m => liftB (fun t => match P.underlying t with
  | some d => match d.isRow with
   | false => infoB P t 1 fun v => v.oneCell'
   | true => false
  | none => false) m
 | .st b, m => liftB (fun t => match (match P.underlying t with
   | some (.struct fs) => okB P b (.flds fs.toList 0)
   | some (.array n e) => okB P b (.arr n e)
   | _ => false) with
  | true => infoB P t b.size fun v => match v with
   | .agg zs => match zeroRun b zs.toList with
    | some [] => true
    | _ => false
   | _ => false
  | false => false) m
 | .pair a r, m => match m with
  | .flds (f :: l) o => match Nat.beq f.offset o with
   | true => match decide (f.name = "_") with
    | true => false
    | false => match okB P a (.typ f.type) with
     | true => okB P r (.flds l (o + a.size))
     | false => false
   | false => false
  | .arr (n + 1) e => match okB P a (.typ e) with
   | true => okB P r (.arr n e)
   | false => false
  | _ => false
theorem okB_spec : ∀ {t : Ty} {m : Mode}, okB P t m = true → Ok P t m := by
 intro t
 induction t with
 | unit => intro m h; simp [okB] at h
 | map _ _ _ _ => intro m h; simp [okB] at h
 | dmap _ _ _ _ => intro m h; simp [okB] at h
 | slf => intro m h; simp [okB] at h
 | bld _ _ => intro m h; simp [okB] at h
 | bool =>
  intro m h
  refine liftB_spec (fun t h => ?_) h
  split at h
  ·rename_i hu
   obtain ⟨v, hv, hz⟩ := infoB_spec h
   split at hz
   ·exact ⟨hu, hv⟩
   ·cases hz
  ·cases h
 | int k =>
  intro m h
  refine liftB_spec (fun t h => ?_) h
  split at h
  ·rename_i k' hu
   split at h
   ·rename_i hk
    have hk := of_decide_eq_true hk
    subst hk
    obtain ⟨v, hv, hz⟩ := infoB_spec h
    split at hz
    ·rename_i k2 n
     split at hz
     ·rename_i hk2
      have hk2 := of_decide_eq_true hk2
      have hn := of_decide_eq_true hz
      subst hk2; subst hn
      exact ⟨hu, hv⟩
     ·cases hz
    ·cases hz
   ·cases h
  ·cases h
 | str =>
  intro m h
  refine liftB_spec (fun t h => ?_) h
  split at h
  ·rename_i hu
   obtain ⟨v, hv, hz⟩ := infoB_spec h
   split at hz
   ·rename_i s
    exact ⟨hu, s, hv, Nat.eq_of_beq_eq_true hz⟩
   ·cases hz
  ·cases h
 | slice e ih =>
  intro m h
  refine liftB_spec (fun t h => ?_) h
  split at h
  ·rename_i e' hu
   split at h
   ·rename_i he
    obtain ⟨v, hv, hz⟩ := infoB_spec h
    split at hz
    ·refine ⟨⟨e', hu, ?_⟩, hv⟩
     rw [Bool.or_eq_true, Bool.and_eq_true, decide_eq_true_eq] at he
     rcases he with he | ⟨he, he'⟩
     ·exact .inl (ih he)
     ·exact .inr ⟨he, slfOkB_spec he'⟩
    ·cases hz
   ·cases h
  ·cases h
 | opq =>
  intro m h
  refine liftB_spec (fun t h => ?_) h
  split at h
  ·rename_i d hu
   split at h
   ·rename_i hd
    obtain ⟨v, hv, hz⟩ := infoB_spec h
    exact ⟨⟨d, hu, hd⟩, v, hv, hz⟩
   ·cases h
  ·cases h
 | st b ih =>
  intro m h
  refine liftB_spec (fun t h => ?_) h
  split at h
  ·rename_i hb
   obtain ⟨v, hv, hz⟩ := infoB_spec h
   split at hz
   ·rename_i zs
    split at hz
    ·rename_i hzr
     refine ⟨?_, zs, hv, hzr⟩
     split at hb
     ·rename_i fs hu; exact .inl ⟨fs, hu, ih hb⟩
     ·rename_i n e hu; exact .inr ⟨n, e, hu, ih hb⟩
     ·cases hb
    ·cases hz
   ·cases hz
  ·cases h
 | pair a r iha ihr =>
  intro m h
  simp only [okB] at h
  split at h
  ·rename_i f l o
   split at h
   ·rename_i h1
    split at h
    ·cases h
    ·rename_i h2
     split at h
     ·rename_i h3
      exact ⟨Nat.eq_of_beq_eq_true h1, by simpa using h2, iha h3, ihr h⟩
     ·cases h
   ·cases h
  ·rename_i n e
   split at h
   ·rename_i h3
    exact ⟨iha h3, ihr h⟩
   ·cases h
  ·cases h
def eqsB (P : Program) : Ty → Mode → Bool
 | .bool, m => liftB (fun t => match P.underlying t with
  | some .bool => true
  | _ => false) m
 | .int k, m => liftB (fun t => match P.underlying t with
  | some (.int k') => decide (k' = k)
  | _ => false) m
 | .str, m => liftB (fun t => match P.underlying t with
  | some .string => true
  | _ => false) m
 | .st b, m => liftB (fun t => match P.underlying t with
  | some (.struct fs) => match eqsB P b (.flds fs.toList 0), P.stoodInHeld t, P.eqGuardType P.depth t, P.info? t with
   | true, false, false, some i => Nat.beq i.size b.size
   | _, _, _, _ => false
  | _ => false) m
 | .pair a r, m => match m with
  | .flds (f :: l) o => match Nat.beq f.offset o with
   | true => match decide (f.name = "_") with
    | true => false
    | false => match eqsB P a (.typ f.type) with
     | true => eqsB P r (.flds l (o + a.size))
     | false => false
   | false => false
  | _ => false
 | _, _ => false
theorem eqsB_spec : ∀ {t : Ty} {m : Mode}, eqsB P t m = true → Eqs P t m := by
 intro t
 induction t with
 | bool =>
  intro m h
  refine liftB_spec (fun t h => ?_) h
  split at h
  ·rename_i hu; exact hu
  ·cases h
 | int k =>
  intro m h
  refine liftB_spec (fun t h => ?_) h
  split at h
  ·rename_i k' hu
   have := of_decide_eq_true h
   subst this
   exact hu
  ·cases h
 | str =>
  intro m h
  refine liftB_spec (fun t h => ?_) h
  split at h
  ·rename_i hu; exact hu
  ·cases h
 | st b ih =>
  intro m h
  refine liftB_spec (fun t h => ?_) h
  split at h
  ·rename_i fs hu
   split at h
   ·rename_i i h1 h2 h3 h4
    exact ⟨⟨fs, hu, ih h1⟩, h2, h3, by rw [h4]; simp [Nat.eq_of_beq_eq_true h]⟩
   ·cases h
  ·cases h
 | pair a r iha ihr =>
  intro m h
  simp only [eqsB] at h
  split at h
  ·rename_i f l o
   split at h
   ·rename_i h1
    split at h
    ·cases h
    ·rename_i h2
     split at h
     ·rename_i h3
      exact ⟨Nat.eq_of_beq_eq_true h1, by simpa using h2, iha h3, ihr h⟩
     ·cases h
   ·cases h
  ·cases h
 | _ => intro m h; simp [eqsB] at h
def tyB (P : Program) (t : TypeId) (r : TyRow) : Bool := match okB P r.ty (.typ t) with
 | false => false
 | true => match (match r.ty with
   | .slice _ => match P.underlying t with
    | some (.slice e') => match P.info? e' with
     | some i => match Nat.beq i.bytes r.bytes with
      | true => Nat.blt 0 r.bytes
      | false => false
     | none => false
    | _ => false
   | .st _ => match P.underlying t with
    | some (.array _ _) => r.arr
    | some (.struct _) => match r.arr with
     | true => false
     | false => true
    | _ => false
   | _ => true) with
  | false => false
  | true => match r.eq with
   | false => true
   | true => match eqsB P r.ty (.typ t) with
    | true => Nat.ble (nest r.ty) 9000
    | false => false
def tysB (P : Program) : List (Nat × TyRow) → Bool
 | [] => true
 | (t, r) :: l => match tyB P t r with
  | true => tysB P l
  | false => false
theorem look_mem {α : Type} {i : Nat} {a : α} : ∀ {l : List (Nat × α)}, look l i = some a → (i, a) ∈ l
 | [], h => by simp [look] at h
 | (j, b) :: l, h => by
  simp only [look] at h
  split at h
  ·rename_i e
   have := Nat.eq_of_beq_eq_true e
   subst this
   injection h with h
   subst h
   simp
  ·exact List.mem_cons_of_mem _ (look_mem h)
theorem tysB_mem : ∀ {l : List (Nat × TyRow)}, tysB P l = true → ∀ p, p ∈ l → tyB P p.1 p.2 = true
 | [], _, p, h => by simp at h
 | (t, r) :: l, h, p, hp => by
  simp only [tysB] at h
  split at h
  ·rename_i ht
   rcases List.mem_cons.1 hp with rfl | hp
   ·exact ht
   ·exact tysB_mem h p hp
  ·cases h
def SpecsOk (P : Program) (G : World → Prop) (l : List (Nat × Spec)) : Prop := ∀ f s, look l f = some s → SpecOk P G f s ∧ (P.funcs[f]?).any (fun fn => fn.name != "runtime.NumGoroutine" && fn.body.isSome) = true
def CodesOk (P : Program) (l : List (Nat × Func × List (Nat × Hint))) : Prop := ∀ f fn hs, look l f = some (fn, hs) → P.funcs[f]? = some fn ∧ (fn.name != "runtime.NumGoroutine" && fn.body.isSome) = true
theorem SpecsOk.nil {G : World → Prop} : SpecsOk P G [] := fun f s h => by simp [look] at h
theorem SpecsOk.cons {G : World → Prop} {f : FuncId} {s : Spec} {fn : Func} {l : List (Nat × Spec)} (h : SpecOk P G f s) (hf : P.funcs[f]? = some fn) (hb : (fn.name != "runtime.NumGoroutine" && fn.body.isSome) = true) (hl : SpecsOk P G l) : SpecsOk P G ((f, s) :: l) := by
 intro g u hu
 simp only [look] at hu
 split at hu
 ·rename_i e
  have := Nat.eq_of_beq_eq_true e
  subst this
  injection hu with hu
  subst hu
  exact ⟨h, by rw [hf]; simpa using hb⟩
 ·exact hl g u hu
theorem CodesOk.nil : CodesOk P [] := fun f fn hs h => by simp [look] at h
theorem CodesOk.cons {f : FuncId} {fn : Func} {hs : List (Nat × Hint)} {l : List (Nat × Func × List (Nat × Hint))} (hf : P.funcs[f]? = some fn) (hb : (fn.name != "runtime.NumGoroutine" && fn.body.isSome) = true) (hl : CodesOk P l) : CodesOk P ((f, fn, hs) :: l) := by
 intro g u us hu
 simp only [look] at hu
 split at hu
 ·rename_i e
  have := Nat.eq_of_beq_eq_true e
  subst this
  injection hu with hu
  injection hu with h1 h2
  subst h1
  exact ⟨hf, hb⟩
 ·exact hl g u us hu
def MakersOk (P : Program) (G : World → Prop) (l : List (Nat × Maker)) : Prop := ∀ f m, look l f = some m → MakerOk P G f m ∧ (P.funcs[f]?).any (fun fn => fn.name != "runtime.NumGoroutine" && fn.body.isSome) = true
theorem MakersOk.nil {P : Program} {G : World → Prop} : MakersOk P G [] := fun f m h => by cases h
theorem MakersOk.cons {P : Program} {G : World → Prop} {f : Nat} {m : Maker} {l : List (Nat × Maker)} {fn : Func} (h : MakerOk P G f m) (hf : P.funcs[f]? = some fn) (hb : (fn.name != "runtime.NumGoroutine" && fn.body.isSome) = true) (hl : MakersOk P G l) : MakersOk P G ((f, m) :: l) := by
 intro g u hu
 simp only [look] at hu
 split at hu
 ·rename_i e
  have e := Nat.eq_of_beq_eq_true e
  injection hu with hu
  subst hu; subst e
  exact ⟨h, by rw [hf]; exact hb⟩
 ·exact hl g u hu
def InplsOk (P : Program) (G : World → Prop) (l : List (Nat × Inpl)) : Prop := ∀ f p, look l f = some p → InplOk P G f p ∧ (P.funcs[f]?).any (fun fn => fn.name != "runtime.NumGoroutine" && fn.body.isSome) = true
theorem InplsOk.nil {P : Program} {G : World → Prop} : InplsOk P G [] := fun f m h => by cases h
theorem InplsOk.cons {P : Program} {G : World → Prop} {f : Nat} {m : Inpl} {l : List (Nat × Inpl)} {fn : Func} (h : InplOk P G f m) (hf : P.funcs[f]? = some fn) (hb : (fn.name != "runtime.NumGoroutine" && fn.body.isSome) = true) (hl : InplsOk P G l) : InplsOk P G ((f, m) :: l) := by
 intro g u hu
 simp only [look] at hu
 split at hu
 ·rename_i e
  have e := Nat.eq_of_beq_eq_true e
  injection hu with hu
  subst hu; subst e
  exact ⟨h, by rw [hf]; exact hb⟩
 ·exact hl g u hu
def InssOk (P : Program) (G : World → Prop) (l : List (Nat × Ty × Nat)) : Prop := ∀ f p, look l f = some p → InsOk P G f p.1 p.2 ∧ (∃ t, Ok P p.1 (.typ t)) ∧ (P.funcs[f]?).any (fun fn => fn.name != "runtime.NumGoroutine" && fn.body.isSome) = true
theorem InssOk.nil {P : Program} {G : World → Prop} : InssOk P G [] := fun f m h => by cases h
theorem InssOk.cons {P : Program} {G : World → Prop} {f : Nat} {m : Ty × Nat} {l : List (Nat × Ty × Nat)} {fn : Func} (h : InsOk P G f m.1 m.2) (ho : ∃ t, Ok P m.1 (.typ t)) (hf : P.funcs[f]? = some fn) (hb : (fn.name != "runtime.NumGoroutine" && fn.body.isSome) = true) (hl : InssOk P G l) : InssOk P G ((f, m) :: l) := by
 intro g u hu
 simp only [look] at hu
 split at hu
 ·rename_i e
  have e := Nat.eq_of_beq_eq_true e
  injection hu with hu
  subst hu; subst e
  exact ⟨h, ho, by rw [hf]; exact hb⟩
 ·exact hl g u hu
def notPair : Ty → Bool
 | .pair _ _ => false
 | _ => true
def mapB (P : Program) (t : TypeId) (kt vt : Ty) : Bool := match P.underlying t with
 | some (.map k e) => match eqsB P kt (.typ k), Nat.ble (nest kt) 9000, notPair kt, okB P vt (.typ e), dataTy vt with
  | true, true, true, true, true => true
  | _, _, _, _, _ => false
 | _ => false
def mapsB (P : Program) : List (Nat × Ty × Ty) → Bool
 | [] => true
 | (t, kt, vt) :: l => match mapB P t kt vt with
  | true => mapsB P l
  | false => false
theorem mapsB_spec {P : Program} : ∀ {l : List (Nat × Ty × Ty)}, mapsB P l = true → ∀ t kt vt, look l t = some (kt, vt) → ∃ k e, P.underlying t = some (.map k e) ∧ Eqs P kt (.typ k) ∧ nest kt ≤ 9000 ∧ (∀ a b, kt ≠ .pair a b) ∧ Ok P vt (.typ e) ∧ dataTy vt = true
 | [], _, t, kt, vt, h => by cases h
 | (t0, k0, v0) :: l, hb, t, kt, vt, h => by
  simp only [mapsB] at hb
  split at hb
  case h_2 => cases hb
  rename_i h0
  simp only [look] at h
  split at h
  ·rename_i e
   have e := Nat.eq_of_beq_eq_true e
   injection h with h
   injection h with h1 h2
   subst h1; subst h2; subst e
   unfold mapB at h0
   split at h0
   ·rename_i k e hu
    split at h0
    ·rename_i q1 q2 q3 q4 q5
     refine ⟨k, e, hu, eqsB_spec q1, Nat.le_of_ble_eq_true q2, ?_, okB_spec q4, q5⟩
     intro a b z
     rw [z] at q3
     cases q3
    ·cases h0
   ·cases h0
  ·exact mapsB_spec hb t kt vt h
def dmapsB (P : Program) (l : List (Nat × Ty × Ty)) : Bool := mapsB P (l.map fun p => (p.1, p.2.1, .slice p.2.2))
theorem look_map {α β : Type} (g : α → β) : ∀ {l : List (Nat × α)} {i : Nat} {a : α}, look l i = some a → look (l.map fun p => (p.1, g p.2)) i = some (g a)
 | [], i, a, h => by cases h
 | (j, b) :: l, i, a, h => by
  simp only [look, List.map_cons] at h ⊢
  split at h
  ·rename_i e
   injection h with h
   subst h
   rfl
  ·rename_i e
   exact look_map g h
theorem dmapsB_spec {P : Program} {l : List (Nat × Ty × Ty)} (h : dmapsB P l = true) (t : TypeId) (kt et : Ty) (hl : look l t = some (kt, et)) : ∃ k e, P.underlying t = some (.map k e) ∧ Eqs P kt (.typ k) ∧ nest kt ≤ 9000 ∧ (∀ a b, kt ≠ .pair a b) ∧ Ok P (.slice et) (.typ e) := by
 have := look_map (fun p : Ty × Ty => (p.1, Ty.slice p.2)) hl
 obtain ⟨k, e, h1, h2, h3, h4, h5, _⟩ := mapsB_spec h t kt (.slice et) this
 exact ⟨k, e, h1, h2, h3, h4, h5⟩
def bldB (P : Program) (t : TypeId) : Bool := match P.info? t with
 | some i => match i.zero with
  | some (.agg cs) => match cs.toList with
   | [.pointer none, .slice none 0 0] => true
   | _ => false
  | _ => false
 | none => false
def bldsB (P : Program) : List (Nat × Nat) → Bool
 | [] => true
 | (t, _) :: l => match bldB P t with
  | true => bldsB P l
  | false => false
theorem bldsB_spec {P : Program} : ∀ {l : List (Nat × Nat)}, bldsB P l = true → ∀ t e, look l t = some e → ∃ i, P.info? t = some i ∧ i.zero = some (.agg #[.pointer none, .slice none 0 0])
 | [], _, t, e, h => by cases h
 | (t0, e0) :: l, hb, t, e, h => by
  simp only [bldsB] at hb
  split at hb
  case h_2 => cases hb
  rename_i h0
  simp only [look] at h
  split at h
  ·rename_i q
   have q := Nat.eq_of_beq_eq_true q
   subst q
   unfold bldB at h0
   split at h0
   ·rename_i i hi
    split at h0
    ·rename_i cs hz
     split at h0
     ·rename_i hc
      refine ⟨i, hi, ?_⟩
      rw [hz]
      congr 2
      exact Array.toList_inj.1 hc
     ·cases h0
    ·cases h0
   ·cases h0
  ·exact bldsB_spec hb t e h
def BwsOk (P : Program) (G : World → Prop) (bl : List (Nat × Nat)) (l : List (Nat × Nat)) : Prop := ∀ f k, look l f = some k → (∀ T e, look bl T = some e → BwOk P G f T e k) ∧ (P.funcs[f]?).any (fun fn => fn.name != "runtime.NumGoroutine" && fn.body.isSome) = true
theorem BwsOk.nil {P : Program} {G : World → Prop} {bl : List (Nat × Nat)} : BwsOk P G bl [] := fun f m h => by cases h
theorem BwsOk.cons {P : Program} {G : World → Prop} {T e f k : Nat} {l : List (Nat × Nat)} {fn : Func} (h : BwOk P G f T e k) (hf : P.funcs[f]? = some fn) (hb : (fn.name != "runtime.NumGoroutine" && fn.body.isSome) = true) (hl : BwsOk P G [(T, e)] l) : BwsOk P G [(T, e)] ((f, k) :: l) := by
 intro g u hu
 simp only [look] at hu
 split at hu
 ·rename_i q
  have q := Nat.eq_of_beq_eq_true q
  injection hu with hu
  subst hu; subst q
  refine ⟨fun T' e' h' => ?_, by rw [hf]; exact hb⟩
  simp only [look] at h'
  split at h'
  ·rename_i q
   have q := Nat.eq_of_beq_eq_true q
   injection h' with h'
   subst h'; subst q
   exact h
  ·cases h'
 ·exact hl g u hu
def OSpecsOk (P : Program) (G : World → Prop) (l : List (Nat × OSpec)) : Prop := ∀ f s, look l f = some s → OSpecOk P G f s ∧ (P.funcs[f]?).any (fun fn => fn.name != "runtime.NumGoroutine" && fn.body.isSome) = true
theorem OSpecsOk.nil {P : Program} {G : World → Prop} : OSpecsOk P G [] := fun f m h => by cases h
theorem OSpecsOk.cons {P : Program} {G : World → Prop} {f : Nat} {s : OSpec} {l : List (Nat × OSpec)} {fn : Func} (h : OSpecOk P G f s) (hf : P.funcs[f]? = some fn) (hb : (fn.name != "runtime.NumGoroutine" && fn.body.isSome) = true) (hl : OSpecsOk P G l) : OSpecsOk P G ((f, s) :: l) := by
 intro g u hu
 simp only [look] at hu
 split at hu
 ·rename_i e
  have e := Nat.eq_of_beq_eq_true e
  injection hu with hu
  subst hu; subst e
  exact ⟨h, by rw [hf]; exact hb⟩
 ·exact hl g u hu
def drowsB (T : List (Nat × TyRow)) : List (Nat × Ty × Nat) → Bool
 | [] => true
 | (t, e, b) :: l => match look T t with
  | some r => match decide (r.ty = .slice (.slice e)), Nat.beq r.bytes b with
   | true, true => drowsB T l
   | _, _ => false
  | none => false
theorem drowsB_spec {T : List (Nat × TyRow)} : ∀ {l : List (Nat × Ty × Nat)} {t : Nat} {e : Ty} {b : Nat}, drowsB T l = true → look l t = some (e, b) → ∃ r, look T t = some r ∧ r.ty = .slice (.slice e) ∧ r.bytes = b := by
 intro l
 induction l with
 | nil => intro t e b _ h; cases h
 | cons p l ih =>
  obtain ⟨t', e', b'⟩ := p
  intro t e b hd h
  simp only [drowsB] at hd
  split at hd
  case h_2 => cases hd
  rename_i r hr
  split at hd
  case h_2 => cases hd
  rename_i q1 q2
  simp only [look] at h
  split at h
  ·rename_i q
   have := Nat.eq_of_beq_eq_true q
   subst this
   injection h with h
   injection h with h1 h2
   subst h1; subst h2
   exact ⟨r, hr, of_decide_eq_true q1, Nat.eq_of_beq_eq_true q2⟩
  ·exact ih hd h
theorem envOk {G : World → Prop} {E : Env} (hT : tysB P E.T = true) (hs : SpecsOk P G E.specs) (hc : CodesOk P E.codes) (hm : P.follows .mixedOrders = true) (hG : ∀ w w', G w → Below w.heap.size w w' → G w') (hk : MakersOk P G E.lays := by exact MakersOk.nil) (hi : InplsOk P G E.inpl := by exact InplsOk.nil) (hj : InssOk P G E.ins := by exact InssOk.nil) (hmp : mapsB P E.maps = true := by rfl) (hdm : dmapsB P E.dmaps = true := by rfl) (hbl : bldsB P E.blds = true := by rfl) (hdr : drowsB E.T E.drows = true := by rfl) (hbw : BwsOk P G E.blds E.bw := by exact BwsOk.nil) (ho : OSpecsOk P G E.ospecs := by exact OSpecsOk.nil) : EnvOk P G E := by
 have row : ∀ t r, look E.T t = some r → tyB P t r = true := fun t r h => tysB_mem hT (t, r) (look_mem h)
 have row1 : ∀ t r, look E.T t = some r → Ok P r.ty (.typ t) := by
  intro t r h
  have := row t r h
  unfold tyB at this
  split at this
  ·cases this
  ·rename_i h; exact okB_spec h
 have hby : ∀ t r e, look E.T t = some r → r.ty = .slice e → ∃ e' i, P.underlying t = some (.slice e') ∧ P.info? e' = some i ∧ i.bytes = r.bytes ∧ OkE P e e' ∧ 0 < r.bytes := by
  intro t r e h he
  have h1 := row t r h
  have h2 := row1 t r h
  unfold tyB at h1
  split at h1
  ·cases h1
  split at h1
  ·cases h1
  rename_i h3
  rw [he] at h3
  simp only at h3
  split at h3
  ·rename_i e' hu
   split at h3
   ·rename_i i hi
    split at h3
    ·rename_i hb
     rw [he] at h2
     obtain ⟨⟨e'', q1, q2⟩, _⟩ := h2
     rw [hu] at q1
     injection q1 with q1
     injection q1 with q1
     subst q1
     exact ⟨e', i, hu, hi, Nat.eq_of_beq_eq_true hb, q2, by simpa [Nat.blt_eq] using h3⟩
    ·cases h3
   ·cases h3
  ·cases h3
 refine ⟨fun t ty h => ?_, hby, fun t r h he => ?_, hs, hc, fun t r b h hb => ?_, hk, hi, hj, mapsB_spec hmp, dmapsB_spec hdm, bldsB_spec hbl, hbw, fun t e b h => by
  obtain ⟨r, q1, q2, q3⟩ := drowsB_spec hdr h
  obtain ⟨e', i, g1, g2, g3, g4, g5⟩ := hby t r _ q1 q2
  exact ⟨e', i, g1, g2, g3.trans q3, by rw [← q3]; exact g5, (by rcases g4 with g4 | ⟨g4, _⟩; exact g4; cases g4), by simp [Env.ty, q1, q2]⟩, ho, hm, hG⟩
 ·obtain ⟨r, h1, h2⟩ := EnvOk.row h
  rw [← h2]
  exact row1 t r h1
 ·have h1 := row t r h
  unfold tyB at h1
  split at h1
  ·cases h1
  split at h1
  ·cases h1
  rw [he] at h1
  simp only at h1
  split at h1
  ·rename_i q
   exact ⟨eqsB_spec q, Nat.le_of_ble_eq_true h1⟩
  ·cases h1
 ·have h1 := row t r h
  unfold tyB at h1
  split at h1
  ·cases h1
  split at h1
  ·cases h1
  rename_i h3
  rw [hb] at h3
  simp only at h3
  split at h3
  ·rename_i n e hu
   exact ⟨fun _ => ⟨n, e, hu⟩, fun q => by rw [q] at h3; cases h3⟩
  ·rename_i fs hu
   refine ⟨fun q => ?_, fun _ => ⟨fs, hu⟩⟩
   rw [q] at h3
   cases h3
  ·cases h3
end Go.PG
end
section
namespace Go.PG
open Go.RowKit
variable {N : Nat} {P : Program} {w : World} {H : Type} {enc : TypeId × Value → H} {base : Nat} {spare : Nat → Bool} {held : Bool}
def Wf : (t : Ty) → t.D → Prop
 | .int k, n => (Lit.int k n).wf = true
 | .str, s => ByteArray.size s ≤ maxLen
 | .slice e, xs => List.length xs ≤ maxLen ∧ ∀ x ∈ xs, Wf e x
 | .st b, x => Wf b x
 | .pair a b, x => Wf a x.1 ∧ Wf b x.2
 | _, _ => True
def WbN (N : Nat) (B : Ty → Nat) : (t : Ty) → t.D → Prop
 | .str, s => ByteArray.size s ≤ N
 | .slice e, xs => List.length xs * B e ≤ N ∧ ∀ x ∈ xs, WbN N B e x
 | .st b, x => WbN N B b x
 | .pair a b, x => WbN N B a x.1 ∧ WbN N B b x.2
 | _, _ => True
def InrN (N : Nat) (l : List Nat) : Prop := ∀ n, n ∈ l → n ≤ N
theorem InrN.left {l m : List Nat} (h : InrN N (l ++ m)) : InrN N l := fun n hn => h n (List.mem_append_left _ hn)
theorem InrN.right {l m : List Nat} (h : InrN N (l ++ m)) : InrN N m := fun n hn => h n (List.mem_append_right _ hn)
theorem InrN.all {e : TypeId} : ∀ {ds : List (DataW H)} {i : Nat} {d : DataW H}, InrN N (DataW.weightsAll P e ds) → ds[i]? = some d → InrN N (d.weights P e)
 | [], i, d, _, h => by simp at h
 | d0 :: r, 0, d, hw, h => by
  simp only [List.getElem?_cons_zero, Option.some.injEq] at h
  subst h
  simp only [DataW.weightsAll] at hw
  exact hw.left
 | d0 :: r, i + 1, d, hw, h => by
  simp only [List.getElem?_cons_succ] at h
  simp only [DataW.weightsAll] at hw
  exact InrN.all hw.right h
theorem InrN.each : ∀ {ts : List TypeId} {ds : List (DataW H)} {i : Nat} {t : TypeId} {d : DataW H}, InrN N (DataW.weightsEach P ts ds) → ts[i]? = some t → ds[i]? = some d → InrN N (d.weights P t)
 | [], ds, i, t, d, _, h, _ => by simp at h
 | _ :: _, [], i, t, d, _, _, h => by simp at h
 | t0 :: ts, d0 :: r, 0, t, d, hw, h1, h2 => by
  simp only [List.getElem?_cons_zero, Option.some.injEq] at h1 h2
  subst h1; subst h2
  simp only [DataW.weightsEach] at hw
  exact hw.left
 | t0 :: ts, d0 :: r, i + 1, t, d, hw, h1, h2 => by
  simp only [List.getElem?_cons_succ] at h1 h2
  simp only [DataW.weightsEach] at hw
  exact InrN.each hw.right h1 h2
def readTy : Ty → Bool
 | .unit | .opq | .slf => false
 | .slice e => readTy e
 | .st b => readTy b
 | .pair a b => match readTy a with
  | true => readTy b
  | false => false
 | _ => true
inductive Tells {H : Type} : (t : Ty) → t.D → DataW H → Prop where
 | bool (b : Bool) : Tells .bool b (.lit (.bool b))
 | int (k : IntKind) (n : Int) : Tells (.int k) n (.lit (.int k n))
 | str (s : ByteArray) : Tells .str s (.lit (.string s.data.toList))
 | nil (e : Ty) : Tells (.slice e) ([] : List e.D) .nil
 | row (e : Ty) (xs : List e.D) (ds rest : List (DataW H)) (hl : ds.length = xs.length) (h : ∀ (i : Nat) (x : e.D) (d : DataW H), xs[i]? = some x → ds[i]? = some d → Tells e x d) : Tells (.slice e) xs (.slice ds rest)
theorem cells_mem {a : Addr} {n : Nat} {cs : List Value} (h : w.cells? base a n = some cs) : cs.length = n ∧ ∀ (j : Nat) (v : Value), cs[j]? = some v → w.cell? (a.add j) = some v := by
 unfold World.cells? at h
 split at h
 ·have hl := mapM_some_length h
  refine ⟨by simpa using hl, fun j v hv => ?_⟩
  have hj : j < n := by
   have := (List.getElem?_eq_some_iff.1 hv).1
   simp at hl
   omega
  have := mapM_some_get h j j (by simp [hj])
  rw [this, hv]
 ·cases h
theorem spot_none {a : Addr} {v : Value} (h : w.cell? (a.add 0) = some v) : a.spot = none := by
 unfold World.cell? at h
 simp only [Addr.add, if_true] at h
 split at h
 ·split at h
  ·cases h
  ·rename_i q; simpa using q
 ·cases h
theorem list_of {α : Type} {Q : Nat → α → Prop} : ∀ (n : Nat), (∀ i, i < n → ∃ y, Q i y) → ∃ ys : List α, ys.length = n ∧ ∀ i y, ys[i]? = some y → Q i y
 | 0, _ => ⟨[], rfl, by simp⟩
 | n + 1, h => by
  obtain ⟨ys, h1, h2⟩ := list_of n (fun i hi => h i (by omega))
  obtain ⟨y, hy⟩ := h n (by omega)
  refine ⟨ys ++ [y], by simp [h1], fun i z hz => ?_⟩
  rcases Nat.lt_or_ge i ys.length with q | q
  ·rw [List.getElem?_append_left q] at hz
   exact h2 i z hz
  ·rw [List.getElem?_append_right q] at hz
   have : i = n := by
    have := (List.getElem?_eq_some_iff.1 hz).1
    simp at this
    omega
   subst this
   rw [h1, Nat.sub_self] at hz
   simp at hz
   subst hz
   exact hy
structure BytesOk (P : Program) (B : Ty → Nat) (Gd : TypeId → Prop) : Prop where
 sl : ∀ (id e' : TypeId), Gd id → P.underlying id = some (.slice e') → Gd e' ∧ ∀ e : Ty, Ok P e (.typ e') → B e ≤ P.bytesOf e'
 st : ∀ (id : TypeId) (fs : Array Field), Gd id → P.underlying id = some (.struct fs) → ∀ f, f ∈ fs.toList → Gd f.type
 ar : ∀ (id : TypeId) (n : Nat) (e : TypeId), Gd id → P.underlying id = some (.array n e) → Gd e
theorem read_all {B : Ty → Nat} {Gd : TypeId → Prop} (HB : BytesOk P B Gd) : ∀ (t : Ty),
  (∀ (id : TypeId) (fuel : Nat) (cs : List Value) (x : DataW H × List MemPlace), Gd id → Ok P t (.typ id) → readTy t = true → DataW.trod enc P w base spare held fuel id cs = some x → ∃ y : t.D, RepD (fun _ => False) w t y cs ∧ Wf t y ∧ (InrN N (x.1.weights P id) → WbN N B t y)) ∧
  (∀ (l : List Field) (o : Nat) (cs : List Value) (n : Nat) (zs : List (DataW H × List MemPlace)), (∀ f, f ∈ l → Gd f.type) → Ok P t (.flds l o) → readTy t = true → o + t.size ≤ cs.length → zs.length = l.length → (∀ (i : Nat) (f : Field), l[i]? = some f → DataW.trod enc P w base spare held n f.type ((cs.drop f.offset).take (P.cellsOf f.type)) = zs[i]?) →
   ∃ y : t.D, RepD (fun _ => False) w t y ((cs.drop o).take t.size) ∧ Wf t y ∧ (InrN N (DataW.weightsEach P (l.map (·.type)) (zs.map (·.1))) → WbN N B t y)) ∧
  (∀ (m : Nat) (e : TypeId) (cs : List Value) (n j : Nat) (zs : List (DataW H × List MemPlace)), Gd e → Ok P t (.arr m e) → readTy t = true → j * P.cellsOf e + t.size ≤ cs.length → zs.length = m → (∀ i, i < m → DataW.trod enc P w base spare held n e ((cs.drop ((j + i) * P.cellsOf e)).take (P.cellsOf e)) = zs[i]?) →
   ∃ y : t.D, RepD (fun _ => False) w t y ((cs.drop (j * P.cellsOf e)).take t.size) ∧ Wf t y ∧ (InrN N (DataW.weightsAll P e (zs.map (·.1))) → WbN N B t y)) := by
 -- out of the claim at a type: those at fields and elements
 have leaf : ∀ (t : Ty), (∀ p q, t ≠ .pair p q) → (∀ (id : TypeId) (fuel : Nat) (cs : List Value) (x : DataW H × List MemPlace), Gd id → Ok P t (.typ id) → readTy t = true → DataW.trod enc P w base spare held fuel id cs = some x → ∃ y : t.D, RepD (fun _ => False) w t y cs ∧ Wf t y ∧ (InrN N (x.1.weights P id) → WbN N B t y)) →
   (∀ (l : List Field) (o : Nat) (cs : List Value) (n : Nat) (zs : List (DataW H × List MemPlace)), (∀ f, f ∈ l → Gd f.type) → Ok P t (.flds l o) → readTy t = true → o + t.size ≤ cs.length → zs.length = l.length → (∀ (i : Nat) (f : Field), l[i]? = some f → DataW.trod enc P w base spare held n f.type ((cs.drop f.offset).take (P.cellsOf f.type)) = zs[i]?) →
    ∃ y : t.D, RepD (fun _ => False) w t y ((cs.drop o).take t.size) ∧ Wf t y ∧ (InrN N (DataW.weightsEach P (l.map (·.type)) (zs.map (·.1))) → WbN N B t y)) ∧
   (∀ (m : Nat) (e : TypeId) (cs : List Value) (n j : Nat) (zs : List (DataW H × List MemPlace)), Gd e → Ok P t (.arr m e) → readTy t = true → j * P.cellsOf e + t.size ≤ cs.length → zs.length = m → (∀ i, i < m → DataW.trod enc P w base spare held n e ((cs.drop ((j + i) * P.cellsOf e)).take (P.cellsOf e)) = zs[i]?) →
    ∃ y : t.D, RepD (fun _ => False) w t y ((cs.drop (j * P.cellsOf e)).take t.size) ∧ Wf t y ∧ (InrN N (DataW.weightsAll P e (zs.map (·.1))) → WbN N B t y)) := by
  intro t hp h
  refine ⟨fun l o cs n zs hg hok hd hl hz ht => ?_, fun m e cs n j zs hg hok hd hl hz ht => ?_⟩
  ·obtain ⟨f, rfl, hf, _, hok'⟩ := ok_leaf_flds hp hok
   obtain ⟨z, rfl⟩ : ∃ z, zs = [z] := List.length_eq_one_iff.1 hz
   have hz := ht 0 f rfl
   obtain ⟨i, hi, hs⟩ := ok_size hok'
   have hc : P.cellsOf f.type = t.size := by simp [Program.cellsOf, hi, hs]
   rw [hc, hf] at hz
   obtain ⟨y, h1, h2, h3⟩ := h f.type n _ z (hg f (by simp)) hok' hd hz
   refine ⟨y, h1, h2, fun hw => h3 ?_⟩
   simp only [List.map_cons, DataW.weightsEach] at hw
   exact hw.left
  ·obtain ⟨rfl, hok'⟩ := ok_leaf_arr hp hok
   obtain ⟨z, rfl⟩ : ∃ z, zs = [z] := List.length_eq_one_iff.1 hz
   have hz := ht 0 (by omega)
   rw [Nat.add_zero] at hz
   obtain ⟨i, hi, hs⟩ := ok_size hok'
   have hc : P.cellsOf e = t.size := by simp [Program.cellsOf, hi, hs]
   rw [hc] at hz ⊢
   obtain ⟨y, h1, h2, h3⟩ := h e n _ z hg hok' hd hz
   refine ⟨y, h1, h2, fun hw => h3 ?_⟩
   simp only [List.map_cons, DataW.weightsAll] at hw
   exact hw.left
 intro t
 induction t with
 | unit => exact ⟨fun _ _ _ _ _ h => h.elim, fun _ _ _ _ _ _ h => h.elim, fun _ _ _ _ _ _ _ h => h.elim⟩
 | map _ _ _ _ => exact ⟨fun _ _ _ _ _ h => h.elim, fun _ _ _ _ _ _ h => h.elim, fun _ _ _ _ _ _ _ h => h.elim⟩
 | slf => exact ⟨fun _ _ _ _ _ h => h.elim, fun _ _ _ _ _ _ h => h.elim, fun _ _ _ _ _ _ _ h => h.elim⟩
 | dmap _ _ _ _ => exact ⟨fun _ _ _ _ _ h => h.elim, fun _ _ _ _ _ _ h => h.elim, fun _ _ _ _ _ _ _ h => h.elim⟩
 | bld _ _ => exact ⟨fun _ _ _ _ _ h => h.elim, fun _ _ _ _ _ _ h => h.elim, fun _ _ _ _ _ _ _ h => h.elim⟩
 | opq => exact ⟨fun _ _ _ _ _ _ h => by simp [readTy] at h, fun _ _ _ _ _ _ _ h => by simp [readTy] at h, fun _ _ _ _ _ _ _ _ h => by simp [readTy] at h⟩
 | bool =>
  have h : ∀ (id : TypeId) (fuel : Nat) (cs : List Value) (x : DataW H × List MemPlace), Gd id → Ok P .bool (.typ id) → readTy .bool = true → DataW.trod enc P w base spare held fuel id cs = some x → ∃ y : Ty.bool.D, RepD (fun _ => False) w .bool y cs ∧ Wf .bool y ∧ (InrN N (x.1.weights P id) → WbN N B .bool y) := by
   intro id fuel cs x hg hok _ hx
   obtain ⟨b, rfl, _⟩ := DataW.trod_bool hok.1 hx
   exact ⟨b, by simp [RepD], trivial, fun _ => trivial⟩
  exact ⟨h, leaf _ (by simp) h⟩
 | int k =>
  have h : ∀ (id : TypeId) (fuel : Nat) (cs : List Value) (x : DataW H × List MemPlace), Gd id → Ok P (.int k) (.typ id) → readTy (.int k) = true → DataW.trod enc P w base spare held fuel id cs = some x → ∃ y : (Ty.int k).D, RepD (fun _ => False) w (.int k) y cs ∧ Wf (.int k) y ∧ (InrN N (x.1.weights P id) → WbN N B (.int k) y) := by
   intro id fuel cs x hg hok _ hx
   obtain ⟨n, rfl, _, hw⟩ := DataW.trod_int hok.1 hx
   exact ⟨n, by simp [RepD], hw, fun _ => trivial⟩
  exact ⟨h, leaf _ (by simp) h⟩
 | str =>
  have h : ∀ (id : TypeId) (fuel : Nat) (cs : List Value) (x : DataW H × List MemPlace), Gd id → Ok P .str (.typ id) → readTy .str = true → DataW.trod enc P w base spare held fuel id cs = some x → ∃ y : Ty.str.D, RepD (fun _ => False) w .str y cs ∧ Wf .str y ∧ (InrN N (x.1.weights P id) → WbN N B .str y) := by
   intro id fuel cs x hg hok _ hx
   obtain ⟨s, rfl, hx2, hs⟩ := DataW.trod_string hok.1 hx
   refine ⟨s, by simp [RepD], hs, fun hw => ?_⟩
   subst hx2
   have := hw s.data.toList.length (by simp [DataW.weights])
   simpa [WbN] using this
  exact ⟨h, leaf _ (by simp) h⟩
 | slice e ih =>
  have h : ∀ (id : TypeId) (fuel : Nat) (cs : List Value) (x : DataW H × List MemPlace), Gd id → Ok P (.slice e) (.typ id) → readTy (.slice e) = true → DataW.trod enc P w base spare held fuel id cs = some x → ∃ y : (Ty.slice e).D, RepD (fun _ => False) w (.slice e) y cs ∧ Wf (.slice e) y ∧ (InrN N (x.1.weights P id) → WbN N B (.slice e) y) := by
   intro id fuel cs x hg hok hd hx
   obtain ⟨⟨e', hu, hok0⟩, _⟩ := hok
   have hok' : Ok P e (.typ e') := by
    rcases hok0 with q | ⟨q, _⟩
    ·exact q
    ·subst q; cases hd
   rcases DataW.trod_slice hu hx with ⟨rfl, _⟩ | ⟨a, len, cap, elems, rest, n, _, rfl, hx2, hb, hl, hm, hlen, hel, _, _⟩
   ·exact ⟨[], by simp only [RepD]; exact ⟨none, 0, rfl, Nat.le_refl _, .inl trivial⟩, by simp [Wf], fun _ => by simp [WbN]⟩
   ·obtain ⟨inf, hi, hs⟩ := ok_size hok'
    have hc : P.cellsOf e' = e.size := by simp [Program.cellsOf, hi, hs]
    have hpos := ok_pos e _ hok'
    have each : ∀ i, i < len → ∃ y : e.D, ∃ c, w.cells? base (a.add (i * e.size)) e.size = some c ∧ RepD (fun _ => False) w e y c ∧ Wf e y ∧ (InrN N (x.1.weights P id) → WbN N B e y) := by
     intro i hi
     have he := hel i hi
     rw [List.getElem?_eq_getElem (by omega)] at he
     rw [hc] at he
     cases q : w.cells? base (a.add (i * e.size)) e.size with
     | none => rw [q] at he; cases he
     | some c =>
      rw [q] at he
      obtain ⟨y, h1, h2, h3⟩ := ih.1 e' n c _ (HB.sl id e' hg hu).1 hok' hd he
      refine ⟨y, c, rfl, h1, h2, fun hw => h3 ?_⟩
      subst hx2
      simp only [DataW.weights, hu] at hw
      have hw' : InrN N (DataW.weightsAll P e' (elems.map (·.1))) := fun k hk => hw k (List.mem_cons_of_mem _ (List.mem_append_left _ hk))
      exact hw'.all (i := i) (by rw [List.getElem?_map, List.getElem?_eq_getElem (by omega)]; rfl)
    obtain ⟨ys, hys, hall⟩ := list_of len each
    refine ⟨ys, ?_, ?_, fun hw => ?_⟩
    ·simp only [RepD]
     refine ⟨some a, cap, by rw [hys], by omega, ?_⟩
     rcases Nat.eq_zero_or_pos len with h0 | h0
     ·left; exact List.eq_nil_of_length_eq_zero (by omega)
     ·right
      obtain ⟨y, c, q1, q2, q3⟩ := each 0 h0
      obtain ⟨q4, q5⟩ := cells_mem q1
      obtain ⟨v, hv⟩ : ∃ v, c[0]? = some v := ⟨c[0]'(by omega), by simp⟩
      have q6 := q5 0 v hv
      have hsp : a.spot = none := by
       have := spot_none q6
       simpa [Addr.add] using this
      obtain ⟨b, o, sp⟩ := a
      simp only at hsp
      subst hsp
      refine ⟨b, o, rfl, ?_, not_false, fun i x hx => ?_⟩
      ·unfold World.cell? at q6
       simp only [Addr.add, Nat.zero_mul, if_true] at q6
       split at q6
       ·rename_i qq; exact (Array.getElem?_eq_some_iff.1 qq).1
       ·cases q6
      ·obtain ⟨c', r1, r2, _⟩ := hall i x hx
       refine ⟨c', r2, fun j v hv => ?_⟩
       have := (cells_mem r1).2 j v hv
       rw [Addr.add_mid, Addr.add_mid] at this
       exact this
    ·simp only [Wf]
     refine ⟨by omega, fun x hx => ?_⟩
     obtain ⟨i, hi⟩ := List.getElem?_of_mem hx
     obtain ⟨_, _, _, r, _⟩ := hall i x hi
     exact r
    ·simp only [WbN]
     refine ⟨?_, fun x hx => ?_⟩
     ·have hw2 := hw
      subst hx2
      simp only [DataW.weights, hu] at hw2
      have h1 := hw2 _ (List.mem_cons_self ..)
      simp only [List.length_map] at h1
      have h2 := (HB.sl id e' hg hu).2 e hok'
      have h3 : List.length ys * B e ≤ (elems.length + rest.length) * P.bytesOf e' := Nat.mul_le_mul (by omega) h2
      omega
     ·obtain ⟨i, hi⟩ := List.getElem?_of_mem hx
      obtain ⟨_, _, _, _, r⟩ := hall i x hi
      exact r hw
  exact ⟨h, leaf _ (by simp) h⟩
 | st b ih =>
  have h : ∀ (id : TypeId) (fuel : Nat) (cs : List Value) (x : DataW H × List MemPlace), Gd id → Ok P (.st b) (.typ id) → readTy (.st b) = true → DataW.trod enc P w base spare held fuel id cs = some x → ∃ y : (Ty.st b).D, RepD (fun _ => False) w (.st b) y cs ∧ Wf (.st b) y ∧ (InrN N (x.1.weights P id) → WbN N B (.st b) y) := by
   intro id fuel cs x hg hok hd hx
   obtain ⟨hk, zs, ⟨i, hi1, hi2, _⟩, _⟩ := hok
   have hc : P.cellsOf id = b.size := by simp [Program.cellsOf, hi1, hi2]
   rcases hk with ⟨fs, hu, hb⟩ | ⟨n, e, hu, hb⟩
   ·obtain ⟨xs, n, _, hx2, hl, hxl, hall⟩ := DataW.trod_struct hu hx
    obtain ⟨y, h1, h2, h3⟩ := ih.2.1 fs.toList 0 cs n xs (HB.st id fs hg hu) hb hd (by omega) (by simpa using hxl) (fun i f hf => by
     have hf' : fs[i]? = some f := by rw [← Array.getElem?_toList]; exact hf
     exact hall i f hf')
    rw [List.drop_zero, List.take_of_length_le (by omega)] at h1
    refine ⟨y, by simp only [RepD]; exact h1, by simp only [Wf]; exact h2, fun hw => ?_⟩
    simp only [WbN]
    subst hx2
    simp only [DataW.weights, hu] at hw
    exact h3 hw
   ·obtain ⟨xs, m, _, hx2, hl, hxl, hall⟩ := DataW.trod_array hu hx
    obtain ⟨y, h1, h2, h3⟩ := ih.2.2 n e cs m 0 xs (HB.ar id n e hg hu) hb hd (by omega) hxl (fun i hi => by
     rw [Nat.zero_add]
     exact hall i (by omega))
    rw [Nat.zero_mul, List.drop_zero, List.take_of_length_le (by omega)] at h1
    refine ⟨y, by simp only [RepD]; exact h1, by simp only [Wf]; exact h2, fun hw => ?_⟩
    simp only [WbN]
    subst hx2
    simp only [DataW.weights, hu] at hw
    exact h3 hw
  exact ⟨h, leaf _ (by simp) h⟩
 | pair p q ihp ihq =>
  have both : ∀ {hd : readTy (.pair p q) = true}, readTy p = true ∧ readTy q = true := by
   intro hd
   simp only [readTy] at hd
   split at hd
   ·rename_i h; exact ⟨h, hd⟩
   ·cases hd
  have join : ∀ (cs : List Value) (o : Nat) (y1 : p.D) (y2 : q.D), RepD (fun _ => False) w p y1 ((cs.drop o).take p.size) → RepD (fun _ => False) w q y2 ((cs.drop (o + p.size)).take q.size) → RepD (fun _ => False) w (.pair p q) (y1, y2) ((cs.drop o).take (p.size + q.size)) := by
   intro cs o y1 y2 h1 h2
   simp only [RepD]
   refine ⟨_, _, ?_, h1, h2⟩
   rw [List.take_add, List.drop_drop]
  refine ⟨fun _ _ _ _ _ h => h.elim, fun l o cs n zs hg hok hd hl hz ht => ?_, fun m e cs n j zs hg hok hd hl hz ht => ?_⟩
  ·cases l with
   | nil => exact hok.elim
   | cons f l =>
    cases zs with
    | nil => simp at hz
    | cons z zs =>
     obtain ⟨hf, _, hok1, hok2⟩ := hok
     obtain ⟨d1, d2⟩ := both (hd := hd)
     simp only [Ty.size] at hl ⊢
     have hz0 := ht 0 f rfl
     obtain ⟨i, hi, hs⟩ := ok_size hok1
     have hc : P.cellsOf f.type = p.size := by simp [Program.cellsOf, hi, hs]
     rw [hc, hf] at hz0
     obtain ⟨y1, r1, r2, r5⟩ := ihp.1 f.type n _ z (hg f (by simp)) hok1 d1 hz0
     obtain ⟨y2, r3, r4, r6⟩ := ihq.2.1 l (o + p.size) cs n zs (fun g hg' => hg g (List.mem_cons_of_mem _ hg')) hok2 d2 (by omega) (by simpa using hz) (fun i g hg => by have := ht (i + 1) g (by simpa using hg); simpa using this)
     refine ⟨(y1, y2), join cs o y1 y2 r1 r3, ⟨r2, r4⟩, fun hw => ?_⟩
     simp only [List.map_cons, DataW.weightsEach] at hw
     exact ⟨r5 hw.left, r6 hw.right⟩
  ·cases m with
   | zero => exact hok.elim
   | succ m =>
    cases zs with
    | nil => simp at hz
    | cons z zs =>
     obtain ⟨hok1, hok2⟩ := hok
     obtain ⟨d1, d2⟩ := both (hd := hd)
     simp only [Ty.size] at hl ⊢
     have hz0 := ht 0 (by omega)
     rw [Nat.add_zero] at hz0
     obtain ⟨i, hi, hs⟩ := ok_size hok1
     have hc : P.cellsOf e = p.size := by simp [Program.cellsOf, hi, hs]
     have hj : (j + 1) * P.cellsOf e = j * P.cellsOf e + p.size := by rw [Nat.add_mul, Nat.one_mul, hc]
     rw [hc] at hz0
     obtain ⟨y1, r1, r2, r5⟩ := ihp.1 e n _ z hg hok1 d1 hz0
     obtain ⟨y2, r3, r4, r6⟩ := ihq.2.2 m e cs n (j + 1) zs hg hok2 d2 (by omega) (by simpa using hz) (fun i hi => by have := ht (i + 1) (by omega); rw [show j + 1 + i = j + (i + 1) by omega]; simpa using this)
     rw [hj] at r3
     refine ⟨(y1, y2), join cs _ y1 y2 ?_ r3, ⟨r2, r4⟩, fun hw => ?_⟩
     ·rw [hc]
      exact r1
     ·simp only [List.map_cons, DataW.weightsAll] at hw
      exact ⟨r5 hw.left, r6 hw.right⟩
end Go.PG
end
section
namespace Go.PG
open Go.RowKit Go.ChangeShapes
variable {N : Nat} {P : Program} {w : World} {H : Type} {enc : TypeId × Value → H}
def ArgsOk (P : Program) : Ty → List TypeId → Prop
 | .unit, ts => ts = []
 | .pair a b, ts => ∃ t r, ts = t :: r ∧ Ok P a (.typ t) ∧ readTy a = true ∧ ArgsOk P b r
 | a, ts => ∃ t, ts = [t] ∧ Ok P a (.typ t) ∧ readTy a = true
theorem dataOf {B : Ty → Nat} {Gd : TypeId → Prop} (HB : BytesOk P B Gd) {base : Nat} {t : Ty} {id : TypeId} (hg : Gd id) (hok : Ok P t (.typ id)) (hr : readTy t = true) {v : Value} (hv : Value.okWide P w .any base id v) {d : DataW H} {ps : List MemPlace} (h : DataW.Trod enc P w 0 (fun _ => true) true id v d ps) :
  ∃ y : t.D, RepDV (fun _ => False) w t y v ∧ Wf t y ∧ (InrN N (d.weights P id) → WbN N B t y) := by
 obtain ⟨fuel, h⟩ := h
 obtain ⟨y, h1, h2⟩ := (read_all HB t).1 id fuel _ _ hg hok hr h
 refine ⟨y, ?_, h2⟩
 have one : isSt t = false → v.cells = #[v] → RepDV (fun _ => False) w t y v := by
  intro hs hc
  rw [hc] at h1
  exact .inr ⟨hs, h1⟩
 cases t with
 | unit => exact hok.elim
 | map _ _ => exact hok.elim
 | dmap _ _ => exact hok.elim
 | slf => exact hok.elim
 | bld _ _ => exact hok.elim
 | pair a b => exact hok.elim
 | opq => simp [readTy] at hr
 | bool => obtain ⟨b, rfl⟩ := Go.WideShapes.okWide_bool hok.1 hv; exact one rfl rfl
 | int k => obtain ⟨n, rfl⟩ := Go.WideShapes.okWide_int hok.1 hv; exact one rfl rfl
 | str => obtain ⟨n, rfl⟩ := Go.WideShapes.okWide_string hok.1 hv; exact one rfl rfl
 | slice e => obtain ⟨⟨e', hu, _⟩, _⟩ := hok; obtain ⟨_, _, _, rfl⟩ := Go.WideShapes.okWide_slice hu hv; exact one rfl rfl
 | st b =>
  obtain ⟨hk, _⟩ := hok
  have : ∃ cs, v = .agg cs := by
   rcases hk with ⟨fs, hu, _⟩ | ⟨n, e, hu, _⟩
   ·simp only [Value.okWide, hu] at hv
    obtain ⟨cs, e, _⟩ := hv
    exact ⟨cs, e⟩
   ·simp only [Value.okWide, hu] at hv
    obtain ⟨cs, e, _⟩ := hv
    exact ⟨cs, e⟩
  obtain ⟨cs, rfl⟩ := this
  exact .inl ⟨rfl, cs, rfl, h1⟩
theorem argsOf {B : Ty → Nat} {Gd : TypeId → Prop} (HB : BytesOk P B Gd) {base : Nat} : ∀ (t : Ty) (ts : List TypeId) (vs : List Value) (ds : List (DataW H)) (ps : List MemPlace), (∀ u, u ∈ ts → Gd u) → ArgsOk P t ts → (∀ (j : Nat) id v, ts[j]? = some id → vs[j]? = some v → Value.okWide P w .any base id v) →
  DataW.TrodAll enc P w 0 (fun _ => true) true ts vs ds ps → ∃ x : t.D, RepT (cz (fun _ => False) w) (argAV t x) vs ∧ Wf t x ∧ (InrN N (DataW.weightsEach P ts ds) → WbN N B t x) := by
 have one : ∀ (t : Ty) (id : TypeId) (vs : List Value) (ds : List (DataW H)) (ps : List MemPlace), Gd id → Ok P t (.typ id) → readTy t = true → (∀ (j : Nat) id' v, [id][j]? = some id' → vs[j]? = some v → Value.okWide P w .any base id' v) →
   DataW.TrodAll enc P w 0 (fun _ => true) true [id] vs ds ps → ∃ x : t.D, RepT (cz (fun _ => False) w) (.data t x) vs ∧ Wf t x ∧ (InrN N (DataW.weightsEach P [id] ds) → WbN N B t x) := by
  intro t id vs ds ps hg hok hr hv h
  obtain ⟨v, vs', d, ds', p, q, rfl, rfl, rfl, h1, h2⟩ := trodAll_cons h
  obtain ⟨rfl, rfl, rfl⟩ := trodAll_nil h2
  obtain ⟨y, h3, h4, h5⟩ := dataOf HB hg hok hr (hv 0 id v rfl rfl) h1
  refine ⟨y, ?_, h4, fun hw => h5 ?_⟩
  ·rw [repT_data, cz_Zeq]
   exact ⟨v, rfl, h3⟩
  ·simp only [DataW.weightsEach] at hw
   exact hw.left
 intro t
 induction t with
 | unit =>
  intro ts vs ds ps hg ha hv h
  have ha : ts = [] := ha
  subst ha
  obtain ⟨rfl, rfl, rfl⟩ := trodAll_nil h
  exact ⟨(), by simp only [argAV, RepT], trivial, fun _ => trivial⟩
 | pair a b iha ihb =>
  intro ts vs ds ps hg ha hv h
  obtain ⟨id, r, rfl, hok, hr, hb⟩ := ha
  obtain ⟨v, vs', d, ds', p, q, rfl, rfl, rfl, h1, h2⟩ := trodAll_cons h
  obtain ⟨y, h3, h4, h7⟩ := dataOf HB (hg id (by simp)) hok hr (hv 0 id v rfl rfl) h1
  obtain ⟨z, h5, h6, h8⟩ := ihb r vs' ds' q (fun u hu => hg u (List.mem_cons_of_mem _ hu)) hb (fun j id' v' q1 q2 => hv (j + 1) id' v' (by simpa using q1) (by simpa using q2)) h2
  refine ⟨(y, z), ?_, ⟨h4, h6⟩, fun hw => by
   simp only [DataW.weightsEach] at hw
   exact ⟨h7 hw.left, h8 hw.right⟩⟩
  simp only [argAV, RepT, RepV]
  rw [cz_Zeq]
  exact ⟨v, vs', rfl, h3, h5⟩
 | bool => intro ts vs ds ps hg ha hv h; obtain ⟨id, rfl, hok, hr⟩ := ha; exact one _ id vs ds ps (hg id (by simp)) hok hr hv h
 | int k => intro ts vs ds ps hg ha hv h; obtain ⟨id, rfl, hok, hr⟩ := ha; exact one _ id vs ds ps (hg id (by simp)) hok hr hv h
 | str => intro ts vs ds ps hg ha hv h; obtain ⟨id, rfl, hok, hr⟩ := ha; exact one _ id vs ds ps (hg id (by simp)) hok hr hv h
 | opq => intro ts vs ds ps hg ha hv h; obtain ⟨id, rfl, hok, hr⟩ := ha; exact one _ id vs ds ps (hg id (by simp)) hok hr hv h
 | map _ _ _ _ => intro ts vs ds ps hg ha hv h; obtain ⟨id, rfl, hok, hr⟩ := ha; exact one _ id vs ds ps (hg id (by simp)) hok hr hv h
 | dmap _ _ _ _ => intro ts vs ds ps hg ha hv h; obtain ⟨id, rfl, hok, hr⟩ := ha; exact one _ id vs ds ps (hg id (by simp)) hok hr hv h
 | slf => intro ts vs ds ps hg ha hv h; obtain ⟨id, rfl, hok, hr⟩ := ha; exact one _ id vs ds ps (hg id (by simp)) hok hr hv h
 | bld _ _ => intro ts vs ds ps hg ha hv h; obtain ⟨id, rfl, hok, hr⟩ := ha; exact one _ id vs ds ps (hg id (by simp)) hok hr hv h
 | slice e _ => intro ts vs ds ps hg ha hv h; obtain ⟨id, rfl, hok, hr⟩ := ha; exact one _ id vs ds ps (hg id (by simp)) hok hr hv h
 | st b _ => intro ts vs ds ps hg ha hv h; obtain ⟨id, rfl, hok, hr⟩ := ha; exact one _ id vs ds ps (hg id (by simp)) hok hr hv h
theorem argsBack {W W' : World} (hl : laidOutB P = true) (hb : Below W.heap.size W W') : ∀ (ts : List TypeId) (vs : List Value) (ds : List (DataW H)) (ps : List MemPlace), (∀ t, t ∈ ts → P.readableRec t = true ∧ t < P.types.size) →
  DataW.TrodAll enc P W 0 (fun _ => true) true ts vs ds ps → DataW.TrodAll enc P W' 0 (fun b => decide (b < W.heap.size)) true ts vs ds ps := by
 intro ts
 induction ts with
 | nil => intro vs ds ps _ h; obtain ⟨rfl, rfl, rfl⟩ := trodAll_nil h; exact trodAll_mk0
 | cons t ts ih =>
  intro vs ds ps ht h
  obtain ⟨v, vs', d, ds', p, q, rfl, rfl, rfl, h1, h2⟩ := trodAll_cons h
  have hlt : ∀ x ∈ p, x.block < W.heap.size := by
   obtain ⟨m, hm⟩ := h1
   exact DataW.trod_lt m _ _ _ hm
  obtain ⟨r1, r2⟩ := ht t (by simp)
  exact trodAll_cons_mk (Below.trod hl r1 r2 h1 hb hlt) (ih vs' ds' q (fun u hu => ht u (List.mem_cons_of_mem _ hu)) h2)
theorem rowContractG {G : World → Prop} {f : FuncId} {fn : Func} {t : Ty} {F : t.D → Option Bool} {rt : TypeId} {s : ChangeSpec} {base : Nat} {W : World} {args : Array Value} {ds gs : List (DataW H)} {before : List MemPlace}
  (hs : SpecOk P G f ⟨t, .bool, F⟩) (hl : laidOutB P = true) (hp : ArgsOk P t fn.params.toList) (hread : ∀ t, t ∈ fn.params.toList → P.readableRec t = true ∧ t < P.types.size)
  (hres : fn.resultTypes = #[rt]) (hrt : P.underlying rt = some .bool) (hvars : s.vars = []) (hfn : ∀ ds : List (DataW H), ds.length = fn.params.toList.length → s.fn H ds = { results := [.lit (.bool true)], args := ds })
  (hval : ∀ (j : Nat) t v, fn.params[j]? = some t → args[j]? = some v → Value.okWide P W .any base t v) (hW : DataW.Whole enc P fn.params.toList s.vars false W args.toList ds gs before)
  (hF : ∀ x, Wf t x → F x = some true) (hG : G W) :
  Calls P f args W fun e W' => ∃ v, e = .returned v ∧ s.post enc P fn false true false false W args v W' := by
 have hW' := hW
 obtain ⟨p, q, hA, hV, rfl, hfz, hnd⟩ := hW
 rw [hvars] at hV
 obtain ⟨rfl, rfl⟩ := trodVars_none hV
 obtain ⟨x, hx, hwf, _⟩ := argsOf (N := reachBytes) (B := fun _ => 0) (Gd := fun _ => True) ⟨fun _ _ _ _ => ⟨trivial, fun _ _ => Nat.zero_le _⟩, fun _ _ _ _ _ _ => trivial, fun _ _ _ _ _ => trivial⟩ t _ _ _ _ (fun _ _ => trivial) hp (fun j id v h1 h2 => hval j id v (by rw [← Array.getElem?_toList]; exact h1) (by rw [← Array.getElem?_toList]; exact h2)) hA
 refine (hs (fun _ => False) W args x true hG (fun _ h => h.elim) (hF x hwf) hx).mono fun e W' ⟨v, he, bel, hv⟩ => ⟨v, he, ?_⟩
 have hv : v = .bool true := repV_bool (by simpa only [resAV] using hv)
 subst hv
 have hlen : ds.length = fn.params.toList.length := by
  have : ∀ (ts : List TypeId) (vs : List Value) (ds : List (DataW H)) (ps : List MemPlace), DataW.TrodAll enc P W 0 (fun _ => true) true ts vs ds ps → ds.length = ts.length := by
   intro ts
   induction ts with
   | nil => intro vs ds ps h; obtain ⟨_, rfl, _⟩ := trodAll_nil h; rfl
   | cons t ts ih =>
    intro vs ds ps h
    obtain ⟨v, vs', d, ds', p, q, rfl, rfl, rfl, h1, h2⟩ := trodAll_cons h
    simp [ih _ _ _ h2]
  exact this _ _ _ _ hA
 refine ⟨ds, [], _, [], p, [], hW', ?_, ?_, ?_, bel.frame _, fun h => by cases h⟩
 ·rw [List.append_nil, hfn ds hlen, hres]
  exact trodAll_mk1 (shut_bool hrt _)
 ·rw [List.append_nil, hfn ds hlen]
  exact argsBack hl bel _ _ _ _ hread hA
 ·rw [List.append_nil, hfn ds hlen, hvars]
  rfl
end Go.PG
namespace Go.PG
def argsOkB (P : Program) : Ty → List TypeId → Bool
 | .unit, ts => match ts with
  | [] => true
  | _ => false
 | .pair a b, ts => match ts with
  | t :: r => match okB P a (.typ t), readTy a with
   | true, true => argsOkB P b r
   | _, _ => false
  | [] => false
 | a, ts => match ts with
  | [t] => match okB P a (.typ t), readTy a with
   | true, true => true
   | _, _ => false
  | _ => false
theorem ArgsOk.of_b {P : Program} : ∀ {t : Ty} {ts : List TypeId}, argsOkB P t ts = true → ArgsOk P t ts := by
 have one : ∀ {a : Ty} {ts : List TypeId}, (match ts with
   | [t] => match okB P a (.typ t), readTy a with
    | true, true => true
    | _, _ => false
   | _ => false) = true → ∃ t, ts = [t] ∧ Ok P a (.typ t) ∧ readTy a = true := by
  intro a ts h
  split at h
  ·rename_i t
   split at h
   ·rename_i h1 h2
    exact ⟨t, rfl, okB_spec h1, h2⟩
   ·cases h
  ·cases h
 intro t
 induction t with
 | unit =>
  intro ts h
  simp only [argsOkB] at h
  split at h
  ·rfl
  ·cases h
 | pair a b _ ihb =>
  intro ts h
  simp only [argsOkB] at h
  split at h
  ·split at h
   ·rename_i h1 h2
    exact ⟨_, _, rfl, okB_spec h1, h2, ihb h⟩
   ·cases h
  ·cases h
 | _ => intro ts h; exact one (by simpa only [argsOkB] using h)
def readB (P : Program) : List TypeId → Bool
 | [] => true
 | t :: r => match P.readableRec t, Nat.blt t P.types.size with
  | true, true => readB P r
  | _, _ => false
theorem readable_of_b {P : Program} : ∀ {ts : List TypeId}, readB P ts = true → ∀ t, t ∈ ts → P.readableRec t = true ∧ t < P.types.size := by
 intro ts
 induction ts with
 | nil => intro _ t h; cases h
 | cons u r ih =>
  intro h t ht
  simp only [readB] at h
  split at h
  ·rename_i h1 h2
   rcases List.mem_cons.1 ht with rfl | ht
   ·exact ⟨h1, by simpa [Nat.blt_eq] using h2⟩
   ·exact ih h t ht
  ·cases h
end Go.PG
end
section
namespace Go.PG
variable {P : Program}
end Go.PG
end
section
namespace Go.PG
open Go.RowKit Go.ChangeShapes
variable {P : Program} {w : World} {H : Type} {enc : TypeId × Value → H}
end Go.PG
end
section
namespace Go.Proofs
open Go.Shelf
def Tryz.lays156_ren : Go.Shelf.Ren := ⟨fun | 156 => 16 | 165 => 32 | 166 => 33 | 169 => 34 | 240 => 71 | 241 => 72 | 276 => 94 | 277 => 95 | n => n, fun | 31 => 40 | 9 => 9 | 3 => 3 | 4 => 4 | 0 => 0 | 20 => 20 | 72 => 96 | 76 => 100 | 70 => 93 | 37 => 94 | 75 => 99 | 127 => 141 | 164 => 172 | 5 => 5 | 80 => 102 | n => n, fun | n => n⟩
theorem Tryz.lays156 : Go.Proofs.Lays.n156 Tryz.prog Tryz.lays156_ren := {
  mixed := by kernel_rfl
  f156 := Tryz.func16.trans (congrArg some (by kernel_rfl))
  f165 := Tryz.func32.trans (congrArg some (by kernel_rfl))
  f166 := Tryz.func33.trans (congrArg some (by kernel_rfl))
  f169 := Tryz.func34.trans (congrArg some (by kernel_rfl))
  f240 := Tryz.func71.trans (congrArg some (by kernel_rfl))
  f241 := Tryz.func72.trans (congrArg some (by kernel_rfl))
  f276 := Tryz.func94.trans (congrArg some (by kernel_rfl))
  f277 := Tryz.func95.trans (congrArg some (by kernel_rfl))
  t0 := Tryz.underlying0
  a0 := Tryz.isAgg0
  z0 := Tryz.sizeOf0
  v0 := Tryz.zeroValue0
  t3 := Tryz.underlying3
  a3 := Tryz.isAgg3
  z3 := Tryz.sizeOf3
  v3 := Tryz.zeroValue3
  t4 := Tryz.underlying4
  a4 := Tryz.isAgg4
  z4 := Tryz.sizeOf4
  v4 := Tryz.zeroValue4
  t9 := Tryz.underlying9
  a9 := Tryz.isAgg9
  z9 := Tryz.sizeOf9
  v9 := Tryz.zeroValue9
  t20 := Tryz.underlying20
  a20 := Tryz.isAgg20
  z20 := Tryz.sizeOf20
  v20 := Tryz.zeroValue20
  t31 := Tryz.underlying40
  a31 := Tryz.isAgg40
  z31 := Tryz.sizeOf40
  v31 := Tryz.zeroValue40
  t37 := Tryz.underlying94
  a37 := Tryz.isAgg94
  z37 := Tryz.sizeOf94
  v37 := Tryz.zeroValue94
  t70 := Tryz.underlying93
  a70 := Tryz.isAgg93
  z70 := Tryz.sizeOf93
  v70 := Tryz.zeroValue93
  t72 := Tryz.underlying96
  a72 := Tryz.isAgg96
  z72 := Tryz.sizeOf96
  v72 := Tryz.zeroValue96
  t75 := Tryz.underlying99
  a75 := Tryz.isAgg99
  z75 := Tryz.sizeOf99
  v75 := Tryz.zeroValue99
  t76 := Tryz.underlying100
  a76 := Tryz.isAgg100
  z76 := Tryz.sizeOf100
  v76 := Tryz.zeroValue100
  t127 := Tryz.underlying141
  a127 := Tryz.isAgg141
  z127 := Tryz.sizeOf141
  v127 := Tryz.zeroValue141
  t164 := Tryz.underlying172
  a164 := Tryz.isAgg172
  z164 := Tryz.sizeOf172
  v164 := Tryz.zeroValue172 }
theorem Tryz.Builder_Extra_156 : Builder.Extra Tryz.prog Tryz.lays156_ren := {
  sizeBuilder := by kernel_rfl
  liesBuilder := by kernel_rfl
  t5 := Tryz.underlying5
  a5 := Tryz.isAgg5
  z5 := Tryz.sizeOf5
  v5 := Tryz.zeroValue5
  infoByte := by kernel_rfl
  cellsByte := by kernel_rfl
  sizeByte := by kernel_rfl
  neB5 := by decide }
open Go.RowKit in
theorem Tryz.strings_Join_none (a : Option Addr) (c : Nat) (sep : ByteArray) (w : World) :
    Calls Tryz.prog 16 #[.slice a 0 c, .string sep] w fun e w' => e = .returned (.string ⟨#[]⟩) ∧ w' = w := Any.strings_Join_none Tryz.lays156 Tryz.Builder_Extra_156 a c sep w
open Go.RowKit in
theorem Tryz.strings_Join (bk o c : Nat) (xs : List ByteArray) (sep : ByteArray) (w : World) (hcells : ∀ (j : Nat) x, xs[j]? = some x → w.cell? ⟨bk, o + j, none⟩ = some (.string x)) (hbk : bk < w.heap.size) (hN : xs.length ≤ 140737488355328) (hcap : xs.length ≤ c) (hlen : (Lib.join (xs.map (·.data.toList)) sep.data.toList).length ≤ 140737488355328) :
    Calls Tryz.prog 16 #[.slice (some ⟨bk, o, none⟩) xs.length c, .string sep] w fun e w' => e = .returned (.string ⟨(Lib.join (xs.map (·.data.toList)) sep.data.toList).toArray⟩) ∧ Below w.heap.size w w' := Any.strings_Join Tryz.lays156 Tryz.Builder_Extra_156 bk o c xs sep w hcells hbk hN hcap hlen
def Tryz.laysM171_ren : Go.Shelf.Ren := ⟨fun | 171 => 93 | 243 => 114 | 246 => 147 | 283 => 174 | 284 => 175 | 285 => 176 | 286 => 177 | 129 => 187 | 317 => 186 | 318 => 188 | 319 => 189 | 320 => 190 | 337 => 193 | 338 => 194 | n => n, fun | 3 => 3 | 9 => 9 | 2 => 2 | 4 => 4 | 171 => 261 | 0 => 0 | 53 => 244 | 37 => 94 | 5 => 5 | 173 => 264 | 212 => 274 | 51 => 275 | 20 => 20 | 213 => 276 | 46 => 278 | 232 => 283 | 233 => 284 | n => n, fun | 17 => 1 | 18 => 2 | 19 => 3 | n => n⟩
theorem Tryz.laysM171 : Go.Proofs.LaysM.n171 Tryz.prog Tryz.laysM171_ren := {
  mixed := by kernel_rfl
  f129 := Tryz.func187.trans (congrArg some (by kernel_rfl))
  f171 := Tryz.func93.trans (congrArg some (by kernel_rfl))
  f243 := Tryz.func114.trans (congrArg some (by kernel_rfl))
  f246 := Tryz.func147.trans (congrArg some (by kernel_rfl))
  f283 := Tryz.func174.trans (congrArg some (by kernel_rfl))
  f284 := Tryz.func175.trans (congrArg some (by kernel_rfl))
  f285 := Tryz.func176.trans (congrArg some (by kernel_rfl))
  f286 := Tryz.func177.trans (congrArg some (by kernel_rfl))
  f317 := Tryz.func186.trans (congrArg some (by kernel_rfl))
  f318 := Tryz.func188.trans (congrArg some (by kernel_rfl))
  f319 := Tryz.func189.trans (congrArg some (by kernel_rfl))
  f320 := Tryz.func190.trans (congrArg some (by kernel_rfl))
  f337 := Tryz.func193.trans (congrArg some (by kernel_rfl))
  f338 := Tryz.func194.trans (congrArg some (by kernel_rfl))
  t0 := Tryz.underlying0
  a0 := Tryz.isAgg0
  z0 := Tryz.sizeOf0
  v0 := Tryz.zeroValue0
  t2 := Tryz.underlying2
  a2 := Tryz.isAgg2
  z2 := Tryz.sizeOf2
  v2 := Tryz.zeroValue2
  t3 := Tryz.underlying3
  a3 := Tryz.isAgg3
  z3 := Tryz.sizeOf3
  v3 := Tryz.zeroValue3
  t4 := Tryz.underlying4
  a4 := Tryz.isAgg4
  z4 := Tryz.sizeOf4
  v4 := Tryz.zeroValue4
  t5 := Tryz.underlying5
  a5 := Tryz.isAgg5
  z5 := Tryz.sizeOf5
  v5 := Tryz.zeroValue5
  t9 := Tryz.underlying9
  a9 := Tryz.isAgg9
  z9 := Tryz.sizeOf9
  v9 := Tryz.zeroValue9
  t20 := Tryz.underlying20
  a20 := Tryz.isAgg20
  z20 := Tryz.sizeOf20
  v20 := Tryz.zeroValue20
  t37 := Tryz.underlying94
  a37 := Tryz.isAgg94
  z37 := Tryz.sizeOf94
  v37 := Tryz.zeroValue94
  t46 := Tryz.underlying278
  a46 := Tryz.isAgg278
  z46 := Tryz.sizeOf278
  v46 := Tryz.zeroValue278
  t51 := Tryz.underlying275
  a51 := Tryz.isAgg275
  z51 := Tryz.sizeOf275
  v51 := Tryz.zeroValue275
  t53 := Tryz.underlying244
  a53 := Tryz.isAgg244
  z53 := Tryz.sizeOf244
  v53 := Tryz.zeroValue244
  t171 := Tryz.underlying261
  a171 := Tryz.isAgg261
  z171 := Tryz.sizeOf261
  v171 := Tryz.zeroValue261
  t173 := Tryz.underlying264
  a173 := Tryz.isAgg264
  z173 := Tryz.sizeOf264
  v173 := Tryz.zeroValue264
  t212 := Tryz.underlying274
  a212 := Tryz.isAgg274
  z212 := Tryz.sizeOf274
  v212 := Tryz.zeroValue274
  t213 := Tryz.underlying276
  a213 := Tryz.isAgg276
  z213 := Tryz.sizeOf276
  t232 := Tryz.underlying283
  a232 := Tryz.isAgg283
  z232 := Tryz.sizeOf283
  v232 := Tryz.zeroValue283
  t233 := Tryz.underlying284
  a233 := Tryz.isAgg284
  z233 := Tryz.sizeOf284
  v233 := Tryz.zeroValue284
  g17 := by kernel_rfl
  g18 := by kernel_rfl
  g19 := by kernel_rfl
  i0 := by kernel_rfl
  i2 := by kernel_rfl
  i3 := by kernel_rfl
  i4 := by kernel_rfl
  i5 := by kernel_rfl
  i9 := by kernel_rfl
  i20 := by kernel_rfl
  i37 := by kernel_rfl
  i46 := by kernel_rfl
  i51 := by kernel_rfl
  i53 := by kernel_rfl
  i171 := by kernel_rfl
  i173 := by kernel_rfl
  i212 := by kernel_rfl
  i232 := by kernel_rfl
  i233 := by kernel_rfl
  m17 := by kernel_rfl
  m18 := by kernel_rfl
  m19 := by kernel_rfl }
open Go.RowKit Go.Sort Go.Lib in
theorem Tryz.strconv_Itoa (n : Int) (h0 : -9223372036854775808 ≤ n) (h1 : n ≤ 9223372036854775807) (w : World) (htab : Lib.TabIs Tryz.prog w "internal/strconv.uint64pow10" .u64 Lib.pow10Tab) :
    Calls Tryz.prog 93 #[.int .i64 n] w fun e w' => e = .returned (.string ⟨(Lib.itoa n).toArray⟩) ∧ ∃ k os, w' = grow (w.drewN k) os := Any.strconv_Itoa Tryz.laysM171 n h0 h1 w htab
end Go.Proofs
end
section
open Go Go.PG Go.Proofs
set_option linter.all false
set_option maxRecDepth 1000000
set_option maxHeartbeats 4000000
abbrev T_api_Func : Ty := .st (.pair .str (.pair (.slice .str) (.slice .slf)))
abbrev T_api_Program : Ty := .st (.slice T_api_Func)
abbrev T_api_Fault : Ty := .st (.pair (.int .i64) (.int .i64))
abbrev T_api_Atom : Ty := .st (.pair (.int .i64) (.int .i64))
abbrev T_api_Bind : Ty := .st (.pair .str (.slice T_api_Atom))
abbrev T_api_Field : Ty := .st (.pair .str (.pair .bool (.slice T_api_Atom)))
abbrev T_api_Shape : Ty := .st (.pair (.slice T_api_Field) (.slice T_api_Atom))
abbrev T_api_Loc : Ty := .st (.pair T_api_Atom T_api_Shape)
abbrev T_api_State : Ty := .st (.pair .bool (.pair (.slice T_api_Bind) (.slice T_api_Loc)))
abbrev T_api_Cast : Ty := .st (.pair (.int .i64) (.pair (.int .i64) (.pair (.int .i64) (.pair (.int .i64) (.pair .str (.int .i64))))))
abbrev T_api_Flow : Ty := .st (.pair (.slice T_api_State) (.pair (.slice T_api_Cast) (.pair (.slice T_api_Fault) T_api_State)))
abbrev T_api_Verdict : Ty := .st (.pair .bool (.pair (.slice T_api_Flow) (.pair (.slice T_api_Cast) (.slice T_api_Fault))))
abbrev T_api_Val : Ty := .st (.pair (.int .i64) (.int .i64))
abbrev T_api_Outcome : Ty := .st (.pair (.int .i64) (.pair (.int .i64) (.pair (.slice .str) (.pair T_api_Val (.int .i64)))))
abbrev T_family_member : Ty := .st (.pair (.slice .str) (.pair T_api_Val (.int .i64)))
abbrev T_api_Token : Ty := .st (.pair (.int .i64) (.pair .str (.int .i64)))
abbrev T_api_Sig : Ty := .st (.pair .str (.pair (.int .i64) (.slice .str)))
abbrev T_api_Prop : Ty := .st (.pair .str T_api_Val)
abbrev T_api_Obj : Ty := .st (.pair (.slice T_api_Prop) T_api_Val)
abbrev T_proteanref22_Machine : Ty := .st (.pair T_api_Program (.pair (.slice T_api_Cast) (.pair (.slice (.int .i64)) (.pair (.slice T_api_Val) (.pair (.int .i64) (.pair (.int .i64) (.pair (.slice T_api_Obj) (.pair (.int .i64) (.pair (.int .i64) (.pair (.slice .str) (.pair (.int .i64) (.pair .bool (.pair T_api_Verdict (.pair (.int .i64) (.slice (.int .i64))))))))))))))))
abbrev T_proteanref02_State : Ty := .st (.pair (.slice T_api_Token) (.pair (.int .i64) (.pair (.int .i64) (.pair (.int .i64) T_api_Fault))))
abbrev T_api_Operand : Ty := .st (.pair (.int .i64) (.pair (.int .i64) .str))
abbrev T_api_Frame : Ty := .st (.pair (.slice T_api_Prop) (.pair (.slice (.int .i64)) (.slice (.slice (.int .i64)))))
abbrev T_proteanref22_Turn : Ty := .st (.pair T_proteanref22_Machine (.pair T_api_Frame (.pair .bool T_api_Val)))
abbrev T_api_Found : Ty := .st (.pair (.slice T_api_Atom) (.pair .bool (.pair .bool .bool)))
abbrev t0 := Ty.D T_proteanref22_Turn
abbrev t1 := Ty.D T_proteanref22_Machine
abbrev t2 := Ty.D T_api_Verdict
abbrev t3 := Ty.D T_api_Flow
abbrev t4 := Ty.D T_api_State
abbrev t5 := Ty.D T_api_Loc
abbrev t6 := Ty.D T_api_Shape
abbrev t7 := Ty.D T_proteanref02_State
abbrev t8 := Ty.D T_api_Frame
abbrev t9 := Ty.D T_api_Outcome
abbrev t10 := Ty.D T_api_Obj
abbrev t11 := Ty.D T_api_Cast
abbrev t12 := Ty.D T_api_Func
abbrev t13 := Ty.D T_api_Found
abbrev t14 := Ty.D T_api_Field
abbrev t15 := Ty.D T_family_member
abbrev t16 := Ty.D T_api_Sig
noncomputable def T : List (Nat × TyRow) := [(3, ⟨(.int .i64), 0, false, false⟩), (4, ⟨.bool, 0, false, false⟩), (5, ⟨(.int .u8), 0, false, false⟩), (9, ⟨.str, 0, false, false⟩), (24, ⟨(.slice T_api_Func), 64, false, false⟩), (26, ⟨T_api_Program, 0, false, false⟩), (27, ⟨(.int .i64), 0, false, false⟩), (29, ⟨T_api_Fault, 0, true, false⟩), (32, ⟨(.slice T_api_Flow), 128, false, false⟩), (33, ⟨(.slice T_api_Cast), 56, false, false⟩), (34, ⟨(.slice T_api_Fault), 16, false, false⟩), (36, ⟨T_api_Verdict, 0, false, false⟩), (40, ⟨(.slice .str), 16, false, false⟩), (42, ⟨T_api_Val, 0, true, false⟩), (44, ⟨T_api_Outcome, 0, false, false⟩), (48, ⟨(.slice T_api_State), 56, false, false⟩), (49, ⟨(.slice T_api_Bind), 40, false, false⟩), (50, ⟨(.slice T_api_Loc), 64, false, false⟩), (52, ⟨T_api_State, 0, false, false⟩), (54, ⟨T_api_Flow, 0, false, false⟩), (55, ⟨T_api_Atom, 0, true, false⟩), (56, ⟨(.slice T_api_Atom), 16, false, false⟩), (58, ⟨(.slice (.int .i64)), 8, false, false⟩), (63, ⟨T_family_member, 0, false, false⟩), (67, ⟨(.slice T_api_Token), 32, false, false⟩), (72, ⟨(.slice T_api_Sig), 48, false, false⟩), (76, ⟨(.slice .slf), 152, false, false⟩), (78, ⟨T_api_Func, 0, false, false⟩), (80, ⟨T_api_Cast, 0, true, false⟩), (82, ⟨(.slice T_api_Val), 16, false, false⟩), (83, ⟨(.slice T_api_Obj), 40, false, false⟩), (85, ⟨T_proteanref22_Machine, 0, false, false⟩), (89, ⟨T_api_Bind, 0, false, false⟩), (91, ⟨.opq, 0, false, false⟩), (92, ⟨(.st (.pair .opq (.pair .opq (.pair .opq (.pair .opq .opq))))), 0, false, true⟩), (105, ⟨T_api_Token, 0, true, false⟩), (107, ⟨T_proteanref02_State, 0, false, false⟩), (120, ⟨(.slice T_api_Operand), 32, false, false⟩), (122, ⟨(.st slfB), 0, false, false⟩), (123, ⟨(.slice (.slice (.int .i64))), 24, false, false⟩), (130, ⟨T_api_Sig, 0, false, false⟩), (139, ⟨.opq, 0, false, false⟩), (147, ⟨T_api_Operand, 0, true, false⟩), (149, ⟨(.slice .bool), 1, false, false⟩), (153, ⟨(.slice T_api_Field), 48, false, false⟩), (155, ⟨T_api_Shape, 0, false, false⟩), (157, ⟨T_api_Loc, 0, false, false⟩), (165, ⟨(.slice T_api_Prop), 32, false, false⟩), (167, ⟨T_api_Frame, 0, false, false⟩), (169, ⟨T_proteanref22_Turn, 0, false, false⟩), (181, ⟨T_api_Field, 0, false, false⟩), (215, ⟨T_api_Prop, 0, true, false⟩), (233, ⟨T_api_Found, 0, false, false⟩), (244, ⟨(.int .u64), 0, false, false⟩), (255, ⟨T_api_Obj, 0, false, false⟩)]
theorem specNone {P : Go.Program} {G : World → Prop} {f : FuncId} {a r : Ty} : SpecOk P G f ⟨a, r, fun _ => none⟩ := fun _ _ _ _ _ _ _ h => by cases h
theorem mixedOk : Tryz.prog.follows .mixedOrders = true := by kernel_rfl
theorem tabOk : tysB Tryz.prog T = true := by kernel_rfl
abbrev GG (w : World) : Prop := Lib.TabIs Tryz.prog w "internal/strconv.uint64pow10" .u64 Lib.pow10Tab
theorem f98_ok : (Tryz.f98.name != "runtime.NumGoroutine" && Tryz.f98.body.isSome) = true := by kernel_rfl
theorem f82_ok : (Tryz.f82.name != "runtime.NumGoroutine" && Tryz.f82.body.isSome) = true := by kernel_rfl
theorem f148_ok : (Tryz.f148.name != "runtime.NumGoroutine" && Tryz.f148.body.isSome) = true := by kernel_rfl
theorem f149_ok : (Tryz.f149.name != "runtime.NumGoroutine" && Tryz.f149.body.isSome) = true := by kernel_rfl
theorem f117_ok : (Tryz.f117.name != "runtime.NumGoroutine" && Tryz.f117.body.isSome) = true := by kernel_rfl
theorem f99_ok : (Tryz.f99.name != "runtime.NumGoroutine" && Tryz.f99.body.isSome) = true := by kernel_rfl
theorem f79_ok : (Tryz.f79.name != "runtime.NumGoroutine" && Tryz.f79.body.isSome) = true := by kernel_rfl
theorem f58_ok : (Tryz.f58.name != "runtime.NumGoroutine" && Tryz.f58.body.isSome) = true := by kernel_rfl
theorem f26_ok : (Tryz.f26.name != "runtime.NumGoroutine" && Tryz.f26.body.isSome) = true := by kernel_rfl
theorem f150_ok : (Tryz.f150.name != "runtime.NumGoroutine" && Tryz.f150.body.isSome) = true := by kernel_rfl
theorem f151_ok : (Tryz.f151.name != "runtime.NumGoroutine" && Tryz.f151.body.isSome) = true := by kernel_rfl
theorem f152_ok : (Tryz.f152.name != "runtime.NumGoroutine" && Tryz.f152.body.isSome) = true := by kernel_rfl
theorem f129_ok : (Tryz.f129.name != "runtime.NumGoroutine" && Tryz.f129.body.isSome) = true := by kernel_rfl
theorem f191_ok : (Tryz.f191.name != "runtime.NumGoroutine" && Tryz.f191.body.isSome) = true := by kernel_rfl
theorem f66_ok : (Tryz.f66.name != "runtime.NumGoroutine" && Tryz.f66.body.isSome) = true := by kernel_rfl
theorem f67_ok : (Tryz.f67.name != "runtime.NumGoroutine" && Tryz.f67.body.isSome) = true := by kernel_rfl
theorem f27_ok : (Tryz.f27.name != "runtime.NumGoroutine" && Tryz.f27.body.isSome) = true := by kernel_rfl
theorem f28_ok : (Tryz.f28.name != "runtime.NumGoroutine" && Tryz.f28.body.isSome) = true := by kernel_rfl
theorem f29_ok : (Tryz.f29.name != "runtime.NumGoroutine" && Tryz.f29.body.isSome) = true := by kernel_rfl
theorem f30_ok : (Tryz.f30.name != "runtime.NumGoroutine" && Tryz.f30.body.isSome) = true := by kernel_rfl
theorem f31_ok : (Tryz.f31.name != "runtime.NumGoroutine" && Tryz.f31.body.isSome) = true := by kernel_rfl
theorem f15_ok : (Tryz.f15.name != "runtime.NumGoroutine" && Tryz.f15.body.isSome) = true := by kernel_rfl
theorem f5_ok : (Tryz.f5.name != "runtime.NumGoroutine" && Tryz.f5.body.isSome) = true := by kernel_rfl
theorem f10_ok : (Tryz.f10.name != "runtime.NumGoroutine" && Tryz.f10.body.isSome) = true := by kernel_rfl
theorem f12_ok : (Tryz.f12.name != "runtime.NumGoroutine" && Tryz.f12.body.isSome) = true := by kernel_rfl
theorem f6_ok : (Tryz.f6.name != "runtime.NumGoroutine" && Tryz.f6.body.isSome) = true := by kernel_rfl
theorem f35_ok : (Tryz.f35.name != "runtime.NumGoroutine" && Tryz.f35.body.isSome) = true := by kernel_rfl
theorem f36_ok : (Tryz.f36.name != "runtime.NumGoroutine" && Tryz.f36.body.isSome) = true := by kernel_rfl
theorem f38_ok : (Tryz.f38.name != "runtime.NumGoroutine" && Tryz.f38.body.isSome) = true := by kernel_rfl
theorem f37_ok : (Tryz.f37.name != "runtime.NumGoroutine" && Tryz.f37.body.isSome) = true := by kernel_rfl
theorem f39_ok : (Tryz.f39.name != "runtime.NumGoroutine" && Tryz.f39.body.isSome) = true := by kernel_rfl
theorem f17_ok : (Tryz.f17.name != "runtime.NumGoroutine" && Tryz.f17.body.isSome) = true := by kernel_rfl
theorem f40_ok : (Tryz.f40.name != "runtime.NumGoroutine" && Tryz.f40.body.isSome) = true := by kernel_rfl
theorem f87_ok : (Tryz.f87.name != "runtime.NumGoroutine" && Tryz.f87.body.isSome) = true := by kernel_rfl
theorem f88_ok : (Tryz.f88.name != "runtime.NumGoroutine" && Tryz.f88.body.isSome) = true := by kernel_rfl
theorem f59_ok : (Tryz.f59.name != "runtime.NumGoroutine" && Tryz.f59.body.isSome) = true := by kernel_rfl
theorem f73_ok : (Tryz.f73.name != "runtime.NumGoroutine" && Tryz.f73.body.isSome) = true := by kernel_rfl
theorem f74_ok : (Tryz.f74.name != "runtime.NumGoroutine" && Tryz.f74.body.isSome) = true := by kernel_rfl
theorem f41_ok : (Tryz.f41.name != "runtime.NumGoroutine" && Tryz.f41.body.isSome) = true := by kernel_rfl
theorem f75_ok : (Tryz.f75.name != "runtime.NumGoroutine" && Tryz.f75.body.isSome) = true := by kernel_rfl
theorem f42_ok : (Tryz.f42.name != "runtime.NumGoroutine" && Tryz.f42.body.isSome) = true := by kernel_rfl
theorem f43_ok : (Tryz.f43.name != "runtime.NumGoroutine" && Tryz.f43.body.isSome) = true := by kernel_rfl
theorem f96_ok : (Tryz.f96.name != "runtime.NumGoroutine" && Tryz.f96.body.isSome) = true := by kernel_rfl
theorem f115_ok : (Tryz.f115.name != "runtime.NumGoroutine" && Tryz.f115.body.isSome) = true := by kernel_rfl
theorem f116_ok : (Tryz.f116.name != "runtime.NumGoroutine" && Tryz.f116.body.isSome) = true := by kernel_rfl
theorem f97_ok : (Tryz.f97.name != "runtime.NumGoroutine" && Tryz.f97.body.isSome) = true := by kernel_rfl
theorem f44_ok : (Tryz.f44.name != "runtime.NumGoroutine" && Tryz.f44.body.isSome) = true := by kernel_rfl
theorem f76_ok : (Tryz.f76.name != "runtime.NumGoroutine" && Tryz.f76.body.isSome) = true := by kernel_rfl
theorem f18_ok : (Tryz.f18.name != "runtime.NumGoroutine" && Tryz.f18.body.isSome) = true := by kernel_rfl
theorem f7_ok : (Tryz.f7.name != "runtime.NumGoroutine" && Tryz.f7.body.isSome) = true := by kernel_rfl
theorem f45_ok : (Tryz.f45.name != "runtime.NumGoroutine" && Tryz.f45.body.isSome) = true := by kernel_rfl
theorem f46_ok : (Tryz.f46.name != "runtime.NumGoroutine" && Tryz.f46.body.isSome) = true := by kernel_rfl
theorem f47_ok : (Tryz.f47.name != "runtime.NumGoroutine" && Tryz.f47.body.isSome) = true := by kernel_rfl
theorem f48_ok : (Tryz.f48.name != "runtime.NumGoroutine" && Tryz.f48.body.isSome) = true := by kernel_rfl
theorem f19_ok : (Tryz.f19.name != "runtime.NumGoroutine" && Tryz.f19.body.isSome) = true := by kernel_rfl
theorem f77_ok : (Tryz.f77.name != "runtime.NumGoroutine" && Tryz.f77.body.isSome) = true := by kernel_rfl
theorem f49_ok : (Tryz.f49.name != "runtime.NumGoroutine" && Tryz.f49.body.isSome) = true := by kernel_rfl
theorem f50_ok : (Tryz.f50.name != "runtime.NumGoroutine" && Tryz.f50.body.isSome) = true := by kernel_rfl
theorem f51_ok : (Tryz.f51.name != "runtime.NumGoroutine" && Tryz.f51.body.isSome) = true := by kernel_rfl
theorem f78_ok : (Tryz.f78.name != "runtime.NumGoroutine" && Tryz.f78.body.isSome) = true := by kernel_rfl
theorem f52_ok : (Tryz.f52.name != "runtime.NumGoroutine" && Tryz.f52.body.isSome) = true := by kernel_rfl
theorem f53_ok : (Tryz.f53.name != "runtime.NumGoroutine" && Tryz.f53.body.isSome) = true := by kernel_rfl
theorem f20_ok : (Tryz.f20.name != "runtime.NumGoroutine" && Tryz.f20.body.isSome) = true := by kernel_rfl
theorem f80_ok : (Tryz.f80.name != "runtime.NumGoroutine" && Tryz.f80.body.isSome) = true := by kernel_rfl
theorem f81_ok : (Tryz.f81.name != "runtime.NumGoroutine" && Tryz.f81.body.isSome) = true := by kernel_rfl
theorem f54_ok : (Tryz.f54.name != "runtime.NumGoroutine" && Tryz.f54.body.isSome) = true := by kernel_rfl
theorem f55_ok : (Tryz.f55.name != "runtime.NumGoroutine" && Tryz.f55.body.isSome) = true := by kernel_rfl
theorem f83_ok : (Tryz.f83.name != "runtime.NumGoroutine" && Tryz.f83.body.isSome) = true := by kernel_rfl
theorem f85_ok : (Tryz.f85.name != "runtime.NumGoroutine" && Tryz.f85.body.isSome) = true := by kernel_rfl
theorem f118_ok : (Tryz.f118.name != "runtime.NumGoroutine" && Tryz.f118.body.isSome) = true := by kernel_rfl
theorem f13_ok : (Tryz.f13.name != "runtime.NumGoroutine" && Tryz.f13.body.isSome) = true := by kernel_rfl
theorem f125_ok : (Tryz.f125.name != "runtime.NumGoroutine" && Tryz.f125.body.isSome) = true := by kernel_rfl
theorem f119_ok : (Tryz.f119.name != "runtime.NumGoroutine" && Tryz.f119.body.isSome) = true := by kernel_rfl
theorem f120_ok : (Tryz.f120.name != "runtime.NumGoroutine" && Tryz.f120.body.isSome) = true := by kernel_rfl
theorem f153_ok : (Tryz.f153.name != "runtime.NumGoroutine" && Tryz.f153.body.isSome) = true := by kernel_rfl
theorem f121_ok : (Tryz.f121.name != "runtime.NumGoroutine" && Tryz.f121.body.isSome) = true := by kernel_rfl
theorem f130_ok : (Tryz.f130.name != "runtime.NumGoroutine" && Tryz.f130.body.isSome) = true := by kernel_rfl
theorem f160_ok : (Tryz.f160.name != "runtime.NumGoroutine" && Tryz.f160.body.isSome) = true := by kernel_rfl
theorem f178_ok : (Tryz.f178.name != "runtime.NumGoroutine" && Tryz.f178.body.isSome) = true := by kernel_rfl
theorem f154_ok : (Tryz.f154.name != "runtime.NumGoroutine" && Tryz.f154.body.isSome) = true := by kernel_rfl
theorem f122_ok : (Tryz.f122.name != "runtime.NumGoroutine" && Tryz.f122.body.isSome) = true := by kernel_rfl
theorem f161_ok : (Tryz.f161.name != "runtime.NumGoroutine" && Tryz.f161.body.isSome) = true := by kernel_rfl
theorem f156_ok : (Tryz.f156.name != "runtime.NumGoroutine" && Tryz.f156.body.isSome) = true := by kernel_rfl
theorem f179_ok : (Tryz.f179.name != "runtime.NumGoroutine" && Tryz.f179.body.isSome) = true := by kernel_rfl
theorem f180_ok : (Tryz.f180.name != "runtime.NumGoroutine" && Tryz.f180.body.isSome) = true := by kernel_rfl
theorem f155_ok : (Tryz.f155.name != "runtime.NumGoroutine" && Tryz.f155.body.isSome) = true := by kernel_rfl
theorem f123_ok : (Tryz.f123.name != "runtime.NumGoroutine" && Tryz.f123.body.isSome) = true := by kernel_rfl
theorem f132_ok : (Tryz.f132.name != "runtime.NumGoroutine" && Tryz.f132.body.isSome) = true := by kernel_rfl
theorem f131_ok : (Tryz.f131.name != "runtime.NumGoroutine" && Tryz.f131.body.isSome) = true := by kernel_rfl
theorem f182_ok : (Tryz.f182.name != "runtime.NumGoroutine" && Tryz.f182.body.isSome) = true := by kernel_rfl
theorem f181_ok : (Tryz.f181.name != "runtime.NumGoroutine" && Tryz.f181.body.isSome) = true := by kernel_rfl
theorem f157_ok : (Tryz.f157.name != "runtime.NumGoroutine" && Tryz.f157.body.isSome) = true := by kernel_rfl
theorem f124_ok : (Tryz.f124.name != "runtime.NumGoroutine" && Tryz.f124.body.isSome) = true := by kernel_rfl
theorem f158_ok : (Tryz.f158.name != "runtime.NumGoroutine" && Tryz.f158.body.isSome) = true := by kernel_rfl
theorem f126_ok : (Tryz.f126.name != "runtime.NumGoroutine" && Tryz.f126.body.isSome) = true := by kernel_rfl
theorem f159_ok : (Tryz.f159.name != "runtime.NumGoroutine" && Tryz.f159.body.isSome) = true := by kernel_rfl
theorem f127_ok : (Tryz.f127.name != "runtime.NumGoroutine" && Tryz.f127.body.isSome) = true := by kernel_rfl
theorem f100_ok : (Tryz.f100.name != "runtime.NumGoroutine" && Tryz.f100.body.isSome) = true := by kernel_rfl
theorem f101_ok : (Tryz.f101.name != "runtime.NumGoroutine" && Tryz.f101.body.isSome) = true := by kernel_rfl
theorem f104_ok : (Tryz.f104.name != "runtime.NumGoroutine" && Tryz.f104.body.isSome) = true := by kernel_rfl
theorem f102_ok : (Tryz.f102.name != "runtime.NumGoroutine" && Tryz.f102.body.isSome) = true := by kernel_rfl
theorem f128_ok : (Tryz.f128.name != "runtime.NumGoroutine" && Tryz.f128.body.isSome) = true := by kernel_rfl
theorem f103_ok : (Tryz.f103.name != "runtime.NumGoroutine" && Tryz.f103.body.isSome) = true := by kernel_rfl
theorem f106_ok : (Tryz.f106.name != "runtime.NumGoroutine" && Tryz.f106.body.isSome) = true := by kernel_rfl
theorem f105_ok : (Tryz.f105.name != "runtime.NumGoroutine" && Tryz.f105.body.isSome) = true := by kernel_rfl
theorem f133_ok : (Tryz.f133.name != "runtime.NumGoroutine" && Tryz.f133.body.isSome) = true := by kernel_rfl
theorem f107_ok : (Tryz.f107.name != "runtime.NumGoroutine" && Tryz.f107.body.isSome) = true := by kernel_rfl
theorem f56_ok : (Tryz.f56.name != "runtime.NumGoroutine" && Tryz.f56.body.isSome) = true := by kernel_rfl
theorem f84_ok : (Tryz.f84.name != "runtime.NumGoroutine" && Tryz.f84.body.isSome) = true := by kernel_rfl
theorem f21_ok : (Tryz.f21.name != "runtime.NumGoroutine" && Tryz.f21.body.isSome) = true := by kernel_rfl
theorem f86_ok : (Tryz.f86.name != "runtime.NumGoroutine" && Tryz.f86.body.isSome) = true := by kernel_rfl
theorem f57_ok : (Tryz.f57.name != "runtime.NumGoroutine" && Tryz.f57.body.isSome) = true := by kernel_rfl
theorem f22_ok : (Tryz.f22.name != "runtime.NumGoroutine" && Tryz.f22.body.isSome) = true := by kernel_rfl
theorem f8_ok : (Tryz.f8.name != "runtime.NumGoroutine" && Tryz.f8.body.isSome) = true := by kernel_rfl
theorem f162_ok : (Tryz.f162.name != "runtime.NumGoroutine" && Tryz.f162.body.isSome) = true := by kernel_rfl
theorem f134_ok : (Tryz.f134.name != "runtime.NumGoroutine" && Tryz.f134.body.isSome) = true := by kernel_rfl
theorem f109_ok : (Tryz.f109.name != "runtime.NumGoroutine" && Tryz.f109.body.isSome) = true := by kernel_rfl
theorem f110_ok : (Tryz.f110.name != "runtime.NumGoroutine" && Tryz.f110.body.isSome) = true := by kernel_rfl
theorem f62_ok : (Tryz.f62.name != "runtime.NumGoroutine" && Tryz.f62.body.isSome) = true := by kernel_rfl
theorem f90_ok : (Tryz.f90.name != "runtime.NumGoroutine" && Tryz.f90.body.isSome) = true := by kernel_rfl
theorem f24_ok : (Tryz.f24.name != "runtime.NumGoroutine" && Tryz.f24.body.isSome) = true := by kernel_rfl
theorem f108_ok : (Tryz.f108.name != "runtime.NumGoroutine" && Tryz.f108.body.isSome) = true := by kernel_rfl
theorem f60_ok : (Tryz.f60.name != "runtime.NumGoroutine" && Tryz.f60.body.isSome) = true := by kernel_rfl
theorem f89_ok : (Tryz.f89.name != "runtime.NumGoroutine" && Tryz.f89.body.isSome) = true := by kernel_rfl
theorem f61_ok : (Tryz.f61.name != "runtime.NumGoroutine" && Tryz.f61.body.isSome) = true := by kernel_rfl
theorem f23_ok : (Tryz.f23.name != "runtime.NumGoroutine" && Tryz.f23.body.isSome) = true := by kernel_rfl
theorem f9_ok : (Tryz.f9.name != "runtime.NumGoroutine" && Tryz.f9.body.isSome) = true := by kernel_rfl
theorem f111_ok : (Tryz.f111.name != "runtime.NumGoroutine" && Tryz.f111.body.isSome) = true := by kernel_rfl
theorem f91_ok : (Tryz.f91.name != "runtime.NumGoroutine" && Tryz.f91.body.isSome) = true := by kernel_rfl
theorem f112_ok : (Tryz.f112.name != "runtime.NumGoroutine" && Tryz.f112.body.isSome) = true := by kernel_rfl
theorem f136_ok : (Tryz.f136.name != "runtime.NumGoroutine" && Tryz.f136.body.isSome) = true := by kernel_rfl
theorem f141_ok : (Tryz.f141.name != "runtime.NumGoroutine" && Tryz.f141.body.isSome) = true := by kernel_rfl
theorem f166_ok : (Tryz.f166.name != "runtime.NumGoroutine" && Tryz.f166.body.isSome) = true := by kernel_rfl
theorem f137_ok : (Tryz.f137.name != "runtime.NumGoroutine" && Tryz.f137.body.isSome) = true := by kernel_rfl
theorem f163_ok : (Tryz.f163.name != "runtime.NumGoroutine" && Tryz.f163.body.isSome) = true := by kernel_rfl
theorem f183_ok : (Tryz.f183.name != "runtime.NumGoroutine" && Tryz.f183.body.isSome) = true := by kernel_rfl
theorem f192_ok : (Tryz.f192.name != "runtime.NumGoroutine" && Tryz.f192.body.isSome) = true := by kernel_rfl
theorem f184_ok : (Tryz.f184.name != "runtime.NumGoroutine" && Tryz.f184.body.isSome) = true := by kernel_rfl
theorem f164_ok : (Tryz.f164.name != "runtime.NumGoroutine" && Tryz.f164.body.isSome) = true := by kernel_rfl
theorem f169_ok : (Tryz.f169.name != "runtime.NumGoroutine" && Tryz.f169.body.isSome) = true := by kernel_rfl
theorem f168_ok : (Tryz.f168.name != "runtime.NumGoroutine" && Tryz.f168.body.isSome) = true := by kernel_rfl
theorem f170_ok : (Tryz.f170.name != "runtime.NumGoroutine" && Tryz.f170.body.isSome) = true := by kernel_rfl
theorem f140_ok : (Tryz.f140.name != "runtime.NumGoroutine" && Tryz.f140.body.isSome) = true := by kernel_rfl
theorem f185_ok : (Tryz.f185.name != "runtime.NumGoroutine" && Tryz.f185.body.isSome) = true := by kernel_rfl
theorem f165_ok : (Tryz.f165.name != "runtime.NumGoroutine" && Tryz.f165.body.isSome) = true := by kernel_rfl
theorem f135_ok : (Tryz.f135.name != "runtime.NumGoroutine" && Tryz.f135.body.isSome) = true := by kernel_rfl
theorem f138_ok : (Tryz.f138.name != "runtime.NumGoroutine" && Tryz.f138.body.isSome) = true := by kernel_rfl
theorem f167_ok : (Tryz.f167.name != "runtime.NumGoroutine" && Tryz.f167.body.isSome) = true := by kernel_rfl
theorem f139_ok : (Tryz.f139.name != "runtime.NumGoroutine" && Tryz.f139.body.isSome) = true := by kernel_rfl
theorem f142_ok : (Tryz.f142.name != "runtime.NumGoroutine" && Tryz.f142.body.isSome) = true := by kernel_rfl
theorem f171_ok : (Tryz.f171.name != "runtime.NumGoroutine" && Tryz.f171.body.isSome) = true := by kernel_rfl
theorem f172_ok : (Tryz.f172.name != "runtime.NumGoroutine" && Tryz.f172.body.isSome) = true := by kernel_rfl
theorem f173_ok : (Tryz.f173.name != "runtime.NumGoroutine" && Tryz.f173.body.isSome) = true := by kernel_rfl
theorem f143_ok : (Tryz.f143.name != "runtime.NumGoroutine" && Tryz.f143.body.isSome) = true := by kernel_rfl
theorem f145_ok : (Tryz.f145.name != "runtime.NumGoroutine" && Tryz.f145.body.isSome) = true := by kernel_rfl
theorem f146_ok : (Tryz.f146.name != "runtime.NumGoroutine" && Tryz.f146.body.isSome) = true := by kernel_rfl
theorem f63_ok : (Tryz.f63.name != "runtime.NumGoroutine" && Tryz.f63.body.isSome) = true := by kernel_rfl
theorem f92_ok : (Tryz.f92.name != "runtime.NumGoroutine" && Tryz.f92.body.isSome) = true := by kernel_rfl
theorem f113_ok : (Tryz.f113.name != "runtime.NumGoroutine" && Tryz.f113.body.isSome) = true := by kernel_rfl
theorem f144_ok : (Tryz.f144.name != "runtime.NumGoroutine" && Tryz.f144.body.isSome) = true := by kernel_rfl
theorem f25_ok : (Tryz.f25.name != "runtime.NumGoroutine" && Tryz.f25.body.isSome) = true := by kernel_rfl
theorem f11_ok : (Tryz.f11.name != "runtime.NumGoroutine" && Tryz.f11.body.isSome) = true := by kernel_rfl
theorem f64_ok : (Tryz.f64.name != "runtime.NumGoroutine" && Tryz.f64.body.isSome) = true := by kernel_rfl
theorem f65_ok : (Tryz.f65.name != "runtime.NumGoroutine" && Tryz.f65.body.isSome) = true := by kernel_rfl
theorem f68_ok : (Tryz.f68.name != "runtime.NumGoroutine" && Tryz.f68.body.isSome) = true := by kernel_rfl
theorem f69_ok : (Tryz.f69.name != "runtime.NumGoroutine" && Tryz.f69.body.isSome) = true := by kernel_rfl
theorem f70_ok : (Tryz.f70.name != "runtime.NumGoroutine" && Tryz.f70.body.isSome) = true := by kernel_rfl
theorem f93_ok : (Tryz.f93.name != "runtime.NumGoroutine" && Tryz.f93.body.isSome) = true := by kernel_rfl
theorem f16_ok : (Tryz.f16.name != "runtime.NumGoroutine" && Tryz.f16.body.isSome) = true := by kernel_rfl
noncomputable def codes : List (Nat × Func × List (Nat × Hint)) := [(64, Tryz.f64, [(3, ⟨[.var 7 (.o .str), .var 8 (.d (.int .i64))], [], (some (0, [.var 7 (.o .str)]))⟩)]), (65, Tryz.f65, []), (68, Tryz.f68, []), (69, Tryz.f69, []), (70, Tryz.f70, [])]
theorem codesOk : CodesOk Tryz.prog codes := .cons Tryz.func64 f64_ok <| .cons Tryz.func65 f65_ok <| .cons Tryz.func68 f68_ok <| .cons Tryz.func69 f69_ok <| .cons Tryz.func70 f70_ok <| .nil
theorem ggKeep : ∀ w w' : World, GG w → Go.RowKit.Below w.heap.size w w' → GG w' := fun w w' h hb => by
  show World.var? Tryz.prog w' _ = _
  have h : World.var? Tryz.prog w _ = _ := h
  unfold World.var? at h ⊢
  cases hg : Tryz.prog.globalNamed "internal/strconv.uint64pow10" with
  | none => rw [hg] at h; cases h
  | some g =>
    rw [hg] at h
    simp only [Option.bind_some] at h ⊢
    have hlt : g < w.heap.size := by
      rcases Nat.lt_or_ge g w.heap.size with q | q
      · exact q
      · rw [Array.getElem?_eq_none q] at h; cases h
    rw [hb.block g hlt]
    exact h
def strconv_Itoa (_k : Nat) (n : Int) : Option ByteArray := if -9223372036854775808 ≤ n ∧ n ≤ 9223372036854775807 then some ⟨(Lib.itoa n).toArray⟩ else none
theorem strconv_Itoa_spec (k : Nat) : SpecOk Tryz.prog GG 93 ⟨(.int .i64), .str, strconv_Itoa k⟩ := by
  intro Z w vals x r hG _ hx ha
  simp only [strconv_Itoa] at hx
  split at hx
  case isFalse => cases hx
  rename_i hb
  injection hx with hx
  simp only [argAV, RepT] at ha
  obtain ⟨v1, e1, h1⟩ := ha
  have h1 := repV_int (k := .i64) (n := x) (by simpa only [RepV] using h1)
  subst h1
  obtain rfl : vals = #[.int .i64 x] := Array.toList_inj.1 (by simpa using e1)
  refine (Tryz.strconv_Itoa x hb.1 hb.2 w hG).mono fun e w' ⟨he, k, os, hw⟩ => ⟨_, he, ?_, ?_⟩
  · rw [hw]
    refine ⟨rfl, rfl, rfl, ?_, fun j hj => ?_⟩
    · show w.heap.size ≤ (w.heap ++ os).size
      simp
    · show (w.heap ++ os)[j]? = w.heap[j]?
      exact Array.getElem?_append_left hj
  · rw [← hx]; simp [resAV, RepV, RepD, isSt]
def strings_Join (_k : Nat) (x : List ByteArray × ByteArray) : Option ByteArray := if x.1.length ≤ 140737488355328 ∧ (Lib.join (x.1.map fun b => b.data.toList) x.2.data.toList).length ≤ 140737488355328 then some ⟨(Lib.join (x.1.map fun b => b.data.toList) x.2.data.toList).toArray⟩ else none
theorem strings_Join_spec (k : Nat) : SpecOk Tryz.prog GG 16 ⟨(.pair (.slice .str) .str), .str, strings_Join k⟩ := by
  intro Z w vals x r _ _ hx ha
  simp only [strings_Join] at hx
  split at hx
  case isFalse => cases hx
  rename_i hb
  injection hx with hx
  simp only [argAV, RepT] at ha
  obtain ⟨v1, l1, e1, h1, h2⟩ := ha
  obtain ⟨v2, rfl, h2⟩ := h2
  have h2 : v2 = .string x.2 := repV_str (c := cz Z w) (by simpa only [RepV] using h2)
  subst h2
  rcases repV_data h1 with ⟨q, _⟩ | ⟨_, q⟩
  · cases q
  simp only [RepD] at q
  obtain ⟨A, cap, ev, hle, hel⟩ := q
  obtain rfl : v1 = .slice A x.1.length cap := by simpa using ev
  obtain rfl : vals = #[.slice A x.1.length cap, .string x.2] := Array.toList_inj.1 (by simpa using e1)
  rcases hel with hnil | ⟨b, o, rfl, hbw, _, hel⟩
  · rw [hnil]
    refine (Tryz.strings_Join_none A cap x.2 w).mono fun e w' ⟨he, hw⟩ => ⟨_, he, ?_, ?_⟩
    · rw [hw]; exact Go.RowKit.Below.refl _ _
    · rw [← hx, hnil]; simp [resAV, RepV, RepD, isSt, Lib.join_nil]
  · refine (Tryz.strings_Join b o cap x.1 x.2 w (fun j y hy => ?_) hbw hb.1 hle hb.2).mono fun e w' ⟨he, hw⟩ => ⟨_, he, hw, ?_⟩
    · obtain ⟨c, hc, hm⟩ := hel j y hy
      subst hc
      have := hm 0 (.string y) rfl
      have this : w.cell? ⟨b, o + j * 1 + 0, none⟩ = some (.string y) := this
      rw [Nat.mul_one, Nat.add_zero] at this
      exact this
    · rw [← hx]; simp [resAV, RepV, RepD, isSt]
noncomputable abbrev EN (k : Nat) (sp : List (Nat × Go.PG.Spec)) : Go.PG.Env := { T := T, specs := sp, codes := codes, k := k, calm := [64] }
noncomputable def ref06_Same : (k : Nat) → (Ty.D (.pair (.slice T_api_Atom) (.slice T_api_Atom))) → Option (Ty.D .bool) := fun (k : Nat) (x : (T_api_Atom.slice.pair T_api_Atom.slice).D) => P.cond (P.not (P.ieq (P.len x.1) (P.len x.2))) (some false) (P.bind (P.iter k (fun (y : Int) => P.cond (P.ilt y (P.len x.1)) (P.cond (P.inb y (P.len x.1)) (P.cond (P.inb y (P.len x.2)) (P.cond (P.not (P.and (P.ieq (P.get x.1 y ((0 : Int), (0 : Int))).1 (P.get x.2 y ((0 : Int), (0 : Int))).1) (P.ieq (P.get x.1 y ((0 : Int), (0 : Int))).2 (P.get x.2 y ((0 : Int), (0 : Int))).2))) (some (Sum.inr (Sum.inr false))) (some (Sum.inl (P.wrap .i64 (P.add y (1 : Int)))))) none) none) (some (Sum.inr (Sum.inl ())))) (0 : Int)) (P.either (fun (z : PUnit) => some true) fun (r : Bool) => some r))
theorem ref06_Same_eq (k : Nat) (x : (Ty.D (.pair (.slice T_api_Atom) (.slice T_api_Atom)))) : evFn (EN k []) 6 Tryz.f98 [(4, ⟨[.var 5 (.d (.int .i64))], [], (some (0, []))⟩)] (.pair (.slice T_api_Atom) (.slice T_api_Atom)) .bool x = ref06_Same k x := by kernel_rfl
theorem ref06_Same_spec (k : Nat) : SpecOk Tryz.prog GG 98 ⟨(.pair (.slice T_api_Atom) (.slice T_api_Atom)), .bool, ref06_Same k⟩ :=
  fn_spec (envOk (E := EN k _) tabOk (.nil) codesOk mixedOk ggKeep) Tryz.func98 (fun x => (ref06_Same_eq k x).symm)
noncomputable def ref06_Less : (k : Nat) → (Ty.D (.pair T_api_Atom T_api_Atom)) → Option (Ty.D .bool) := fun (k : Nat) (x : (T_api_Atom.pair T_api_Atom).D) => P.cond (P.ilt x.1.1 x.2.1) (some true) (P.cond (P.ieq x.1.1 x.2.1) (some (P.ilt x.1.2 x.2.2)) (some false))
theorem ref06_Less_eq (k : Nat) (x : (Ty.D (.pair T_api_Atom T_api_Atom))) : evFn (EN k []) 6 Tryz.f82 [] (.pair T_api_Atom T_api_Atom) .bool x = ref06_Less k x := by kernel_rfl
theorem ref06_Less_spec (k : Nat) : SpecOk Tryz.prog GG 82 ⟨(.pair T_api_Atom T_api_Atom), .bool, ref06_Less k⟩ :=
  fn_spec (envOk (E := EN k _) tabOk (.nil) codesOk mixedOk ggKeep) Tryz.func82 (fun x => (ref06_Less_eq k x).symm)
noncomputable def ref06_Right : (k : Nat) → (Ty.D T_api_Atom) → Option (Ty.D .bool) := fun (k : Nat) (x : T_api_Atom.D) => P.cond (P.ile ((3 : Int)) x.1) (P.cond (P.ile x.1 ((5 : Int))) (some (P.ile (0 : Int) x.2)) (P.cond (P.ile (0 : Int) x.1) (P.cond (P.ile x.1 ((6 : Int))) (some (P.ieq x.2 (0 : Int))) (some false)) (some false))) (P.cond (P.ile (0 : Int) x.1) (P.cond (P.ile x.1 ((6 : Int))) (some (P.ieq x.2 (0 : Int))) (some false)) (some false))
theorem ref06_Right_eq (k : Nat) (x : (Ty.D T_api_Atom)) : evFn (EN k []) 6 Tryz.f148 [] T_api_Atom .bool x = ref06_Right k x := by kernel_rfl
theorem ref06_Right_spec (k : Nat) : SpecOk Tryz.prog GG 148 ⟨T_api_Atom, .bool, ref06_Right k⟩ :=
  fn_spec (envOk (E := EN k _) tabOk (.nil) codesOk mixedOk ggKeep) Tryz.func148 (fun x => (ref06_Right_eq k x).symm)
noncomputable def ref06_Has : (k : Nat) → (Ty.D (.pair (.slice T_api_Atom) T_api_Atom)) → Option (Ty.D .bool) := fun (k : Nat) (x : (T_api_Atom.slice.pair T_api_Atom).D) => P.bind (P.iter k (fun (y : Int) => P.cond (P.ilt y (P.len x.1)) (P.cond (P.inb y (P.len x.1)) (P.cond (P.and (P.ieq (P.get x.1 y ((0 : Int), (0 : Int))).1 x.2.1) (P.ieq (P.get x.1 y ((0 : Int), (0 : Int))).2 x.2.2)) (some (Sum.inr (Sum.inr true))) (some (Sum.inl (P.wrap .i64 (P.add y (1 : Int)))))) none) (some (Sum.inr (Sum.inl ())))) (0 : Int)) (P.either (fun (z : PUnit) => some false) fun (r : Bool) => some r)
theorem ref06_Has_eq (k : Nat) (x : (Ty.D (.pair (.slice T_api_Atom) T_api_Atom))) : evFn (EN k []) 6 Tryz.f149 [(2, ⟨[.var 5 (.d (.int .i64))], [], (some (0, []))⟩)] (.pair (.slice T_api_Atom) T_api_Atom) .bool x = ref06_Has k x := by kernel_rfl
theorem ref06_Has_spec (k : Nat) : SpecOk Tryz.prog GG 149 ⟨(.pair (.slice T_api_Atom) T_api_Atom), .bool, ref06_Has k⟩ :=
  fn_spec (envOk (E := EN k _) tabOk (.nil) codesOk mixedOk ggKeep) Tryz.func149 (fun x => (ref06_Has_eq k x).symm)
noncomputable def ref06_add : (k : Nat) → (Ty.D (.pair (.slice T_api_Atom) T_api_Atom)) → Option (Ty.D (.slice T_api_Atom)) := fun (k : Nat) (x : (T_api_Atom.slice.pair T_api_Atom).D) => P.bind (ref06_Right k x.2) fun (r : Bool) => P.cond (P.not r) (some x.1) (P.bind (ref06_Has k (x.1, x.2)) fun (r : Bool) => P.cond r (some x.1) (P.bind (P.iter k (fun (y : List (Int × Int) × Bool × Int) => P.cond (P.ilt y.2.2 (P.len x.1)) (P.cond (P.not y.2.1) (P.cond (P.inb y.2.2 (P.len x.1)) (P.bind (ref06_Less k (x.2, P.get x.1 y.2.2 ((0 : Int), (0 : Int)))) fun (r : Bool) => P.cond r (P.cond (P.room (P.add (P.len y.1) (P.len [x.2])) 16) (P.cond (P.inb y.2.2 (P.len x.1)) (P.cond (P.room (P.add (P.len (P.app y.1 [x.2])) (P.len [P.get x.1 y.2.2 ((0 : Int), (0 : Int))])) 16) (some (Sum.inl (P.app (P.app y.1 [x.2]) [P.get x.1 y.2.2 ((0 : Int), (0 : Int))], true, P.wrap .i64 (P.add y.2.2 (1 : Int))))) none) none) none) (P.cond (P.inb y.2.2 (P.len x.1)) (P.cond (P.room (P.add (P.len y.1) (P.len [P.get x.1 y.2.2 ((0 : Int), (0 : Int))])) 16) (some (Sum.inl (P.app y.1 [P.get x.1 y.2.2 ((0 : Int), (0 : Int))], y.2.1, P.wrap .i64 (P.add y.2.2 (1 : Int))))) none) none)) none) (P.cond (P.inb y.2.2 (P.len x.1)) (P.cond (P.room (P.add (P.len y.1) (P.len [P.get x.1 y.2.2 ((0 : Int), (0 : Int))])) 16) (some (Sum.inl (P.app y.1 [P.get x.1 y.2.2 ((0 : Int), (0 : Int))], y.2.1, P.wrap .i64 (P.add y.2.2 (1 : Int))))) none) none)) (some (Sum.inr (Sum.inl (y.1, y.2.1))))) ([], false, (0 : Int))) (P.either (fun (z : List (Int × Int) × Bool) => P.cond (P.not z.2) (P.cond (P.room (P.add (P.len z.1) (P.len [x.2])) 16) (some (P.app z.1 [x.2])) none) (some z.1)) fun (r : List (Int × Int)) => some r)))
theorem ref06_add_eq (k : Nat) (x : (Ty.D (.pair (.slice T_api_Atom) T_api_Atom))) : evFn (EN k [(82, ⟨(.pair T_api_Atom T_api_Atom), .bool, ref06_Less k⟩), (148, ⟨T_api_Atom, .bool, ref06_Right k⟩), (149, ⟨(.pair (.slice T_api_Atom) T_api_Atom), .bool, ref06_Has k⟩)]) 6 Tryz.f117 [(6, ⟨[.var 5 (.o T_api_Fault), .var 6 (.d .bool), .var 7 (.d (.int .i64))], [], (some (0, [.var 5 (.o T_api_Fault), .var 6 (.d .bool)]))⟩)] (.pair (.slice T_api_Atom) T_api_Atom) (.slice T_api_Atom) x = ref06_add k x := by kernel_rfl
theorem ref06_add_spec (k : Nat) : SpecOk Tryz.prog GG 117 ⟨(.pair (.slice T_api_Atom) T_api_Atom), (.slice T_api_Atom), ref06_add k⟩ :=
  fn_spec (envOk (E := EN k _) tabOk (.cons (ref06_Less_spec k) Tryz.func82 f82_ok <| .cons (ref06_Right_spec k) Tryz.func148 f148_ok <| .cons (ref06_Has_spec k) Tryz.func149 f149_ok <| .nil) codesOk mixedOk ggKeep) Tryz.func117 (fun x => (ref06_add_eq k x).symm)
noncomputable def ref06_Norm0 : (k : Nat) → (Ty.D (.slice T_api_Atom)) → Option (Ty.D (.slice T_api_Atom)) := fun (k : Nat) (x : T_api_Atom.slice.D) => P.bind (P.iter k (fun (y : List (Int × Int) × Int) => P.cond (P.ilt y.2 (P.len x)) (P.cond (P.inb y.2 (P.len x)) (P.bind (ref06_add k (y.1, P.get x y.2 ((0 : Int), (0 : Int)))) fun (r : List (Int × Int)) => some (Sum.inl (r, P.wrap .i64 (P.add y.2 (1 : Int))))) none) (some (Sum.inr (Sum.inl y.1)))) ([], (0 : Int))) (P.either (fun (z : List (Int × Int)) => some z) fun (r : List (Int × Int)) => some r)
theorem ref06_Norm0_eq (k : Nat) (x : (Ty.D (.slice T_api_Atom))) : evFn (EN k [(117, ⟨(.pair (.slice T_api_Atom) T_api_Atom), (.slice T_api_Atom), ref06_add k⟩)]) 6 Tryz.f99 [(3, ⟨[.var 3 (.d (.slice T_api_Fault)), .var 4 (.d (.int .i64))], [], (some (0, [.var 3 (.d (.slice T_api_Fault))]))⟩)] (.slice T_api_Atom) (.slice T_api_Atom) x = ref06_Norm0 k x := by kernel_rfl
theorem ref06_Norm0_spec (k : Nat) : SpecOk Tryz.prog GG 99 ⟨(.slice T_api_Atom), (.slice T_api_Atom), ref06_Norm0 k⟩ :=
  fn_spec (envOk (E := EN k _) tabOk (.cons (ref06_add_spec k) Tryz.func117 f117_ok <| .nil) codesOk mixedOk ggKeep) Tryz.func99 (fun x => (ref06_Norm0_eq k x).symm)
noncomputable def ref06_May0 : (k : Nat) → (Ty.D (.slice T_api_Atom)) → Option (Ty.D .bool) := fun (k : Nat) (x : T_api_Atom.slice.D) => P.bind (ref06_Norm0 k x) fun (r : List (Int × Int)) => P.bind (ref06_Same k (x, r)) fun (r : Bool) => some r
theorem ref06_May0_eq (k : Nat) (x : (Ty.D (.slice T_api_Atom))) : evFn (EN k [(98, ⟨(.pair (.slice T_api_Atom) (.slice T_api_Atom)), .bool, ref06_Same k⟩), (99, ⟨(.slice T_api_Atom), (.slice T_api_Atom), ref06_Norm0 k⟩)]) 6 Tryz.f79 [] (.slice T_api_Atom) .bool x = ref06_May0 k x := by kernel_rfl
theorem ref06_May0_spec (k : Nat) : SpecOk Tryz.prog GG 79 ⟨(.slice T_api_Atom), .bool, ref06_May0 k⟩ :=
  fn_spec (envOk (E := EN k _) tabOk (.cons (ref06_Same_spec k) Tryz.func98 f98_ok <| .cons (ref06_Norm0_spec k) Tryz.func99 f99_ok <| .nil) codesOk mixedOk ggKeep) Tryz.func79 (fun x => (ref06_May0_eq k x).symm)
noncomputable def ref06_Dyn : (k : Nat) → (Ty.D .unit) → Option (Ty.D (.slice T_api_Atom)) := fun (k : Nat) (x : Ty.unit.D) => some [((6 : Int), (0 : Int))]
theorem ref06_Dyn_eq (k : Nat) (x : (Ty.D .unit)) : evFn (EN k []) 6 Tryz.f58 [] .unit (.slice T_api_Atom) x = ref06_Dyn k x := by kernel_rfl
theorem ref06_Dyn_spec (k : Nat) : SpecOk Tryz.prog GG 58 ⟨.unit, (.slice T_api_Atom), ref06_Dyn k⟩ :=
  fn_spec (envOk (E := EN k _) tabOk (.nil) codesOk mixedOk ggKeep) Tryz.func58 (fun x => (ref06_Dyn_eq k x).symm)
noncomputable def ref06_Null : (k : Nat) → (Ty.D .unit) → Option (Ty.D (.slice T_api_Atom)) := fun (k : Nat) (x : Ty.unit.D) => some [((0 : Int), (0 : Int))]
theorem ref06_Null_eq (k : Nat) (x : (Ty.D .unit)) : evFn (EN k []) 6 Tryz.f26 [] .unit (.slice T_api_Atom) x = ref06_Null k x := by kernel_rfl
theorem ref06_Null_spec (k : Nat) : SpecOk Tryz.prog GG 26 ⟨.unit, (.slice T_api_Atom), ref06_Null k⟩ :=
  fn_spec (envOk (E := EN k _) tabOk (.nil) codesOk mixedOk ggKeep) Tryz.func26 (fun x => (ref06_Null_eq k x).symm)
noncomputable def ref06_Bool : (k : Nat) → (Ty.D .unit) → Option (Ty.D (.slice T_api_Atom)) := fun (k : Nat) (x : Ty.unit.D) => some [((1 : Int), (0 : Int))]
theorem ref06_Bool_eq (k : Nat) (x : (Ty.D .unit)) : evFn (EN k []) 6 Tryz.f150 [] .unit (.slice T_api_Atom) x = ref06_Bool k x := by kernel_rfl
theorem ref06_Bool_spec (k : Nat) : SpecOk Tryz.prog GG 150 ⟨.unit, (.slice T_api_Atom), ref06_Bool k⟩ :=
  fn_spec (envOk (E := EN k _) tabOk (.nil) codesOk mixedOk ggKeep) Tryz.func150 (fun x => (ref06_Bool_eq k x).symm)
noncomputable def ref06_Num : (k : Nat) → (Ty.D .unit) → Option (Ty.D (.slice T_api_Atom)) := fun (k : Nat) (x : Ty.unit.D) => some [((2 : Int), (0 : Int))]
theorem ref06_Num_eq (k : Nat) (x : (Ty.D .unit)) : evFn (EN k []) 6 Tryz.f151 [] .unit (.slice T_api_Atom) x = ref06_Num k x := by kernel_rfl
theorem ref06_Num_spec (k : Nat) : SpecOk Tryz.prog GG 151 ⟨.unit, (.slice T_api_Atom), ref06_Num k⟩ :=
  fn_spec (envOk (E := EN k _) tabOk (.nil) codesOk mixedOk ggKeep) Tryz.func151 (fun x => (ref06_Num_eq k x).symm)
noncomputable def ref06_IsDyn : (k : Nat) → (Ty.D (.slice T_api_Atom)) → Option (Ty.D .bool) := fun (k : Nat) (x : T_api_Atom.slice.D) => P.bind (ref06_Has k (x, (6 : Int), (0 : Int))) fun (r : Bool) => some r
theorem ref06_IsDyn_eq (k : Nat) (x : (Ty.D (.slice T_api_Atom))) : evFn (EN k [(149, ⟨(.pair (.slice T_api_Atom) T_api_Atom), .bool, ref06_Has k⟩)]) 6 Tryz.f152 [] (.slice T_api_Atom) .bool x = ref06_IsDyn k x := by kernel_rfl
theorem ref06_IsDyn_spec (k : Nat) : SpecOk Tryz.prog GG 152 ⟨(.slice T_api_Atom), .bool, ref06_IsDyn k⟩ :=
  fn_spec (envOk (E := EN k _) tabOk (.cons (ref06_Has_spec k) Tryz.func149 f149_ok <| .nil) codesOk mixedOk ggKeep) Tryz.func152 (fun x => (ref06_IsDyn_eq k x).symm)
noncomputable def ref06_Union0 : (k : Nat) → (Ty.D (.pair (.slice T_api_Atom) (.slice T_api_Atom))) → Option (Ty.D (.slice T_api_Atom)) := fun (k : Nat) (x : (T_api_Atom.slice.pair T_api_Atom.slice).D) => P.bind (ref06_Norm0 k x.1) fun (r : List (Int × Int)) => P.bind (P.iter k (fun (y : List (Int × Int) × Int) => P.cond (P.ilt y.2 (P.len x.2)) (P.cond (P.inb y.2 (P.len x.2)) (P.bind (ref06_add k (y.1, P.get x.2 y.2 ((0 : Int), (0 : Int)))) fun (r : List (Int × Int)) => some (Sum.inl (r, P.wrap .i64 (P.add y.2 (1 : Int))))) none) (some (Sum.inr (Sum.inl y.1)))) (r, (0 : Int))) (P.either (fun (z : List (Int × Int)) => some z) fun (r : List (Int × Int)) => some r)
theorem ref06_Union0_eq (k : Nat) (x : (Ty.D (.pair (.slice T_api_Atom) (.slice T_api_Atom)))) : evFn (EN k [(99, ⟨(.slice T_api_Atom), (.slice T_api_Atom), ref06_Norm0 k⟩), (117, ⟨(.pair (.slice T_api_Atom) T_api_Atom), (.slice T_api_Atom), ref06_add k⟩)]) 6 Tryz.f129 [(3, ⟨[.var 5 (.d (.slice T_api_Fault)), .var 6 (.d (.int .i64))], [], (some (0, [.var 5 (.d (.slice T_api_Fault))]))⟩)] (.pair (.slice T_api_Atom) (.slice T_api_Atom)) (.slice T_api_Atom) x = ref06_Union0 k x := by kernel_rfl
theorem ref06_Union0_spec (k : Nat) : SpecOk Tryz.prog GG 129 ⟨(.pair (.slice T_api_Atom) (.slice T_api_Atom)), (.slice T_api_Atom), ref06_Union0 k⟩ :=
  fn_spec (envOk (E := EN k _) tabOk (.cons (ref06_Norm0_spec k) Tryz.func99 f99_ok <| .cons (ref06_add_spec k) Tryz.func117 f117_ok <| .nil) codesOk mixedOk ggKeep) Tryz.func129 (fun x => (ref06_Union0_eq k x).symm)
noncomputable def ref06_Rename : (k : Nat) → (Ty.D (.pair (.slice T_api_Atom) (.int .i64))) → Option (Ty.D (.slice T_api_Atom)) := fun (k : Nat) (x : (T_api_Atom.slice.pair (Ty.int IntKind.i64)).D) => P.bind (P.iter k (fun (y : List (Int × Int) × Int) => P.cond (P.ilt y.2 (P.len x.1)) (P.cond (P.inb y.2 (P.len x.1)) (P.cond (P.ieq (P.get x.1 y.2 ((0 : Int), (0 : Int))).1 ((4 : Int))) (P.cond (P.ieq (P.get x.1 y.2 ((0 : Int), (0 : Int))).2 x.2) (P.cond (P.room (P.add (P.len y.1) (P.len [((5 : Int), (P.get x.1 y.2 ((0 : Int), (0 : Int))).2)])) 16) (some (Sum.inl (P.app y.1 [((5 : Int), (P.get x.1 y.2 ((0 : Int), (0 : Int))).2)], P.wrap .i64 (P.add y.2 (1 : Int))))) none) (P.cond (P.room (P.add (P.len y.1) (P.len [P.get x.1 y.2 ((0 : Int), (0 : Int))])) 16) (some (Sum.inl (P.app y.1 [P.get x.1 y.2 ((0 : Int), (0 : Int))], P.wrap .i64 (P.add y.2 (1 : Int))))) none)) (P.cond (P.room (P.add (P.len y.1) (P.len [P.get x.1 y.2 ((0 : Int), (0 : Int))])) 16) (some (Sum.inl (P.app y.1 [P.get x.1 y.2 ((0 : Int), (0 : Int))], P.wrap .i64 (P.add y.2 (1 : Int))))) none)) none) (some (Sum.inr (Sum.inl y.1)))) ([], (0 : Int))) (P.either (fun (z : List (Int × Int)) => P.bind (ref06_Norm0 k z) fun (r : List (Int × Int)) => some r) fun (r : List (Int × Int)) => some r)
theorem ref06_Rename_eq (k : Nat) (x : (Ty.D (.pair (.slice T_api_Atom) (.int .i64)))) : evFn (EN k [(99, ⟨(.slice T_api_Atom), (.slice T_api_Atom), ref06_Norm0 k⟩)]) 6 Tryz.f191 [(3, ⟨[.var 5 (.o T_api_Fault), .var 6 (.d (.int .i64))], [], (some (0, [.var 5 (.o T_api_Fault)]))⟩)] (.pair (.slice T_api_Atom) (.int .i64)) (.slice T_api_Atom) x = ref06_Rename k x := by kernel_rfl
theorem ref06_Rename_spec (k : Nat) : SpecOk Tryz.prog GG 191 ⟨(.pair (.slice T_api_Atom) (.int .i64)), (.slice T_api_Atom), ref06_Rename k⟩ :=
  fn_spec (envOk (E := EN k _) tabOk (.cons (ref06_Norm0_spec k) Tryz.func99 f99_ok <| .nil) codesOk mixedOk ggKeep) Tryz.func191 (fun x => (ref06_Rename_eq k x).symm)
end
section
namespace Go.PL
open Go.PG
theorem cond_eq {α : Type} (b : Bool) (x y : α) : P.cond b x y = if b = true then x else y := by cases b <;> rfl
theorem cond_true {α : Type} (x y : α) : P.cond true x y = x := rfl
theorem cond_false {α : Type} (x y : α) : P.cond false x y = y := rfl
theorem bind_some {α β : Type} (a : α) (f : α → Option β) : P.bind (some a) f = f a := rfl
theorem bind_none {α β : Type} (f : α → Option β) : P.bind none f = none := rfl
theorem either_inl {α β γ : Type} (f : α → γ) (g : β → γ) (a : α) : P.either f g (.inl a) = f a := rfl
theorem either_inr {α β γ : Type} (f : α → γ) (g : β → γ) (b : β) : P.either f g (.inr b) = g b := rfl
section
variable {τ ρ : Type} {f : τ → Option (τ ⊕ ρ)}
theorem iter_succ (k : Nat) (x : τ) : P.iter (k + 1) f x = match f x with
  | none => none
  | some (.inl y) => P.iter k f y
  | some (.inr r) => some r := by
 show Option.rec (motive := fun _ => Option ρ) none (fun s => Sum.rec (motive := fun _ => Option ρ) (fun y => P.iter k f y) some s) (f x) = _
 cases f x with
 | none => rfl
 | some s => cases s <;> rfl
theorem iter_step {k : Nat} {x y : τ} (hk : 0 < k) (h : f x = some (.inl y)) : P.iter k f x = P.iter (k - 1) f y := by
 obtain ⟨k, rfl⟩ : ∃ m, k = m + 1 := ⟨k - 1, by omega⟩
 rw [iter_succ, h]; rfl
theorem iter_done {k : Nat} {x : τ} {r : ρ} (hk : 0 < k) (h : f x = some (.inr r)) : P.iter k f x = some r := by
 obtain ⟨k, rfl⟩ : ∃ m, k = m + 1 := ⟨k - 1, by omega⟩
 rw [iter_succ, h]
theorem iter_run (s : Nat → τ) (r : ρ) : ∀ (n i k : Nat), n < k → (∀ j, j < n → f (s (i + j)) = some (.inl (s (i + j + 1)))) → f (s (i + n)) = some (.inr r) → P.iter k f (s i) = some r := by
 intro n
 induction n with
 | zero => intro i k hk _ he; exact iter_done (by omega) (by simpa using he)
 | succ n ih =>
  intro i k hk hs he
  rw [iter_step (x := s i) (y := s (i + 1)) (by omega) (by simpa using hs 0 (by omega))]
  refine ih (i + 1) (k - 1) (by omega) (fun j hj => ?_) (by rw [show i + 1 + n = i + (n + 1) by omega]; exact he)
  have := hs (j + 1) (by omega)
  rw [show i + 1 + j = i + (j + 1) by omega]
  exact this
theorem iter_find {f : Int → Option (Int ⊕ ρ)} {n : Nat} {e : ρ} (g : Nat → Option ρ) (hs : ∀ i : Nat, i < n → f (i : Int) = some (match g i with
  | none => .inl ((i + 1 : Nat) : Int)
  | some r => .inr r)) (he : f (n : Int) = some (.inr e)) : ∀ (d i k : Nat), i + d = n → d < k → P.iter k f (i : Int) = some (((List.range' i d).findSome? g).getD e) := by
 intro d
 induction d with
 | zero =>
  intro i k hi hk
  obtain rfl : i = n := by omega
  exact iter_done (by omega) he
 | succ d ih =>
  intro i k hi hk
  have h := hs i (by omega)
  rw [List.range'_succ, List.findSome?_cons]
  cases q : g i with
  | none =>
   rw [q] at h
   simp only at h ⊢
   rw [iter_step (by omega) h]
   exact ih (i + 1) (k - 1) (by omega) (by omega)
  | some r =>
   rw [q] at h
   simp only at h
   rw [iter_done (by omega) h]
   rfl
theorem iter_find0 {f : Int → Option (Int ⊕ ρ)} {n : Nat} {e : ρ} (g : Nat → Option ρ) (k : Nat) (hs : ∀ i : Nat, i < n → f (i : Int) = some (match g i with
  | none => .inl ((i + 1 : Nat) : Int)
  | some r => .inr r)) (he : f (n : Int) = some (.inr e)) (hk : n < k) : P.iter k f 0 = some (((List.range n).findSome? g).getD e) := by
 have := iter_find g hs he n 0 k (by omega) hk
 rw [List.range_eq_range']
 exact this
theorem iter_all {f : Int → Option (Int ⊕ ρ)} {n : Nat} {e r : ρ} (p : Nat → Prop) [DecidablePred p] (k : Nat) (hs : ∀ i : Nat, i < n → f (i : Int) = some (if p i then .inl ((i + 1 : Nat) : Int) else .inr r)) (he : f (n : Int) = some (.inr e)) (hk : n < k) :
  P.iter k f 0 = some (if ∀ i, i < n → p i then e else r) := by
 rw [iter_find0 (n := n) (e := e) (fun i => if p i then none else some r) k (fun i hi => by rw [hs i hi]; by_cases h : p i <;> simp [h]) he hk]
 by_cases h : ∀ i, i < n → p i
 ·rw [if_pos h]
  have : (List.range n).findSome? (fun i => if p i then none else some r) = none := by
   rw [List.findSome?_eq_none_iff]
   intro i hi
   simp [h i (List.mem_range.1 hi)]
  rw [this]; rfl
 ·rw [if_neg h]
  have hh : ∃ i, i < n ∧ ¬ p i := by
   apply Classical.byContradiction
   intro q
   exact h fun i hi => Classical.byContradiction fun z => q ⟨i, hi, z⟩
  obtain ⟨i, hi, hp⟩ := hh
  have : ∃ y, (List.range n).findSome? (fun i => if p i then none else some r) = some y := by
   rw [← Option.isSome_iff_exists, List.findSome?_isSome_iff]
   exact ⟨i, List.mem_range.2 hi, by simp [hp]⟩
  obtain ⟨y, hy⟩ := this
  rw [hy]
  obtain ⟨j, _, hj⟩ := List.exists_of_findSome?_eq_some hy
  by_cases q : p j
  ·simp [q] at hj
  ·simp [q] at hj; simp [hj]
end
theorem ieq_iff {x y : Int} : P.ieq x y = true ↔ x = y := by simp [P.ieq_def]
theorem ieq_eq (x y : Int) : P.ieq x y = decide (x = y) := by rw [Bool.eq_iff_iff]; simp [P.ieq_def]
theorem ilt_iff {x y : Int} : P.ilt x y = true ↔ x < y := by simp [P.ilt_def]
theorem ile_iff {x y : Int} : P.ile x y = true ↔ x ≤ y := by simp [P.ile_def]
theorem inb_iff {i n : Int} : P.inb i n = true ↔ 0 ≤ i ∧ i < n := by simp [P.inb_def]
theorem wrap_i64 {x : Int} (h0 : -9223372036854775808 ≤ x) (h1 : x < 9223372036854775808) : P.wrap .i64 x = x := by
 rw [P.wrap_def]
 simp only [IntKind.wrap, IntKind.bits, IntKind.signed]
 simp
 omega
theorem wrap_succ {n : Nat} (h : n + 1 < 9223372036854775808) : P.wrap .i64 (P.add (n : Int) 1) = ((n + 1 : Nat) : Int) := by
 rw [wrap_i64 (by simp [P.add]; omega) (by simp [P.add]; omega)]; simp [P.add]
theorem and_iff {a b : Bool} : P.and a b = true ↔ a = true ∧ b = true := by simp [P.and]
theorem room_iff {n : Int} {b : Nat} : P.room n b = true ↔ n.toNat * b ≤ 140737488355328 := by simp [P.room_def]
theorem room_nat {a b n : Nat} : P.room (P.add (a : Int) (b : Int)) n = true ↔ (a + b) * n ≤ 140737488355328 := by
 rw [room_iff]
 have : (P.add (a : Int) (b : Int)).toNat = a + b := by simp [P.add]; omega
 rw [this]
theorem get_nat {α : Type} (l : List α) (i : Nat) (d : α) : P.get l (i : Int) d = l.getD i d := by simp [P.get_def]
theorem len_eq {α : Type} (l : List α) : P.len l = (l.length : Int) := rfl
def ltS (a b : ByteArray) : Prop := a.data.toList < b.data.toList
instance (a b : ByteArray) : Decidable (ltS a b) := inferInstanceAs (Decidable (a.data.toList < b.data.toList))
end Go.PL
end
section
open Go Go.PG Go.PL
set_option linter.unusedVariables false
namespace Go.PL
end Go.PL
end
section
open Go Go.PG Go.PL
set_option linter.unusedVariables false
namespace Go.PL
abbrev At := Int × Int
abbrev dA : At := (0, 0)
def ltA (a b : At) : Prop := a.1 < b.1 ∨ (a.1 = b.1 ∧ a.2 < b.2)
instance (a b : At) : Decidable (ltA a b) := by unfold ltA; exact inferInstance
def RightA (a : At) : Prop := (3 ≤ a.1 ∧ a.1 ≤ 5 ∧ 0 ≤ a.2) ∨ ((a.1 = 0 ∨ a.1 = 1 ∨ a.1 = 2 ∨ a.1 = 6) ∧ a.2 = 0)
instance (a : At) : Decidable (RightA a) := by unfold RightA; exact inferInstance
theorem ltA_irrefl (a : At) : ¬ ltA a a := by unfold ltA; omega
theorem ltA_trans {a b c : At} (h1 : ltA a b) (h2 : ltA b c) : ltA a c := by unfold ltA at *; omega
theorem ltA_tri (a b : At) : ltA a b ∨ a = b ∨ ltA b a := by
 obtain ⟨a1, a2⟩ := a; obtain ⟨b1, b2⟩ := b
 simp only [ltA, Prod.mk.injEq]; omega
theorem ltA_asymm {a b : At} (h1 : ltA a b) : ¬ ltA b a := fun h2 => ltA_irrefl _ (ltA_trans h1 h2)
abbrev Rises (l : List At) : Prop := l.Pairwise ltA
theorem rises_ext : ∀ {l m : List At}, Rises l → Rises m → (∀ z, z ∈ l ↔ z ∈ m) → l = m := by
 intro l
 induction l with
 | nil =>
  intro m _ _ h
  cases m with
  | nil => rfl
  | cons b m => exact absurd ((h b).2 (by simp)) (by simp)
 | cons a l ih =>
  intro m hl hm h
  cases m with
  | nil => exact absurd ((h a).1 (by simp)) (by simp)
  | cons b m =>
   obtain ⟨h1, h2⟩ := List.pairwise_cons.1 hl
   obtain ⟨h3, h4⟩ := List.pairwise_cons.1 hm
   have hab : a = b := by
    rcases List.mem_cons.1 ((h a).1 (by simp)) with q | q
    ·exact q
    ·rcases List.mem_cons.1 ((h b).2 (by simp)) with q' | q'
     ·exact q'.symm
     ·exact absurd (ltA_trans (h3 a q) (h1 b q')) (ltA_irrefl _)
   subst hab
   congr 1
   refine ih h2 h4 fun z => ⟨fun hz => ?_, fun hz => ?_⟩
   ·rcases List.mem_cons.1 ((h z).1 (List.mem_cons_of_mem _ hz)) with q | q
    ·subst q; exact absurd (h1 z hz) (ltA_irrefl _)
    ·exact q
   ·rcases List.mem_cons.1 ((h z).2 (List.mem_cons_of_mem _ hz)) with q | q
    ·subst q; exact absurd (h3 z hz) (ltA_irrefl _)
    ·exact q
def insA (x : At) : List At → List At
 | [] => [x]
 | y :: l => if ltA x y then x :: y :: l else y :: insA x l
theorem mem_insA {x z : At} : ∀ {l : List At}, z ∈ insA x l ↔ z = x ∨ z ∈ l := by
 intro l
 induction l with
 | nil => simp [insA]
 | cons y l ih =>
  simp only [insA]
  split
  ·simp
  ·simp only [List.mem_cons, ih]
   constructor
   ·rintro (h | h | h) <;> simp [h]
   ·rintro (h | h | h) <;> simp [h]
theorem rises_insA {x : At} : ∀ {l : List At}, Rises l → x ∉ l → Rises (insA x l) := by
 intro l
 induction l with
 | nil => intro _ _; simp [insA, Rises]
 | cons y l ih =>
  intro h hx
  obtain ⟨h1, h2⟩ := List.pairwise_cons.1 h
  simp only [insA]
  split
  ·rename_i q
   refine List.pairwise_cons.2 ⟨fun z hz => ?_, h⟩
   rcases List.mem_cons.1 hz with rfl | hz
   ·exact q
   ·exact ltA_trans q (h1 z hz)
  ·rename_i q
   refine List.pairwise_cons.2 ⟨fun z hz => ?_, ih h2 fun z => hx (List.mem_cons_of_mem _ z)⟩
   rcases mem_insA.1 hz with rfl | hz
   ·rcases ltA_tri z y with z' | z' | z'
    ·exact absurd z' q
    ·subst z'; exact absurd (by simp) hx
    ·exact z'
   ·exact h1 z hz
def addA (l : List At) (x : At) : List At := if RightA x ∧ x ∉ l then insA x l else l
def norm (l : List At) : List At := l.foldl addA []
theorem mem_addA {l : List At} {x z : At} : z ∈ addA l x ↔ z ∈ l ∨ (z = x ∧ RightA x) := by
 unfold addA
 split
 ·rename_i h
  rw [mem_insA]
  constructor
  ·rintro (q | q)
   ·exact .inr ⟨q, h.1⟩
   ·exact .inl q
  ·rintro (q | q)
   ·exact .inr q
   ·exact .inl q.1
 ·rename_i h
  constructor
  ·exact .inl
  ·rintro (q | ⟨rfl, q⟩)
   ·exact q
   ·apply Classical.byContradiction
    intro z'
    exact h ⟨q, z'⟩
theorem rises_addA {l : List At} {x : At} (h : Rises l) : Rises (addA l x) := by
 unfold addA
 split
 ·rename_i q; exact rises_insA h q.2
 ·exact h
theorem fold_spec : ∀ (l acc : List At), Rises acc → Rises (l.foldl addA acc) ∧ ∀ z, z ∈ l.foldl addA acc ↔ z ∈ acc ∨ (z ∈ l ∧ RightA z) := by
 intro l
 induction l with
 | nil => intro acc h; exact ⟨h, fun z => by simp⟩
 | cons x l ih =>
  intro acc h
  obtain ⟨h1, h2⟩ := ih (addA acc x) (rises_addA h)
  refine ⟨h1, fun z => ?_⟩
  rw [List.foldl_cons, h2, mem_addA, List.mem_cons]
  constructor
  ·rintro ((q | ⟨rfl, q⟩) | q)
   ·exact .inl q
   ·exact .inr ⟨.inl rfl, q⟩
   ·exact .inr ⟨.inr q.1, q.2⟩
  ·rintro (q | ⟨rfl | q, q'⟩)
   ·exact .inl (.inl q)
   ·exact .inl (.inr ⟨rfl, q'⟩)
   ·exact .inr ⟨q, q'⟩
theorem norm_rises (l : List At) : Rises (norm l) := (fold_spec l [] List.Pairwise.nil).1
theorem mem_norm {l : List At} {z : At} : z ∈ norm l ↔ z ∈ l ∧ RightA z := by
 unfold norm
 rw [(fold_spec l [] List.Pairwise.nil).2]
 simp
def Canon (l : List At) : Prop := Rises l ∧ ∀ z, z ∈ l → RightA z
theorem norm_canon (l : List At) : Canon (norm l) := ⟨norm_rises l, fun z h => (mem_norm.1 h).2⟩
theorem norm_eq {l m : List At} (h : Canon m) (hm : ∀ z, RightA z → (z ∈ m ↔ z ∈ l)) : norm l = m :=
 rises_ext (norm_rises l) h.1 fun z => by
  rw [mem_norm]
  exact ⟨fun q => (hm z q.2).2 q.1, fun q => ⟨(hm z (h.2 z q)).1 q, h.2 z q⟩⟩
theorem canon_iff {l : List At} : l = norm l ↔ Canon l := ⟨fun h => by rw [h]; exact norm_canon l, fun h => (norm_eq h fun _ _ => Iff.rfl).symm⟩
def K : Nat := 18446744073709551616
end Go.PL
end
section
open Go Go.PG Go.PL
set_option linter.unusedVariables false
namespace Go.PL
theorem getD_set_ne {l : List At} {i j : Nat} (h : i ≠ j) (x : At) : (l.set i x).getD j dA = l.getD j dA := by
 simp [List.getD_eq_getElem?_getD, List.getElem?_set_ne h]
theorem take_getD {l : List At} {j : Nat} (h : j < l.length) : l.take (j + 1) = l.take j ++ [l.getD j dA] := by
 rw [List.take_add_one, List.getElem?_eq_getElem h]
 simp [List.getD_eq_getElem?_getD, h]
end Go.PL
end
section
open Go Go.PG Go.PL
set_option linter.unusedVariables false
namespace Go.PL
theorem eqA_iff {a b : At} : P.and (P.ieq a.1 b.1) (P.ieq a.2 b.2) = true ↔ a = b := by
 rw [and_iff, ieq_iff, ieq_iff]
 exact ⟨fun h => Prod.ext h.1 h.2, fun h => by rw [h]; exact ⟨rfl, rfl⟩⟩
end Go.PL
end
section
open Go Go.PG Go.PL
set_option linter.unusedVariables false
namespace Go.PL
theorem insA_length (x : At) : ∀ l : List At, (insA x l).length = l.length + 1
 | [] => rfl
 | y :: l => by simp only [insA]; split <;> simp [insA_length x l]
theorem addA_length (l : List At) (x : At) : (addA l x).length ≤ l.length + 1 := by
 unfold addA; split
 ·rw [insA_length]; exact Nat.le_refl _
 ·omega
theorem fold_length : ∀ (l acc : List At), (l.foldl addA acc).length ≤ acc.length + l.length
 | [], acc => by simp
 | x :: l, acc => by
  have h1 := fold_length l (addA acc x)
  have h2 := addA_length acc x
  simp only [List.foldl_cons, List.length_cons]
  omega
theorem norm_length (l : List At) : (norm l).length ≤ l.length := by
 have := fold_length l []
 simpa [norm] using this
theorem eq_iff_getD {a b : List At} (h : a.length = b.length) : (∀ i, i < a.length → a.getD i dA = b.getD i dA) ↔ a = b := by
 constructor
 ·intro q
  refine List.ext_getElem h fun i h1 h2 => ?_
  have := q i h1
  simpa [List.getD_eq_getElem?_getD, h1, h2] using this
 ·rintro rfl i _; rfl
theorem ref_same (a b : List At) (ha : a.length ≤ 8796093022100) : ref06_Same K (a, b) = some (decide (a = b)) := by
 unfold ref06_Same
 try dsimp only
 by_cases hl : a.length = b.length
 ·rw [show P.ieq (P.len a) (P.len b) = true from ieq_iff.2 (by simp [len_eq, hl]), show P.not true = false from rfl, cond_false]
  rw [iter_all (n := a.length) (e := .inl ()) (r := .inr false) (fun i => a.getD i dA = b.getD i dA) K ?_ ?_ (by unfold K; omega)]
  ·rw [bind_some]
   by_cases h : ∀ i, i < a.length → a.getD i dA = b.getD i dA
   ·rw [if_pos h, either_inl, decide_eq_true ((eq_iff_getD hl).1 h)]
   ·rw [if_neg h, either_inr, decide_eq_false fun q => h ((eq_iff_getD hl).2 q)]
  ·intro i hi
   try dsimp only
   rw [show P.ilt (i : Int) (P.len a) = true from ilt_iff.2 (by rw [len_eq]; omega), cond_true, show P.inb (i : Int) (P.len a) = true from inb_iff.2 (by rw [len_eq]; omega), cond_true, show P.inb (i : Int) (P.len b) = true from inb_iff.2 (by rw [len_eq]; omega), cond_true, get_nat, get_nat, wrap_succ (by omega)]
   by_cases q : a.getD i dA = b.getD i dA
   ·rw [show P.and (P.ieq (a.getD i dA).1 (b.getD i dA).1) (P.ieq (a.getD i dA).2 (b.getD i dA).2) = true from eqA_iff.2 q, if_pos q]; rfl
   ·rw [show P.and (P.ieq (a.getD i dA).1 (b.getD i dA).1) (P.ieq (a.getD i dA).2 (b.getD i dA).2) = false from by rw [Bool.eq_false_iff]; exact fun z => q (eqA_iff.1 z), if_neg q]; rfl
  ·try dsimp only
   rw [show P.ilt (a.length : Int) (P.len a) = false from by rw [Bool.eq_false_iff, Ne, ilt_iff, len_eq]; omega]; rfl
 ·rw [show P.ieq (P.len a) (P.len b) = false from by rw [Bool.eq_false_iff, Ne, ieq_iff, len_eq, len_eq]; omega, show P.not false = true from rfl, cond_true, decide_eq_false fun q => hl (by rw [q])]
theorem mem_iff_getD {l : List At} {x : At} : x ∈ l ↔ ∃ i, i < l.length ∧ l.getD i dA = x := by
 rw [List.mem_iff_getElem]
 constructor
 ·rintro ⟨i, h, rfl⟩; exact ⟨i, h, by simp [List.getD_eq_getElem?_getD, h]⟩
 ·rintro ⟨i, h, rfl⟩; exact ⟨i, h, by simp [List.getD_eq_getElem?_getD, h]⟩
theorem ref_has (l : List At) (x : At) (hl : l.length ≤ 8796093022100) : ref06_Has K (l, x) = some (decide (x ∈ l)) := by
 unfold ref06_Has
 try dsimp only
 rw [iter_all (n := l.length) (e := .inl ()) (r := .inr true) (fun i => l.getD i dA ≠ x) K ?_ ?_ (by unfold K; omega)]
 ·rw [bind_some]
  by_cases h : ∀ i, i < l.length → l.getD i dA ≠ x
  ·rw [if_pos h, either_inl, decide_eq_false]
   intro q
   obtain ⟨i, h1, h2⟩ := mem_iff_getD.1 q
   exact h i h1 h2
  ·rw [if_neg h, either_inr, decide_eq_true]
   refine mem_iff_getD.2 (Classical.byContradiction fun q => h fun i hi e => q ⟨i, hi, e⟩)
 ·intro i hi
  try dsimp only
  rw [show P.ilt (i : Int) (P.len l) = true from ilt_iff.2 (by rw [len_eq]; omega), cond_true, show P.inb (i : Int) (P.len l) = true from inb_iff.2 (by rw [len_eq]; omega), cond_true, get_nat, wrap_succ (by omega)]
  by_cases q : l.getD i dA = x
  ·rw [show P.and (P.ieq (l.getD i dA).1 x.1) (P.ieq (l.getD i dA).2 x.2) = true from eqA_iff.2 q, if_neg (fun z => z q)]; rfl
  ·rw [show P.and (P.ieq (l.getD i dA).1 x.1) (P.ieq (l.getD i dA).2 x.2) = false from by rw [Bool.eq_false_iff]; exact fun z => q (eqA_iff.1 z), if_pos q]; rfl
 ·try dsimp only
  rw [show P.ilt (l.length : Int) (P.len l) = false from by rw [Bool.eq_false_iff, Ne, ilt_iff, len_eq]; omega]; rfl
def Within (a b : List At) : Prop := ∀ z, z ∈ a → z ∈ b
instance (a b : List At) : Decidable (Within a b) := by unfold Within; exact inferInstance
end Go.PL
end
section
open Go Go.PG Go.PL
set_option linter.unusedVariables false
namespace Go.PL
theorem ref_right (k : Nat) (a : At) : ref06_Right k a = some (decide (RightA a)) := by
 obtain ⟨a, b⟩ := a
 unfold ref06_Right
 dsimp only
 simp only [cond_eq, ieq_iff, ile_iff]
 repeat' split
 all_goals
  rw [Option.some.injEq, Bool.eq_iff_iff, decide_eq_true_eq]
  simp only [RightA, ieq_iff, ile_iff, Bool.false_eq_true, false_iff]
  omega
theorem ref_less (k : Nat) (a b : At) : ref06_Less k (a, b) = some (decide (ltA a b)) := by
 obtain ⟨a1, a2⟩ := a; obtain ⟨b1, b2⟩ := b
 unfold ref06_Less
 dsimp only
 simp only [cond_eq, ieq_iff, ilt_iff]
 repeat' split
 all_goals
  rw [Option.some.injEq, Bool.eq_iff_iff, decide_eq_true_eq]
  simp only [ltA, ilt_iff, true_iff, Bool.false_eq_true, false_iff]
  omega
theorem room1 (l : List At) (x : At) (h : l.length ≤ 8796093022200) : P.room (P.add (P.len l) (P.len [x])) 16 = true := by
 rw [len_eq, len_eq, room_nat]; simp; omega
def stepA (x : At) (s : List At × Bool) (y : At) : List At × Bool := if s.2 = false ∧ ltA x y then (s.1 ++ [x] ++ [y], true) else (s.1 ++ [y], s.2)
def finA (x : At) (s : List At × Bool) : List At := if s.2 = true then s.1 else s.1 ++ [x]
def layA (x : At) (l : List At) (i : Nat) : List At × Bool := (l.take i).foldl (stepA x) ([], false)
theorem layA_succ {x : At} {l : List At} {i : Nat} (h : i < l.length) : layA x l (i + 1) = stepA x (layA x l i) (l.getD i dA) := by
 unfold layA
 rw [take_getD h, List.foldl_append]
 rfl
theorem lay_len (x : At) (l : List At) : ∀ i, i ≤ l.length → (layA x l i).1.length ≤ i + 1 ∧ ((layA x l i).2 = false → (layA x l i).1.length ≤ i)
 | 0, _ => by simp [layA]
 | i + 1, h => by
  obtain ⟨h1, h2⟩ := lay_len x l i (by omega)
  rw [layA_succ (by omega)]
  unfold stepA
  split
  ·rename_i q
   have := h2 q.1
   simp; omega
  ·simp
   exact ⟨h1, fun q => h2 q⟩
theorem step_true (x : At) : ∀ (l acc : List At), l.foldl (stepA x) (acc, true) = (acc ++ l, true)
 | [], acc => by simp
 | y :: l, acc => by
  rw [List.foldl_cons, show stepA x (acc, true) y = (acc ++ [y], true) from by simp [stepA], step_true x l]
  simp
theorem step_false (x : At) : ∀ (l acc : List At), finA x (l.foldl (stepA x) (acc, false)) = acc ++ insA x l
 | [], acc => by simp [insA, finA]
 | y :: l, acc => by
  rw [List.foldl_cons]
  unfold insA
  by_cases q : ltA x y
  ·rw [show stepA x (acc, false) y = (acc ++ [x] ++ [y], true) from by simp [stepA, q], step_true, if_pos q]; simp [finA]
  ·rw [show stepA x (acc, false) y = (acc ++ [y], false) from by simp [stepA, q], step_false x l, if_neg q]; simp
theorem lay_all (x : At) (l : List At) : finA x (layA x l l.length) = insA x l := by
 have := step_false x l []
 unfold layA
 rw [List.take_length]
 simpa using this
theorem ref_add (l : List At) (x : At) (hl : l.length ≤ 8796093022100) : ref06_add K (l, x) = some (addA l x) := by
 unfold ref06_add
 dsimp only
 rw [ref_right, bind_some]
 by_cases h1 : RightA x
 ·rw [decide_eq_true h1, show P.not true = false from rfl, cond_false, ref_has l x hl, bind_some]
  by_cases h2 : x ∈ l
  ·rw [decide_eq_true h2, cond_true]
   unfold addA
   rw [if_neg (fun q => q.2 h2)]
  ·rw [decide_eq_false h2, cond_false]
   unfold addA
   rw [if_pos ⟨h1, h2⟩, ← lay_all]
   have run : ∀ f : List At × Bool × Int → Option ((List At × Bool × Int) ⊕ ((List At × Bool) ⊕ List At)),
     (∀ i, i < l.length → f ((layA x l i).1, (layA x l i).2, (i : Int)) = some (.inl ((layA x l (i + 1)).1, (layA x l (i + 1)).2, ((i + 1 : Nat) : Int)))) →
     f ((layA x l l.length).1, (layA x l l.length).2, (l.length : Int)) = some (.inr (.inl (layA x l l.length))) → P.iter K f ([], false, (0 : Int)) = some (.inl (layA x l l.length)) := by
    intro f hs he
    exact iter_run (fun i => ((layA x l i).1, (layA x l i).2, (i : Int))) _ l.length 0 K (by unfold K; omega) (fun j hj => by simpa using hs j hj) (by simpa using he)
   rw [run _ (fun i hi => ?_) ?_]
   ·rw [bind_some, either_inl]
    cases hb : (layA x l l.length).2
    ·rw [show P.not false = true from rfl, cond_true, room1 _ _ (by have := (lay_len x l l.length (Nat.le_refl _)).1; omega), cond_true]
     unfold finA
     rw [if_neg (by simp [hb])]; rfl
    ·rw [show P.not true = false from rfl, cond_false]
     unfold finA
     rw [if_pos hb]
   ·try dsimp only
    rw [show P.ilt (l.length : Int) (P.len l) = false from by rw [Bool.eq_false_iff, Ne, ilt_iff, len_eq]; omega]; rfl
   ·try dsimp only
    have hr := (lay_len x l i (by omega)).1
    have r1 : P.room (P.add (P.len (layA x l i).1) (P.len [x])) 16 = true := room1 _ _ (by omega)
    have r2 : P.room (P.add (P.len (layA x l i).1) (P.len [l.getD i dA])) 16 = true := room1 _ _ (by omega)
    have r3 : P.room (P.add (P.len (P.app (layA x l i).1 [x])) (P.len [l.getD i dA])) 16 = true := room1 _ _ (by simp [P.app]; omega)
    simp only [show P.ilt (i : Int) (P.len l) = true from ilt_iff.2 (by rw [len_eq]; omega), show P.inb (i : Int) (P.len l) = true from inb_iff.2 (by rw [len_eq]; omega), cond_true, get_nat, wrap_succ (show i + 1 < 9223372036854775808 by omega), r1, r2, r3]
    rw [ref_less, bind_some, layA_succ hi]
    unfold stepA
    cases hb : (layA x l i).2
    ·rw [show P.not false = true from rfl, cond_true]
     by_cases q : ltA x (l.getD i dA)
     ·rw [decide_eq_true q, cond_true, if_pos ⟨rfl, q⟩]; rfl
     ·rw [decide_eq_false q, cond_false, if_neg (fun z => q z.2)]; rfl
    ·rw [show P.not true = false from rfl, cond_false, if_neg (fun z => by cases z.1)]; rfl
 ·rw [decide_eq_false h1, show P.not false = true from rfl, cond_true]
  unfold addA
  rw [if_neg (fun q => h1 q.1)]
theorem fold_add (l acc : List At) (h : acc.length + l.length ≤ 8796093022000) :
  P.bind (P.iter K (fun (y : List (Int × Int) × Int) => P.cond (P.ilt y.snd (P.len l)) (P.cond (P.inb y.snd (P.len l)) (P.bind (ref06_add K (y.fst, P.get l y.snd ((0 : Int), (0 : Int)))) fun (r : List (Int × Int)) => some (Sum.inl (r, P.wrap IntKind.i64 (P.add y.snd ((1 : Int)))))) none) (some (Sum.inr (Sum.inl y.fst)))) (acc, (0 : Int))) (P.either (fun (z : List (Int × Int)) => some z) fun (r : List (Int × Int)) => some r) = some (l.foldl addA acc) := by
 have run : ∀ f : List At × Int → Option ((List At × Int) ⊕ (List At ⊕ List At)),
   (∀ i, i < l.length → f ((l.take i).foldl addA acc, (i : Int)) = some (.inl ((l.take (i + 1)).foldl addA acc, ((i + 1 : Nat) : Int)))) →
   f (l.foldl addA acc, (l.length : Int)) = some (.inr (.inl (l.foldl addA acc))) → P.iter K f (acc, (0 : Int)) = some (.inl (l.foldl addA acc)) := by
  intro f hs he
  exact iter_run (fun i => ((l.take i).foldl addA acc, (i : Int))) _ l.length 0 K (by unfold K; omega) (fun j hj => by simpa using hs j hj) (by simpa using he)
 rw [run _ (fun i hi => ?_) ?_]
 ·rfl
 ·try dsimp only
  rw [show P.ilt (l.length : Int) (P.len l) = false from by rw [Bool.eq_false_iff, Ne, ilt_iff, len_eq]; omega]; rfl
 ·try dsimp only
  have hr := fold_length (l.take i) acc
  rw [List.length_take] at hr
  rw [show P.ilt (i : Int) (P.len l) = true from ilt_iff.2 (by rw [len_eq]; omega), cond_true, show P.inb (i : Int) (P.len l) = true from inb_iff.2 (by rw [len_eq]; omega), cond_true, get_nat, wrap_succ (by omega), ref_add _ _ (by omega), bind_some, take_getD hi, List.foldl_append]
  rfl
theorem ref_norm (l : List At) (h : l.length ≤ 8796093022000) : ref06_Norm0 K l = some (norm l) := fold_add l [] (by simpa using h)
theorem ref_may (l : List At) (h : l.length ≤ 8796093022000) : ref06_May0 K l = some (decide (l = norm l)) := by
 unfold ref06_May0
 rw [ref_norm l h, bind_some, ref_same l _ (by omega), bind_some]
theorem norm_append (a b : List At) : norm (a ++ b) = b.foldl addA (norm a) := by unfold norm; rw [List.foldl_append]
theorem ref_union (a b : List At) (h : a.length + b.length ≤ 8796093022000) : ref06_Union0 K (a, b) = some (norm (a ++ b)) := by
 unfold ref06_Union0
 dsimp only
 rw [ref_norm a (by omega), bind_some, norm_append]
 exact fold_add b (norm a) (by have := norm_length a; omega)
end Go.PL
end

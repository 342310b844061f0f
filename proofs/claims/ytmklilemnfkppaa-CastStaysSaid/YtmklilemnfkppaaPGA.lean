/- The evaluator's soundness: drawn regions: light operations, in like states. -/
import Derived.Test.YtmklilemnfkppaaPGD
import Derived.Test.YtmklilemnfkppaaPGW
set_option linter.all false
namespace Go.PG
open Go.RowKit

variable {Pg : Program} {G : World → Prop} {E : Env} {S : Nat → Prop} {B : Nat} {w0 w w' w'' : World} {h h' h2 : Hp} {M M' M'' : Nat → Bk} {ρ : Type} {r : ρ} {st st' st'' st2 : St} {a a' a'' : Act} {o : Oper}

structure Agree (l : List Operand) (st st2 : St) : Prop where
  op : ∀ x, x ∈ l → ∀ ty, opnd ty st2.fr x = opnd ty st.fr x
  row : ∀ id e xs, st.h.e id = some (.row e xs) → st2.h.e id = some (.row e xs)
  live : ∀ id, st.h.e id ≠ none → st2.h.e id ≠ none
  box : ∀ x, x ∈ l → ∀ id p v L, opnd none st.fr x = .ptr id p → st.h.e id = some (.box v L) → st2.h.e id = some (.box v L)

theorem toD_agree (hrow : ∀ id e xs, h.e id = some (.row e xs) → h2.e id = some (.row e xs)) : ∀ (v : AV) (t : Ty) (x : t.D), toD h v t = some x → toD h2 v t = some x := by
  intro v
  induction v with
  | own id =>
    intro t x hx
    cases t with
    | slice e =>
      simp only [toD] at hx ⊢
      split at hx
      · rename_i e' ys q
        rw [hrow id _ _ q]
        exact hx
      · cases hx
    | _ => simp [toD] at hx
  | st b ih =>
    intro t x hx
    cases t with
    | st tb => simp only [toD] at hx ⊢; exact ih tb x hx
    | _ => simp [toD] at hx
  | pr p q ihp ihq =>
    intro t x hx
    cases t with
    | pair ta tb =>
      simp only [toD] at hx ⊢
      split at hx
      case h_2 => cases hx
      rename_i y hy
      split at hx
      case h_2 => cases hx
      rename_i z hz
      rw [ihp ta y hy]
      simp only
      rw [ihq tb z hz]
      exact hx
    | _ => simp [toD] at hx
  | data t' y => intro t x hx; simp only [toD] at hx ⊢; exact hx
  | nilS e => intro t x hx; cases t <;> first | exact hx | simp [toD] at hx
  | unit => intro t x hx; cases t <;> first | exact hx | simp [toD] at hx
  | _ => intro t x hx; simp [toD] at hx

theorem argsD_any : ∀ (args : List AV) (t : Ty), argsD h args t = argsD h2 args t := by
  intro args
  induction args with
  | nil => intro t; rfl
  | cons x args ih =>
    intro t
    cases args with
    | nil => cases t <;> rfl
    | cons y args =>
      cases t with
      | pair p q => simp only [argsD]; rw [ih q]
      | _ => rfl

theorem sliceLen_agree (hrow : ∀ id e xs, h.e id = some (.row e xs) → h2.e id = some (.row e xs)) {v : AV} {n : Int} (hn : sliceLen h v = some n) : sliceLen h2 v = some n := by
  cases v with
  | own id =>
    simp only [sliceLen] at hn ⊢
    split at hn
    · rename_i e xs q
      rw [hrow id _ _ q]
      exact hn
    · cases hn
  | data t x => cases t <;> first | exact hn | simp [sliceLen] at hn
  | nilS e => exact hn
  | _ => simp [sliceLen] at hn

theorem len_agree {ts : Array TypeId} {args : List AV} {K : AV → Hp → Option ρ} (hr : evBuiltin E .len ts args h K = some r) :
    ∃ v, K v h = some r ∧ ∀ {σ : Type} (h2 : Hp) (K' : AV → Hp → Option σ), (∀ id e xs, h.e id = some (.row e xs) → h2.e id = some (.row e xs)) → evBuiltin E .len ts args h2 K' = K' v h2 := by
  unfold evBuiltin at hr
  split at hr
  · rename_i x _
    split at hr
    case h_2 => cases hr
    rename_i t l ht
    split at hr
    · rename_i s hty
      exact ⟨_, hr, fun h2 K' hrow => by simp only [evBuiltin, ht, hty]⟩
    · cases hr
    · rename_i x _ _ e hty hno
      split at hr
      case h_2 => cases hr
      rename_i n hn
      refine ⟨_, hr, fun h2 K' hrow => ?_⟩
      have hn2 := sliceLen_agree hrow hn
      cases x with
      | data t' y => cases t' with
        | str => exact (hno y rfl).elim
        | _ => simp only [evBuiltin, ht, hty, hn2]
      | _ => simp only [evBuiltin, ht, hty, hn2]
    · cases hr
  · rename_i hb; cases hb
  · cases hr

theorem light_agree {K : AV → Hp → Option ρ} (hl : isLight E o.op = true) (hr : evLight E o st K = some r) :
    ∃ v, K v st.h = some r ∧ ∀ {σ : Type} (st2 : St) (K' : AV → Hp → Option σ), Agree o.op.operands.toList st st2 → evLight E o st2 K' = K' v st2.h := by
  unfold evLight at hr
  split at hr
  · -- call
    rename_i c ho
    unfold evLcall at hr
    split at hr
    · rename_i hc
      obtain ⟨v, h1, h2⟩ := len_agree hr
      refine ⟨v, h1, fun st2 K' ag => ?_⟩
      have hargs : c.args.toList.map (opnd none st2.fr) = c.args.toList.map (opnd none st.fr) := List.map_congr_left fun x hx => ag.op x (by simp [ho, Op.operands, Call.operands, hc]; simpa using hx) none
      simp only [evLight, ho, evLcall, hc, hargs]
      exact h2 st2.h K' ag.row
    · rename_i g hc
      split at hr
      case h_2 => cases hr
      rename_i s hlen hs
      split at hr
      case h_2 => cases hr
      rename_i v hv
      split at hr
      case h_2 => cases hr
      rename_i x hx hb
      obtain ⟨res, hres, hk⟩ := bind_some hr
      refine ⟨_, hk, fun st2 K' ag => ?_⟩
      have hargs : (c.args.toList.zip c.argTypes.toList).map (fun p => opnd (E.ty p.2) st2.fr p.1) = (c.args.toList.zip c.argTypes.toList).map (fun p => opnd (E.ty p.2) st.fr p.1) :=
        List.map_congr_left fun p hp => ag.op p.1 (by
          have := (List.of_mem_zip hp).1
          simp [ho, Op.operands, Call.operands, hc]
          right; simpa using this) _
      simp only [evLight, ho, evLcall, hc, hlen, hs, hargs]
      rw [argsD_any (h := st2.h) (h2 := st.h), hv]
      simp only [toD_agree ag.row v s.a x hx, hb, hres, P.bind]
    · cases hr
  · -- slice
    rename_i t x lo hi mx ho
    have hops : ∀ y, y = x ∨ some y = lo ∨ some y = hi ∨ some y = mx → y ∈ o.op.operands.toList := by
      intro y hy
      simp only [ho, Op.operands]
      rcases hy with rfl | hy | hy | hy
      · simp
      · subst hy; simp
      · subst hy; simp
      · subst hy; simp
    have key : ∀ (st2 : St), Agree o.op.operands.toList st st2 → opnd none st2.fr x = opnd none st.fr x ∧ lo.map (opnd none st2.fr) = lo.map (opnd none st.fr) ∧ hi.map (opnd none st2.fr) = hi.map (opnd none st.fr) ∧ mx.map (opnd none st2.fr) = mx.map (opnd none st.fr) := by
      intro st2 ag
      refine ⟨ag.op x (hops x (.inl rfl)) none, ?_, ?_, ?_⟩
      · cases lo with
        | none => rfl
        | some y => simp only [Option.map_some]; rw [ag.op y (hops y (by simp)) none]
      · cases hi with
        | none => rfl
        | some y => simp only [Option.map_some]; rw [ag.op y (hops y (by simp)) none]
      · cases mx with
        | none => rfl
        | some y => simp only [Option.map_some]; rw [ag.op y (hops y (by simp)) none]
    unfold evLslice at hr
    split at hr
    · cases hr
    rename_i hno
    have fin : ∀ v, K v st.h = some r → (∀ {σ : Type} (h2 : Hp) (K' : AV → Hp → Option σ), (∀ id e xs, st.h.e id = some (.row e xs) → h2.e id = some (.row e xs)) → evLslice (E.ty t) (opnd none st.fr x) (lo.map (opnd none st.fr)) (hi.map (opnd none st.fr)) (mx.map (opnd none st.fr)) h2 K' = K' v h2) →
        ∃ v, K v st.h = some r ∧ ∀ {σ : Type} (st2 : St) (K' : AV → Hp → Option σ), Agree o.op.operands.toList st st2 → evLight E o st2 K' = K' v st2.h := by
      intro v h1 h2
      refine ⟨v, h1, fun st2 K' ag => ?_⟩
      obtain ⟨q1, q2, q3, q4⟩ := key st2 ag
      simp only [evLight, ho, q1, q2, q3, q4]
      exact h2 st2.h K' ag.row
    generalize opnd none st.fr x = X at hr hno fin
    generalize lo.map (opnd none st.fr) = LO at hr fin
    generalize hi.map (opnd none st.fr) = HI at hr fin
    generalize mx.map (opnd none st.fr) = MX at hr fin
    generalize E.ty t = TY at hr fin
    unfold evSlice at hr
    split at hr
    · rename_i m
      split at hr
      case h_2 => cases hr
      rename_i e h1 h2 h3
      split at hr
      · rename_i e' xs
        exact fin _ hr (fun h2' K' _ => by simp only [evLslice, evSlice, h1, h2, h3])
      · exact fin _ hr (fun h2' K' _ => by simp only [evLslice, evSlice, h1, h2, h3])
      · rename_i id; exact (hno id rfl).elim
      · cases hr
    · split at hr
      · cases hr
      rename_i n hn
      split at hr
      case h_2 => cases hr
      rename_i l u hl' hu'
      obtain ⟨ht, hr2⟩ := test_some hr
      clear hr
      split at hr2
      · rename_i e e' xs
        split at hr2
        case h_2 => cases hr2
        rename_i hd
        have hr := hr2
        refine fin _ hr (fun h2' K' hrow => ?_)
        have hn2 : sliceLen h2' (.data (.slice e') xs) = some n := sliceLen_agree hrow hn
        simp only [evLslice, evSlice, hn2, hl', hu', ht, test, P.cond, hd]
      · rename_i s
        have hr := hr2
        refine fin _ hr (fun h2' K' hrow => ?_)
        have hn2 : sliceLen h2' (.data .str s) = some n := sliceLen_agree hrow hn
        simp only [evLslice, evSlice, hn2, hl', hu', ht, test, P.cond]
      · rename_i id; exact (hno id rfl).elim
      · cases hr2
  · rename_i hnc hns
    have rest : ∀ (st2 : St) {σ : Type} (K' : AV → Hp → Option σ), evLight E o st2 K' = evOp E noCall o st2 K' := by
      intro st2 σ K'
      unfold evLight
      split
      · rename_i c q; exact (hnc c q).elim
      · rename_i t x lo hi mx q; exact (hns t x lo hi mx q).elim
      · rfl
    suffices ∃ v, K v st.h = some r ∧ ∀ {σ : Type} (st2 : St) (K' : AV → Hp → Option σ), Agree o.op.operands.toList st st2 → evOp E noCall o st2 K' = K' v st2.h by
      obtain ⟨v, h1, h2⟩ := this
      exact ⟨v, h1, fun st2 K' ag => (rest st2 K').trans (h2 st2 K' ag)⟩
    clear rest
    unfold evOp at hr
    simp only at hr
    split at hr
    · rename_i x ho
      exact ⟨_, hr, fun st2 K' ag => by simp only [evOp, ho, ag.op x (by simp [ho, Op.operands])]⟩
    · rename_i x ho
      exact ⟨_, hr, fun st2 K' ag => by simp only [evOp, ho, ag.op x (by simp [ho, Op.operands])]⟩
    · rename_i c x y ho
      split at hr
      case h_2 => cases hr
      rename_i t e
      have hr := cond_some hr
      cases t with
      | true =>
        refine ⟨opnd (E.ty o.type) st.fr x, by simpa using hr, fun st2 K' ag => ?_⟩
        have e2 := (ag.op c (by simp [ho, Op.operands]) none).trans e
        simp only [evOp, ho, e2, P.cond, ag.op x (by simp [ho, Op.operands])]
      | false =>
        refine ⟨opnd (E.ty o.type) st.fr y, by simpa using hr, fun st2 K' ag => ?_⟩
        have e2 := (ag.op c (by simp [ho, Op.operands]) none).trans e
        simp only [evOp, ho, e2, P.cond, ag.op y (by simp [ho, Op.operands])]
    · rename_i t ho; simp [ho, isLight] at hl
    · rename_i t x ho; simp [ho, isLight] at hl
    · rename_i t x ho; simp [ho, isLight] at hl
    · rename_i t n x ho; simp [ho, isLight] at hl
    · -- load
      rename_i t x ho
      have hm : x ∈ o.op.operands.toList := by simp [ho, Op.operands]
      split at hr
      · rename_i u y e
        split at hr
        case h_2 => cases hr
        rename_i hd
        exact ⟨_, hr, fun st2 K' ag => by simp only [evOp, ho, (ag.op x hm none).trans e, hd]⟩
      · rename_i id p e
        split at hr
        case h_2 => cases hr
        rename_i v L he
        split at hr
        case h_2 => cases hr
        rename_i off u hoff
        split at hr
        case h_2 => cases hr
        rename_i y hd hy
        exact ⟨_, hr, fun st2 K' ag => by simp only [evOp, ho, (ag.op x hm none).trans e, ag.box x hm id p v L e he, hoff, hd, hy]⟩
      · rename_i id i p e
        split at hr
        case h_2 => cases hr
        rename_i et xs he
        split at hr
        case h_2 => cases hr
        rename_i off u hoff
        split at hr
        case h_2 => cases hr
        rename_i y hd hy
        exact ⟨_, hr, fun st2 K' ag => by simp only [evOp, ho, (ag.op x hm none).trans e, ag.row id et xs he, hoff, hd, hy]⟩
      · cases hr
    · rename_i t x y ho; simp [ho, isLight] at hl
    · -- nilCheck
      rename_i x ho
      have hm : x ∈ o.op.operands.toList := by simp [ho, Op.operands]
      split at hr
      · rename_i id p e
        split at hr
        case h_2 => cases hr
        rename_i en he
        refine ⟨_, hr, fun st2 K' ag => ?_⟩
        have hne := ag.live id (by rw [he]; simp)
        simp only [evOp, ho, (ag.op x hm none).trans e]
        split
        · rfl
        · rename_i q; exact absurd q hne
      · rename_i t y e
        exact ⟨_, hr, fun st2 K' ag => by simp only [evOp, ho, (ag.op x hm none).trans e]⟩
      · rename_i id i p e
        split at hr
        case h_2 => cases hr
        rename_i en he
        refine ⟨_, hr, fun st2 K' ag => ?_⟩
        have hne := ag.live id (by rw [he]; simp)
        simp only [evOp, ho, (ag.op x hm none).trans e]
        split
        · rfl
        · rename_i q; exact absurd q hne
      · rename_i f c e
        exact ⟨_, hr, fun st2 K' ag => by simp only [evOp, ho, (ag.op x hm none).trans e]⟩
      · cases hr
    · -- binOp
      rename_i op t x y u ho
      have hm : x ∈ o.op.operands.toList := by simp [ho, Op.operands]
      have hm2 : y ∈ o.op.operands.toList := by simp [ho, Op.operands]
      split at hr
      · rename_i b v hh
        obtain ⟨ht, hr⟩ := test_some hr
        exact ⟨_, hr, fun st2 K' ag => by simp only [evOp, ho, ag.op x hm, ag.op y hm2, hh, ht, test, P.cond]⟩
      rename_i hh
      split at hr
      case h_2 => cases hr
      rename_i he
      split at hr
      case h_2 => cases hr
      rename_i v hv
      exact ⟨_, hr, fun st2 K' ag => by simp only [evOp, ho, ag.op x hm, ag.op y hm2, hh, he, hv]⟩
    · -- unOp
      rename_i op t x ho
      have hm : x ∈ o.op.operands.toList := by simp [ho, Op.operands]
      cases op with
      | not =>
        split at hr
        · rename_i b _ e
          exact ⟨_, hr, fun st2 K' ag => by simp only [evOp, ho, (ag.op x hm none).trans e]⟩
        · rename_i q _; cases q
        · cases hr
      | neg =>
        split at hr
        · rename_i q _; cases q
        · rename_i k n _ e
          exact ⟨_, hr, fun st2 K' ag => by simp only [evOp, ho, (ag.op x hm none).trans e]⟩
        · cases hr
      | _ =>
        split at hr
        · rename_i q _; cases q
        · rename_i q _; cases q
        · cases hr
    · -- convert
      rename_i s t x ho
      have hm : x ∈ o.op.operands.toList := by simp [ho, Op.operands]
      split at hr
      · rename_i k k' k'' n h1 h2 h3
        exact ⟨_, hr, fun st2 K' ag => by simp only [evOp, ho, (ag.op x hm none).trans h3, h1, h2]⟩
      · rename_i z h1 h2 h3
        exact ⟨_, hr, fun st2 K' ag => by simp only [evOp, ho, (ag.op x hm none).trans h3, h1, h2]⟩
      · cases hr
    · -- fieldAddr
      rename_i s x j ho
      have hm : x ∈ o.op.operands.toList := by simp [ho, Op.operands]
      split at hr
      · cases hr
      rename_i har
      split at hr
      · rename_i b y e
        split at hr
        case h_2 => cases hr
        rename_i q hd hq
        exact ⟨_, hr, fun st2 K' ag => by simp only [evOp, ho, har, (ag.op x hm none).trans e, hd, hq]⟩
      · rename_i id p e
        split at hr
        case h_2 => cases hr
        rename_i v L he
        split at hr
        case h_2 => cases hr
        rename_i hp
        exact ⟨_, hr, fun st2 K' ag => by simp only [evOp, ho, har, (ag.op x hm none).trans e, ag.box x hm id p v L e he, hp]⟩
      · rename_i id i p e
        split at hr
        case h_2 => cases hr
        rename_i et xs he
        split at hr
        case h_2 => cases hr
        rename_i hp
        exact ⟨_, hr, fun st2 K' ag => by simp only [evOp, ho, har, (ag.op x hm none).trans e, ag.row id et xs he, hp]⟩
      · cases hr
    · -- field
      rename_i s x j ho
      have hm : x ∈ o.op.operands.toList := by simp [ho, Op.operands]
      split at hr
      · cases hr
      rename_i har
      split at hr
      case h_2 => cases hr
      rename_i L hL
      split at hr
      case h_2 => cases hr
      rename_i u h1 h2
      exact ⟨_, hr, fun st2 K' ag => by simp only [evOp, ho, har, hL, ag.op x hm, h1, h2]⟩
    · -- index
      rename_i t x i ho
      have hm : x ∈ o.op.operands.toList := by simp [ho, Op.operands]
      have hm2 : i ∈ o.op.operands.toList := by simp [ho, Op.operands]
      split at hr
      · cases hr
      rename_i har
      split at hr
      case h_2 => cases hr
      rename_i b hL
      split at hr
      case h_2 => cases hr
      rename_i k n hfit hn
      obtain ⟨j, u, _, _, hr, hall⟩ := evIdx_spec _ _ hr
      exact ⟨u, hr, fun st2 K' ag => by simp only [evOp, ho, har, hL, ag.op x hm, (ag.op i hm2 none).trans hn, hfit]; exact hall st2.h K'⟩
    · -- indexAddr
      rename_i t x i ho
      have hm : x ∈ o.op.operands.toList := by simp [ho, Op.operands]
      have hm2 : i ∈ o.op.operands.toList := by simp [ho, Op.operands]
      split at hr
      · rename_i har
        split at hr
        · rename_i e xs k n e1 e2
          split at hr
          case h_2 => cases hr
          rename_i hd
          obtain ⟨ht, hr⟩ := test_some hr
          exact ⟨_, hr, fun st2 K' ag => by simp only [evOp, ho, har, (ag.op x hm none).trans e1, (ag.op i hm2 none).trans e2, hd, ht, test, P.cond]⟩
        · rename_i id k n e1 e2
          split at hr
          case h_2 => cases hr
          rename_i e xs he
          split at hr
          case h_2 => cases hr
          rename_i hd
          obtain ⟨ht, hr⟩ := test_some hr
          exact ⟨_, hr, fun st2 K' ag => by simp only [evOp, ho, har, (ag.op x hm none).trans e1, (ag.op i hm2 none).trans e2, ag.row id e xs he, hd, ht, test, P.cond]⟩
        · cases hr
      · rename_i har
        split at hr
        · rename_i id p k n e1 e2
          split at hr
          case h_2 => cases hr
          rename_i v L he
          split at hr
          case h_2 => cases hr
          rename_i hp
          exact ⟨_, hr, fun st2 K' ag => by simp only [evOp, ho, har, (ag.op x hm none).trans e1, (ag.op i hm2 none).trans e2, ag.box x hm id p v L e1 he, hp]⟩
        · rename_i b y k n e1 e2
          split at hr
          case h_2 => cases hr
          rename_i q hd hq
          exact ⟨_, hr, fun st2 K' ag => by simp only [evOp, ho, har, (ag.op x hm none).trans e1, (ag.op i hm2 none).trans e2, hd, hq]⟩
        · cases hr
    · rename_i t x lo hi mx ho; exact (hns t x lo hi mx ho).elim
    · -- makeFunc
      rename_i f first caps ho
      split at hr
      case h_2 => cases hr
      rename_i hf
      refine ⟨_, hr, fun st2 K' ag => ?_⟩
      have hc : caps.toList.map (opnd none st2.fr) = caps.toList.map (opnd none st.fr) := List.map_congr_left fun x hx => ag.op x (by simp [ho, Op.operands]; right; simpa using hx) none
      simp only [evOp, ho, hf, hc]
    · -- extract
      rename_i t j ho
      have hm : t ∈ o.op.operands.toList := by simp [ho, Op.operands]
      split at hr
      case h_2 => cases hr
      rename_i b e
      split at hr
      case h_2 => cases hr
      rename_i u hu
      exact ⟨_, hr, fun st2 K' ag => by simp only [evOp, ho, (ag.op t hm none).trans e, hu]⟩
    · rename_i c ho; exact (hnc c ho).elim
    · cases hr
end Go.PG

/- Lemmas for the claim. -/
import Derived.Test.YtijheoafbhjcbaaGreatDoorG2
import Derived.ChangeArms
import Derived.OpenShut
import Derived.WalkKit
import Derived.ProofKit
import Derived.Below
import Derived.Carry
import Derived.SizedLaws
import Derived.RowKit
import Derived.Test.YtijheoafbhjcbaaGreatDoorProg
import Derived.KernelRfl
import Derived.Shelf.RegionOpenPlain
import Derived.Lib.Walk
import Derived.Lib.SliceRun
import Derived.Lib.JoinLaws
import Derived.Lib.AppendZeros
import Derived.Lib.AppendZerosOnto
import Derived.Lib.Overlaps
import Derived.Laws.Externs
import Derived.Laws.IdiomCopy
import Derived.Laws.NewBlocks
import Derived.Shelf.Spec.SlicesInsert
set_option linter.all false
section
namespace Go.PG
open Go.RowKit
variable {Pg : Program} {G : World → Prop} {E : Env} {S : Nat → Prop} {B : Nat} {w0 w w' w'' : World} {h h' h2 : Hp} {M M' M'' : Nat → Bk} {ρ : Type} {r : ρ} {st st' st'' st2 : St} {a a' a'' : Act} {o : Oper}
structure Agree (l : List Operand) (st st2 : St) : Prop where
 op : ∀ x, x ∈ l → ∀ ty, opnd ty st2.fr x = opnd ty st.fr x
 row : ∀ id e xs, st.h.e id = some (.row e xs) → st2.h.e id = some (.row e xs)
 live : ∀ id, st.h.e id ≠ none → st2.h.e id ≠ none
 box : ∀ x, x ∈ l → ∀ id p v L, opnd none st.fr x = .ptr id p → st.h.e id = some (.box v L) → st2.h.e id = some (.box v L)
theorem toD_agree (hrow : ∀ id e xs, h.e id = some (.row e xs) → h2.e id = some (.row e xs)) : ∀ (v : AV) (t : Ty) (x : t.D), toD h v t = some x → toD h2 v t = some x := by
 intro v
 induction v with
 | own id =>
  intro t x hx
  cases t with
  | slice e =>
   simp only [toD] at hx ⊢
   split at hx
   ·rename_i e' ys q
    rw [hrow id _ _ q]
    exact hx
   ·cases hx
  | _ => simp [toD] at hx
 | view id a n =>
  intro t x hx
  cases t with
  | slice e =>
   simp only [toD] at hx ⊢
   split at hx
   ·rename_i e' ys q
    rw [hrow id _ _ q]
    exact hx
   ·cases hx
  | _ => simp [toD] at hx
 | st b ih =>
  intro t x hx
  cases t with
  | st tb => simp only [toD] at hx ⊢; exact ih tb x hx
  | _ => simp [toD] at hx
 | pr p q ihp ihq =>
  intro t x hx
  cases t with
  | pair ta tb =>
   simp only [toD] at hx ⊢
   split at hx
   case h_2 => cases hx
   rename_i y hy
   split at hx
   case h_2 => cases hx
   rename_i z hz
   rw [ihp ta y hy]
   simp only
   rw [ihq tb z hz]
   exact hx
  | _ => simp [toD] at hx
 | data t' y => intro t x hx; simp only [toD] at hx ⊢; exact hx
 | nilS e => intro t x hx; cases t <;> first | exact hx | simp [toD] at hx
 | unit => intro t x hx; cases t <;> first | exact hx | simp [toD] at hx
 | _ => intro t x hx; simp [toD] at hx
theorem argsD_any : ∀ (args : List AV) (t : Ty), argsD h args t = argsD h2 args t := by
 intro args
 induction args with
 | nil => intro t; rfl
 | cons x args ih =>
  intro t
  cases args with
  | nil => cases t <;> rfl
  | cons y args =>
   cases t with
   | pair p q => simp only [argsD]; rw [ih q]
   | _ => rfl
theorem sliceLen_agree (hrow : ∀ id e xs, h.e id = some (.row e xs) → h2.e id = some (.row e xs)) {v : AV} {n : Int} (hn : sliceLen h v = some n) : sliceLen h2 v = some n := by
 cases v with
 | own id =>
  simp only [sliceLen] at hn ⊢
  split at hn
  ·rename_i e xs q
   rw [hrow id _ _ q]
   exact hn
  ·cases hn
 | view id a m =>
  simp only [sliceLen] at hn ⊢
  split at hn
  ·rename_i e xs q
   rw [hrow id _ _ q]
   exact hn
  ·cases hn
 | data t x => cases t <;> first | exact hn | simp [sliceLen] at hn
 | nilS e => exact hn
 | _ => simp [sliceLen] at hn
theorem len_agree {ts : Array TypeId} {args : List AV} {K : AV → Hp → Option ρ} (hr : evBuiltin E .len ts args h K = some r) :
  ∃ v, K v h = some r ∧ ∀ {σ : Type} (h2 : Hp) (K' : AV → Hp → Option σ), (∀ id e xs, h.e id = some (.row e xs) → h2.e id = some (.row e xs)) → evBuiltin E .len ts args h2 K' = K' v h2 := by
 unfold evBuiltin at hr
 split at hr
 ·rename_i x _
  split at hr
  case h_2 => cases hr
  rename_i t l ht
  split at hr
  ·rename_i s hty
   exact ⟨_, hr, fun h2 K' hrow => by simp only [evBuiltin, ht, hty]⟩
  ·cases hr
  ·rename_i x _ _ e hty hno
   split at hr
   case h_2 => cases hr
   rename_i n hn
   refine ⟨_, hr, fun h2 K' hrow => ?_⟩
   have hn2 := sliceLen_agree hrow hn
   cases x with
   | data t' y => cases t' with
    | str => exact (hno y rfl).elim
    | _ => simp only [evBuiltin, ht, hty, hn2]
   | _ => simp only [evBuiltin, ht, hty, hn2]
  ·cases hr
 ·rename_i hb; cases hb
 ·rename_i hb; cases hb
 ·rename_i hb; cases hb
 ·rename_i hb; cases hb
 ·cases hr
theorem fillParts_agree (hrow : ∀ id e xs, h.e id = some (.row e xs) → h2.e id = some (.row e xs)) {e : Ty} : ∀ (l : List (Nat × AV)) (xs ys : List e.D), fillParts e h l xs = some ys → fillParts e h2 l xs = some ys := by
 intro l
 induction l with
 | nil => intro xs ys q; exact q
 | cons p l ih =>
  obtain ⟨i, v⟩ := p
  intro xs ys q
  simp only [fillParts] at q ⊢
  split at q
  ·rename_i x h1 h3
   rw [toD_agree hrow v e x h1, h3]
   exact ih _ _ q
  ·cases q
theorem light_agree {K : AV → Hp → Option ρ} (hl : isLight E o.op = true) (hr : evLight E o st K = some r) :
  ∃ v, K v st.h = some r ∧ ∀ {σ : Type} (st2 : St) (K' : AV → Hp → Option σ), Agree o.op.operands.toList st st2 → evLight E o st2 K' = K' v st2.h := by
 unfold evLight at hr
 split at hr
 ·
  rename_i t n ps ho
  have hp : ∀ (st2 : St), Agree o.op.operands.toList st st2 → ∀ p, p ∈ ps.toList → ∀ ty, opnd ty st2.fr p.2 = opnd ty st.fr p.2 := fun st2 ag p hp ty => ag.op p.2 (by simp [ho, Op.operands]; exact ⟨p.1, by simpa using hp⟩) ty
  unfold evLbs at hr
  split at hr
  case h_2 => cases hr
  rename_i e hty
  split at hr
  case h_2 => cases hr
  rename_i xs hf hd hs
  split at hr
  case h_2 => cases hr
  rename_i hnb
  refine ⟨_, hr, fun st2 K' ag => ?_⟩
  have e1 : (ps.toList.map fun p => (p.1, opnd (some e) st2.fr p.2)) = (ps.toList.map fun p => (p.1, opnd (some e) st.fr p.2)) := List.map_congr_left fun p q => by rw [hp st2 ag p q]
  have e2 : (ps.toList.map fun p => (opnd (some e) st2.fr p.2).owns) = (ps.toList.map fun p => (opnd (some e) st.fr p.2).owns) := List.map_congr_left fun p q => by rw [hp st2 ag p q]
  have hnb2 : nobody (ps.toList.flatMap fun p => (opnd (some e) st2.fr p.2).owns) = true := by rw [List.flatMap_def, e2, ← List.flatMap_def]; exact hnb
  simp only [evLight, ho, evLbs, hty, e1, fillParts_agree ag.row _ _ _ hf, hd, hs, hnb2]
 ·
  rename_i c ho
  unfold evLcall at hr
  split at hr
  ·rename_i hc
   obtain ⟨v, h1, h2⟩ := len_agree hr
   refine ⟨v, h1, fun st2 K' ag => ?_⟩
   have hargs : c.args.toList.map (opnd none st2.fr) = c.args.toList.map (opnd none st.fr) := List.map_congr_left fun x hx => ag.op x (by simp [ho, Op.operands, Call.operands, hc]; simpa using hx) none
   simp only [evLight, ho, evLcall, hc, hargs]
   exact h2 st2.h K' ag.row
  ·rename_i g hc
   split at hr
   case h_2 => cases hr
   rename_i s hlen hs
   split at hr
   case h_2 => cases hr
   rename_i v hv
   split at hr
   case h_2 => cases hr
   rename_i x hx hb
   obtain ⟨res, hres, hk⟩ := bind_some hr
   refine ⟨_, hk, fun st2 K' ag => ?_⟩
   have hargs : (c.args.toList.zip c.argTypes.toList).map (fun p => opnd (E.ty p.2) st2.fr p.1) = (c.args.toList.zip c.argTypes.toList).map (fun p => opnd (E.ty p.2) st.fr p.1) :=
    List.map_congr_left fun p hp => ag.op p.1 (by
     have := (List.of_mem_zip hp).1
     simp [ho, Op.operands, Call.operands, hc]
     right; simpa using this) _
   simp only [evLight, ho, evLcall, hc, hlen, hs, hargs]
   rw [argsD_any (h := st2.h) (h2 := st.h), hv]
   simp only [toD_agree ag.row v s.a x hx, hb, hres, P.bind]
  ·cases hr
 ·
  rename_i t x lo hi mx ho
  have hops : ∀ y, y = x ∨ some y = lo ∨ some y = hi ∨ some y = mx → y ∈ o.op.operands.toList := by
   intro y hy
   simp only [ho, Op.operands]
   rcases hy with rfl | hy | hy | hy
   ·simp
   ·subst hy; simp
   ·subst hy; simp
   ·subst hy; simp
  have key : ∀ (st2 : St), Agree o.op.operands.toList st st2 → opnd none st2.fr x = opnd none st.fr x ∧ lo.map (opnd none st2.fr) = lo.map (opnd none st.fr) ∧ hi.map (opnd none st2.fr) = hi.map (opnd none st.fr) ∧ mx.map (opnd none st2.fr) = mx.map (opnd none st.fr) := by
   intro st2 ag
   refine ⟨ag.op x (hops x (.inl rfl)) none, ?_, ?_, ?_⟩
   ·cases lo with
    | none => rfl
    | some y => simp only [Option.map_some]; rw [ag.op y (hops y (by simp)) none]
   ·cases hi with
    | none => rfl
    | some y => simp only [Option.map_some]; rw [ag.op y (hops y (by simp)) none]
   ·cases mx with
    | none => rfl
    | some y => simp only [Option.map_some]; rw [ag.op y (hops y (by simp)) none]
  have fin : ∀ v, K v st.h = some r → (∀ {σ : Type} (h2 : Hp) (K' : AV → Hp → Option σ), (∀ id e xs, st.h.e id = some (.row e xs) → h2.e id = some (.row e xs)) → evLslice (E.ty t) (opnd none st.fr x) (lo.map (opnd none st.fr)) (hi.map (opnd none st.fr)) (mx.map (opnd none st.fr)) h2 K' = K' v h2) →
    ∃ v, K v st.h = some r ∧ ∀ {σ : Type} (st2 : St) (K' : AV → Hp → Option σ), Agree o.op.operands.toList st st2 → evLight E o st2 K' = K' v st2.h := by
   intro v h1 h2
   refine ⟨v, h1, fun st2 K' ag => ?_⟩
   obtain ⟨q1, q2, q3, q4⟩ := key st2 ag
   simp only [evLight, ho, q1, q2, q3, q4]
   exact h2 st2.h K' ag.row
  unfold evLslice at hr
  generalize opnd none st.fr x = X at hr fin
  generalize lo.map (opnd none st.fr) = LO at hr fin
  generalize hi.map (opnd none st.fr) = HI at hr fin
  generalize mx.map (opnd none st.fr) = MX at hr fin
  generalize E.ty t = TY at hr fin
  have vcase : ∀ (X : AV) (id : Nat), (∃ a n, X = .view id a n) ∨ (X = .own id ∧ LO ≠ none) → (∀ {σ : Type} (h' : Hp) (K' : AV → Hp → Option σ), evLslice TY X LO HI none h' K' = evSlice TY X LO HI none h' K') → evSlice TY X LO HI none st.h K = some r →
    ∃ v, K v st.h = some r ∧ ∀ {σ : Type} (h2 : Hp) (K' : AV → Hp → Option σ), (∀ id e xs, st.h.e id = some (.row e xs) → h2.e id = some (.row e xs)) → evLslice TY X LO HI none h2 K' = K' v h2 := by
   intro X id hX hL hr
   unfold evSlice at hr
   simp only at hr
   split at hr
   ·cases hr
   rename_i n hn
   split at hr
   case h_2 => cases hr
   rename_i l u hl' hu'
   obtain ⟨ht, hr2⟩ := test_some hr
   clear hr
   rcases hX with ⟨a, k, rfl⟩ | ⟨rfl, hlo⟩
   ·split at hr2
    ·rename_i e e' xs q; cases q
    ·rename_i s q; cases q
    ·rename_i q; cases q
    ·rename_i q; cases q
    ·rename_i e id' a' k' q
     injection q with q1 q2 q3
     subst q1; subst q2; subst q3
     split at hr2
     case h_2 => cases hr2
     rename_i e2 xs he
     split at hr2
     case h_2 => cases hr2
     rename_i hd
     refine ⟨_, hr2, fun h2' K' hrow => ?_⟩
     have hn2 : sliceLen h2' (.view id a k) = some n := sliceLen_agree hrow hn
     rw [hL]
     simp only [evSlice, hn2, hl', hu', ht, test, P.cond, hrow _ _ _ he, hd]
    ·cases hr2
   ·split at hr2
    ·rename_i e e' xs q; cases q
    ·rename_i s q; cases q
    ·rename_i e id' q
     injection q with q1
     subst q1
     cases LO with
     | none => exact absurd rfl hlo
     | some l0 =>
      simp only at hr2
      split at hr2
      case h_2 => cases hr2
      rename_i e2 xs he
      split at hr2
      case h_2 => cases hr2
      rename_i hd
      refine ⟨_, hr2, fun h2' K' hrow => ?_⟩
      have hn2 : sliceLen h2' (.own id) = some n := sliceLen_agree hrow hn
      rw [hL]
      simp only [evSlice, hn2, hl', hu', ht, test, P.cond, hrow _ _ _ he, hd]
    ·rename_i q; cases q
    ·rename_i q; cases q
    ·cases hr2
  split at hr
  ·rename_i id
   split at hr
   case h_2 => cases hr
   rename_i l0
   obtain ⟨v, h1, h2⟩ := vcase (.own id) id (.inr ⟨rfl, by simp⟩) (fun _ _ => rfl) hr
   exact fin v h1 h2
  ·rename_i id a n
   split at hr
   case h_2 => cases hr
   obtain ⟨v, h1, h2⟩ := vcase (.view id a n) id (.inl ⟨a, n, rfl⟩) (fun _ _ => rfl) hr
   exact fin v h1 h2
  rename_i hno hnv
  unfold evSlice at hr
  split at hr
  ·rename_i m
   split at hr
   case h_2 => cases hr
   rename_i e h1 h2 h3
   split at hr
   ·rename_i e' xs
    exact fin _ hr (fun h2' K' _ => by simp only [evLslice, evSlice, h1, h2, h3])
   ·exact fin _ hr (fun h2' K' _ => by simp only [evLslice, evSlice, h1, h2, h3])
   ·rename_i id; exact (hno id rfl).elim
   ·rename_i id a n; exact (hnv id a n rfl).elim
   ·cases hr
  ·split at hr
   ·cases hr
   rename_i n hn
   split at hr
   case h_2 => cases hr
   rename_i l u hl' hu'
   obtain ⟨ht, hr2⟩ := test_some hr
   clear hr
   split at hr2
   ·rename_i e e' xs
    split at hr2
    case h_2 => cases hr2
    rename_i hd
    have hr := hr2
    refine fin _ hr (fun h2' K' hrow => ?_)
    have hn2 : sliceLen h2' (.data (.slice e') xs) = some n := sliceLen_agree hrow hn
    simp only [evLslice, evSlice, hn2, hl', hu', ht, test, P.cond, hd]
   ·rename_i s
    have hr := hr2
    refine fin _ hr (fun h2' K' hrow => ?_)
    have hn2 : sliceLen h2' (.data .str s) = some n := sliceLen_agree hrow hn
    simp only [evLslice, evSlice, hn2, hl', hu', ht, test, P.cond]
   ·rename_i id; exact (hno id rfl).elim
   ·rename_i e e'
    split at hr2
    case h_2 => cases hr2
    rename_i hd
    have hr := hr2
    refine fin _ hr (fun h2' K' hrow => ?_)
    have hn2 : sliceLen h2' (.nilS e') = some n := sliceLen_agree hrow hn
    simp only [evLslice, evSlice, hn2, hl', hu', ht, test, P.cond, hd]
   ·rename_i id a n; exact (hnv id a n rfl).elim
   ·cases hr2
 ·rename_i hnb hnc hns
  have rest : ∀ (st2 : St) {σ : Type} (K' : AV → Hp → Option σ), evLight E o st2 K' = evOp E noCall o st2 K' := by
   intro st2 σ K'
   unfold evLight
   split
   ·rename_i t n ps q; exact (hnb t n ps q).elim
   ·rename_i c q; exact (hnc c q).elim
   ·rename_i t x lo hi mx q; exact (hns t x lo hi mx q).elim
   ·rfl
  suffices ∃ v, K v st.h = some r ∧ ∀ {σ : Type} (st2 : St) (K' : AV → Hp → Option σ), Agree o.op.operands.toList st st2 → evOp E noCall o st2 K' = K' v st2.h by
   obtain ⟨v, h1, h2⟩ := this
   exact ⟨v, h1, fun st2 K' ag => (rest st2 K').trans (h2 st2 K' ag)⟩
  clear rest
  unfold evOp at hr
  simp only at hr
  split at hr
  ·rename_i x ho
   exact ⟨_, hr, fun st2 K' ag => by simp only [evOp, ho, ag.op x (by simp [ho, Op.operands])]⟩
  ·rename_i x ho
   exact ⟨_, hr, fun st2 K' ag => by simp only [evOp, ho, ag.op x (by simp [ho, Op.operands])]⟩
  ·rename_i c x y ho
   split at hr
   case h_2 => cases hr
   rename_i t e
   have hr := cond_some hr
   cases t with
   | true =>
    refine ⟨opnd (E.ty o.type) st.fr x, by simpa using hr, fun st2 K' ag => ?_⟩
    have e2 := (ag.op c (by simp [ho, Op.operands]) none).trans e
    simp only [evOp, ho, e2, P.cond, ag.op x (by simp [ho, Op.operands])]
   | false =>
    refine ⟨opnd (E.ty o.type) st.fr y, by simpa using hr, fun st2 K' ag => ?_⟩
    have e2 := (ag.op c (by simp [ho, Op.operands]) none).trans e
    simp only [evOp, ho, e2, P.cond, ag.op y (by simp [ho, Op.operands])]
  ·rename_i t ho; simp [ho, isLight] at hl
  ·rename_i t n ho; simp [ho, isLight] at hl
  ·rename_i t m k ok ho; simp [ho, isLight] at hl
  ·rename_i t m k v ho; simp [ho, isLight] at hl
  ·rename_i t x ho; simp [ho, isLight] at hl
  ·
   rename_i t ps ho
   split at hr
   case h_2 => cases hr
   rename_i b hty
   split at hr
   case h_2 => cases hr
   rename_i v hv
   refine ⟨_, hr, fun st2 K' ag => ?_⟩
   have hp : ∀ p, p ∈ ps.toList → ∀ ty, opnd ty st2.fr p.2 = opnd ty st.fr p.2 := fun p hp ty => ag.op p.2 (by simp [ho, Op.operands]; exact ⟨p.1, by simpa using hp⟩) ty
   simp only [evOp, ho, hty, buildParts_congr _ _ hp, hv]
  ·rename_i t n x ho; exact (hnb t n x ho).elim
  ·
   rename_i t x ho
   have hm : x ∈ o.op.operands.toList := by simp [ho, Op.operands]
   split at hr
   ·rename_i u y e
    split at hr
    case h_2 => cases hr
    rename_i hd
    exact ⟨_, hr, fun st2 K' ag => by simp only [evOp, ho, (ag.op x hm none).trans e, hd]⟩
   ·rename_i id p e
    split at hr
    case h_2 => cases hr
    rename_i v L he
    split at hr
    case h_2 => cases hr
    rename_i off u hoff
    split at hr
    case h_2 => cases hr
    rename_i y hd hy
    exact ⟨_, hr, fun st2 K' ag => by simp only [evOp, ho, (ag.op x hm none).trans e, ag.box x hm id p v L e he, hoff, hd, hy]⟩
   ·rename_i id i p e
    split at hr
    case h_2 => cases hr
    rename_i et xs he
    split at hr
    case h_2 => cases hr
    rename_i off u hoff
    split at hr
    case h_2 => cases hr
    rename_i y hd hy
    exact ⟨_, hr, fun st2 K' ag => by simp only [evOp, ho, (ag.op x hm none).trans e, ag.row id et xs he, hoff, hd, hy]⟩
   ·cases hr
  ·rename_i t x y ho; simp [ho, isLight] at hl
  ·
   rename_i x ho
   have hm : x ∈ o.op.operands.toList := by simp [ho, Op.operands]
   split at hr
   ·rename_i id p e
    split at hr
    case h_2 => cases hr
    rename_i en he
    refine ⟨_, hr, fun st2 K' ag => ?_⟩
    have hne := ag.live id (by rw [he]; simp)
    simp only [evOp, ho, (ag.op x hm none).trans e]
    split
    ·rfl
    ·rename_i q; exact absurd q hne
   ·rename_i t y e
    exact ⟨_, hr, fun st2 K' ag => by simp only [evOp, ho, (ag.op x hm none).trans e]⟩
   ·rename_i id i p e
    split at hr
    case h_2 => cases hr
    rename_i en he
    refine ⟨_, hr, fun st2 K' ag => ?_⟩
    have hne := ag.live id (by rw [he]; simp)
    simp only [evOp, ho, (ag.op x hm none).trans e]
    split
    ·rfl
    ·rename_i q; exact absurd q hne
   ·rename_i f c e
    exact ⟨_, hr, fun st2 K' ag => by simp only [evOp, ho, (ag.op x hm none).trans e]⟩
   ·cases hr
  ·
   rename_i op t x y u ho
   have hm : x ∈ o.op.operands.toList := by simp [ho, Op.operands]
   have hm2 : y ∈ o.op.operands.toList := by simp [ho, Op.operands]
   split at hr
   ·rename_i b e h1 h2 h3
    split at hr
    case h_2 => cases hr
    rename_i n hn
    have hn2 : ∀ st2 : St, (∀ id e xs, st.h.e id = some (.row e xs) → st2.h.e id = some (.row e xs)) → rowLen st2.h (opnd (E.ty t) st.fr x) = some n := by
     intro st2 hrow
     unfold rowLen at hn ⊢
     split at hn
     ·cases hn
     ·rename_i hno
      have := sliceLen_agree hrow hn
      exact this
    have hr := cond_some hr
    by_cases hp : P.ilt 0 n = true
    ·rw [if_pos hp] at hr
     exact ⟨_, hr, fun st2 K' ag => by
      have hn2' := hn2 st2 ag.row
      rw [h3] at hn2'
      simp only [evOp, ho, ag.op x hm, h1, h2, h3, hn2', hp, P.cond]⟩
    ·rw [if_neg hp] at hr
     exact ⟨_, hr, fun st2 K' ag => by
      have hn2' := hn2 st2 ag.row
      rw [h3] at hn2'
      simp only [evOp, ho, ag.op x hm, h1, h2, h3, hn2', Bool.eq_false_iff.2 hp, P.cond]⟩
   split at hr
   ·rename_i b v hh
    obtain ⟨ht, hr⟩ := test_some hr
    exact ⟨_, hr, fun st2 K' ag => by simp only [evOp, ho, ag.op x hm, ag.op y hm2, hh, ht, test, P.cond]⟩
   rename_i hh
   split at hr
   case h_2 => cases hr
   rename_i he
   split at hr
   case h_2 => cases hr
   rename_i v hv
   exact ⟨_, hr, fun st2 K' ag => by simp only [evOp, ho, ag.op x hm, ag.op y hm2, hh, he, hv]⟩
  ·
   rename_i op t x ho
   have hm : x ∈ o.op.operands.toList := by simp [ho, Op.operands]
   cases op with
   | not =>
    split at hr
    ·rename_i b _ e
     exact ⟨_, hr, fun st2 K' ag => by simp only [evOp, ho, (ag.op x hm none).trans e]⟩
    ·rename_i q _; cases q
    ·cases hr
   | neg =>
    split at hr
    ·rename_i q _; cases q
    ·rename_i k n _ e
     exact ⟨_, hr, fun st2 K' ag => by simp only [evOp, ho, (ag.op x hm none).trans e]⟩
    ·cases hr
   | _ =>
    split at hr
    ·rename_i q _; cases q
    ·rename_i q _; cases q
    ·cases hr
  ·
   rename_i s t x ho
   have hm : x ∈ o.op.operands.toList := by simp [ho, Op.operands]
   split at hr
   ·rename_i k k' k'' n h1 h2 h3
    exact ⟨_, hr, fun st2 K' ag => by simp only [evOp, ho, (ag.op x hm none).trans h3, h1, h2]⟩
   ·rename_i z h1 h2 h3
    exact ⟨_, hr, fun st2 K' ag => by simp only [evOp, ho, (ag.op x hm none).trans h3, h1, h2]⟩
   ·cases hr
  ·
   rename_i s x j ho
   have hm : x ∈ o.op.operands.toList := by simp [ho, Op.operands]
   split at hr
   ·cases hr
   rename_i har
   split at hr
   ·rename_i b y e
    split at hr
    case h_2 => cases hr
    rename_i q hd hq
    exact ⟨_, hr, fun st2 K' ag => by simp only [evOp, ho, har, (ag.op x hm none).trans e, hd, hq]⟩
   ·rename_i id p e
    split at hr
    case h_2 => cases hr
    rename_i v L he
    split at hr
    case h_2 => cases hr
    rename_i hp
    exact ⟨_, hr, fun st2 K' ag => by simp only [evOp, ho, har, (ag.op x hm none).trans e, ag.box x hm id p v L e he, hp]⟩
   ·rename_i id i p e
    split at hr
    case h_2 => cases hr
    rename_i et xs he
    split at hr
    case h_2 => cases hr
    rename_i hp
    exact ⟨_, hr, fun st2 K' ag => by simp only [evOp, ho, har, (ag.op x hm none).trans e, ag.row id et xs he, hp]⟩
   ·cases hr
  ·
   rename_i s x j ho
   have hm : x ∈ o.op.operands.toList := by simp [ho, Op.operands]
   split at hr
   ·cases hr
   rename_i har
   split at hr
   case h_2 => cases hr
   rename_i L hL
   split at hr
   case h_2 => cases hr
   rename_i u h1 h2
   exact ⟨_, hr, fun st2 K' ag => by simp only [evOp, ho, har, hL, ag.op x hm, h1, h2]⟩
  ·
   rename_i t x i ho
   have hm : x ∈ o.op.operands.toList := by simp [ho, Op.operands]
   have hm2 : i ∈ o.op.operands.toList := by simp [ho, Op.operands]
   split at hr
   ·cases hr
   rename_i har
   split at hr
   case h_2 => cases hr
   rename_i b hL
   split at hr
   case h_2 => cases hr
   rename_i k n hfit hn
   obtain ⟨j, u, _, _, hr, hall⟩ := evIdx_spec _ _ hr
   exact ⟨u, hr, fun st2 K' ag => by simp only [evOp, ho, har, hL, ag.op x hm, (ag.op i hm2 none).trans hn, hfit]; exact hall st2.h K'⟩
  ·
   rename_i t x i ho
   have hm : x ∈ o.op.operands.toList := by simp [ho, Op.operands]
   have hm2 : i ∈ o.op.operands.toList := by simp [ho, Op.operands]
   split at hr
   ·rename_i har
    split at hr
    ·rename_i e xs k n e1 e2
     split at hr
     case h_2 => cases hr
     rename_i hd
     obtain ⟨ht, hr⟩ := test_some hr
     exact ⟨_, hr, fun st2 K' ag => by simp only [evOp, ho, har, (ag.op x hm none).trans e1, (ag.op i hm2 none).trans e2, hd, ht, test, P.cond]⟩
    ·rename_i id k n e1 e2
     split at hr
     case h_2 => cases hr
     rename_i e xs he
     split at hr
     case h_2 => cases hr
     rename_i hd
     obtain ⟨ht, hr⟩ := test_some hr
     exact ⟨_, hr, fun st2 K' ag => by simp only [evOp, ho, har, (ag.op x hm none).trans e1, (ag.op i hm2 none).trans e2, ag.row id e xs he, hd, ht, test, P.cond]⟩
    ·rename_i id av m k n e1 e2
     split at hr
     case h_2 => cases hr
     rename_i e xs he
     split at hr
     case h_2 => cases hr
     rename_i hd
     obtain ⟨ht, hr⟩ := test_some hr
     exact ⟨_, hr, fun st2 K' ag => by simp only [evOp, ho, har, (ag.op x hm none).trans e1, (ag.op i hm2 none).trans e2, ag.row id e xs he, hd, ht, test, P.cond]⟩
    ·cases hr
   ·rename_i har
    split at hr
    ·rename_i id p k n e1 e2
     split at hr
     case h_2 => cases hr
     rename_i v L he
     split at hr
     case h_2 => cases hr
     rename_i hp
     exact ⟨_, hr, fun st2 K' ag => by simp only [evOp, ho, har, (ag.op x hm none).trans e1, (ag.op i hm2 none).trans e2, ag.box x hm id p v L e1 he, hp]⟩
    ·rename_i b y k n e1 e2
     split at hr
     case h_2 => cases hr
     rename_i q hd hq
     exact ⟨_, hr, fun st2 K' ag => by simp only [evOp, ho, har, (ag.op x hm none).trans e1, (ag.op i hm2 none).trans e2, hd, hq]⟩
    ·cases hr
  ·rename_i t x lo hi mx ho; exact (hns t x lo hi mx ho).elim
  ·
   rename_i f first caps ho
   split at hr
   case h_2 => cases hr
   rename_i hf
   refine ⟨_, hr, fun st2 K' ag => ?_⟩
   have hc : caps.toList.map (opnd none st2.fr) = caps.toList.map (opnd none st.fr) := List.map_congr_left fun x hx => ag.op x (by simp [ho, Op.operands]; right; simpa using hx) none
   simp only [evOp, ho, hf, hc]
  ·
   rename_i t j ho
   have hm : t ∈ o.op.operands.toList := by simp [ho, Op.operands]
   split at hr
   case h_2 => cases hr
   rename_i b e
   split at hr
   case h_2 => cases hr
   rename_i u hu
   exact ⟨_, hr, fun st2 K' ag => by simp only [evOp, ho, (ag.op t hm none).trans e, hu]⟩
  ·rename_i c ho; exact (hnc c ho).elim
  ·cases hr
end Go.PG
end
section
namespace Go.PG
open Go.RowKit
variable {Pg : Program} {G : World → Prop} {E : Env} {S : Nat → Prop} {B : Nat} {w0 w w' w'' : World} {h h' h2 : Hp} {M M' M'' : Nat → Bk} {ρ : Type} {r : ρ} {K : AV → Hp → Option ρ} {st st' st'' st1 st2 st3 : St} {a a' a'' : Act} {o : Oper}
theorem noCall_ok : HandlerOk Pg G S B w0 noCall := fun f args h K r M w vals hr => by simp [noCall] at hr
theorem evLight_ok (HE : EnvOk Pg G E) (hG : G w0) (F : ∀ t, RepV (cx S st.h M w) (st.fr t) (a.tmps.getD t undef)) (H : HInv S B w0 st.h M w) (hr : evLight E o st K = some r) : Does Pg o a w (Post K r S B w0 st.h M w) := by
 unfold evLight at hr
 split at hr
 ·rename_i t n ps ho
  unfold evLbs at hr
  split at hr
  case h_2 => cases hr
  rename_i e hty
  split at hr
  case h_2 => cases hr
  rename_i xs hf hd hs
  split at hr
  case h_2 => cases hr
  rename_i hnb
  refine buildSliceD_ok HE F H ho hty hf hd hs ?_ hr
  cases q : ps.toList.flatMap (fun p => (opnd (some e) st.fr p.2).owns) with
  | nil => rfl
  | cons i l => rw [q] at hnb; simp [nobody] at hnb
 ·rename_i c ho
  unfold evLcall at hr
  split at hr
  ·rename_i hc
   exact evBuiltin_ok HE F H ho hc hr
  ·rename_i g hc
   split at hr
   case h_2 => cases hr
   rename_i s hlen hs
   split at hr
   case h_2 => cases hr
   rename_i v hv
   split at hr
   case h_2 => cases hr
   rename_i x hx hb
   refine call_ok HE hG noCall_ok F H ho hc (g := g) (caps := .unit) rfl hlen ?_
   rw [hs]
   simp only [callSpec, hv]
   cases hf : s.r.flat with
   | true => simp only [hx]; exact hr
   | false =>
    rw [hf] at hb
    simp only at hb
    have hn : v.owns = [] := by
     cases q : v.owns with
     | nil => rfl
     | cons i l => rw [q] at hb; simp [nobody] at hb
    simp only [freeze, hx, hn, unlocked, Hp.kills]
    exact hr
  ·cases hr
 ·rename_i t x lo hi mx ho
  refine slice_ok HE F H ho ?_
  unfold evLslice at hr
  split at hr
  ·rename_i id e
   rw [e]
   split at hr
   ·rename_i h1 h2 h3
    rw [h2, h3]
    exact hr
   ·cases hr
  ·rename_i id a n e
   rw [e]
   split at hr
   ·rename_i h1 h2
    rw [h2]
    exact hr
   ·cases hr
  ·exact hr
 ·exact evOp_ok HE hG noCall_ok F H hr
theorem alloc_at (HE : EnvOk Pg G E) (H : HInv S B w0 st.h M w) {t : TypeId} (ho : o.op = .alloc t) {L : Ty} (hL : E.ty t = some L) {id : Nat} (he : st.h.e id = some .rsv) (hl : st.h.lk id = false)
  (hr : K (.ptr id []) (st.h.put id (.box (zeroAV L) L)) = some r) : Does Pg o a w (Post K r S B w0 st.h M w) := by
 obtain ⟨z, hz, hrep, hfit⟩ := ok_zero (c := cx S st.h M w) (HE.ty t _ hL) w
 refine Does.value (v := .pointer (some ⟨w.heap.size, 0, none⟩)) (w' := w.alloc (.cells z.cells t (0, 0))) (by simp [execOp, ho, Instr.alloc, hz, newVar, newRow]) ?_
 obtain ⟨H', k⟩ := H.fill he hl (.box (zeroAV L) L) (.box w.heap.size) (w' := w.alloc (.cells z.cells t (0, 0))) (fun b hb => alloc_old w _ b hb) (by rw [alloc_size]; omega) (below_alloc' H _)
  (fun b hb => by rw [box_has hb]; exact Nat.le_refl _)
  (fun k => ⟨w.heap.size, _, Holds.of (plain_of_ok (HE.ty t _ hL)) (el := t) (by simp [cx, set1, Nat.beq_refl]) (alloc_get w _), hfit, RepC.tr k _ _ hrep⟩)
 refine ⟨.ptr id [], _, _, hr, H', k, ?_⟩
 simp only [RepV, Rep1]
 exact ⟨H.lt he, _, rfl, .inr ⟨w.heap.size, zeroAV L, L, 0, L, by simp [cx, set1, Nat.beq_refl, Bk.at], by simp [cx, Hp.put, set1, Nat.beq_refl], rfl, rfl⟩⟩
theorem makes_spec {op : Op} {m : Maker} (h : makes E op = some m) : ∃ c g, op = .call c ∧ c.callee = .value (.func g) ∧ c.args.toList = [] ∧ look E.lays g = some m := by
 unfold makes at h
 split at h
 ·rename_i c
  split at h
  ·rename_i g h1 h2
   exact ⟨c, g, rfl, h1, h2, h⟩
  ·cases h
 ·cases h
theorem maker_at (HE : EnvOk Pg G E) (hG : G w0) (H : HInv S B w0 st.h M w) {m : Maker} (ho : makes E o.op = some m) {id : Nat} (he : st.h.e id = some .rsv) (hl : st.h.lk id = false)
  (hr : K (m.f id) (st.h.put id (.box m.v m.L)) = some r) : Does Pg o a w (Post K r S B w0 st.h M w) := by
 obtain ⟨c, g, h1, h2, h3, h4⟩ := makes_spec ho
 obtain ⟨⟨hpl, hm⟩, hany⟩ := HE.lays g m h4
 have hGw : G w := HE.G w0 w hG (by rw [H.bw]; exact H.bel)
 have h3' : c.args = #[] := Array.toList_inj.1 (by simpa using h3)
 refine Does.enter (f := g) (args := #[]) ?_ ((hm w hGw).mono fun e w' ⟨v, b, z, t, q1, bel, q2, q3, q4, q5, q6⟩ => ⟨v, q1, ?_⟩)
 ·simp [execOp, h1, resolve, h2, h3', Act.eval, Deferred.ofValue, invoke, run_callFunc hany]
 ·obtain ⟨H', k⟩ := H.fill he hl (.box m.v m.L) (.box b) (w' := w') (fun c hc => bel.block c hc) bel.size (bel.mono H.bsz)
   (fun c hc => by rw [box_has hc]; exact q2)
   (fun k => ⟨b, z.toList, Holds.of hpl (el := t) (by simp [cx, set1, Nat.beq_refl]) (by simpa [cx] using q3), q5, q4 _⟩)
  refine ⟨m.f id, _, _, hr, H', k, q6 _ id (H.lt he) (by simp [cx, set1, Nat.beq_refl]) (by simp [cx, Hp.put, set1, Nat.beq_refl])⟩
theorem HInv.like {g : Hp} (H : HInv S B w0 h M w) (e : g.e = h.e) (n : g.next = h.next) : HInv S B w0 g M w := by
 have c : cx S g M w = cx S h M w := by unfold cx; rw [e, n]
 refine ⟨?_, ?_, ?_, ?_, H.bel, H.bsz, H.old, H.bw⟩
 ·rw [c, e]; exact H.ent
 ·rw [e, n]; exact H.fresh
 ·rw [e]; exact H.dist
 ·rw [e]; exact H.own
theorem stilled (H : HInv S B w0 h' M' w') (k : HStp S (quiet h) M w h' M' w') : HInv S B w0 (still h h') M' w' ∧ HStp S h M w (still h h') M' w' ∧ ∀ av v, RepV (cx S h' M' w') av v → RepV (cx S (still h h') M' w') av v := by
 have lock : ∀ id, id < h.next → h'.e id = h.e id ∧ M' id = M id := fun id q => k.lock id q (by
  have : Nat.blt id h.next = true := by rw [Nat.blt_eq]; exact q
  simp [quiet, this])
 have e : (still h h').e = h'.e := by
  funext id
  simp only [still]
  split
  ·rename_i q
   exact (lock id (by rw [Nat.blt_eq] at q; exact q)).1.symm
  ·rfl
 have c : cx S (still h h') M' w' = cx S h' M' w' := by unfold cx; rw [e]; rfl
 refine ⟨H.like e rfl, ⟨?_, rfl, fun id q _ => ?_⟩, fun av v q => by rw [c]; exact q⟩
 ·rw [c]; exact k.tr
 ·rw [e]; exact lock id q
theorem evDop_ok (HE : EnvOk Pg G E) (hG : G w0) {call : Handler} (HC : HandlerOk Pg G S B w0 call) (F : ∀ t, RepV (cx S st.h M w) (st.fr t) (a.tmps.getD t undef)) (H : HInv S B w0 st.h M w) {n0 i : Nat} (hr : evDop E call n0 i o st K = some r) :
  Does Pg o a w (Post K r S B w0 st.h M w) := by
 unfold evDop at hr
 split at hr
 ·exact evLight_ok HE hG F H hr
 ·split at hr
  ·have := evOp_ok (o := o) (a := a) (st := { st with h := quiet st.h }) HE hG HC F (H.like (g := quiet st.h) rfl rfl) hr
   intro next Q hX
   refine this next Q fun v w' ⟨av, h', M', q1, q2, q3, q4⟩ => hX v w' ?_
   obtain ⟨z1, z2, z3⟩ := stilled q2 q3
   exact ⟨av, _, M', q1, z1, z2, z3 _ _ q4⟩
  ·split at hr
   ·rename_i t ho
    split at hr
    case h_2 => cases hr
    rename_i L hL he hl
    exact alloc_at HE H ho hL he hl hr
   ·split at hr
    ·rename_i m hm
     split at hr
     case h_2 => cases hr
     rename_i he hl
     exact maker_at HE hG H hm he hl hr
    ·exact evOp_ok HE hG HC F H hr
theorem evDstep_ok (HE : EnvOk Pg G E) (hG : G w0) {call : Handler} (HC : HandlerOk Pg G S B w0 call) {ops : Array Oper} {n0 i : Nat} (ho : ops[i]? = some o) (g : Good S B w0 st a M w) {K : St → Option ρ} (hr : evDstep E call n0 ops.toList i o st K = some r)
  {X : Act → World → Prop} {Q : Exit → Act → World → Prop} (hX : Then S B w0 st a M w K r X) : wpOp Pg ops Q i X a w := by
 have hdo : Region.wanted o (yielded ops a.tmps) = true → evDop E call n0 i o st (putK o st K) = some r → wpOp Pg ops Q i X a w := by
  intro hw hk
  simp only [wpOp, ho, hw, if_true]
  refine .inl (evDop_ok HE hG HC g.F g.H hk X Q fun v w' ⟨av, h', M', hk, H', k, hv⟩ => ?_)
  unfold putK at hk
  split at hk
  ·rename_i st' hp
   obtain ⟨g', s'⟩ := put_ok g H' k hv hp
   exact hX _ _ _ _ g' s' hk
  ·cases hk
 have hsk : Region.wanted o (yielded ops a.tmps) = false → skipOp o st K = some r → wpOp Pg ops Q i X a w := by
  intro hw hk
  simp only [wpOp, ho, hw, Bool.false_eq_true, if_false]
  exact skipOp_ok (o := o) g hk hX
 unfold evDstep at hr
 split at hr
 ·rename_i hg
  exact hdo (by simp [Region.wanted, hg]) hr
 ·rename_i j want hg
  split at hr
  case h_2 => cases hr
  rename_i oj hoj
  split at hr
  case h_2 => cases hr
  rename_i t ht
  have hoj' : ops[j]? = some oj := by rw [← Array.getElem?_toList]; exact hoj
  split at hr
  ·rename_i b hb
   have hF := g.F t
   rw [hb] at hF
   have hF := getD_bool (repV_bool hF)
   have hy : yielded ops a.tmps j = some b := by simp [yielded, hoj', ht, hF]
   have hr := cond_some hr
   cases b with
   | true =>
    simp only [if_true] at hr
    rw [refine1_eq hb] at hr
    cases want with
    | true => exact hdo (by simp [Region.wanted, hg, hy]) hr
    | false => exact hsk (by simp [Region.wanted, hg, hy]) hr
   | false =>
    simp only [Bool.false_eq_true, if_false] at hr
    rw [refine1_eq hb] at hr
    cases want with
    | true => exact hsk (by simp [Region.wanted, hg, hy]) hr
    | false => exact hdo (by simp [Region.wanted, hg, hy]) hr
  ·rename_i hb
   have hF := g.F t
   rw [hb] at hF
   simp only [RepV, RepT] at hF
   obtain ⟨vs, hv, hvs⟩ := hF
   have hy : yielded ops a.tmps j = none := by
    simp only [yielded, hoj', ht, Option.bind_some]
    rw [Array.getD_eq_getD_getElem?] at hv
    cases q : a.tmps[t]? with
    | none => rfl
    | some u => rw [q] at hv; simp only [Option.getD_some] at hv; rw [hv]
   exact hsk (by simp [Region.wanted, hg, hy]) hr
  ·cases hr
structure AgreeS (l : List Nat) (st st2 : St) : Prop where
 fr : ∀ t, t ∈ l → st2.fr t = st.fr t
 row : ∀ id e xs, st.h.e id = some (.row e xs) → st2.h.e id = some (.row e xs)
 live : ∀ id, st.h.e id ≠ none → st2.h.e id ≠ none
 box : ∀ t, t ∈ l → ∀ id p v L, st.fr t = .ptr id p → st.h.e id = some (.box v L) → st2.h.e id = some (.box v L)
theorem AgreeS.trans {l : List Nat} (h1 : AgreeS l st st1) (h2 : AgreeS l st1 st2) : AgreeS l st st2 :=
 ⟨fun t ht => (h2.fr t ht).trans (h1.fr t ht), fun id e xs q => h2.row id e xs (h1.row id e xs q), fun id q => h2.live id (h1.live id q), fun t ht id p v L q1 q2 => h2.box t ht id p v L ((h1.fr t ht).trans q1) (h1.box t ht id p v L q1 q2)⟩
theorem AgreeS.refl (l : List Nat) (st : St) : AgreeS l st st := ⟨fun _ _ => rfl, fun _ _ _ q => q, fun _ q => q, fun _ _ _ _ _ _ _ q => q⟩
theorem tmpsOf_mem {t : Nat} : ∀ {l : List Operand}, Operand.tmp t ∈ l → t ∈ tmpsOf l
 | [], h => by simp at h
 | x :: l, h => by
  rcases List.mem_cons.1 h with rfl | hm
  ·simp [tmpsOf]
  ·cases x with
   | tmp u => simp only [tmpsOf]; exact List.mem_cons_of_mem _ (tmpsOf_mem hm)
   | _ => simp only [tmpsOf]; exact tmpsOf_mem hm
theorem opnd_ptr {fr : Nat → AV} {x : Operand} {id : Nat} {p : List Nat} (h : opnd none fr x = .ptr id p) : ∃ t, x = .tmp t ∧ fr t = .ptr id p := by
 cases x with
 | tmp t => exact ⟨t, rfl, h⟩
 | const v => cases v <;> simp [opnd, constAV] at h
 | global g => simp [opnd] at h
 | func f => simp [opnd] at h
theorem AgreeS.ops {all : List Oper} (h : AgreeS (looks all o) st st2) : Agree o.op.operands.toList st st2 := by
 refine ⟨fun x hx ty => ?_, h.row, h.live, fun x hx id p v L q1 q2 => ?_⟩
 ·cases x with
  | tmp t => exact h.fr t (List.mem_append_right _ (tmpsOf_mem hx))
  | _ => rfl
 ·obtain ⟨t, rfl, q⟩ := opnd_ptr q1
  exact h.box t (List.mem_append_right _ (tmpsOf_mem hx)) id p v L q q2
def upd1 (h : Hp) (id : Nat) : Option Ent → Hp
 | none => h
 | some e => h.put id e
structure Step (E : Env) (n0 : Nat) (all : List Oper) (i : Nat) (o : Oper) (v : AV) (e : Option Ent) (st : St) : Prop where
 cond : e = none ∨ (st.h.e (n0 + i) = some .rsv ∧ st.h.lk (n0 + i) = false ∧ ∃ u L, e = some (.box u L))
 run : ∀ {σ : Type} (call2 : Handler) (st2 : St) (K' : St → Option σ), AgreeS (looks all o) st st2 → (e ≠ none → st2.h.e (n0 + i) = some .rsv ∧ st2.h.lk (n0 + i) = false) → evDstep E call2 n0 all i o st2 K' = putK o st2 K' v (upd1 st2.h (n0 + i) e)
theorem dop_agree {call : Handler} {n0 i : Nat} (hf : free E o = true) (hr : evDop E call n0 i o st K = some r) :
  ∃ v e, (isLight E o.op = true → e = none) ∧ K v (upd1 st.h (n0 + i) e) = some r ∧ (e = none ∨ (st.h.e (n0 + i) = some .rsv ∧ st.h.lk (n0 + i) = false ∧ ∃ u L, e = some (.box u L))) ∧
   ∀ {σ : Type} (call2 : Handler) (st2 : St) (K' : AV → Hp → Option σ), Agree o.op.operands.toList st st2 → (e ≠ none → st2.h.e (n0 + i) = some .rsv ∧ st2.h.lk (n0 + i) = false) → evDop E call2 n0 i o st2 K' = K' v (upd1 st2.h (n0 + i) e) := by
 unfold evDop at hr
 split at hr
 ·rename_i hl
  obtain ⟨v, h1, h2⟩ := light_agree hl hr
  refine ⟨v, none, fun _ => rfl, h1, .inl rfl, fun call2 st2 K' ag _ => ?_⟩
  simp only [evDop, hl]
  exact h2 st2 K' ag
 ·rename_i hl
  have hcalm : isCalm E o = false := by simp only [isCalm, hf]
  have hlne : isLight E o.op = true → ∀ P : Prop, P := fun q => by rw [hl] at q; cases q
  rw [hcalm] at hr
  simp only at hr
  simp only [free, hl] at hf
  split at hr
  ·rename_i t ho
   split at hr
   case h_2 => cases hr
   rename_i L hL he hlk
   refine ⟨_, some (.box (zeroAV L) L), fun q => hlne q _, hr, .inr ⟨he, hlk, _, _, rfl⟩, fun call2 st2 K' ag q => ?_⟩
   obtain ⟨q1, q2⟩ := q (by simp)
   have hl2 : isLight E (.alloc t) = false := rfl
   simp only [evDop, ho, hl2, hcalm, hL, q1, q2, upd1]
  ·rename_i hno
   split at hr
   ·rename_i m hm
    split at hr
    case h_2 => cases hr
    rename_i he hlk
    refine ⟨_, some (.box m.v m.L), fun q => hlne q _, hr, .inr ⟨he, hlk, _, _, rfl⟩, fun call2 st2 K' ag q => ?_⟩
    obtain ⟨q1, q2⟩ := q (by simp)
    obtain ⟨c, g, ho, _⟩ := makes_spec hm
    rw [ho] at hl hm
    simp only [evDop, ho, hl, hcalm, hm, q1, q2, upd1]
   ·rename_i hm
    exfalso
    unfold isAlloc at hf
    split at hf
    ·rename_i t q; exact hno t q
    ·rw [hm] at hf; cases hf
theorem looks_guard {all : List Oper} {j : Nat} {want : Bool} {oj : Oper} {t : Nat} (hg : o.guard = some (j, want)) (hoj : all[j]? = some oj) (ht : oj.dst = some t) : t ∈ looks all o := by
 simp only [looks, hg, hoj, ht]
 simp
theorem step_agree {call : Handler} {n0 i : Nat} {all : List Oper} {K : St → Option ρ} (hf : free E o = true) (hr : evDstep E call n0 all i o st K = some r) : ∃ v e, (isLight E o.op = true → e = none) ∧ Step E n0 all i o v e st ∧ putK o st K v (upd1 st.h (n0 + i) e) = some r := by
 unfold evDstep at hr
 split at hr
 ·rename_i hg
  obtain ⟨v, e, h0, h1, h2, h3⟩ := dop_agree hf hr
  refine ⟨v, e, h0, ⟨h2, fun call2 st2 K' ag q => ?_⟩, h1⟩
  simp only [evDstep, hg]
  exact h3 call2 st2 _ ag.ops q
 ·rename_i j want hg
  split at hr
  case h_2 => cases hr
  rename_i oj hoj
  split at hr
  case h_2 => cases hr
  rename_i t ht
  have hmem := looks_guard hg hoj ht
  have skip : ∀ (b : AV), st.fr t = b → (∀ {σ : Type} (call2 : Handler) (st2 : St) (K' : St → Option σ), st2.fr t = b → evDstep E call2 n0 all i o st2 K' = skipOp o st2 K') → skipOp o st K = some r →
    ∃ v e, (isLight E o.op = true → e = none) ∧ Step E n0 all i o v e st ∧ putK o st K v (upd1 st.h (n0 + i) e) = some r := by
   intro b hb hrun hk
   refine ⟨.tup .unit, none, fun _ => rfl, ⟨.inl rfl, fun call2 st2 K' ag _ => ?_⟩, hk⟩
   rw [hrun call2 st2 K' ((ag.fr t hmem).trans hb)]
   rfl
  split at hr
  ·rename_i b hb
   have hr := cond_some hr
   have hdo : (∀ {σ : Type} (call2 : Handler) (st2 : St) (K' : St → Option σ), st2.fr t = .data .bool b → evDstep E call2 n0 all i o st2 K' = evDop E call2 n0 i o st2 (putK o st2 K')) → evDop E call n0 i o st (putK o st K) = some r →
     ∃ v e, (isLight E o.op = true → e = none) ∧ Step E n0 all i o v e st ∧ putK o st K v (upd1 st.h (n0 + i) e) = some r := by
    intro hrun hk
    obtain ⟨v, e, h0, h1, h2, h3⟩ := dop_agree hf hk
    refine ⟨v, e, h0, ⟨h2, fun call2 st2 K' ag q => ?_⟩, h1⟩
    rw [hrun call2 st2 K' ((ag.fr t hmem).trans hb)]
    exact h3 call2 st2 _ ag.ops q
   cases b with
   | true =>
    simp only [if_true] at hr
    rw [refine1_eq hb] at hr
    cases want with
    | true => exact hdo (fun call2 st2 K' q => by simp only [evDstep, hg, hoj, ht, q, P.cond, refine1_eq q]) hr
    | false => exact skip _ hb (fun call2 st2 K' q => by simp only [evDstep, hg, hoj, ht, q, P.cond, refine1_eq q]) hr
   | false =>
    simp only [Bool.false_eq_true, if_false] at hr
    rw [refine1_eq hb] at hr
    cases want with
    | true => exact skip _ hb (fun call2 st2 K' q => by simp only [evDstep, hg, hoj, ht, q, P.cond, refine1_eq q]) hr
    | false => exact hdo (fun call2 st2 K' q => by simp only [evDstep, hg, hoj, ht, q, P.cond, refine1_eq q]) hr
  ·rename_i hb
   exact skip _ hb (fun call2 st2 K' q => by simp only [evDstep, hg, hoj, ht, q]) hr
  ·cases hr
def NoRsv (l : List Nat) (st : St) : Prop := ∀ t, t ∈ l → ∀ id p, st.fr t = .ptr id p → st.h.e id ≠ some .rsv
theorem putK_some {K : St → Option ρ} {v : AV} (h : putK o st K v h2 = some r) : ∃ st', ({ st with h := h2 } : St).put o.dst v = some st' ∧ K st' = some r := by
 unfold putK at h
 split at h
 ·rename_i st' q; exact ⟨st', q, h⟩
 ·cases h
theorem put_facts {d : Option Tmp} {v : AV} (h : ({ st with h := h2 } : St).put d v = some st') : st'.n = st.n ∧ st'.ro = st.ro ∧ st'.h = h2 ∧ (∀ t, d ≠ some t → st'.fr t = st.fr t) ∧ (∀ t, d = some t → st.ro t = false ∧ t < st.n ∧ st'.fr = set1 st.fr t v) ∧ (d = none → st'.fr = st.fr) := by
 cases d with
 | none => have := put_none h; subst this; exact ⟨rfl, rfl, rfl, fun _ _ => rfl, fun t q => by simp at q, fun _ => rfl⟩
 | some t =>
  obtain ⟨h1, h2', rfl⟩ := put_some h
  refine ⟨rfl, rfl, rfl, fun u hu => ?_, fun u hu => ?_, fun q => by simp at q⟩
  ·have : u ≠ t := fun q => hu (by rw [q])
   simp [set1, beq_false this]
  ·injection hu with hu
   subst hu
   exact ⟨h1, h2', rfl⟩
theorem upd1_e {id j : Nat} {e : Option Ent} (h : Hp) (hj : j ≠ id) : (upd1 h id e).e j = h.e j := by
 cases e with
 | none => rfl
 | some e => simp [upd1, Hp.put, set1, beq_false hj]
theorem upd1_lk {id : Nat} {e : Option Ent} (h : Hp) : (upd1 h id e).lk = h.lk := by cases e <;> rfl
theorem upd1_at {id : Nat} {e : Ent} (h : Hp) : (upd1 h id (some e)).e id = some e := by simp [upd1, Hp.put, set1, Nat.beq_refl]
theorem clear_spec {d : Option Tmp} {l : List Nat} (h : clear d l = true) : ∀ t, t ∈ l → d ≠ some t := by
 rintro t ht rfl
 simp only [clear] at h
 split at h
 ·cases h
 ·rename_i q; exact memb_not.1 q ht
theorem past {v : AV} {e : Option Ent} {id : Nat} {d : Option Tmp} {l : List Nat} (hc : e = none ∨ (st.h.e id = some .rsv ∧ st.h.lk id = false ∧ ∃ u L, e = some (.box u L))) (hp : ({ st with h := upd1 st.h id e } : St).put d v = some st1) (hd : ∀ t, t ∈ l → d ≠ some t) :
  AgreeS l st st1 ∧ (NoRsv l st → AgreeS l st1 st ∧ NoRsv l st1) := by
 obtain ⟨p1, p2, p3, p4, p5, p6⟩ := put_facts hp
 have fr : ∀ t, t ∈ l → st1.fr t = st.fr t := fun t ht => p4 t (hd t ht)
 have he : ∀ j, st1.h.e j = st.h.e j ∨ (st.h.e j = some .rsv ∧ ∃ u L, st1.h.e j = some (.box u L)) := by
  intro j
  rw [p3]
  by_cases hj : j = id
  ·subst hj
   rcases hc with rfl | ⟨q1, _, u, L, rfl⟩
   ·exact .inl rfl
   ·exact .inr ⟨q1, u, L, upd1_at _⟩
  ·exact .inl (upd1_e _ hj)
 refine ⟨⟨fr, fun j t xs q => ?_, fun j q => ?_, fun t ht j p u L q1 q2 => ?_⟩, fun nr => ⟨⟨fun t ht => (fr t ht).symm, fun j t xs q => ?_, fun j q => ?_, fun t ht j p u L q1 q2 => ?_⟩, fun t ht j p q1 => ?_⟩⟩
 ·rcases he j with z | ⟨z, _⟩
  ·rw [z]; exact q
  ·rw [z] at q; cases q
 ·rcases he j with z | ⟨_, u, L, z⟩
  ·rw [z]; exact q
  ·rw [z]; simp
 ·rcases he j with z | ⟨z, _⟩
  ·rw [z]; exact q2
  ·rw [z] at q2; cases q2
 ·rcases he j with z | ⟨_, u, L, z⟩
  ·rw [← z]; exact q
  ·rw [z] at q; cases q
 ·rcases he j with z | ⟨z, _⟩
  ·rw [← z]; exact q
  ·rw [z]; simp
 ·rcases he j with z | ⟨z, _⟩
  ·rw [← z]; exact q2
  ·exact absurd z (nr t ht j p ((fr t ht).symm.trans q1))
 ·rcases he j with z | ⟨_, u, L, z⟩
  ·rw [z]; exact nr t ht j p ((fr t ht).symm.trans q1)
  ·rw [z]; simp
theorem put_of {d : Option Tmp} {v : AV} (hn : st1.n = st.n) (hro : st1.ro = st.ro) {h3 : Hp} (h : ({ st with h := h2 } : St).put d v = some st') : ∃ s, ({ st1 with h := h3 } : St).put d v = some s := by
 cases d with
 | none => exact ⟨_, rfl⟩
 | some t =>
  simp only [St.put] at h ⊢
  rw [hn, hro]
  split at h
  ·exact ⟨_, rfl⟩
  ·cases h
theorem st_ext {s t : St} (h1 : s.n = t.n) (h2 : s.fr = t.fr) (h3 : s.ro = t.ro) (h4 : s.h = t.h) : s = t := by
 cases s; cases t; simp only at h1 h2 h3 h4; subst h1; subst h2; subst h3; subst h4; rfl
theorem set1_comm {α : Type} (f : Nat → α) {i j : Nat} (h : i ≠ j) (x y : α) : set1 (set1 f i x) j y = set1 (set1 f j y) i x := by
 funext k
 simp only [set1]
 by_cases hj : k = j
 ·subst hj
  simp [Nat.beq_refl, beq_false (Ne.symm h)]
 ·simp only [beq_false hj]
theorem upd1_comm {h : Hp} {i j : Nat} (hij : i ≠ j) (e f : Option Ent) : upd1 (upd1 h i e) j f = upd1 (upd1 h j f) i e := by
 cases e with
 | none => rfl
 | some e => cases f with
  | none => rfl
  | some f => simp only [upd1, Hp.put]; rw [set1_comm _ hij]
theorem shy_congr {fr fr2 : Nat → AV} {P : List Nat} : ∀ (l : List Nat), (∀ t, t ∈ l → fr2 t = fr t) → shy fr2 P l = shy fr P l := by
 intro l
 induction l with
 | nil => intro _; rfl
 | cons t l ih =>
  intro h
  simp only [shy, h t (by simp)]
  split
  ·split
   ·rfl
   ·exact ih fun u hu => h u (List.mem_cons_of_mem _ hu)
  ·exact ih fun u hu => h u (List.mem_cons_of_mem _ hu)
theorem shy_spec {fr : Nat → AV} {P : List Nat} : ∀ (l : List Nat), shy fr P l = true → ∀ t, t ∈ l → ∀ id p, fr t = .ptr id p → memb id P = false := by
 intro l
 induction l with
 | nil => intro _ t h; cases h
 | cons u l ih =>
  intro h t ht id p he
  simp only [shy] at h
  split at h
  ·rename_i id' p' q
   split at h
   ·cases h
   ·rename_i hm
    rcases List.mem_cons.1 ht with rfl | ht
    ·rw [q] at he; injection he with h1 h2; subst h1; exact hm
    ·exact ih h t ht id p he
  ·rename_i q
   rcases List.mem_cons.1 ht with rfl | ht
   ·exact (q id p he).elim
   ·exact ih h t ht id p he
theorem chk_congr {P : List Nat} {all : List Oper} {fr fr2 : Nat → AV} (h : ∀ t, t ∈ looks all o → fr2 t = fr t) : chk E P all o fr2 = chk E P all o fr := by
 unfold chk
 split
 ·exact shy_congr _ h
 ·split
  ·unfold aims
   split
   ·rename_i t p x ho
    rw [h p (by simp [looks, ho, Op.operands, tmpsOf])]
   ·rfl
  ·rfl
theorem evD_cons {call : Handler} {n0 i : Nat} {P : List Nat} {all : List Oper} {l : List (Nat × Oper)} {K : St → Option ρ} (h : evD E call n0 P all ((i, o) :: l) st K = some r) :
  chk E P all o st.fr = true ∧ evDstep E call n0 all i o st (fun st' => evD E call n0 P all l st' K) = some r := by
 simp only [evD] at h
 split at h
 ·rename_i q; exact ⟨q, h⟩
 ·cases h
theorem evD_step {call : Handler} {n0 i : Nat} {P : List Nat} {all : List Oper} {l : List (Nat × Oper)} {K : St → Option ρ} (h : chk E P all o st.fr = true) :
  evD E call n0 P all ((i, o) :: l) st K = evDstep E call n0 all i o st (fun st' => evD E call n0 P all l st' K) := by
 simp only [evD, h]
theorem front {call : Handler} {n0 : Nat} {P : List Nat} {all : List Oper} {K : St → Option ρ} {j : Nat} {oy : Oper} {post : List (Nat × Oper)} : ∀ (pre : List (Nat × Oper)) (st : St), (pre ≠ [] → free E oy = true) → (∀ p, p ∈ pre → p.1 ≠ j ∧ free E p.2 = true ∧ apart all p.2 oy = true) →
  NoRsv (looks all oy) st → evD E call n0 P all (pre ++ (j, oy) :: post) st K = some r → chk E P all oy st.fr = true ∧ evDstep E call n0 all j oy st (fun st' => evD E call n0 P all (pre ++ post) st' K) = some r := by
 intro pre
 induction pre with
 | nil => intro st _ _ _ h; exact evD_cons h
 | cons x pre ih =>
  obtain ⟨i, ox⟩ := x
  intro st hfree hind hnr h
  obtain ⟨hij, hfx, hx⟩ := hind (i, ox) (by simp)
  simp only at hij hx hfx
  have hfy := hfree (by simp)
  unfold apart at hx
  split at hx
  case h_2 => cases hx
  rename_i c1 c2 c3
  have c1 := clear_spec c1
  have c2 := clear_spec c2
  have c3 := clear_spec c3
  obtain ⟨chx, h⟩ := evD_cons h
  obtain ⟨vx, ex, _, sx, hk⟩ := step_agree hfx h
  obtain ⟨st1, hp1, hk1⟩ := putK_some hk
  obtain ⟨ag1, back1⟩ := past sx.cond hp1 c1
  obtain ⟨ag1', hnr1⟩ := back1 hnr
  obtain ⟨chy, h1⟩ := ih st1 (fun _ => hfy) (fun p hp => hind p (List.mem_cons_of_mem _ hp)) hnr1 hk1
  obtain ⟨vy, ey, _, sy, hk2⟩ := step_agree hfy h1
  obtain ⟨st2, hp2, hk2⟩ := putK_some hk2
  obtain ⟨p1, p2, p3, p4, p5, p6⟩ := put_facts hp1
  obtain ⟨q1, q2, q3, q4, q5, q6⟩ := put_facts hp2
  have hne : n0 + i ≠ n0 + j := by omega
  have cy : ey ≠ none → st.h.e (n0 + j) = some .rsv ∧ st.h.lk (n0 + j) = false := by
   intro hne'
   rcases sy.cond with z | ⟨z1, z2, _⟩
   ·exact absurd z hne'
   ·rw [p3] at z1 z2
    rw [upd1_e _ (Ne.symm hne)] at z1
    rw [upd1_lk] at z2
    exact ⟨z1, z2⟩
  refine ⟨by rw [← chk_congr (fun t ht => ag1'.fr t ht)] at chy; exact chy, ?_⟩
  rw [sy.run call st _ ag1' cy]
  obtain ⟨s, hs⟩ := put_of (st1 := st) (st := st1) p1.symm p2.symm (h3 := upd1 st.h (n0 + j) ey) hp2
  unfold putK
  rw [hs]
  simp only
  rw [List.cons_append, evD_step (chk_congr (fun t ht => (put_facts hs).2.2.2.1 t (c2 t ht)) |>.trans chx)]
  have condy : ey = none ∨ (st.h.e (n0 + j) = some .rsv ∧ st.h.lk (n0 + j) = false ∧ ∃ u L, ey = some (.box u L)) := by
   rcases sy.cond with z | ⟨_, _, u, L, z⟩
   ·exact .inl z
   ·have := cy (by rw [z]; simp)
    exact .inr ⟨this.1, this.2, u, L, z⟩
  obtain ⟨ag2, _⟩ := past (l := looks all ox) condy hs c2
  obtain ⟨r1, r2, r3, r4, r5, r6⟩ := put_facts hs
  have cx' : ex ≠ none → s.h.e (n0 + i) = some .rsv ∧ s.h.lk (n0 + i) = false := by
   intro hne'
   rcases sx.cond with z | ⟨z1, z2, _⟩
   ·exact absurd z hne'
   ·rw [r3, upd1_e _ hne, upd1_lk]
    exact ⟨z1, z2⟩
  rw [sx.run call s _ ag2 cx']
  obtain ⟨s2, hs2⟩ := put_of (st1 := s) (st := st) r1 r2 (h3 := upd1 s.h (n0 + i) ex) hp1
  unfold putK
  rw [hs2]
  simp only
  obtain ⟨t1, t2, t3, t4, t5, t6⟩ := put_facts hs2
  have : s2 = st2 := by
   refine st_ext ?_ ?_ ?_ ?_
   ·rw [t1, r1, q1, p1]
   ·cases hdx : ox.dst with
    | none =>
     rw [t6 hdx]
     cases hdy : oy.dst with
     | none => rw [r6 hdy, q6 hdy, p6 hdx]
     | some u => rw [(r5 u hdy).2.2, (q5 u hdy).2.2, p6 hdx]
    | some t =>
     rw [(t5 t hdx).2.2]
     cases hdy : oy.dst with
     | none => rw [r6 hdy, q6 hdy, (p5 t hdx).2.2]
     | some u =>
      have hut : u ≠ t := by
       rintro rfl
       exact c3 u (by simp [hdy]) hdx
      rw [(r5 u hdy).2.2, (q5 u hdy).2.2, (p5 t hdx).2.2, set1_comm _ hut]
   ·rw [t2, r2, q2, p2]
   ·rw [t3, r3, q3, p3, upd1_comm hne]
  rw [this]
  exact hk2
theorem calm_spec (h : isCalm E o = true) : free E o = false ∧ isLight E o.op = false ∧ o.guard = none := by
 unfold isCalm at h
 split at h
 ·rename_i h1 h2
  refine ⟨h1, ?_, h2⟩
  unfold free at h1
  split at h1
  ·cases h1
  ·rename_i q; exact q
 ·cases h
theorem frontC {call : Handler} {n0 : Nat} {P : List Nat} {all : List Oper} {K : St → Option ρ} {j : Nat} {oy : Oper} {post : List (Nat × Oper)} (hc : isCalm E oy = true) : ∀ (pre : List (Nat × Oper)) (st : St), (∀ p, p ∈ pre → isLight E p.2.op = true ∧ apart all p.2 oy = true) →
  (∀ id, st.h.next ≤ id → st.h.e id = none) → evD E call n0 P all (pre ++ (j, oy) :: post) st K = some r → chk E P all oy st.fr = true ∧ evDstep E call n0 all j oy st (fun st' => evD E call n0 P all (pre ++ post) st' K) = some r := by
 obtain ⟨c1, c2, c3⟩ := calm_spec hc
 intro pre
 induction pre with
 | nil => intro st _ _ h; exact evD_cons h
 | cons x pre ih =>
  obtain ⟨i, ox⟩ := x
  intro st hind hfr h
  obtain ⟨hlx, hx⟩ := hind (i, ox) (by simp)
  simp only at hlx hx
  have hfx : free E ox = true := by simp only [free, hlx]
  unfold apart at hx
  split at hx
  case h_2 => cases hx
  rename_i d1 d2 d3
  have d1 := clear_spec d1
  have d2 := clear_spec d2
  have d3 := clear_spec d3
  obtain ⟨chx, h⟩ := evD_cons h
  obtain ⟨vx, ex, h0, sx, hk⟩ := step_agree hfx h
  have hex := h0 hlx
  subst hex
  simp only [upd1] at hk
  obtain ⟨st1, hp1, hk1⟩ := putK_some hk
  obtain ⟨p1, p2, p3, p4, p5, p6⟩ := put_facts hp1
  obtain ⟨chy, h1⟩ := ih st1 (fun p hp => hind p (List.mem_cons_of_mem _ hp)) (by rw [p3]; exact hfr) hk1
  have expand : ∀ (s : St) {σ : Type} (F : St → Option σ), evDstep E call n0 all j oy s F = evOp E call oy { s with h := quiet s.h } fun v h' => putK oy s F v (still s.h h') := by
   intro s σ F
   simp only [evDstep, c3, evDop, c2, hc]
  refine ⟨by rw [chk_congr (fun t ht => p4 t (d1 t ht))] at chy; exact chy, ?_⟩
  rw [expand] at h1
  rw [expand]
  have key : (fun v h' => putK oy st (fun st' => evD E call n0 P all ((i, ox) :: pre ++ post) st' K) v (still st.h h')) = (fun v h' => putK oy st1 (fun st' => evD E call n0 P all (pre ++ post) st' K) v (still st1.h h')) := by
   funext v h'
   rw [p3]
   unfold putK
   cases hs : ({ st with h := still st.h h' } : St).put oy.dst v with
   | none =>
    cases hs1 : ({ st1 with h := still st.h h' } : St).put oy.dst v with
    | none => rfl
    | some s1 =>
     obtain ⟨s, hs'⟩ := put_of (st1 := st) (st := st1) p1.symm p2.symm (h3 := still st.h h') hs1
     rw [hs] at hs'
     cases hs'
   | some s =>
    obtain ⟨s1, hs1⟩ := put_of (st1 := st1) (st := st) p1 p2 (h3 := still st.h h') hs
    rw [hs1]
    simp only
    rw [List.cons_append, evD_step (chk_congr (fun t ht => (put_facts hs).2.2.2.1 t (d2 t ht)) |>.trans chx)]
    obtain ⟨r1, r2, r3, r4, r5, r6⟩ := put_facts hs
    obtain ⟨q1, q2, q3, q4, q5, q6⟩ := put_facts hs1
    have he : ∀ id, st.h.e id ≠ none → s.h.e id = st.h.e id := by
     intro id hne
     rw [r3]
     have hlt : id < st.h.next := by
      rcases Nat.lt_or_ge id st.h.next with z | z
      ·exact z
      ·exact absurd (hfr id z) hne
     have : Nat.blt id st.h.next = true := by rw [Nat.blt_eq]; exact hlt
     simp only [still, this]
    have ag : AgreeS (looks all ox) st s := by
     refine ⟨fun t ht => r4 t (d2 t ht), fun id e xs q => ?_, fun id q => ?_, fun t _ id p u L _ q => ?_⟩
     ·rw [he id (by rw [q]; simp)]; exact q
     ·rw [he id q]; exact q
     ·rw [he id (by rw [q]; simp)]; exact q
    rw [sx.run call s _ ag (fun z => absurd rfl z)]
    obtain ⟨s2, hs2⟩ := put_of (st1 := s) (st := st) r1 r2 (h3 := s.h) hp1
    unfold putK
    simp only [upd1]
    rw [hs2]
    simp only
    obtain ⟨t1, t2, t3, t4, t5, t6⟩ := put_facts hs2
    have : s2 = s1 := by
     refine st_ext ?_ ?_ ?_ ?_
     ·rw [t1, r1, q1, p1]
     ·cases hdx : ox.dst with
      | none =>
       rw [t6 hdx]
       cases hdy : oy.dst with
       | none => rw [r6 hdy, q6 hdy, p6 hdx]
       | some u => rw [(r5 u hdy).2.2, (q5 u hdy).2.2, p6 hdx]
      | some t =>
       rw [(t5 t hdx).2.2]
       cases hdy : oy.dst with
       | none => rw [r6 hdy, q6 hdy, (p5 t hdx).2.2]
       | some u =>
        have hut : u ≠ t := by
         rintro rfl
         exact d3 u (by simp [hdy]) hdx
        rw [(r5 u hdy).2.2, (q5 u hdy).2.2, (p5 t hdx).2.2, set1_comm _ hut]
     ·rw [t2, r2, q2, p2]
     ·rw [t3, r3, q3]
    rw [this]
  rw [key]
  refine (evOp_congr (fun x hx ty => ?_) ?_).trans h1
  ·cases x with
   | tmp t => exact (p4 t (d1 t (List.mem_append_right _ (tmpsOf_mem hx)))).symm
   | _ => rfl
  ·show quiet st.h = quiet st1.h
   rw [p3]
theorem lst_spec {all : List Oper} (h : isLst all o = true) : o.guard = none ∧ o.dst = none ∧ ∃ t p x, o.op = .store t (.tmp p) x := by
 unfold isLst at h
 split at h
 ·rename_i t p x h1 h2 h3
  exact ⟨h1, h2, t, p, x, h3⟩
 ·cases h
theorem lst_run {call : Handler} {n0 j : Nat} {all : List Oper} {F : St → Option ρ} {k : Nat} (h : isLst all o = true) (hk : ∀ t p x, o.op = .store t (.tmp p) x → st.fr p = .ptr k []) (hr : evDstep E call n0 all j o st F = some r) :
  ∃ v L u, st.h.e k = some (.box v L) ∧ st.h.lk k = false ∧ F { st with h := st.h.put k (.box u L) } = some r ∧
   ∀ {σ : Type} (call2 : Handler) (st2 : St) (F2 : St → Option σ), (∀ t, t ∈ looks all o → st2.fr t = st.fr t) → st2.h.e k = some (.box v L) → st2.h.lk k = false → evDstep E call2 n0 all j o st2 F2 = F2 { st2 with h := st2.h.put k (.box u L) } := by
 obtain ⟨hg, hd, t, p, x, ho⟩ := lst_spec h
 have hp := hk t p x ho
 have hl : isLight E o.op = false := by rw [ho]; rfl
 have hl' : isLight E (.store t (.tmp p) x) = false := rfl
 have ha : isAlloc E (.store t (.tmp p) x) = false := rfl
 have hf : free E o = false := by unfold free; rw [hl, ho]; exact ha
 have hc : isCalm E o = false := by unfold isCalm; rw [hf, hg, ho]
 have hm : makes E (.store t (.tmp p) x) = none := rfl
 have hop : ∀ fr : Nat → AV, opnd none fr (.tmp p) = fr p := fun _ => rfl
 simp only [evDstep, hg, evDop, hl, hc, ho, hm, evOp, hop, hp, hl'] at hr
 split at hr
 case h_2 => cases hr
 rename_i v L he hlk
 split at hr
 case h_2 => cases hr
 rename_i off u hoff
 have hoff' : off = 0 ∧ u = L := by
  simp only [offs] at hoff
  injection hoff with hoff
  injection hoff with h1 h2
  exact ⟨h1.symm, h2.symm⟩
 obtain ⟨rfl, rfl⟩ := hoff'
 split at hr
 case h_2 => cases hr
 rename_i hty hs hft
 simp only [AV.set] at hr
 have hput : ∀ {σ : Type} (st2 : St) (F2 : St → Option σ) (av : AV) (h2 : Hp), putK o st2 F2 av h2 = F2 { st2 with h := h2 } := by
  intro σ st2 F2 av h2
  unfold putK
  rw [hd]
  rfl
 rw [hput] at hr
 refine ⟨v, u, _, he, hlk, hr, fun call2 st2 F2 hfr he2 hlk2 => ?_⟩
 have hx : opnd (E.ty t) st2.fr x = opnd (E.ty t) st.fr x := by
  cases x with
  | tmp y => exact hfr y (by simp [looks, ho, Op.operands, tmpsOf])
  | _ => rfl
 have hp2 : st2.fr p = .ptr k [] := (hfr p (by simp [looks, ho, Op.operands, tmpsOf])).trans hp
 simp only [evDstep, hg, evDop, hl, hc, ho, hm, evOp, hop, hp2, he2, hlk2, hoff, hx, hty, hs, hft, AV.set, hl']
 rw [hput]
theorem frontS {call : Handler} {n0 : Nat} {P : List Nat} {all : List Oper} {K : St → Option ρ} {j : Nat} {oy : Oper} {post : List (Nat × Oper)} (hl : isLst all oy = true) (hfy : free E oy = false) : ∀ (pre : List (Nat × Oper)) (st : St), (∀ p, p ∈ pre → free E p.2 = true ∧ apart all p.2 oy = true) →
  NoRsv (looks all oy) st → evD E call n0 P all (pre ++ (j, oy) :: post) st K = some r → chk E P all oy st.fr = true ∧ evDstep E call n0 all j oy st (fun st' => evD E call n0 P all (pre ++ post) st' K) = some r := by
 obtain ⟨hg, hd, ty, pt, x0, ho⟩ := lst_spec hl
 intro pre
 induction pre with
 | nil => intro st _ _ h; exact evD_cons h
 | cons x pre ih =>
  obtain ⟨i, ox⟩ := x
  intro st hind hnr h
  obtain ⟨hfx, hx⟩ := hind (i, ox) (by simp)
  simp only at hfx hx
  unfold apart at hx
  split at hx
  case h_2 => cases hx
  rename_i d1 d2 d3
  have d1 := clear_spec d1
  have d2 := clear_spec d2
  obtain ⟨chx, h⟩ := evD_cons h
  obtain ⟨vx, ex, _, sx, hk⟩ := step_agree hfx h
  obtain ⟨st1, hp1, hk1⟩ := putK_some hk
  obtain ⟨ag1, back1⟩ := past sx.cond hp1 d1
  obtain ⟨ag1', hnr1⟩ := back1 hnr
  obtain ⟨chy, h1⟩ := ih st1 (fun p hp => hind p (List.mem_cons_of_mem _ hp)) hnr1 hk1
  obtain ⟨p1, p2, p3, p4, p5, p6⟩ := put_facts hp1
  -- the box
  have hmem : pt ∈ looks all oy := by simp [looks, ho, Op.operands, tmpsOf]
  obtain ⟨k, hkp, hkP⟩ : ∃ k, st1.fr pt = .ptr k [] ∧ memb k P = true := by
   simp only [chk, hfy, hl, ho, aims] at chy
   split at chy
   ·rename_i id q; exact ⟨id, q, chy⟩
   ·cases chy
  obtain ⟨v, L, u, he1, hlk1, hF, hall⟩ := lst_run hl (fun t p x q => by rw [ho] at q; injection q with q1 q2 q3; injection q2 with q2; subst q2; exact hkp) h1
  have hkst : st.fr pt = .ptr k [] := (ag1.fr pt hmem).symm.trans hkp
  have hnk : st.h.e k ≠ some .rsv := hnr pt hmem k [] hkst
  have hik : ex ≠ none → n0 + i ≠ k := by
   intro hne q
   rcases sx.cond with z | ⟨z, _⟩
   ·exact hne z
   ·rw [q] at z; exact hnk z
  have hek : st.h.e k = some (.box v L) := by
   rw [p3] at he1
   cases ex with
   | none => exact he1
   | some e => rwa [upd1_e _ (Ne.symm (hik (by simp)))] at he1
  have hlk : st.h.lk k = false := by rw [p3, upd1_lk] at hlk1; exact hlk1
  refine ⟨by rw [chk_congr (fun t ht => ag1.fr t ht)] at chy; exact chy, ?_⟩
  rw [hall call st _ (fun t ht => (ag1.fr t ht).symm) hek hlk]
  have hchs : chk E P all ox ({ st with h := st.h.put k (.box u L) } : St).fr = true := chx
  rw [List.cons_append, evD_step hchs]
  have hshy : shy st.fr P (looks all ox) = true := by simpa only [chk, hfx] using chx
  have ag2 : AgreeS (looks all ox) st { st with h := st.h.put k (.box u L) } := by
   have oth : ∀ id, id ≠ k → (st.h.put k (.box u L)).e id = st.h.e id := fun id q => by simp [Hp.put, set1, beq_false q]
   refine ⟨fun _ _ => rfl, fun id e xs q => ?_, fun id q => ?_, fun t ht id p v' L' q1 q2 => ?_⟩
   ·have : id ≠ k := by rintro rfl; rw [hek] at q; cases q
    exact (oth id this).trans q
   ·by_cases q' : id = k
    ·subst q'; simp [Hp.put, set1, Nat.beq_refl]
    ·show (st.h.put k (.box u L)).e id ≠ none
     rw [oth id q']; exact q
   ·have : id ≠ k := by
     rintro rfl
     have := shy_spec _ hshy t ht id p q1
     rw [hkP] at this; cases this
    exact (oth id this).trans q2
  have cx' : ex ≠ none → (st.h.put k (.box u L)).e (n0 + i) = some .rsv ∧ (st.h.put k (.box u L)).lk (n0 + i) = false := by
   intro hne
   rcases sx.cond with z | ⟨z1, z2, _⟩
   ·exact absurd z hne
   ·refine ⟨?_, z2⟩
    have := hik hne
    simp only [Hp.put, set1, beq_false this]
    exact z1
  rw [sx.run call _ _ ag2 cx']
  obtain ⟨s2, hs2⟩ := put_of (st1 := ({ st with h := st.h.put k (.box u L) } : St)) (st := st) rfl rfl (h3 := upd1 (st.h.put k (.box u L)) (n0 + i) ex) hp1
  unfold putK
  rw [hs2]
  simp only
  obtain ⟨t1, t2, t3, t4, t5, t6⟩ := put_facts hs2
  have : s2 = { st1 with h := st1.h.put k (.box u L) } := by
   refine st_ext (t1.trans p1.symm) ?_ (t2.trans p2.symm) ?_
   ·cases hdx : ox.dst with
    | none => rw [t6 hdx]; exact (p6 hdx).symm
    | some t => rw [(t5 t hdx).2.2]; exact ((p5 t hdx).2.2).symm
   ·rw [t3]
    show upd1 (st.h.put k (.box u L)) (n0 + i) ex = st1.h.put k (.box u L)
    rw [p3]
    cases ex with
    | none => rfl
    | some e =>
     have := hik (by simp)
     simp only [upd1, Hp.put]
     rw [set1_comm _ this]
  rw [this]
  exact hF
end Go.PG
end
section
namespace Go.PG
open Go.RowKit
variable {Pg : Program} {G : World → Prop} {E : Env} {S : Nat → Prop} {B : Nat} {w0 w w' w'' : World} {h h' h2 : Hp} {M M' M'' : Nat → Bk} {ρ : Type} {r : ρ} {st st' st'' st1 st2 st3 : St} {a a' a'' : Act} {o : Oper}
structure Rem (L : List Bool) (ops : Array Oper) (listed : Array Bool) (rem : List (Nat × Oper)) : Prop where
 at_ : ∀ p, p ∈ rem → ops[p.1]? = some p.2
 sorted : rem.Pairwise (fun p q => keyOf L ops.size p.1 < keyOf L ops.size q.1)
 left : ∀ i, i < ops.size → (listed.getD i true = false ↔ ∃ o, (i, o) ∈ rem)
 closed : Closed ops.toList (fun i => listed.getD i false = true)
 size : listed.size = ops.size
theorem keyOf_lt {L : List Bool} {n i j : Nat} (h : i < j) (hj : j < n) (ha : Go.PG.after L i j = false) : keyOf L n i < keyOf L n j := by
 rw [after_spec] at ha
 unfold keyOf
 cases qi : lateB L i <;> cases qj : lateB L j <;> simp_all <;> omega
theorem getD_lt {l : Array Bool} {i : Nat} (h : i < l.size) (d : Bool) : l.getD i d = l[i] := by simp [Array.getD_eq_getD_getElem?, h]
theorem Rem.listed {L : List Bool} {ops : Array Oper} {listed : Array Bool} {rem : List (Nat × Oper)} (R : Rem L ops listed rem) {i : Nat} (hi : i < ops.size) : listed.getD i false = true ↔ ¬ ∃ o, (i, o) ∈ rem := by
 rw [← R.left i hi, getD_lt (by rw [R.size]; exact hi), getD_lt (by rw [R.size]; exact hi)]
 cases listed[i]'(by rw [R.size]; exact hi) <;> simp
theorem Rem.lt {L : List Bool} {ops : Array Oper} {listed : Array Bool} {rem : List (Nat × Oper)} (R : Rem L ops listed rem) {p : Nat × Oper} (hp : p ∈ rem) : p.1 < ops.size := (Array.getElem?_eq_some_iff.1 (R.at_ p hp)).1
theorem Rem.next {L : List Bool} {ops : Array Oper} {listed : Array Bool} {pre post : List (Nat × Oper)} {j : Nat} {oj : Oper} (R : Rem L ops listed (pre ++ (j, oj) :: post)) (hr : j ∈ Region.ready .any ops listed) : Rem L ops (listed.setIfInBounds j true) (pre ++ post) := by
 have hj : j < ops.size := R.lt (p := (j, oj)) (by simp)
 have hjo : ops[j]? = some oj := R.at_ (j, oj) (by simp)
 have hne : ∀ p, p ∈ pre ++ post → p.1 ≠ j := by
  intro p hp q
  have hs := R.sorted
  rw [List.pairwise_append] at hs
  obtain ⟨h1, h2, h3⟩ := hs
  rw [List.pairwise_cons] at h2
  rcases List.mem_append.1 hp with hp | hp
  ·have := h3 p hp (j, oj) (by simp)
   simp only at this
   rw [q] at this
   omega
  ·have := h2.1 p hp
   simp only at this
   rw [q] at this
   omega
 refine ⟨fun p hp => R.at_ p ?_, ?_, fun i hi => ?_, fun k ok hk hl e he hb => ?_, by rw [Array.size_setIfInBounds]; exact R.size⟩
 ·rcases List.mem_append.1 hp with hp | hp
  ·exact List.mem_append_left _ hp
  ·exact List.mem_append_right _ (List.mem_cons_of_mem _ hp)
 ·refine R.sorted.sublist ?_
  exact List.Sublist.append_left (List.sublist_cons_self _ _) _
 ·by_cases hij : i = j
  ·subst hij
   constructor
   ·intro q
    rw [getD_lt (by rw [Array.size_setIfInBounds, R.size]; exact hi)] at q
    simp at q
   ·rintro ⟨o, ho⟩
    exact absurd rfl (hne (i, o) ho)
  ·rw [getD_set_ne true (Ne.symm hij), R.left i hi]
   constructor
   ·rintro ⟨o, ho⟩
    refine ⟨o, ?_⟩
    rcases List.mem_append.1 ho with ho | ho
    ·exact List.mem_append_left _ ho
    ·rcases List.mem_cons.1 ho with q | ho
     ·injection q with q; exact absurd q hij
     ·exact List.mem_append_right _ ho
   ·rintro ⟨o, ho⟩
    refine ⟨o, ?_⟩
    rcases List.mem_append.1 ho with ho | ho
    ·exact List.mem_append_left _ ho
    ·exact List.mem_append_right _ (List.mem_cons_of_mem _ ho)
 ·by_cases hkj : k = j
  ·subst hkj
   rw [mem_ready] at hr
   obtain ⟨_, o', ho', hall⟩ := hr
   rw [Array.getElem?_toList] at hk
   rw [hk] at ho'
   injection ho' with ho'
   subst ho'
   exact getD_set_true (hall e he hb)
  ·have hl : (listed.setIfInBounds j true).getD k false = true := hl
   rw [getD_set_ne false (Ne.symm hkj)] at hl
   exact getD_set_true (R.closed k ok hk hl e he hb)
theorem anyOrder (HE : EnvOk Pg G E) (hG : G w0) {call : Handler} (HC : HandlerOk Pg G S B w0 call) {ops : Array Oper} {L : List Bool} (D : DrawOk E ops.toList L) {n0 : Nat} {P : List Nat} {K : St → Option ρ} {Q : Exit → Act → World → Prop} : ∀ (fuel : Nat) (listed : Array Bool) (rem : List (Nat × Oper)) (st : St) (a : Act) (M : Nat → Bk) (w : World),
  Rem L ops listed rem → rem.length ≤ fuel → Good S B w0 st a M w → evD E call n0 P ops.toList rem st K = some r → Then S B w0 st a M w K r (Q .normal) → wpAny Pg .any ops Q fuel listed a w := by
 have fin : ∀ (listed : Array Bool) (rem : List (Nat × Oper)) (st : St) (a : Act) (M : Nat → Bk) (w : World), Rem L ops listed rem → Good S B w0 st a M w → evD E call n0 P ops.toList rem st K = some r → Then S B w0 st a M w K r (Q .normal) → Region.ready .any ops listed = [] → Q .normal a w := by
  intro listed rem st a M w R g hr hX he
  cases rem with
  | nil => exact hX st a M w g (Stp.refl g) hr
  | cons p rem =>
   exfalso
   have hp := R.at_ p (by simp)
   have hmem : p.1 ∈ Region.ready .any ops listed := by
    rw [mem_ready]
    refine ⟨(R.left p.1 (R.lt (by simp))).2 ⟨p.2, by simp⟩, p.2, hp, fun e hem hb => ?_⟩
    obtain ⟨hlt, haf⟩ := D.edge p.1 p.2 (by rw [Array.getElem?_toList]; exact hp) e hem hb
    rw [R.listed (Nat.lt_trans hlt (R.lt (p := p) (by simp)))]
    rintro ⟨o, ho⟩
    rcases List.mem_cons.1 ho with q | q
    ·have : e.on = p.1 := by rw [← q]
     omega
    ·have := (List.pairwise_cons.1 R.sorted).1 _ q
     simp only at this
     have hk := keyOf_lt (n := ops.size) hlt (R.lt (p := p) (by simp)) haf
     omega
   rw [he] at hmem
   cases hmem
 intro fuel
 induction fuel with
 | zero =>
  intro listed rem st a M w R hl g hr hX
  have hnil : rem = [] := List.eq_nil_of_length_eq_zero (by omega)
  subst hnil
  have hready : Region.ready .any ops listed = [] := by
   cases q : Region.ready .any ops listed with
   | nil => rfl
   | cons j l =>
    have hj : j ∈ Region.ready .any ops listed := by rw [q]; simp
    rw [mem_ready] at hj
    obtain ⟨h1, o, h2, _⟩ := hj
    have := (R.left j (Array.getElem?_eq_some_iff.1 h2).1).1 h1
    simp at this
  exact ⟨hready, fin listed [] st a M w R g hr hX hready⟩
 | succ fuel ih =>
  intro listed rem st a M w R hl g hr hX
  refine ⟨fun he => fin listed rem st a M w R g hr hX he, fun j hj => ?_⟩
  have hj0 := hj
  rw [mem_ready] at hj
  obtain ⟨h1, oj, h2, h3⟩ := hj
  have hjlt := (Array.getElem?_eq_some_iff.1 h2).1
  obtain ⟨oj', hmem⟩ := (R.left j hjlt).1 h1
  have e : oj' = oj := by
   have := R.at_ (j, oj') hmem
   simp only at this
   rw [h2] at this
   injection this with this
   exact this.symm
  subst e
  obtain ⟨pre, post, rfl⟩ := List.append_of_mem hmem
  have hs := R.sorted
  rw [List.pairwise_append] at hs
  have hpre : ∀ p, p ∈ pre → p.1 ≠ j ∧ indep E ops.toList p.2 oj' = true := by
   intro p hp
   have hlt := hs.2.2 p hp (j, oj') (by simp)
   simp only at hlt
   have hpj : p.1 ≠ j := by intro q; rw [q] at hlt; omega
   have hps : p.1 < ops.size := R.lt (p := p) (List.mem_append_left _ hp)
   refine ⟨hpj, ?_⟩
   rcases D.pair p.1 j p.2 oj' (by rw [Array.getElem?_toList]; exact R.at_ p (List.mem_append_left _ hp)) (by rw [Array.getElem?_toList]; exact h2) hpj (by simpa using hlt) with q | q
   ·exfalso
    have := q (fun i => listed.getD i false = true ∨ i = j) (by
     intro k ok hk hL e he hb
     rcases hL with hL | rfl
     ·exact .inl (R.closed k ok hk hL e he hb)
     ·rw [Array.getElem?_toList, h2] at hk
      injection hk with hk
      subst hk
      exact .inl (h3 e he hb)) (.inr rfl)
    rcases this with z | z
    ·rw [R.listed hps] at z
     exact z ⟨p.2, List.mem_append_left _ hp⟩
    ·exact hpj z
   ·exact q
  have hstep : evDstep E call n0 ops.toList j oj' st (fun st' => evD E call n0 P ops.toList (pre ++ post) st' K) = some r := by
   cases hcalm : isCalm E oj' with
   | true =>
    refine (frontC hcalm pre st (fun p hp => ?_) g.H.fresh hr).2
    have := (hpre p hp).2
    unfold indep at this
    rw [hcalm] at this
    have hfj := (calm_spec hcalm).1
    split at this
    ·rename_i q _; exact ⟨q, this⟩
    ·rw [hfj] at this
     split at this
     ·rename_i q1 q2
      obtain ⟨_, _, tt, pp, xx, ho⟩ := lst_spec (o := oj') (all := ops.toList) q2
      unfold isCalm at hcalm
      rw [ho] at hcalm
      split at hcalm
      ·cases hcalm
      ·cases hcalm
     ·cases this
   | false =>
    have hfr : ∀ p, p ∈ pre → free E p.2 = true ∧ (free E oj' = true ∨ isLst ops.toList oj' = true) ∧ apart ops.toList p.2 oj' = true := by
     intro p hp
     have := (hpre p hp).2
     unfold indep at this
     rw [hcalm] at this
     split at this
     ·rename_i q; cases q
     ·split at this
      ·rename_i q1 q2
       refine ⟨q1, ?_, this⟩
       split at q2
       ·rename_i q; exact .inl q
       ·exact .inr q2
      ·cases this
    have hnr : NoRsv (looks ops.toList oj') st := by
     intro t _ id p hp he
     have := g.F t
     rw [hp] at this
     simp only [RepV, Rep1] at this
     obtain ⟨_, q, _, z⟩ := this
     rcases z with z | ⟨b, v, L, of, u, _, z, _⟩
     ·simp only [cx] at z; rw [he] at z; cases z
     ·simp only [cx] at z; rw [he] at z; cases z
    cases hfo : free E oj' with
    | true => exact (front pre st (fun _ => hfo) (fun p hp => ⟨(hpre p hp).1, (hfr p hp).1, (hfr p hp).2.2⟩) hnr hr).2
    | false =>
     cases pre with
     | nil => exact (evD_cons hr).2
     | cons p0 pre =>
      have hl : isLst ops.toList oj' = true := by
       rcases (hfr p0 (by simp)).2.1 with q | q
       ·rw [hfo] at q; cases q
       ·exact q
      exact (frontS hl hfo (p0 :: pre) st (fun p hp => ⟨(hfr p hp).1, (hfr p hp).2.2⟩) hnr hr).2
  refine evDstep_ok HE hG HC h2 g hstep ?_
  intro st' a' M' w' g' k' hk
  refine ih _ (pre ++ post) st' a' M' w' (R.next hj0) ?_ g' hk (hX.after k')
  simp at hl ⊢
  omega
theorem enum_mem {α : Type} : ∀ (l : List α) (i : Nat) (p : Nat × α), p ∈ enum i l → i ≤ p.1 ∧ l[p.1 - i]? = some p.2 := by
 intro l
 induction l with
 | nil => intro i p h; simp [enum] at h
 | cons x l ih =>
  intro i p h
  simp only [enum] at h
  rcases List.mem_cons.1 h with rfl | h
  ·simp
  ·obtain ⟨h1, h2⟩ := ih (i + 1) p h
   refine ⟨by omega, ?_⟩
   have : p.1 - i = (p.1 - (i + 1)) + 1 := by omega
   rw [this]
   exact h2
theorem mem_enum {α : Type} : ∀ (l : List α) (i j : Nat) (x : α), l[j]? = some x → (i + j, x) ∈ enum i l := by
 intro l
 induction l with
 | nil => intro i j x h; simp at h
 | cons y l ih =>
  intro i j x h
  simp only [enum]
  cases j with
  | zero => simp at h; subst h; simp
  | succ j =>
   have := ih (i + 1) j x (by simpa using h)
   have e : i + 1 + j = i + (j + 1) := by omega
   rw [e] at this
   exact List.mem_cons_of_mem _ this
theorem enum_sorted {α : Type} : ∀ (l : List α) (i : Nat), (enum i l).Pairwise (fun p q => p.1 < q.1) := by
 intro l
 induction l with
 | nil => intro i; exact List.Pairwise.nil
 | cons x l ih =>
  intro i
  simp only [enum]
  refine List.pairwise_cons.2 ⟨fun p hp => ?_, ih (i + 1)⟩
  have := (enum_mem l (i + 1) p hp).1
  simp only
  omega
theorem enum_length {α : Type} : ∀ (l : List α) (i : Nat), (enum i l).length = l.length := by
 intro l
 induction l with
 | nil => intro i; rfl
 | cons x l ih => intro i; simp [enum, ih]
theorem pickLate_mem {α : Type} {L : List Bool} {b : Bool} : ∀ (l : List (Nat × α)) (p : Nat × α), p ∈ pickLate L b l ↔ p ∈ l ∧ lateB L p.1 = b := by
 intro l
 induction l with
 | nil => intro p; simp [pickLate]
 | cons x l ih =>
  intro p
  simp only [pickLate]
  split
  ·rename_i q
   simp only [List.mem_cons, ih]
   constructor
   ·rintro (rfl | h)
    ·exact ⟨.inl rfl, q⟩
    ·exact ⟨.inr h.1, h.2⟩
   ·rintro ⟨rfl | h, z⟩
    ·exact .inl rfl
    ·exact .inr ⟨h, z⟩
  ·rename_i q
   simp only [List.mem_cons, ih]
   constructor
   ·rintro (rfl | h)
    ·exact ⟨.inl rfl, q⟩
    ·exact ⟨.inr h.1, h.2⟩
   ·rintro ⟨rfl | h, z⟩
    ·exact .inl rfl
    ·exact .inr ⟨h, z⟩
  ·rename_i q1 q2
   rw [ih]
   constructor
   ·rintro ⟨h, z⟩
    exact ⟨List.mem_cons_of_mem _ h, z⟩
   ·rintro ⟨h, z⟩
    rcases List.mem_cons.1 h with rfl | h
    ·exfalso
     cases hq : lateB L p.1
     ·exact q2 hq (z.symm.trans hq)
     ·exact q1 hq (z.symm.trans hq)
    ·exact ⟨h, z⟩
theorem pickLate_sub {α : Type} {L : List Bool} {b : Bool} : ∀ (l : List (Nat × α)), (pickLate L b l).Sublist l := by
 intro l
 induction l with
 | nil => exact List.Sublist.refl _
 | cons x l ih =>
  simp only [pickLate]
  split
  ·exact ih.cons_cons _
  ·exact ih.cons_cons _
  ·exact ih.cons _
theorem arrange_mem {α : Type} {L : List Bool} {l : List (Nat × α)} {p : Nat × α} : p ∈ arrange L l ↔ p ∈ l := by
 unfold arrange
 rw [List.mem_append, pickLate_mem, pickLate_mem]
 cases lateB L p.1 <;> simp
theorem arrange_length {α : Type} {L : List Bool} : ∀ (l : List (Nat × α)), (arrange L l).length = l.length := by
 intro l
 induction l with
 | nil => rfl
 | cons x l ih =>
  unfold arrange at ih ⊢
  simp only [pickLate]
  simp only [List.length_append, List.length_cons] at ih ⊢
  cases lateB L x.1 <;> simp <;> omega
theorem arrange_sorted {α : Type} {L : List Bool} {l : List α} : (arrange L (enum 0 l)).Pairwise (fun p q => keyOf L l.length p.1 < keyOf L l.length q.1) := by
 unfold arrange
 rw [List.pairwise_append]
 refine ⟨?_, ?_, fun p hp q hq => ?_⟩
 ·refine (((enum_sorted l 0).sublist (pickLate_sub _)).imp_of_mem ?_)
  intro p q hp hq h
  unfold keyOf
  rw [((pickLate_mem _ _).1 hp).2, ((pickLate_mem _ _).1 hq).2]
  simpa using h
 ·refine (((enum_sorted l 0).sublist (pickLate_sub _)).imp_of_mem ?_)
  intro p q hp hq h
  unfold keyOf
  rw [((pickLate_mem _ _).1 hp).2, ((pickLate_mem _ _).1 hq).2]
  simpa using h
 ·obtain ⟨p1, p2⟩ := (pickLate_mem _ _).1 hp
  obtain ⟨q1, q2⟩ := (pickLate_mem _ _).1 hq
  have := (enum_mem l 0 p p1).2
  have := (List.getElem?_eq_some_iff.1 this).1
  unfold keyOf
  rw [p2, q2]
  simp
  omega
theorem settle_ok {h : Hp} (H : HInv S B w0 h M w) (id : Nat) : HInv S B w0 (settle h id) M w ∧ HStp S h M w (settle h id) M w := by
 unfold settle
 split
 case h_2 => exact ⟨H, HStp.refl H⟩
 rename_i v L he hl
 split
 case h_2 => exact ⟨H, HStp.refl H⟩
 rename_i x hx hul hm
 obtain ⟨H1, k1⟩ := H.kills hul
 obtain ⟨b, cs, hh, hfit, hrep⟩ := H.ent id _ he
 have he1 : (h.kills v.owns).e id = some (.box v L) := by rw [kills_e, if_neg (memb_false hm)]; exact he
 have hl1 : (h.kills v.owns).lk id = false := by rw [kills_lk]; exact hl
 have hd := freeze_rep H hx hrep
 obtain ⟨H2, k2⟩ := H1.upd (w' := w) he1 hl1 (e' := .box (.data L x) L) (.inl ⟨v, .data L x, L, rfl, rfl⟩) (fun _ _ _ => rfl) (Nat.le_refl _) (Below.refl _ _)
  (fun k => ⟨b, cs, hh, by simp [fitsT], by simp only [RepC]; exact hd.held k.held⟩)
 exact ⟨H2, k1.trans k2⟩
theorem settles_ok (fr : Nat → AV) : ∀ (ops : List Oper) {h : Hp}, HInv S B w0 h M w → HInv S B w0 (settles fr ops h) M w ∧ HStp S h M w (settles fr ops h) M w := by
 intro ops
 induction ops with
 | nil => intro h H; exact ⟨H, HStp.refl H⟩
 | cons o r ih =>
  intro h H
  simp only [settles]
  split
  ·split
   ·obtain ⟨H1, k1⟩ := settle_ok H _
    obtain ⟨H2, k2⟩ := ih H1
    exact ⟨H2, k1.trans k2⟩
   ·exact ih H
  ·exact ih H
theorem draw_ok0 (HE : EnvOk Pg G E) (hG : G w0) {call : Handler} (HC : HandlerOk Pg G S B w0 call) {ops : Array Oper} {Q : Exit → Act → World → Prop} {id : Nat} {K : St → Option ρ} (hd : drawOk E ops.toList = true)
  (g : Good S B w0 st a M w) (hr : evDraw0 E call ops.toList st K = some r) (hX : Then S B w0 st a M w K r (Q .normal)) : (Code.region id ops true).wp Pg Q a w := by
 apply wp_region_any HE.mixed
 have hb : Below B w { w with drawn := w.drawn + 1 } := ?_
 obtain ⟨H1, k1⟩ := g.H.world (w' := { w with drawn := w.drawn + 1 }) rfl hb
 obtain ⟨H2, k2⟩ := H1.reserve ops.toList.length
 obtain ⟨ms, hms, D⟩ := drawOk_spec hd
 unfold evDraw0 at hr
 rw [hms] at hr
 simp only at hr
 have k := k1.trans k2
 have g2 : Good S B w0 { st with h := reserve st.h ops.toList.length } a (fun id => if st.h.next ≤ id then .nil else M id) { w with drawn := w.drawn + 1 } :=
  ⟨H2, fun t => RepV.tr k.tr _ _ (g.F t), g.n, g.d⟩
 have s2 : Stp S st a M w { st with h := reserve st.h ops.toList.length } a (fun id => if st.h.next ≤ id then .nil else M id) { w with drawn := w.drawn + 1 } := ⟨k, rfl, rfl, fun _ _ => rfl⟩
 refine anyOrder HE hG HC D ops.size _ (arrange _ (enum 0 ops.toList)) _ a _ _ ⟨fun p hp => ?_, by have := arrange_sorted (L := lates E ops.toList ms) (l := ops.toList); simpa using this, fun i hi => ?_, fun j o hj hl => ?_, by simp⟩ (by rw [arrange_length, enum_length]; simp) g2 hr (hX.after s2)
 ·have := (enum_mem _ _ p (arrange_mem.1 hp)).2
  simpa using this
 ·constructor
  ·intro _
   exact ⟨ops[i], arrange_mem.2 <| by have := mem_enum ops.toList 0 i ops[i] (by simp [hi]); simpa using this⟩
  ·intro _
   simp [Array.getD_eq_getD_getElem?, hi]
 ·exfalso
  have hl : (Array.replicate ops.size false).getD j false = true := hl
  rw [Array.getD_eq_getD_getElem?, Array.getElem?_replicate] at hl
  split at hl <;> simp at hl
 ·exact ⟨rfl, rfl, rfl, Nat.le_refl _, fun _ _ => rfl⟩
theorem draw_ok (HE : EnvOk Pg G E) (hG : G w0) {call : Handler} (HC : HandlerOk Pg G S B w0 call) {ops : Array Oper} {Q : Exit → Act → World → Prop} {id : Nat} {K : St → Option ρ} (hd : drawOk E ops.toList = true)
  (g : Good S B w0 st a M w) (hr : evDraw E call ops.toList st K = some r) (hX : Then S B w0 st a M w K r (Q .normal)) : (Code.region id ops true).wp Pg Q a w := by
 unfold evDraw at hr
 split at hr
 ·obtain ⟨H1, k1⟩ := settles_ok st.fr ops.toList g.H
  have g1 : Good S B w0 { st with h := settles st.fr ops.toList st.h } a M w := ⟨H1, fun t => RepV.tr k1.tr _ _ (g.F t), g.n, g.d⟩
  have s1 : Stp S st a M w { st with h := settles st.fr ops.toList st.h } a M w := ⟨k1, rfl, rfl, fun _ _ => rfl⟩
  exact draw_ok0 HE hG HC hd g1 hr (hX.after s1)
 ·exact draw_ok0 HE hG HC hd g hr hX
end Go.PG
end
section
namespace Go.PG
open Go.RowKit
variable {Pg : Program} {G : World → Prop} {E : Env} {S : Nat → Prop} {B : Nat} {w0 w w' w'' w1 : World} {h h' : Hp} {M0 M M' M'' M1 : Nat → Bk} {ρ : Type} {r : ρ} {st st' st'' b s s2 s' : St} {a a' a'' a1 : Act} {o : Oper}
theorem amb_some {α : Type} {x y : Option α} {r : α} (h : P.amb x y = some r) : x = some r ∧ y = some r := by
 unfold P.amb at h
 split at h
 ·rename_i e; exact ⟨h, by rw [← e]; exact h⟩
 ·cases h
theorem evC_ok (HE : EnvOk Pg G E) (hG : G w0) {call : Handler} (HC : HandlerOk Pg G S B w0 call) {hs : List (Nat × Hint)} : ∀ (c : Code), CodeOk Pg E S B w0 call hs c := by
 intro c
 induction c with
 | skip =>
  intro ρ st kn ke kr r a M w Q g hr hn he hk
  simp only [evC] at hr
  exact wp_skip (hn st a M w g (Stp.refl g) hr)
 | region id ops draw =>
  intro ρ st kn ke kr r a M w Q g hr hn he hk
  simp only [evC] at hr
  split at hr
  ·exact region_ok HE hG HC g hr hn
  ·split at hr
   ·rename_i hd; exact draw_ok HE hG HC hd g hr hn
   ·cases hr
 | seq x y ihx ihy =>
  intro ρ st kn ke kr r a M w Q g hr hn he hk
  simp only [evC] at hr
  apply wp_seq
  refine ihx st _ ke kr r a M w _ g hr ?_ he hk
  intro st' a' M' w' g' k' hr'
  exact ihy st' kn ke kr r a' M' w' Q g' hr' (hn.after k') (fun i => (he i).after k') (hk.after k')
 | cond c x y ihx ihy =>
  intro ρ st kn ke kr r a M w Q g hr hn he hk
  cases c with
  | tmp t =>
   simp only [evC] at hr
   split at hr
   ·rename_i v hv
    have hF := g.F t
    rw [hv] at hF
    have hF := repV_bool hF
    have hr := cond_some hr
    cases v with
    | true =>
     simp only [if_true] at hr
     rw [refine1_eq hv] at hr
     exact wp_cond_true (c := .tmp t) hF (ihx st kn ke kr r a M w Q g hr hn he hk)
    | false =>
     simp only [Bool.false_eq_true, if_false] at hr
     rw [refine1_eq hv] at hr
     exact wp_cond_false (c := .tmp t) hF (ihy st kn ke kr r a M w Q g hr hn he hk)
   ·rename_i hb
    have hF := g.F t
    rw [hb] at hF
    simp only [RepV, Rep1] at hF
    obtain ⟨b, hF⟩ := hF
    injection hF with hF
    obtain ⟨h1, h2⟩ := amb_some hr
    cases b with
    | true => exact wp_cond_true (c := .tmp t) hF (ihx st kn ke kr r a M w Q g h1 hn he hk)
    | false => exact wp_cond_false (c := .tmp t) hF (ihy st kn ke kr r a M w Q g h2 hn he hk)
   ·cases hr
  | const v =>
   cases v with
   | bool b =>
    simp only [evC] at hr
    have hr := cond_some hr
    cases b with
    | true => exact wp_cond_true (c := .const (.bool true)) rfl (ihx st kn ke kr r a M w Q g (by simpa using hr) hn he hk)
    | false => exact wp_cond_false (c := .const (.bool false)) rfl (ihy st kn ke kr r a M w Q g (by simpa using hr) hn he hk)
   | _ => simp [evC] at hr
  | _ => simp [evC] at hr
 | block id c ih =>
  intro ρ st kn ke kr r a M w Q g hr hn he hk
  simp only [evC] at hr
  apply wp_block
  refine ih st kn _ kr r a M w _ g hr hn ?_ hk
  intro i st' a' M' w' g' k' hr'
  simp only at hr'
  show Exit.inBlock id Q (.exit i) a' w'
  simp only [Exit.inBlock]
  split at hr'
  ·rename_i e
   have := Nat.eq_of_beq_eq_true e
   subst this
   simp only [if_true]
   exact hn st' a' M' w' g' k' hr'
  ·rename_i e
   have : i ≠ id := by rintro rfl; simp [Nat.beq_refl] at e
   simp only [this, if_false]
   exact he i st' a' M' w' g' k' hr'
 | loop c ih =>
  intro ρ st kn ke kr r a M w Q g hr hn he hk
  simp only [evC] at hr
  exact evLoop_ok ih g hr he hk
 | exit id =>
  intro ρ st kn ke kr r a M w Q g hr hn he hk
  simp only [evC] at hr
  exact wp_exit (he id st a M w g (Stp.refl g) hr)
 | ret =>
  intro ρ st kn ke kr r a M w Q g hr hn he hk
  simp only [evC] at hr
  exact wp_ret (hk st a M w g (Stp.refl g) hr)
 | _ =>
  intro ρ st kn ke kr r a M w Q g hr hn he hk
  simp [evC] at hr
theorem run_loadVar_ok {t : Ty} {id : TypeId} (h : Ok Pg t (.typ id)) {b o : Nat} {cs : List Value} (hm : Mem w b o cs) (hl : cs.length = t.size) :
  ∃ v, (loadVar id ⟨b, o, none⟩).run Pg w = .ok v w ∧ valOf t cs v := by
 have ha := ok_agg h w
 have hs := run_sizeOf_ok h w
 cases e : isSt t with
 | true =>
  rw [e] at ha
  refine ⟨.agg cs.toArray, ?_, .inl ⟨e, rfl⟩⟩
  have hc := run_loadCells_list (P := Pg) w ⟨b, o, none⟩ cs (fun j v hv => by rw [Addr.add_mid]; exact hm j v hv)
  rw [hl] at hc
  simp [loadVar, ha, hs, hc]
 | false =>
  rw [e] at ha
  have h1 : t.size = 1 := by
   cases t <;> first | rfl | exact h.elim | cases e
  obtain ⟨v, rfl⟩ : ∃ v, cs = [v] := List.length_eq_one_iff.1 (by omega)
  refine ⟨v, ?_, .inr ⟨e, rfl⟩⟩
  have := hm 0 v rfl
  simp at this
  simp [loadVar, ha, this]
def resRun (tmps : Array Value) : ResultVar → Sem Value
 | .tmp t => pure (tmps.getD t undef)
 | .cell a t => do loadVar t (← asAddr (tmps.getD a undef))
theorem resOf_ok (HE : EnvOk Pg G E) (g : Good S B w0 st a M w) {rv : ResultVar} {v : AV} (hr : resOf E st.h st.fr rv = some v) : ∃ u, (resRun a.tmps rv).run Pg w = .ok u w ∧ RepV (cx S st.h M w) v u := by
 cases rv with
 | tmp t =>
  simp only [resOf] at hr
  injection hr with hr
  subst hr
  exact ⟨_, by simp [resRun], g.F t⟩
 | cell x t =>
  simp only [resOf] at hr
  split at hr
  case h_2 => cases hr
  rename_i id p e
  split at hr
  case h_2 => cases hr
  rename_i v0 L he
  split at hr
  case h_2 => cases hr
  rename_i off u hoff
  split at hr
  case h_2 => cases hr
  rename_i hd
  have hty : E.ty t = some u := by simpa using hd
  have hx := g.F x
  rw [e] at hx
  simp only [RepV, Rep1] at hx
  obtain ⟨_, q, hv, hx⟩ := hx
  injection hv with hv
  rcases hx with hx | ⟨b, v1, L1, o1, u1, h1, h2, h3, h4⟩
  ·simp only [cx] at hx; rw [he] at hx; cases hx
  ·simp only [cx] at h2
   rw [he] at h2
   injection h2 with h2
   injection h2 with e1 e2
   subst e1; subst e2
   rw [hoff] at h3
   injection h3 with h3
   injection h3 with e3 e4
   subst e3; subst e4
   subst h4
   obtain ⟨b2, cs, el, k1, k2, k3, k4⟩ := ent_box g.H he (plain_of_offs hoff (HE.ty t u hty))
   simp only [cx] at h1
   rw [k1] at h1
   injection h1 with h1
   have h1 := h1.symm
   subst h1
   obtain ⟨f1, c1, d, c2, ec, hl, hd⟩ := av_get p v0 L v cs.toList off u hr hoff k3 k4
   have hm : Mem w b off d := by
    have := mem_of_heap k2
    rw [ec] at this
    have := mem_part this
    rw [hl] at this
    simpa using this
   obtain ⟨z, q1, q2⟩ := run_loadVar_ok (HE.ty t u hty) hm (fits_len v u d f1 hd)
   exact ⟨z, by simp [resRun, hv, asAddr, q1], repC_repV f1 (fun a b q => HE.noPair t a b (by rw [hty, q])) hd q2⟩
theorem ressOf_ok (HE : EnvOk Pg G E) (g : Good S B w0 st a M w) : ∀ (l : List ResultVar) (v : AV), ressOf E st.h st.fr l = some v → ∃ us, (l.mapM (resRun a.tmps)).run Pg w = .ok us w ∧ us.length = l.length ∧ RepT (cx S st.h M w) v us := by
 intro l
 induction l with
 | nil =>
  intro v hr
  simp only [ressOf] at hr
  injection hr with hr
  subst hr
  exact ⟨[], by simp, rfl, by simp only [RepT]⟩
 | cons rv l ih =>
  intro v hr
  simp only [ressOf] at hr
  split at hr
  case h_2 => cases hr
  rename_i v1 h1
  split at hr
  case h_2 => cases hr
  rename_i v2 h2
  injection hr with hr
  subst hr
  obtain ⟨u, k1, k2⟩ := resOf_ok HE g h1
  obtain ⟨us, k3, k4, k5⟩ := ih v2 h2
  exact ⟨u :: us, by simp [List.mapM_cons, k1, k3], by simp [k4], by simp only [RepT]; exact ⟨u, us, rfl, k2, k5⟩⟩
theorem results_run (fn : Func) (tmps : Array Value) : results fn tmps = (do let vs ← fn.results.mapM (resRun tmps); pure (if h : vs.size = 1 then vs[0] else .tuple vs)) := by
 unfold results
 congr 1
theorem resultAV_ok (HE : EnvOk Pg G E) (g : Good S B w0 st a M w) {fn : Func} {v : AV} (hr : resultAV E st.h st.fr fn.results.toList = some v) : ∃ u, (results fn a.tmps).run Pg w = .ok u w ∧ RepV (cx S st.h M w) v u := by
 rw [results_run]
 have hrs : fn.results = fn.results.toList.toArray := by simp
 rw [hrs, List.mapM_toArray]
 generalize fn.results.toList = l at hr
 match l, hr with
 | [rv], hr =>
  simp only [resultAV] at hr
  obtain ⟨u, k1, k2⟩ := resOf_ok HE g hr
  exact ⟨u, by simp [List.mapM_cons, k1], k2⟩
 | [], hr =>
  simp only [resultAV] at hr
  split at hr
  case h_2 => cases hr
  rename_i v1 h1
  injection hr with hr
  subst hr
  obtain ⟨us, k3, k4, k5⟩ := ressOf_ok HE g _ v1 h1
  refine ⟨.tuple us.toArray, ?_, by simp only [RepV]; exact ⟨us.toArray, rfl, by simpa using k5⟩⟩
  have : us = [] := List.eq_nil_of_length_eq_zero k4
  subst this
  simp
 | x :: y :: l, hr =>
  simp only [resultAV] at hr
  split at hr
  case h_2 => cases hr
  rename_i v1 h1
  injection hr with hr
  subst hr
  obtain ⟨us, k3, k4, k5⟩ := ressOf_ok HE g _ v1 h1
  refine ⟨.tuple us.toArray, ?_, by simp only [RepV]; exact ⟨us.toArray, rfl, by simpa using k5⟩⟩
  have hne : us.length ≠ 1 := by simp at k4; omega
  simp only [Sem.run_bind, Sem.run_map, k3]
  simp [hne]
theorem argsFr_rep {c : Cx} : ∀ (args : List AV) (vals : List Value), Reps c args vals → ∀ t u, vals[t]? = some u → RepV c (argsFr args t) u := by
 intro args
 induction args with
 | nil => intro vals h t u hu; simp only [argsFr, RepV]
 | cons x args ih =>
  intro vals h t u hu
  obtain ⟨v, vs, rfl, h1, h2⟩ := reps_cons h
  cases t with
  | zero => simp at hu; subst hu; exact h1
  | succ t => exact ih vs h2 t u (by simpa using hu)
theorem argsFr_none : ∀ (args : List AV) (t : Nat), args.length ≤ t → argsFr args t = .undef := by
 intro args
 induction args with
 | nil => intro t _; rfl
 | cons x args ih =>
  intro t ht
  cases t with
  | zero => simp at ht
  | succ t => exact ih t (by simpa using ht)
theorem evBody_ok (HE : EnvOk Pg G E) (hG : G w0) {call : Handler} (HC : HandlerOk Pg G S B w0 call) {fn : Func} {f : FuncId} (hf : Pg.funcs[f]? = some fn) {hs : List (Nat × Hint)} {args : List AV} {vals : Array Value} {K : AV → Hp → Option ρ}
  (H : HInv S B w0 h M w) (ha : Reps (cx S h M w) args vals.toList) (hr : evBody E call fn hs args h K = some r) : Calls Pg f vals w fun e w' => ∃ v, e = .returned v ∧ Post K r S B w0 h M w v w' := by
 unfold evBody at hr
 split at hr
 ·cases hr
 rename_i c hc
 simp only at hr
 refine calls_of_wp hf hc ?_
 have hlen : args.length = vals.size := by simpa using ha.1
 have g : Good S B w0 { n := fn.ntmps, fr := argsFr args, ro := fun _ => false, h := h } { tmps := vals ++ Array.replicate (fn.ntmps - vals.size) undef, defers := [] } M w := by
  refine ⟨H, fun t => ?_, by simp only [Array.size_append, Array.size_replicate]; omega, rfl⟩
  rcases Nat.lt_or_ge t vals.size with q | q
  ·have e1 : (vals ++ Array.replicate (fn.ntmps - vals.size) undef).getD t undef = vals[t] := by
    rw [Array.getD_eq_getD_getElem?, Array.getElem?_append_left q]
    simp [q]
   simp only [e1]
   exact argsFr_rep args vals.toList ha t _ (by simp [q])
  ·simp only [argsFr_none args t (by omega), RepV]
 refine evC_ok HE hG HC c _ _ _ _ r _ M w _ g hr ?_ ?_ ?_
 ·intro st' a' M' w' g' k' hk
  simp only at hk
  split at hk
  ·rename_i v hv
   obtain ⟨u, q1, q2⟩ := resultAV_ok HE g' hv
   exact ⟨g'.d, u, q1, u, rfl, v, st'.h, M', hk, g'.H, k'.k, q2⟩
  ·cases hk
 ·intro i st' a' M' w' g' k' hk
  cases hk
 ·intro st' a' M' w' g' k' hk
  simp only at hk
  split at hk
  ·rename_i v hv
   obtain ⟨u, q1, q2⟩ := resultAV_ok HE g' hv
   exact ⟨g'.d, u, q1, u, rfl, v, st'.h, M', hk, g'.H, k'.k, q2⟩
  ·cases hk
theorem evCall_ok (HE : EnvOk Pg G E) (hG : G w0) : ∀ n, HandlerOk Pg G S B w0 (evCall E n) := by
 intro n
 induction n with
 | zero => intro ρ f args h K r M w vals hr; simp [evCall] at hr
 | succ n ih =>
  intro ρ f args h K r M w vals hr H _ ha
  simp only [evCall] at hr
  split at hr
  case h_2 => cases hr
  rename_i fn hs hl
  obtain ⟨h1, h2⟩ := HE.codes f fn hs hl
  refine ⟨by rw [h1]; simpa using h2, ?_⟩
  exact evBody_ok HE hG ih h1 H ⟨by simpa using ha.1, fun i x v hx hv => ha.2 i x v hx (by simpa using hv)⟩ hr
theorem argRep_reps {Z : Nat → Prop} {c : Cx} {w : World} (hZ : ∀ b, b < w.heap.size → ¬ Z b → ¬ c.Z b) (hw : c.w = w) : ∀ (t : Ty) (x : t.D) (vals : List Value), RepT (cz Z w) (argAV t x) vals → Reps c (argList t x) vals := by
 have one : ∀ (t : Ty) (x : t.D) (vals : List Value), RepT (cz Z w) (.data t x) vals → Reps c [.data t x] vals := by
  intro t x vals h
  rw [repT_data] at h
  obtain ⟨v, rfl, h⟩ := h
  refine ⟨rfl, fun i a u ha hu => ?_⟩
  cases i with
  | succ i => simp at ha
  | zero =>
   simp at ha hu
   subst ha; subst hu
   simp only [RepV]
   have hk : Held (cz Z w).Z c.Z (cz Z w).w c.w := by
    rw [hw]
    exact fun b hb hz => ⟨hZ b hb (fun z => hz ((cz_Z Z w b).2 z)), rfl⟩
   rcases h with ⟨e, cs, rfl, h⟩ | ⟨e, h⟩
   ·exact .inl ⟨e, cs, rfl, h.held hk⟩
   ·exact .inr ⟨e, h.held hk⟩
 intro t
 induction t with
 | unit => intro x vals h; simp only [argAV, RepT] at h; subst h; exact ⟨rfl, by simp [argList]⟩
 | pair p q ihp ihq =>
  intro x vals h
  simp only [argAV, RepT] at h
  obtain ⟨v, vs, rfl, h1, h2⟩ := h
  have k1 := one p x.1 [v] (by rw [repT_data]; exact ⟨v, rfl, repV_data h1⟩)
  have k2 := ihq x.2 vs h2
  have := reps_append k1 k2
  simpa [argList] using this
 | bool => intro x vals h; exact one _ x vals h
 | str => intro x vals h; exact one _ x vals h
 | opq => intro x vals h; exact one _ x vals h
 | int k => intro x vals h; exact one _ x vals h
 | slice e ih => intro x vals h; exact one _ x vals h
 | map _ _ _ _ => intro x vals h; exact one _ x vals h
 | bld _ _ => intro x vals h; exact one _ x vals h
 | st b ih => intro x vals h; exact one _ x vals h
theorem chain_rep (H : HInv S B w0 h M w) {Z : Nat → Prop} (hZ : ∀ b, Z b → (cx S h M w).Z b) (hown : ∀ id b, h.e id ≠ none → (M id).has b → ¬ Z b) : ∀ (v : AV) (t : Ty) (x : t.D) (vs : List Value), toChain h v t = some x → RepT (cx S h M w) v vs → RepT (cz Z w) (spread t x) vs := by
 intro v
 induction v with
 | pr p q _ ihq =>
  intro t x vs hx hr
  simp only [RepT] at hr
  obtain ⟨u, us, rfl, h1, h2⟩ := hr
  have leaf : ∀ (t : Ty) (x : t.D), q = .unit → toD h p t = some x → RepT (cz Z w) (.data t x) (u :: us) := by
   rintro t x rfl hx
   simp only [RepT] at h2
   subst h2
   rw [repT_data]
   refine ⟨u, rfl, ?_⟩
   rw [cz_Zeq]
   exact toD_V H hZ (fun id _ b => hown id b) hx h1
  cases t with
  | pair ta tr =>
   simp only [toChain] at hx
   split at hx
   case h_2 => cases hx
   rename_i x1 hx1
   split at hx
   case h_2 => cases hx
   rename_i x2 hx2
   injection hx with hx
   subst hx
   simp only [spread, RepT, RepV]
   rw [cz_Zeq]
   exact ⟨u, us, rfl, toD_V H hZ (fun id _ b => hown id b) hx1 h1, ihq tr x2 us hx2 h2⟩
  | unit => simp [toChain] at hx
  | _ =>
   cases q with
   | unit => exact leaf _ x rfl (by simpa [toChain] using hx)
   | _ => simp [toChain] at hx
 | _ => intro t x vs hx hr; cases t <;> simp [toChain] at hx
theorem fn_spec (HE : EnvOk Pg G E) {n : Nat} {fn : Func} {f : FuncId} {hs : List (Nat × Hint)} {t u : Ty} (hf : Pg.funcs[f]? = some fn) {F : t.D → Option u.D} (hF : ∀ x, F x = evFn E n fn hs t u x) : SpecOk Pg G f ⟨t, u, F⟩ := by
 intro Z w vals x res hG hlt hx hargs
 simp only at x res hx hargs
 rw [hF] at hx
 have H : HInv Z w.heap.size w h0 (fun _ => .nil) w := by
  refine ⟨fun id e he => ?_, fun _ _ => rfl, fun i j b hi => ?_, fun i b hi => ?_, Below.refl _ _, Nat.le_refl _, hlt, rfl⟩
  ·simp [h0] at he
  ·simp [h0] at hi
  ·simp [h0] at hi
 have hcZ : ∀ b, (cx Z h0 (fun _ => .nil) w).Z b → Z b := by
  rintro b (z | ⟨id, e, q1, _⟩)
  ·exact z
  ·simp [cx, h0] at q1
 have ha : Reps (cx Z h0 (fun _ => .nil) w) (argList t x) vals.toList := argRep_reps (Z := Z) (w := w) (fun b _ hz z => hz (hcZ b z)) rfl t x vals.toList hargs
 refine (evBody_ok HE hG (evCall_ok HE hG n) hf H ha hx).mono fun e w' ⟨v, he, av, h', M', hk, H', k', hv⟩ => ⟨v, he, H'.bel, ?_⟩
 have hZ : ∀ b, Z b → (cx Z h' M' w').Z b := fun b z => .inl z
 have hown : ∀ id b, h'.e id ≠ none → (M' id).has b → ¬ Z b := fun id b hl hb z => by
  have := H'.own id b hl hb
  have := hlt b z
  omega
 have leaf : ∀ (t : Ty) (y : t.D), toD h' av t = some y → (∀ p q, t ≠ .pair p q) → t ≠ .unit → RepV (cz Z w') (resAV t y) v := by
  intro t y hy hp hu
  have := toD_V H' hZ (fun id _ b => hown id b) hy hv
  have e : resAV t y = .data t y := by
   cases t with
   | pair p q => exact absurd rfl (hp p q)
   | unit => exact absurd rfl hu
   | _ => rfl
  rw [e]
  simp only [RepV]
  rw [cz_Zeq]
  exact this
 cases u with
 | pair p q =>
  cases av with
  | tup b =>
   simp only [toRes] at hk
   simp only [RepV] at hv
   obtain ⟨vs, rfl, hT⟩ := hv
   simp only [resAV, RepV]
   exact ⟨vs, rfl, chain_rep H' hZ hown b (.pair p q) res vs.toList hk hT⟩
  | _ => simp [toRes] at hk
 | unit =>
  cases av with
  | tup b =>
   cases b with
   | unit =>
    simp only [RepV, RepT] at hv
    simp only [resAV, RepV, RepT]
    exact hv
   | _ => simp [toRes] at hk
  | _ => simp [toRes] at hk
 | _ => exact leaf _ res (by simpa only [toRes] using hk) (by simp) (by simp)
end Go.PG
end
section
namespace Go.PG
open Go.RowKit
variable {P : Program}
def infoB (P : Program) (t : TypeId) (n : Nat) (z : Value → Bool) : Bool := match P.info? t with
 | some i => match Nat.beq i.size n with
  | true => match i.zero with
   | some v => z v
   | none => false
  | false => false
 | none => false
theorem infoB_spec {t : TypeId} {n : Nat} {z : Value → Bool} (h : infoB P t n z = true) : ∃ v, Info P t n v ∧ z v = true := by
 unfold infoB at h
 split at h
 case h_2 => cases h
 rename_i i hi
 split at h
 case h_2 => cases h
 rename_i hs
 split at h
 case h_2 => cases h
 rename_i v hv
 exact ⟨v, ⟨i, hi, Nat.eq_of_beq_eq_true hs, hv⟩, h⟩
def liftB (q : TypeId → Bool) : Mode → Bool
 | .typ t => q t
 | .flds [f] o => match Nat.beq f.offset o with
  | true => match decide (f.name = "_") with
   | true => false
   | false => q f.type
  | false => false
 | .arr 1 e => q e
 | _ => false
theorem liftB_spec {q : TypeId → Bool} {Q : TypeId → Prop} (hq : ∀ t, q t = true → Q t) : ∀ {m : Mode}, liftB q m = true → lift Q m
 | .typ t, h => hq t h
 | .flds [f] o, h => by
  simp only [liftB] at h
  split at h
  case h_2 => cases h
  rename_i h1
  split at h
  ·cases h
  ·rename_i h2
   exact ⟨Nat.eq_of_beq_eq_true h1, by simpa using h2, hq _ h⟩
 | .flds [] o, h => by simp [liftB] at h
 | .flds (f :: g :: l) o, h => by simp [liftB] at h
 | .arr 0 e, h => by simp [liftB] at h
 | .arr 1 e, h => hq e h
 | .arr (n + 2) e, h => by simp [liftB] at h
def okB (P : Program) : Ty → Mode → Bool
 | .unit, _ => false
 | .map _ _, _ => false
 | .bld _ _, _ => false
 | .bool, m => liftB (fun t => match P.underlying t with
  | some .bool => infoB P t 1 fun v => match v with
   | .bool false => true
   | _ => false
  | _ => false) m
 | .int k, m => liftB (fun t => match P.underlying t with
  | some (.int k') => match decide (k' = k) with
   | true => infoB P t 1 fun v => match v with
    | .int k2 n => match decide (k2 = k) with
     | true => decide (n = 0)
     | false => false
    | _ => false
   | false => false
  | _ => false) m
 | .str, m => liftB (fun t => match P.underlying t with
  | some .string => infoB P t 1 fun v => match v with
   | .string s => Nat.beq s.data.size 0
   | _ => false
  | _ => false) m
 | .slice e, m => liftB (fun t => match P.underlying t with
  | some (.slice e') => match okB P e (.typ e') with
   | true => infoB P t 1 fun v => match v with
    | .slice none 0 0 => true
    | _ => false
   | false => false
  | _ => false) m
 | .opq, m => liftB (fun t => match P.underlying t with
  | some d => match d.isRow with
   | false => infoB P t 1 fun v => v.oneCell'
   | true => false
  | none => false) m
 | .st b, m => liftB (fun t => match (match P.underlying t with
   | some (.struct fs) => okB P b (.flds fs.toList 0)
   | some (.array n e) => okB P b (.arr n e)
   | _ => false) with
  | true => infoB P t b.size fun v => match v with
   | .agg zs => match zeroRun b zs.toList with
    | some [] => true
    | _ => false
   | _ => false
  | false => false) m
 | .pair a r, m => match m with
  | .flds (f :: l) o => match Nat.beq f.offset o with
   | true => match decide (f.name = "_") with
    | true => false
    | false => match okB P a (.typ f.type) with
     | true => okB P r (.flds l (o + a.size))
     | false => false
   | false => false
  | .arr (n + 1) e => match okB P a (.typ e) with
   | true => okB P r (.arr n e)
   | false => false
  | _ => false
theorem okB_spec : ∀ {t : Ty} {m : Mode}, okB P t m = true → Ok P t m := by
 intro t
 induction t with
 | unit => intro m h; simp [okB] at h
 | map _ _ _ _ => intro m h; simp [okB] at h
 | bld _ _ => intro m h; simp [okB] at h
 | bool =>
  intro m h
  refine liftB_spec (fun t h => ?_) h
  split at h
  ·rename_i hu
   obtain ⟨v, hv, hz⟩ := infoB_spec h
   split at hz
   ·exact ⟨hu, hv⟩
   ·cases hz
  ·cases h
 | int k =>
  intro m h
  refine liftB_spec (fun t h => ?_) h
  split at h
  ·rename_i k' hu
   split at h
   ·rename_i hk
    have hk := of_decide_eq_true hk
    subst hk
    obtain ⟨v, hv, hz⟩ := infoB_spec h
    split at hz
    ·rename_i k2 n
     split at hz
     ·rename_i hk2
      have hk2 := of_decide_eq_true hk2
      have hn := of_decide_eq_true hz
      subst hk2; subst hn
      exact ⟨hu, hv⟩
     ·cases hz
    ·cases hz
   ·cases h
  ·cases h
 | str =>
  intro m h
  refine liftB_spec (fun t h => ?_) h
  split at h
  ·rename_i hu
   obtain ⟨v, hv, hz⟩ := infoB_spec h
   split at hz
   ·rename_i s
    exact ⟨hu, s, hv, Nat.eq_of_beq_eq_true hz⟩
   ·cases hz
  ·cases h
 | slice e ih =>
  intro m h
  refine liftB_spec (fun t h => ?_) h
  split at h
  ·rename_i e' hu
   split at h
   ·rename_i he
    obtain ⟨v, hv, hz⟩ := infoB_spec h
    split at hz
    ·exact ⟨⟨e', hu, ih he⟩, hv⟩
    ·cases hz
   ·cases h
  ·cases h
 | opq =>
  intro m h
  refine liftB_spec (fun t h => ?_) h
  split at h
  ·rename_i d hu
   split at h
   ·rename_i hd
    obtain ⟨v, hv, hz⟩ := infoB_spec h
    exact ⟨⟨d, hu, hd⟩, v, hv, hz⟩
   ·cases h
  ·cases h
 | st b ih =>
  intro m h
  refine liftB_spec (fun t h => ?_) h
  split at h
  ·rename_i hb
   obtain ⟨v, hv, hz⟩ := infoB_spec h
   split at hz
   ·rename_i zs
    split at hz
    ·rename_i hzr
     refine ⟨?_, zs, hv, hzr⟩
     split at hb
     ·rename_i fs hu; exact .inl ⟨fs, hu, ih hb⟩
     ·rename_i n e hu; exact .inr ⟨n, e, hu, ih hb⟩
     ·cases hb
    ·cases hz
   ·cases hz
  ·cases h
 | pair a r iha ihr =>
  intro m h
  simp only [okB] at h
  split at h
  ·rename_i f l o
   split at h
   ·rename_i h1
    split at h
    ·cases h
    ·rename_i h2
     split at h
     ·rename_i h3
      exact ⟨Nat.eq_of_beq_eq_true h1, by simpa using h2, iha h3, ihr h⟩
     ·cases h
   ·cases h
  ·rename_i n e
   split at h
   ·rename_i h3
    exact ⟨iha h3, ihr h⟩
   ·cases h
  ·cases h
def eqsB (P : Program) : Ty → Mode → Bool
 | .bool, m => liftB (fun t => match P.underlying t with
  | some .bool => true
  | _ => false) m
 | .int k, m => liftB (fun t => match P.underlying t with
  | some (.int k') => decide (k' = k)
  | _ => false) m
 | .str, m => liftB (fun t => match P.underlying t with
  | some .string => true
  | _ => false) m
 | .st b, m => liftB (fun t => match P.underlying t with
  | some (.struct fs) => match eqsB P b (.flds fs.toList 0), P.stoodInHeld t, P.eqGuardType P.depth t, P.info? t with
   | true, false, false, some i => Nat.beq i.size b.size
   | _, _, _, _ => false
  | _ => false) m
 | .pair a r, m => match m with
  | .flds (f :: l) o => match Nat.beq f.offset o with
   | true => match decide (f.name = "_") with
    | true => false
    | false => match eqsB P a (.typ f.type) with
     | true => eqsB P r (.flds l (o + a.size))
     | false => false
   | false => false
  | _ => false
 | _, _ => false
theorem eqsB_spec : ∀ {t : Ty} {m : Mode}, eqsB P t m = true → Eqs P t m := by
 intro t
 induction t with
 | bool =>
  intro m h
  refine liftB_spec (fun t h => ?_) h
  split at h
  ·rename_i hu; exact hu
  ·cases h
 | int k =>
  intro m h
  refine liftB_spec (fun t h => ?_) h
  split at h
  ·rename_i k' hu
   have := of_decide_eq_true h
   subst this
   exact hu
  ·cases h
 | str =>
  intro m h
  refine liftB_spec (fun t h => ?_) h
  split at h
  ·rename_i hu; exact hu
  ·cases h
 | st b ih =>
  intro m h
  refine liftB_spec (fun t h => ?_) h
  split at h
  ·rename_i fs hu
   split at h
   ·rename_i i h1 h2 h3 h4
    exact ⟨⟨fs, hu, ih h1⟩, h2, h3, by rw [h4]; simp [Nat.eq_of_beq_eq_true h]⟩
   ·cases h
  ·cases h
 | pair a r iha ihr =>
  intro m h
  simp only [eqsB] at h
  split at h
  ·rename_i f l o
   split at h
   ·rename_i h1
    split at h
    ·cases h
    ·rename_i h2
     split at h
     ·rename_i h3
      exact ⟨Nat.eq_of_beq_eq_true h1, by simpa using h2, iha h3, ihr h⟩
     ·cases h
   ·cases h
  ·cases h
 | _ => intro m h; simp [eqsB] at h
def tyB (P : Program) (t : TypeId) (r : TyRow) : Bool := match okB P r.ty (.typ t) with
 | false => false
 | true => match (match r.ty with
   | .slice _ => match P.underlying t with
    | some (.slice e') => match P.info? e' with
     | some i => match Nat.beq i.bytes r.bytes with
      | true => Nat.blt 0 r.bytes
      | false => false
     | none => false
    | _ => false
   | .st _ => match P.underlying t with
    | some (.array _ _) => r.arr
    | some (.struct _) => match r.arr with
     | true => false
     | false => true
    | _ => false
   | _ => true) with
  | false => false
  | true => match r.eq with
   | false => true
   | true => match eqsB P r.ty (.typ t) with
    | true => Nat.ble (nest r.ty) 9000
    | false => false
def tysB (P : Program) : List (Nat × TyRow) → Bool
 | [] => true
 | (t, r) :: l => match tyB P t r with
  | true => tysB P l
  | false => false
theorem look_mem {α : Type} {i : Nat} {a : α} : ∀ {l : List (Nat × α)}, look l i = some a → (i, a) ∈ l
 | [], h => by simp [look] at h
 | (j, b) :: l, h => by
  simp only [look] at h
  split at h
  ·rename_i e
   have := Nat.eq_of_beq_eq_true e
   subst this
   injection h with h
   subst h
   simp
  ·exact List.mem_cons_of_mem _ (look_mem h)
theorem tysB_mem : ∀ {l : List (Nat × TyRow)}, tysB P l = true → ∀ p, p ∈ l → tyB P p.1 p.2 = true
 | [], _, p, h => by simp at h
 | (t, r) :: l, h, p, hp => by
  simp only [tysB] at h
  split at h
  ·rename_i ht
   rcases List.mem_cons.1 hp with rfl | hp
   ·exact ht
   ·exact tysB_mem h p hp
  ·cases h
def SpecsOk (P : Program) (G : World → Prop) (l : List (Nat × Spec)) : Prop := ∀ f s, look l f = some s → SpecOk P G f s ∧ (P.funcs[f]?).any (fun fn => fn.name != "runtime.NumGoroutine" && fn.body.isSome) = true
def CodesOk (P : Program) (l : List (Nat × Func × List (Nat × Hint))) : Prop := ∀ f fn hs, look l f = some (fn, hs) → P.funcs[f]? = some fn ∧ (fn.name != "runtime.NumGoroutine" && fn.body.isSome) = true
theorem SpecsOk.nil {G : World → Prop} : SpecsOk P G [] := fun f s h => by simp [look] at h
theorem SpecsOk.cons {G : World → Prop} {f : FuncId} {s : Spec} {fn : Func} {l : List (Nat × Spec)} (h : SpecOk P G f s) (hf : P.funcs[f]? = some fn) (hb : (fn.name != "runtime.NumGoroutine" && fn.body.isSome) = true) (hl : SpecsOk P G l) : SpecsOk P G ((f, s) :: l) := by
 intro g u hu
 simp only [look] at hu
 split at hu
 ·rename_i e
  have := Nat.eq_of_beq_eq_true e
  subst this
  injection hu with hu
  subst hu
  exact ⟨h, by rw [hf]; simpa using hb⟩
 ·exact hl g u hu
theorem CodesOk.nil : CodesOk P [] := fun f fn hs h => by simp [look] at h
theorem CodesOk.cons {f : FuncId} {fn : Func} {hs : List (Nat × Hint)} {l : List (Nat × Func × List (Nat × Hint))} (hf : P.funcs[f]? = some fn) (hb : (fn.name != "runtime.NumGoroutine" && fn.body.isSome) = true) (hl : CodesOk P l) : CodesOk P ((f, fn, hs) :: l) := by
 intro g u us hu
 simp only [look] at hu
 split at hu
 ·rename_i e
  have := Nat.eq_of_beq_eq_true e
  subst this
  injection hu with hu
  injection hu with h1 h2
  subst h1
  exact ⟨hf, hb⟩
 ·exact hl g u us hu
def MakersOk (P : Program) (G : World → Prop) (l : List (Nat × Maker)) : Prop := ∀ f m, look l f = some m → MakerOk P G f m ∧ (P.funcs[f]?).any (fun fn => fn.name != "runtime.NumGoroutine" && fn.body.isSome) = true
theorem MakersOk.nil {P : Program} {G : World → Prop} : MakersOk P G [] := fun f m h => by cases h
theorem MakersOk.cons {P : Program} {G : World → Prop} {f : Nat} {m : Maker} {l : List (Nat × Maker)} {fn : Func} (h : MakerOk P G f m) (hf : P.funcs[f]? = some fn) (hb : (fn.name != "runtime.NumGoroutine" && fn.body.isSome) = true) (hl : MakersOk P G l) : MakersOk P G ((f, m) :: l) := by
 intro g u hu
 simp only [look] at hu
 split at hu
 ·rename_i e
  have e := Nat.eq_of_beq_eq_true e
  injection hu with hu
  subst hu; subst e
  exact ⟨h, by rw [hf]; exact hb⟩
 ·exact hl g u hu
def InplsOk (P : Program) (G : World → Prop) (l : List (Nat × Inpl)) : Prop := ∀ f p, look l f = some p → InplOk P G f p ∧ (P.funcs[f]?).any (fun fn => fn.name != "runtime.NumGoroutine" && fn.body.isSome) = true
theorem InplsOk.nil {P : Program} {G : World → Prop} : InplsOk P G [] := fun f m h => by cases h
theorem InplsOk.cons {P : Program} {G : World → Prop} {f : Nat} {m : Inpl} {l : List (Nat × Inpl)} {fn : Func} (h : InplOk P G f m) (hf : P.funcs[f]? = some fn) (hb : (fn.name != "runtime.NumGoroutine" && fn.body.isSome) = true) (hl : InplsOk P G l) : InplsOk P G ((f, m) :: l) := by
 intro g u hu
 simp only [look] at hu
 split at hu
 ·rename_i e
  have e := Nat.eq_of_beq_eq_true e
  injection hu with hu
  subst hu; subst e
  exact ⟨h, by rw [hf]; exact hb⟩
 ·exact hl g u hu
def InssOk (P : Program) (G : World → Prop) (l : List (Nat × Ty × Nat)) : Prop := ∀ f p, look l f = some p → InsOk P G f p.1 p.2 ∧ (∃ t, Ok P p.1 (.typ t)) ∧ (P.funcs[f]?).any (fun fn => fn.name != "runtime.NumGoroutine" && fn.body.isSome) = true
theorem InssOk.nil {P : Program} {G : World → Prop} : InssOk P G [] := fun f m h => by cases h
theorem InssOk.cons {P : Program} {G : World → Prop} {f : Nat} {m : Ty × Nat} {l : List (Nat × Ty × Nat)} {fn : Func} (h : InsOk P G f m.1 m.2) (ho : ∃ t, Ok P m.1 (.typ t)) (hf : P.funcs[f]? = some fn) (hb : (fn.name != "runtime.NumGoroutine" && fn.body.isSome) = true) (hl : InssOk P G l) : InssOk P G ((f, m) :: l) := by
 intro g u hu
 simp only [look] at hu
 split at hu
 ·rename_i e
  have e := Nat.eq_of_beq_eq_true e
  injection hu with hu
  subst hu; subst e
  exact ⟨h, ho, by rw [hf]; exact hb⟩
 ·exact hl g u hu
def notPair : Ty → Bool
 | .pair _ _ => false
 | _ => true
def mapB (P : Program) (t : TypeId) (kt vt : Ty) : Bool := match P.underlying t with
 | some (.map k e) => match eqsB P kt (.typ k), Nat.ble (nest kt) 9000, notPair kt, okB P vt (.typ e), dataTy vt with
  | true, true, true, true, true => true
  | _, _, _, _, _ => false
 | _ => false
def mapsB (P : Program) : List (Nat × Ty × Ty) → Bool
 | [] => true
 | (t, kt, vt) :: l => match mapB P t kt vt with
  | true => mapsB P l
  | false => false
theorem mapsB_spec {P : Program} : ∀ {l : List (Nat × Ty × Ty)}, mapsB P l = true → ∀ t kt vt, look l t = some (kt, vt) → ∃ k e, P.underlying t = some (.map k e) ∧ Eqs P kt (.typ k) ∧ nest kt ≤ 9000 ∧ (∀ a b, kt ≠ .pair a b) ∧ Ok P vt (.typ e) ∧ dataTy vt = true
 | [], _, t, kt, vt, h => by cases h
 | (t0, k0, v0) :: l, hb, t, kt, vt, h => by
  simp only [mapsB] at hb
  split at hb
  case h_2 => cases hb
  rename_i h0
  simp only [look] at h
  split at h
  ·rename_i e
   have e := Nat.eq_of_beq_eq_true e
   injection h with h
   injection h with h1 h2
   subst h1; subst h2; subst e
   unfold mapB at h0
   split at h0
   ·rename_i k e hu
    split at h0
    ·rename_i q1 q2 q3 q4 q5
     refine ⟨k, e, hu, eqsB_spec q1, Nat.le_of_ble_eq_true q2, ?_, okB_spec q4, q5⟩
     intro a b z
     rw [z] at q3
     cases q3
    ·cases h0
   ·cases h0
  ·exact mapsB_spec hb t kt vt h
def bldB (P : Program) (t : TypeId) : Bool := match P.info? t with
 | some i => match i.zero with
  | some (.agg cs) => match cs.toList with
   | [.pointer none, .slice none 0 0] => true
   | _ => false
  | _ => false
 | none => false
def bldsB (P : Program) : List (Nat × Nat) → Bool
 | [] => true
 | (t, _) :: l => match bldB P t with
  | true => bldsB P l
  | false => false
theorem bldsB_spec {P : Program} : ∀ {l : List (Nat × Nat)}, bldsB P l = true → ∀ t e, look l t = some e → ∃ i, P.info? t = some i ∧ i.zero = some (.agg #[.pointer none, .slice none 0 0])
 | [], _, t, e, h => by cases h
 | (t0, e0) :: l, hb, t, e, h => by
  simp only [bldsB] at hb
  split at hb
  case h_2 => cases hb
  rename_i h0
  simp only [look] at h
  split at h
  ·rename_i q
   have q := Nat.eq_of_beq_eq_true q
   subst q
   unfold bldB at h0
   split at h0
   ·rename_i i hi
    split at h0
    ·rename_i cs hz
     split at h0
     ·rename_i hc
      refine ⟨i, hi, ?_⟩
      rw [hz]
      congr 2
      exact Array.toList_inj.1 hc
     ·cases h0
    ·cases h0
   ·cases h0
  ·exact bldsB_spec hb t e h
def BwsOk (P : Program) (G : World → Prop) (bl : List (Nat × Nat)) (l : List (Nat × Nat)) : Prop := ∀ f k, look l f = some k → (∀ T e, look bl T = some e → BwOk P G f T e k) ∧ (P.funcs[f]?).any (fun fn => fn.name != "runtime.NumGoroutine" && fn.body.isSome) = true
theorem BwsOk.nil {P : Program} {G : World → Prop} {bl : List (Nat × Nat)} : BwsOk P G bl [] := fun f m h => by cases h
theorem BwsOk.cons {P : Program} {G : World → Prop} {T e f k : Nat} {l : List (Nat × Nat)} {fn : Func} (h : BwOk P G f T e k) (hf : P.funcs[f]? = some fn) (hb : (fn.name != "runtime.NumGoroutine" && fn.body.isSome) = true) (hl : BwsOk P G [(T, e)] l) : BwsOk P G [(T, e)] ((f, k) :: l) := by
 intro g u hu
 simp only [look] at hu
 split at hu
 ·rename_i q
  have q := Nat.eq_of_beq_eq_true q
  injection hu with hu
  subst hu; subst q
  refine ⟨fun T' e' h' => ?_, by rw [hf]; exact hb⟩
  simp only [look] at h'
  split at h'
  ·rename_i q
   have q := Nat.eq_of_beq_eq_true q
   injection h' with h'
   subst h'; subst q
   exact h
  ·cases h'
 ·exact hl g u hu
def OSpecsOk (P : Program) (G : World → Prop) (l : List (Nat × OSpec)) : Prop := ∀ f s, look l f = some s → OSpecOk P G f s ∧ (P.funcs[f]?).any (fun fn => fn.name != "runtime.NumGoroutine" && fn.body.isSome) = true
theorem OSpecsOk.nil {P : Program} {G : World → Prop} : OSpecsOk P G [] := fun f m h => by cases h
theorem OSpecsOk.cons {P : Program} {G : World → Prop} {f : Nat} {s : OSpec} {l : List (Nat × OSpec)} {fn : Func} (h : OSpecOk P G f s) (hf : P.funcs[f]? = some fn) (hb : (fn.name != "runtime.NumGoroutine" && fn.body.isSome) = true) (hl : OSpecsOk P G l) : OSpecsOk P G ((f, s) :: l) := by
 intro g u hu
 simp only [look] at hu
 split at hu
 ·rename_i e
  have e := Nat.eq_of_beq_eq_true e
  injection hu with hu
  subst hu; subst e
  exact ⟨h, by rw [hf]; exact hb⟩
 ·exact hl g u hu
theorem envOk {G : World → Prop} {E : Env} (hT : tysB P E.T = true) (hs : SpecsOk P G E.specs) (hc : CodesOk P E.codes) (hm : P.follows .mixedOrders = true) (hG : ∀ w w', G w → Below w.heap.size w w' → G w') (hk : MakersOk P G E.lays := by exact MakersOk.nil) (hi : InplsOk P G E.inpl := by exact InplsOk.nil) (hj : InssOk P G E.ins := by exact InssOk.nil) (hmp : mapsB P E.maps = true := by rfl) (hbl : bldsB P E.blds = true := by rfl) (hbw : BwsOk P G E.blds E.bw := by exact BwsOk.nil) (ho : OSpecsOk P G E.ospecs := by exact OSpecsOk.nil) : EnvOk P G E := by
 have row : ∀ t r, look E.T t = some r → tyB P t r = true := fun t r h => tysB_mem hT (t, r) (look_mem h)
 have row1 : ∀ t r, look E.T t = some r → Ok P r.ty (.typ t) := by
  intro t r h
  have := row t r h
  unfold tyB at this
  split at this
  ·cases this
  ·rename_i h; exact okB_spec h
 refine ⟨fun t ty h => ?_, fun t r e h he => ?_, fun t r h he => ?_, hs, hc, fun t r b h hb => ?_, hk, hi, hj, mapsB_spec hmp, bldsB_spec hbl, hbw, ho, hm, hG⟩
 ·obtain ⟨r, h1, h2⟩ := EnvOk.row h
  rw [← h2]
  exact row1 t r h1
 ·have h1 := row t r h
  have h2 := row1 t r h
  unfold tyB at h1
  split at h1
  ·cases h1
  split at h1
  ·cases h1
  rename_i h3
  rw [he] at h3
  simp only at h3
  split at h3
  ·rename_i e' hu
   split at h3
   ·rename_i i hi
    split at h3
    ·rename_i hb
     rw [he] at h2
     obtain ⟨⟨e'', q1, q2⟩, _⟩ := h2
     rw [hu] at q1
     injection q1 with q1
     injection q1 with q1
     subst q1
     exact ⟨e', i, hu, hi, Nat.eq_of_beq_eq_true hb, q2, by simpa [Nat.blt_eq] using h3⟩
    ·cases h3
   ·cases h3
  ·cases h3
 ·have h1 := row t r h
  unfold tyB at h1
  split at h1
  ·cases h1
  split at h1
  ·cases h1
  rw [he] at h1
  simp only at h1
  split at h1
  ·rename_i q
   exact ⟨eqsB_spec q, Nat.le_of_ble_eq_true h1⟩
  ·cases h1
 ·have h1 := row t r h
  unfold tyB at h1
  split at h1
  ·cases h1
  split at h1
  ·cases h1
  rename_i h3
  rw [hb] at h3
  simp only at h3
  split at h3
  ·rename_i n e hu
   exact ⟨fun _ => ⟨n, e, hu⟩, fun q => by rw [q] at h3; cases h3⟩
  ·rename_i fs hu
   refine ⟨fun q => ?_, fun _ => ⟨fs, hu⟩⟩
   rw [q] at h3
   cases h3
  ·cases h3
end Go.PG
end
section
namespace Go.PG
open Go.RowKit
variable {N : Nat} {P : Program} {w : World} {H : Type} {enc : TypeId × Value → H} {base : Nat} {spare : Nat → Bool} {held : Bool}
def Wf : (t : Ty) → t.D → Prop
 | .int k, n => (Lit.int k n).wf = true
 | .str, s => ByteArray.size s ≤ maxLen
 | .slice e, xs => List.length xs ≤ maxLen ∧ ∀ x ∈ xs, Wf e x
 | .st b, x => Wf b x
 | .pair a b, x => Wf a x.1 ∧ Wf b x.2
 | _, _ => True
def WbN (N : Nat) (B : Ty → Nat) : (t : Ty) → t.D → Prop
 | .str, s => ByteArray.size s ≤ N
 | .slice e, xs => List.length xs * B e ≤ N ∧ ∀ x ∈ xs, WbN N B e x
 | .st b, x => WbN N B b x
 | .pair a b, x => WbN N B a x.1 ∧ WbN N B b x.2
 | _, _ => True
def InrN (N : Nat) (l : List Nat) : Prop := ∀ n, n ∈ l → n ≤ N
theorem InrN.left {l m : List Nat} (h : InrN N (l ++ m)) : InrN N l := fun n hn => h n (List.mem_append_left _ hn)
theorem InrN.right {l m : List Nat} (h : InrN N (l ++ m)) : InrN N m := fun n hn => h n (List.mem_append_right _ hn)
theorem InrN.all {e : TypeId} : ∀ {ds : List (DataW H)} {i : Nat} {d : DataW H}, InrN N (DataW.weightsAll P e ds) → ds[i]? = some d → InrN N (d.weights P e)
 | [], i, d, _, h => by simp at h
 | d0 :: r, 0, d, hw, h => by
  simp only [List.getElem?_cons_zero, Option.some.injEq] at h
  subst h
  simp only [DataW.weightsAll] at hw
  exact hw.left
 | d0 :: r, i + 1, d, hw, h => by
  simp only [List.getElem?_cons_succ] at h
  simp only [DataW.weightsAll] at hw
  exact InrN.all hw.right h
theorem InrN.each : ∀ {ts : List TypeId} {ds : List (DataW H)} {i : Nat} {t : TypeId} {d : DataW H}, InrN N (DataW.weightsEach P ts ds) → ts[i]? = some t → ds[i]? = some d → InrN N (d.weights P t)
 | [], ds, i, t, d, _, h, _ => by simp at h
 | _ :: _, [], i, t, d, _, _, h => by simp at h
 | t0 :: ts, d0 :: r, 0, t, d, hw, h1, h2 => by
  simp only [List.getElem?_cons_zero, Option.some.injEq] at h1 h2
  subst h1; subst h2
  simp only [DataW.weightsEach] at hw
  exact hw.left
 | t0 :: ts, d0 :: r, i + 1, t, d, hw, h1, h2 => by
  simp only [List.getElem?_cons_succ] at h1 h2
  simp only [DataW.weightsEach] at hw
  exact InrN.each hw.right h1 h2
def readTy : Ty → Bool
 | .unit | .opq => false
 | .slice e => readTy e
 | .st b => readTy b
 | .pair a b => match readTy a with
  | true => readTy b
  | false => false
 | _ => true
inductive Tells {H : Type} : (t : Ty) → t.D → DataW H → Prop where
 | bool (b : Bool) : Tells .bool b (.lit (.bool b))
 | int (k : IntKind) (n : Int) : Tells (.int k) n (.lit (.int k n))
 | str (s : ByteArray) : Tells .str s (.lit (.string s.data.toList))
 | nil (e : Ty) : Tells (.slice e) ([] : List e.D) .nil
 | row (e : Ty) (xs : List e.D) (ds rest : List (DataW H)) (hl : ds.length = xs.length) (h : ∀ (i : Nat) (x : e.D) (d : DataW H), xs[i]? = some x → ds[i]? = some d → Tells e x d) : Tells (.slice e) xs (.slice ds rest)
theorem cells_mem {a : Addr} {n : Nat} {cs : List Value} (h : w.cells? base a n = some cs) : cs.length = n ∧ ∀ (j : Nat) (v : Value), cs[j]? = some v → w.cell? (a.add j) = some v := by
 unfold World.cells? at h
 split at h
 ·have hl := mapM_some_length h
  refine ⟨by simpa using hl, fun j v hv => ?_⟩
  have hj : j < n := by
   have := (List.getElem?_eq_some_iff.1 hv).1
   simp at hl
   omega
  have := mapM_some_get h j j (by simp [hj])
  rw [this, hv]
 ·cases h
theorem spot_none {a : Addr} {v : Value} (h : w.cell? (a.add 0) = some v) : a.spot = none := by
 unfold World.cell? at h
 simp only [Addr.add, if_true] at h
 split at h
 ·split at h
  ·cases h
  ·rename_i q; simpa using q
 ·cases h
theorem list_of {α : Type} {Q : Nat → α → Prop} : ∀ (n : Nat), (∀ i, i < n → ∃ y, Q i y) → ∃ ys : List α, ys.length = n ∧ ∀ i y, ys[i]? = some y → Q i y
 | 0, _ => ⟨[], rfl, by simp⟩
 | n + 1, h => by
  obtain ⟨ys, h1, h2⟩ := list_of n (fun i hi => h i (by omega))
  obtain ⟨y, hy⟩ := h n (by omega)
  refine ⟨ys ++ [y], by simp [h1], fun i z hz => ?_⟩
  rcases Nat.lt_or_ge i ys.length with q | q
  ·rw [List.getElem?_append_left q] at hz
   exact h2 i z hz
  ·rw [List.getElem?_append_right q] at hz
   have : i = n := by
    have := (List.getElem?_eq_some_iff.1 hz).1
    simp at this
    omega
   subst this
   rw [h1, Nat.sub_self] at hz
   simp at hz
   subst hz
   exact hy
structure BytesOk (P : Program) (B : Ty → Nat) (Gd : TypeId → Prop) : Prop where
 sl : ∀ (id e' : TypeId), Gd id → P.underlying id = some (.slice e') → Gd e' ∧ ∀ e : Ty, Ok P e (.typ e') → B e ≤ P.bytesOf e'
 st : ∀ (id : TypeId) (fs : Array Field), Gd id → P.underlying id = some (.struct fs) → ∀ f, f ∈ fs.toList → Gd f.type
 ar : ∀ (id : TypeId) (n : Nat) (e : TypeId), Gd id → P.underlying id = some (.array n e) → Gd e
theorem read_all {B : Ty → Nat} {Gd : TypeId → Prop} (HB : BytesOk P B Gd) : ∀ (t : Ty),
  (∀ (id : TypeId) (fuel : Nat) (cs : List Value) (x : DataW H × List MemPlace), Gd id → Ok P t (.typ id) → readTy t = true → DataW.trod enc P w base spare held fuel id cs = some x → ∃ y : t.D, RepD (fun _ => False) w t y cs ∧ Wf t y ∧ (InrN N (x.1.weights P id) → WbN N B t y)) ∧
  (∀ (l : List Field) (o : Nat) (cs : List Value) (n : Nat) (zs : List (DataW H × List MemPlace)), (∀ f, f ∈ l → Gd f.type) → Ok P t (.flds l o) → readTy t = true → o + t.size ≤ cs.length → zs.length = l.length → (∀ (i : Nat) (f : Field), l[i]? = some f → DataW.trod enc P w base spare held n f.type ((cs.drop f.offset).take (P.cellsOf f.type)) = zs[i]?) →
   ∃ y : t.D, RepD (fun _ => False) w t y ((cs.drop o).take t.size) ∧ Wf t y ∧ (InrN N (DataW.weightsEach P (l.map (·.type)) (zs.map (·.1))) → WbN N B t y)) ∧
  (∀ (m : Nat) (e : TypeId) (cs : List Value) (n j : Nat) (zs : List (DataW H × List MemPlace)), Gd e → Ok P t (.arr m e) → readTy t = true → j * P.cellsOf e + t.size ≤ cs.length → zs.length = m → (∀ i, i < m → DataW.trod enc P w base spare held n e ((cs.drop ((j + i) * P.cellsOf e)).take (P.cellsOf e)) = zs[i]?) →
   ∃ y : t.D, RepD (fun _ => False) w t y ((cs.drop (j * P.cellsOf e)).take t.size) ∧ Wf t y ∧ (InrN N (DataW.weightsAll P e (zs.map (·.1))) → WbN N B t y)) := by
 -- out of the claim at a type: those at fields and elements
 have leaf : ∀ (t : Ty), (∀ p q, t ≠ .pair p q) → (∀ (id : TypeId) (fuel : Nat) (cs : List Value) (x : DataW H × List MemPlace), Gd id → Ok P t (.typ id) → readTy t = true → DataW.trod enc P w base spare held fuel id cs = some x → ∃ y : t.D, RepD (fun _ => False) w t y cs ∧ Wf t y ∧ (InrN N (x.1.weights P id) → WbN N B t y)) →
   (∀ (l : List Field) (o : Nat) (cs : List Value) (n : Nat) (zs : List (DataW H × List MemPlace)), (∀ f, f ∈ l → Gd f.type) → Ok P t (.flds l o) → readTy t = true → o + t.size ≤ cs.length → zs.length = l.length → (∀ (i : Nat) (f : Field), l[i]? = some f → DataW.trod enc P w base spare held n f.type ((cs.drop f.offset).take (P.cellsOf f.type)) = zs[i]?) →
    ∃ y : t.D, RepD (fun _ => False) w t y ((cs.drop o).take t.size) ∧ Wf t y ∧ (InrN N (DataW.weightsEach P (l.map (·.type)) (zs.map (·.1))) → WbN N B t y)) ∧
   (∀ (m : Nat) (e : TypeId) (cs : List Value) (n j : Nat) (zs : List (DataW H × List MemPlace)), Gd e → Ok P t (.arr m e) → readTy t = true → j * P.cellsOf e + t.size ≤ cs.length → zs.length = m → (∀ i, i < m → DataW.trod enc P w base spare held n e ((cs.drop ((j + i) * P.cellsOf e)).take (P.cellsOf e)) = zs[i]?) →
    ∃ y : t.D, RepD (fun _ => False) w t y ((cs.drop (j * P.cellsOf e)).take t.size) ∧ Wf t y ∧ (InrN N (DataW.weightsAll P e (zs.map (·.1))) → WbN N B t y)) := by
  intro t hp h
  refine ⟨fun l o cs n zs hg hok hd hl hz ht => ?_, fun m e cs n j zs hg hok hd hl hz ht => ?_⟩
  ·obtain ⟨f, rfl, hf, _, hok'⟩ := ok_leaf_flds hp hok
   obtain ⟨z, rfl⟩ : ∃ z, zs = [z] := List.length_eq_one_iff.1 hz
   have hz := ht 0 f rfl
   obtain ⟨i, hi, hs⟩ := ok_size hok'
   have hc : P.cellsOf f.type = t.size := by simp [Program.cellsOf, hi, hs]
   rw [hc, hf] at hz
   obtain ⟨y, h1, h2, h3⟩ := h f.type n _ z (hg f (by simp)) hok' hd hz
   refine ⟨y, h1, h2, fun hw => h3 ?_⟩
   simp only [List.map_cons, DataW.weightsEach] at hw
   exact hw.left
  ·obtain ⟨rfl, hok'⟩ := ok_leaf_arr hp hok
   obtain ⟨z, rfl⟩ : ∃ z, zs = [z] := List.length_eq_one_iff.1 hz
   have hz := ht 0 (by omega)
   rw [Nat.add_zero] at hz
   obtain ⟨i, hi, hs⟩ := ok_size hok'
   have hc : P.cellsOf e = t.size := by simp [Program.cellsOf, hi, hs]
   rw [hc] at hz ⊢
   obtain ⟨y, h1, h2, h3⟩ := h e n _ z hg hok' hd hz
   refine ⟨y, h1, h2, fun hw => h3 ?_⟩
   simp only [List.map_cons, DataW.weightsAll] at hw
   exact hw.left
 intro t
 induction t with
 | unit => exact ⟨fun _ _ _ _ _ h => h.elim, fun _ _ _ _ _ _ h => h.elim, fun _ _ _ _ _ _ _ h => h.elim⟩
 | map _ _ _ _ => exact ⟨fun _ _ _ _ _ h => h.elim, fun _ _ _ _ _ _ h => h.elim, fun _ _ _ _ _ _ _ h => h.elim⟩
 | bld _ _ => exact ⟨fun _ _ _ _ _ h => h.elim, fun _ _ _ _ _ _ h => h.elim, fun _ _ _ _ _ _ _ h => h.elim⟩
 | opq => exact ⟨fun _ _ _ _ _ _ h => by simp [readTy] at h, fun _ _ _ _ _ _ _ h => by simp [readTy] at h, fun _ _ _ _ _ _ _ _ h => by simp [readTy] at h⟩
 | bool =>
  have h : ∀ (id : TypeId) (fuel : Nat) (cs : List Value) (x : DataW H × List MemPlace), Gd id → Ok P .bool (.typ id) → readTy .bool = true → DataW.trod enc P w base spare held fuel id cs = some x → ∃ y : Ty.bool.D, RepD (fun _ => False) w .bool y cs ∧ Wf .bool y ∧ (InrN N (x.1.weights P id) → WbN N B .bool y) := by
   intro id fuel cs x hg hok _ hx
   obtain ⟨b, rfl, _⟩ := DataW.trod_bool hok.1 hx
   exact ⟨b, by simp [RepD], trivial, fun _ => trivial⟩
  exact ⟨h, leaf _ (by simp) h⟩
 | int k =>
  have h : ∀ (id : TypeId) (fuel : Nat) (cs : List Value) (x : DataW H × List MemPlace), Gd id → Ok P (.int k) (.typ id) → readTy (.int k) = true → DataW.trod enc P w base spare held fuel id cs = some x → ∃ y : (Ty.int k).D, RepD (fun _ => False) w (.int k) y cs ∧ Wf (.int k) y ∧ (InrN N (x.1.weights P id) → WbN N B (.int k) y) := by
   intro id fuel cs x hg hok _ hx
   obtain ⟨n, rfl, _, hw⟩ := DataW.trod_int hok.1 hx
   exact ⟨n, by simp [RepD], hw, fun _ => trivial⟩
  exact ⟨h, leaf _ (by simp) h⟩
 | str =>
  have h : ∀ (id : TypeId) (fuel : Nat) (cs : List Value) (x : DataW H × List MemPlace), Gd id → Ok P .str (.typ id) → readTy .str = true → DataW.trod enc P w base spare held fuel id cs = some x → ∃ y : Ty.str.D, RepD (fun _ => False) w .str y cs ∧ Wf .str y ∧ (InrN N (x.1.weights P id) → WbN N B .str y) := by
   intro id fuel cs x hg hok _ hx
   obtain ⟨s, rfl, hx2, hs⟩ := DataW.trod_string hok.1 hx
   refine ⟨s, by simp [RepD], hs, fun hw => ?_⟩
   subst hx2
   have := hw s.data.toList.length (by simp [DataW.weights])
   simpa [WbN] using this
  exact ⟨h, leaf _ (by simp) h⟩
 | slice e ih =>
  have h : ∀ (id : TypeId) (fuel : Nat) (cs : List Value) (x : DataW H × List MemPlace), Gd id → Ok P (.slice e) (.typ id) → readTy (.slice e) = true → DataW.trod enc P w base spare held fuel id cs = some x → ∃ y : (Ty.slice e).D, RepD (fun _ => False) w (.slice e) y cs ∧ Wf (.slice e) y ∧ (InrN N (x.1.weights P id) → WbN N B (.slice e) y) := by
   intro id fuel cs x hg hok hd hx
   obtain ⟨⟨e', hu, hok'⟩, _⟩ := hok
   rcases DataW.trod_slice hu hx with ⟨rfl, _⟩ | ⟨a, len, cap, elems, rest, n, _, rfl, hx2, hb, hl, hm, hlen, hel, _, _⟩
   ·exact ⟨[], by simp only [RepD]; exact ⟨none, 0, rfl, Nat.le_refl _, .inl trivial⟩, by simp [Wf], fun _ => by simp [WbN]⟩
   ·obtain ⟨inf, hi, hs⟩ := ok_size hok'
    have hc : P.cellsOf e' = e.size := by simp [Program.cellsOf, hi, hs]
    have hpos := ok_pos e _ hok'
    have each : ∀ i, i < len → ∃ y : e.D, ∃ c, w.cells? base (a.add (i * e.size)) e.size = some c ∧ RepD (fun _ => False) w e y c ∧ Wf e y ∧ (InrN N (x.1.weights P id) → WbN N B e y) := by
     intro i hi
     have he := hel i hi
     rw [List.getElem?_eq_getElem (by omega)] at he
     rw [hc] at he
     cases q : w.cells? base (a.add (i * e.size)) e.size with
     | none => rw [q] at he; cases he
     | some c =>
      rw [q] at he
      obtain ⟨y, h1, h2, h3⟩ := ih.1 e' n c _ (HB.sl id e' hg hu).1 hok' hd he
      refine ⟨y, c, rfl, h1, h2, fun hw => h3 ?_⟩
      subst hx2
      simp only [DataW.weights, hu] at hw
      have hw' : InrN N (DataW.weightsAll P e' (elems.map (·.1))) := fun k hk => hw k (List.mem_cons_of_mem _ (List.mem_append_left _ hk))
      exact hw'.all (i := i) (by rw [List.getElem?_map, List.getElem?_eq_getElem (by omega)]; rfl)
    obtain ⟨ys, hys, hall⟩ := list_of len each
    refine ⟨ys, ?_, ?_, fun hw => ?_⟩
    ·simp only [RepD]
     refine ⟨some a, cap, by rw [hys], by omega, ?_⟩
     rcases Nat.eq_zero_or_pos len with h0 | h0
     ·left; exact List.eq_nil_of_length_eq_zero (by omega)
     ·right
      obtain ⟨y, c, q1, q2, q3⟩ := each 0 h0
      obtain ⟨q4, q5⟩ := cells_mem q1
      obtain ⟨v, hv⟩ : ∃ v, c[0]? = some v := ⟨c[0]'(by omega), by simp⟩
      have q6 := q5 0 v hv
      have hsp : a.spot = none := by
       have := spot_none q6
       simpa [Addr.add] using this
      obtain ⟨b, o, sp⟩ := a
      simp only at hsp
      subst hsp
      refine ⟨b, o, rfl, ?_, not_false, fun i x hx => ?_⟩
      ·unfold World.cell? at q6
       simp only [Addr.add, Nat.zero_mul, if_true] at q6
       split at q6
       ·rename_i qq; exact (Array.getElem?_eq_some_iff.1 qq).1
       ·cases q6
      ·obtain ⟨c', r1, r2, _⟩ := hall i x hx
       refine ⟨c', r2, fun j v hv => ?_⟩
       have := (cells_mem r1).2 j v hv
       rw [Addr.add_mid, Addr.add_mid] at this
       exact this
    ·simp only [Wf]
     refine ⟨by omega, fun x hx => ?_⟩
     obtain ⟨i, hi⟩ := List.getElem?_of_mem hx
     obtain ⟨_, _, _, r, _⟩ := hall i x hi
     exact r
    ·simp only [WbN]
     refine ⟨?_, fun x hx => ?_⟩
     ·have hw2 := hw
      subst hx2
      simp only [DataW.weights, hu] at hw2
      have h1 := hw2 _ (List.mem_cons_self ..)
      simp only [List.length_map] at h1
      have h2 := (HB.sl id e' hg hu).2 e hok'
      have h3 : List.length ys * B e ≤ (elems.length + rest.length) * P.bytesOf e' := Nat.mul_le_mul (by omega) h2
      omega
     ·obtain ⟨i, hi⟩ := List.getElem?_of_mem hx
      obtain ⟨_, _, _, _, r⟩ := hall i x hi
      exact r hw
  exact ⟨h, leaf _ (by simp) h⟩
 | st b ih =>
  have h : ∀ (id : TypeId) (fuel : Nat) (cs : List Value) (x : DataW H × List MemPlace), Gd id → Ok P (.st b) (.typ id) → readTy (.st b) = true → DataW.trod enc P w base spare held fuel id cs = some x → ∃ y : (Ty.st b).D, RepD (fun _ => False) w (.st b) y cs ∧ Wf (.st b) y ∧ (InrN N (x.1.weights P id) → WbN N B (.st b) y) := by
   intro id fuel cs x hg hok hd hx
   obtain ⟨hk, zs, ⟨i, hi1, hi2, _⟩, _⟩ := hok
   have hc : P.cellsOf id = b.size := by simp [Program.cellsOf, hi1, hi2]
   rcases hk with ⟨fs, hu, hb⟩ | ⟨n, e, hu, hb⟩
   ·obtain ⟨xs, n, _, hx2, hl, hxl, hall⟩ := DataW.trod_struct hu hx
    obtain ⟨y, h1, h2, h3⟩ := ih.2.1 fs.toList 0 cs n xs (HB.st id fs hg hu) hb hd (by omega) (by simpa using hxl) (fun i f hf => by
     have hf' : fs[i]? = some f := by rw [← Array.getElem?_toList]; exact hf
     exact hall i f hf')
    rw [List.drop_zero, List.take_of_length_le (by omega)] at h1
    refine ⟨y, by simp only [RepD]; exact h1, by simp only [Wf]; exact h2, fun hw => ?_⟩
    simp only [WbN]
    subst hx2
    simp only [DataW.weights, hu] at hw
    exact h3 hw
   ·obtain ⟨xs, m, _, hx2, hl, hxl, hall⟩ := DataW.trod_array hu hx
    obtain ⟨y, h1, h2, h3⟩ := ih.2.2 n e cs m 0 xs (HB.ar id n e hg hu) hb hd (by omega) hxl (fun i hi => by
     rw [Nat.zero_add]
     exact hall i (by omega))
    rw [Nat.zero_mul, List.drop_zero, List.take_of_length_le (by omega)] at h1
    refine ⟨y, by simp only [RepD]; exact h1, by simp only [Wf]; exact h2, fun hw => ?_⟩
    simp only [WbN]
    subst hx2
    simp only [DataW.weights, hu] at hw
    exact h3 hw
  exact ⟨h, leaf _ (by simp) h⟩
 | pair p q ihp ihq =>
  have both : ∀ {hd : readTy (.pair p q) = true}, readTy p = true ∧ readTy q = true := by
   intro hd
   simp only [readTy] at hd
   split at hd
   ·rename_i h; exact ⟨h, hd⟩
   ·cases hd
  have join : ∀ (cs : List Value) (o : Nat) (y1 : p.D) (y2 : q.D), RepD (fun _ => False) w p y1 ((cs.drop o).take p.size) → RepD (fun _ => False) w q y2 ((cs.drop (o + p.size)).take q.size) → RepD (fun _ => False) w (.pair p q) (y1, y2) ((cs.drop o).take (p.size + q.size)) := by
   intro cs o y1 y2 h1 h2
   simp only [RepD]
   refine ⟨_, _, ?_, h1, h2⟩
   rw [List.take_add, List.drop_drop]
  refine ⟨fun _ _ _ _ _ h => h.elim, fun l o cs n zs hg hok hd hl hz ht => ?_, fun m e cs n j zs hg hok hd hl hz ht => ?_⟩
  ·cases l with
   | nil => exact hok.elim
   | cons f l =>
    cases zs with
    | nil => simp at hz
    | cons z zs =>
     obtain ⟨hf, _, hok1, hok2⟩ := hok
     obtain ⟨d1, d2⟩ := both (hd := hd)
     simp only [Ty.size] at hl ⊢
     have hz0 := ht 0 f rfl
     obtain ⟨i, hi, hs⟩ := ok_size hok1
     have hc : P.cellsOf f.type = p.size := by simp [Program.cellsOf, hi, hs]
     rw [hc, hf] at hz0
     obtain ⟨y1, r1, r2, r5⟩ := ihp.1 f.type n _ z (hg f (by simp)) hok1 d1 hz0
     obtain ⟨y2, r3, r4, r6⟩ := ihq.2.1 l (o + p.size) cs n zs (fun g hg' => hg g (List.mem_cons_of_mem _ hg')) hok2 d2 (by omega) (by simpa using hz) (fun i g hg => by have := ht (i + 1) g (by simpa using hg); simpa using this)
     refine ⟨(y1, y2), join cs o y1 y2 r1 r3, ⟨r2, r4⟩, fun hw => ?_⟩
     simp only [List.map_cons, DataW.weightsEach] at hw
     exact ⟨r5 hw.left, r6 hw.right⟩
  ·cases m with
   | zero => exact hok.elim
   | succ m =>
    cases zs with
    | nil => simp at hz
    | cons z zs =>
     obtain ⟨hok1, hok2⟩ := hok
     obtain ⟨d1, d2⟩ := both (hd := hd)
     simp only [Ty.size] at hl ⊢
     have hz0 := ht 0 (by omega)
     rw [Nat.add_zero] at hz0
     obtain ⟨i, hi, hs⟩ := ok_size hok1
     have hc : P.cellsOf e = p.size := by simp [Program.cellsOf, hi, hs]
     have hj : (j + 1) * P.cellsOf e = j * P.cellsOf e + p.size := by rw [Nat.add_mul, Nat.one_mul, hc]
     rw [hc] at hz0
     obtain ⟨y1, r1, r2, r5⟩ := ihp.1 e n _ z hg hok1 d1 hz0
     obtain ⟨y2, r3, r4, r6⟩ := ihq.2.2 m e cs n (j + 1) zs hg hok2 d2 (by omega) (by simpa using hz) (fun i hi => by have := ht (i + 1) (by omega); rw [show j + 1 + i = j + (i + 1) by omega]; simpa using this)
     rw [hj] at r3
     refine ⟨(y1, y2), join cs _ y1 y2 ?_ r3, ⟨r2, r4⟩, fun hw => ?_⟩
     ·rw [hc]
      exact r1
     ·simp only [List.map_cons, DataW.weightsAll] at hw
      exact ⟨r5 hw.left, r6 hw.right⟩
end Go.PG
end
section
namespace Go.PG
open Go.RowKit Go.ChangeShapes
variable {N : Nat} {P : Program} {w : World} {H : Type} {enc : TypeId × Value → H}
def ArgsOk (P : Program) : Ty → List TypeId → Prop
 | .unit, ts => ts = []
 | .pair a b, ts => ∃ t r, ts = t :: r ∧ Ok P a (.typ t) ∧ readTy a = true ∧ ArgsOk P b r
 | a, ts => ∃ t, ts = [t] ∧ Ok P a (.typ t) ∧ readTy a = true
theorem dataOf {B : Ty → Nat} {Gd : TypeId → Prop} (HB : BytesOk P B Gd) {base : Nat} {t : Ty} {id : TypeId} (hg : Gd id) (hok : Ok P t (.typ id)) (hr : readTy t = true) {v : Value} (hv : Value.okWide P w .any base id v) {d : DataW H} {ps : List MemPlace} (h : DataW.Trod enc P w 0 (fun _ => true) true id v d ps) :
  ∃ y : t.D, RepDV (fun _ => False) w t y v ∧ Wf t y ∧ (InrN N (d.weights P id) → WbN N B t y) := by
 obtain ⟨fuel, h⟩ := h
 obtain ⟨y, h1, h2⟩ := (read_all HB t).1 id fuel _ _ hg hok hr h
 refine ⟨y, ?_, h2⟩
 have one : isSt t = false → v.cells = #[v] → RepDV (fun _ => False) w t y v := by
  intro hs hc
  rw [hc] at h1
  exact .inr ⟨hs, h1⟩
 cases t with
 | unit => exact hok.elim
 | map _ _ => exact hok.elim
 | bld _ _ => exact hok.elim
 | pair a b => exact hok.elim
 | opq => simp [readTy] at hr
 | bool => obtain ⟨b, rfl⟩ := Go.WideShapes.okWide_bool hok.1 hv; exact one rfl rfl
 | int k => obtain ⟨n, rfl⟩ := Go.WideShapes.okWide_int hok.1 hv; exact one rfl rfl
 | str => obtain ⟨n, rfl⟩ := Go.WideShapes.okWide_string hok.1 hv; exact one rfl rfl
 | slice e => obtain ⟨⟨e', hu, _⟩, _⟩ := hok; obtain ⟨_, _, _, rfl⟩ := Go.WideShapes.okWide_slice hu hv; exact one rfl rfl
 | st b =>
  obtain ⟨hk, _⟩ := hok
  have : ∃ cs, v = .agg cs := by
   rcases hk with ⟨fs, hu, _⟩ | ⟨n, e, hu, _⟩
   ·simp only [Value.okWide, hu] at hv
    obtain ⟨cs, e, _⟩ := hv
    exact ⟨cs, e⟩
   ·simp only [Value.okWide, hu] at hv
    obtain ⟨cs, e, _⟩ := hv
    exact ⟨cs, e⟩
  obtain ⟨cs, rfl⟩ := this
  exact .inl ⟨rfl, cs, rfl, h1⟩
theorem argsOf {B : Ty → Nat} {Gd : TypeId → Prop} (HB : BytesOk P B Gd) {base : Nat} : ∀ (t : Ty) (ts : List TypeId) (vs : List Value) (ds : List (DataW H)) (ps : List MemPlace), (∀ u, u ∈ ts → Gd u) → ArgsOk P t ts → (∀ (j : Nat) id v, ts[j]? = some id → vs[j]? = some v → Value.okWide P w .any base id v) →
  DataW.TrodAll enc P w 0 (fun _ => true) true ts vs ds ps → ∃ x : t.D, RepT (cz (fun _ => False) w) (argAV t x) vs ∧ Wf t x ∧ (InrN N (DataW.weightsEach P ts ds) → WbN N B t x) := by
 have one : ∀ (t : Ty) (id : TypeId) (vs : List Value) (ds : List (DataW H)) (ps : List MemPlace), Gd id → Ok P t (.typ id) → readTy t = true → (∀ (j : Nat) id' v, [id][j]? = some id' → vs[j]? = some v → Value.okWide P w .any base id' v) →
   DataW.TrodAll enc P w 0 (fun _ => true) true [id] vs ds ps → ∃ x : t.D, RepT (cz (fun _ => False) w) (.data t x) vs ∧ Wf t x ∧ (InrN N (DataW.weightsEach P [id] ds) → WbN N B t x) := by
  intro t id vs ds ps hg hok hr hv h
  obtain ⟨v, vs', d, ds', p, q, rfl, rfl, rfl, h1, h2⟩ := trodAll_cons h
  obtain ⟨rfl, rfl, rfl⟩ := trodAll_nil h2
  obtain ⟨y, h3, h4, h5⟩ := dataOf HB hg hok hr (hv 0 id v rfl rfl) h1
  refine ⟨y, ?_, h4, fun hw => h5 ?_⟩
  ·rw [repT_data, cz_Zeq]
   exact ⟨v, rfl, h3⟩
  ·simp only [DataW.weightsEach] at hw
   exact hw.left
 intro t
 induction t with
 | unit =>
  intro ts vs ds ps hg ha hv h
  have ha : ts = [] := ha
  subst ha
  obtain ⟨rfl, rfl, rfl⟩ := trodAll_nil h
  exact ⟨(), by simp only [argAV, RepT], trivial, fun _ => trivial⟩
 | pair a b iha ihb =>
  intro ts vs ds ps hg ha hv h
  obtain ⟨id, r, rfl, hok, hr, hb⟩ := ha
  obtain ⟨v, vs', d, ds', p, q, rfl, rfl, rfl, h1, h2⟩ := trodAll_cons h
  obtain ⟨y, h3, h4, h7⟩ := dataOf HB (hg id (by simp)) hok hr (hv 0 id v rfl rfl) h1
  obtain ⟨z, h5, h6, h8⟩ := ihb r vs' ds' q (fun u hu => hg u (List.mem_cons_of_mem _ hu)) hb (fun j id' v' q1 q2 => hv (j + 1) id' v' (by simpa using q1) (by simpa using q2)) h2
  refine ⟨(y, z), ?_, ⟨h4, h6⟩, fun hw => by
   simp only [DataW.weightsEach] at hw
   exact ⟨h7 hw.left, h8 hw.right⟩⟩
  simp only [argAV, RepT, RepV]
  rw [cz_Zeq]
  exact ⟨v, vs', rfl, h3, h5⟩
 | bool => intro ts vs ds ps hg ha hv h; obtain ⟨id, rfl, hok, hr⟩ := ha; exact one _ id vs ds ps (hg id (by simp)) hok hr hv h
 | int k => intro ts vs ds ps hg ha hv h; obtain ⟨id, rfl, hok, hr⟩ := ha; exact one _ id vs ds ps (hg id (by simp)) hok hr hv h
 | str => intro ts vs ds ps hg ha hv h; obtain ⟨id, rfl, hok, hr⟩ := ha; exact one _ id vs ds ps (hg id (by simp)) hok hr hv h
 | opq => intro ts vs ds ps hg ha hv h; obtain ⟨id, rfl, hok, hr⟩ := ha; exact one _ id vs ds ps (hg id (by simp)) hok hr hv h
 | map _ _ _ _ => intro ts vs ds ps hg ha hv h; obtain ⟨id, rfl, hok, hr⟩ := ha; exact one _ id vs ds ps (hg id (by simp)) hok hr hv h
 | bld _ _ => intro ts vs ds ps hg ha hv h; obtain ⟨id, rfl, hok, hr⟩ := ha; exact one _ id vs ds ps (hg id (by simp)) hok hr hv h
 | slice e _ => intro ts vs ds ps hg ha hv h; obtain ⟨id, rfl, hok, hr⟩ := ha; exact one _ id vs ds ps (hg id (by simp)) hok hr hv h
 | st b _ => intro ts vs ds ps hg ha hv h; obtain ⟨id, rfl, hok, hr⟩ := ha; exact one _ id vs ds ps (hg id (by simp)) hok hr hv h
theorem argsBack {W W' : World} (hl : laidOutB P = true) (hb : Below W.heap.size W W') : ∀ (ts : List TypeId) (vs : List Value) (ds : List (DataW H)) (ps : List MemPlace), (∀ t, t ∈ ts → P.readableRec t = true ∧ t < P.types.size) →
  DataW.TrodAll enc P W 0 (fun _ => true) true ts vs ds ps → DataW.TrodAll enc P W' 0 (fun b => decide (b < W.heap.size)) true ts vs ds ps := by
 intro ts
 induction ts with
 | nil => intro vs ds ps _ h; obtain ⟨rfl, rfl, rfl⟩ := trodAll_nil h; exact trodAll_mk0
 | cons t ts ih =>
  intro vs ds ps ht h
  obtain ⟨v, vs', d, ds', p, q, rfl, rfl, rfl, h1, h2⟩ := trodAll_cons h
  have hlt : ∀ x ∈ p, x.block < W.heap.size := by
   obtain ⟨m, hm⟩ := h1
   exact DataW.trod_lt m _ _ _ hm
  obtain ⟨r1, r2⟩ := ht t (by simp)
  exact trodAll_cons_mk (Below.trod hl r1 r2 h1 hb hlt) (ih vs' ds' q (fun u hu => ht u (List.mem_cons_of_mem _ hu)) h2)
end Go.PG
namespace Go.PG
def argsOkB (P : Program) : Ty → List TypeId → Bool
 | .unit, ts => match ts with
  | [] => true
  | _ => false
 | .pair a b, ts => match ts with
  | t :: r => match okB P a (.typ t), readTy a with
   | true, true => argsOkB P b r
   | _, _ => false
  | [] => false
 | a, ts => match ts with
  | [t] => match okB P a (.typ t), readTy a with
   | true, true => true
   | _, _ => false
  | _ => false
theorem ArgsOk.of_b {P : Program} : ∀ {t : Ty} {ts : List TypeId}, argsOkB P t ts = true → ArgsOk P t ts := by
 have one : ∀ {a : Ty} {ts : List TypeId}, (match ts with
   | [t] => match okB P a (.typ t), readTy a with
    | true, true => true
    | _, _ => false
   | _ => false) = true → ∃ t, ts = [t] ∧ Ok P a (.typ t) ∧ readTy a = true := by
  intro a ts h
  split at h
  ·rename_i t
   split at h
   ·rename_i h1 h2
    exact ⟨t, rfl, okB_spec h1, h2⟩
   ·cases h
  ·cases h
 intro t
 induction t with
 | unit =>
  intro ts h
  simp only [argsOkB] at h
  split at h
  ·rfl
  ·cases h
 | pair a b _ ihb =>
  intro ts h
  simp only [argsOkB] at h
  split at h
  ·split at h
   ·rename_i h1 h2
    exact ⟨_, _, rfl, okB_spec h1, h2, ihb h⟩
   ·cases h
  ·cases h
 | _ => intro ts h; exact one (by simpa only [argsOkB] using h)
def readB (P : Program) : List TypeId → Bool
 | [] => true
 | t :: r => match P.readableRec t, Nat.blt t P.types.size with
  | true, true => readB P r
  | _, _ => false
theorem readable_of_b {P : Program} : ∀ {ts : List TypeId}, readB P ts = true → ∀ t, t ∈ ts → P.readableRec t = true ∧ t < P.types.size := by
 intro ts
 induction ts with
 | nil => intro _ t h; cases h
 | cons u r ih =>
  intro h t ht
  simp only [readB] at h
  split at h
  ·rename_i h1 h2
   rcases List.mem_cons.1 ht with rfl | ht
   ·exact ⟨h1, by simpa [Nat.blt_eq] using h2⟩
   ·exact ih h t ht
  ·cases h
end Go.PG
end
section
namespace Go.PG
variable {P : Program}
abbrev TAtom : Ty := .st (.pair (.int .i64) (.int .i64))
def intB (P : Program) (t : TypeId) : Bool := match P.underlying t with
 | some (.int .i64) => true
 | _ => false
def twoInts (P : Program) (t : TypeId) : Bool := match P.underlying t with
 | some (.struct fs) => match fs.toList with
  | [f, g] => intB P f.type && intB P g.type
  | _ => false
 | some (.array 2 e) => intB P e
 | _ => false
def partsB (P : Program) (t : TypeId) : Bool := match P.underlying t with
 | some (.slice e) => Nat.blt e P.types.size
 | some (.struct fs) => fs.toList.all fun f => Nat.blt f.type P.types.size
 | some (.array _ e) => Nat.blt e P.types.size
 | _ => true
def pairsB (P : Program) : Bool := (List.range P.types.size).all fun t => (!twoInts P t || Nat.ble 16 (P.bytesOf t)) && partsB P t
def BAtom (e : Ty) : Nat := if e = TAtom then 16 else 0
theorem intB_of {t : TypeId} (h : Ok P (.int .i64) (.typ t)) : intB P t = true := by
 have := h.1
 unfold intB
 rw [this]
theorem twoInts_of {t : TypeId} (h : Ok P TAtom (.typ t)) : twoInts P t = true := by
 obtain ⟨hk, _⟩ := h
 unfold twoInts
 rcases hk with ⟨fs, hu, hb⟩ | ⟨n, e, hu, hb⟩
 ·rw [hu]
  generalize hl : fs.toList = l at hb
  match l, hb with
  | [f, g], hb =>
   obtain ⟨_, _, h1, h2⟩ := hb
   obtain ⟨_, _, h3⟩ := h2
   simp only [hl, intB_of h1, intB_of (t := g.type) h3, Bool.and_self]
 ·rw [hu]
  match n, hb with
  | 2, hb => exact intB_of hb.1
theorem bytesAtom (h : pairsB P = true) : BytesOk P BAtom fun t => t < P.types.size := by
 have key : ∀ t, t < P.types.size → (!twoInts P t || Nat.ble 16 (P.bytesOf t)) = true ∧ partsB P t = true := by
  intro t ht
  have := List.all_eq_true.1 h t (List.mem_range.2 ht)
  rwa [Bool.and_eq_true] at this
 refine ⟨fun id e' hid hu => ?_, fun id fs hid hu f hf => ?_, fun id n e hid hu => ?_⟩
 ·have h1 := (key id hid).2
  unfold partsB at h1
  rw [hu] at h1
  have h1 : e' < P.types.size := Nat.le_of_ble_eq_true h1
  refine ⟨h1, fun e hok => ?_⟩
  unfold BAtom
  split
  ·rename_i he
   subst he
   have h2 := twoInts_of hok
   have := (key e' h1).1
   rw [h2] at this
   simpa using this
  ·exact Nat.zero_le _
 ·have h1 := (key id hid).2
  unfold partsB at h1
  rw [hu] at h1
  have := List.all_eq_true.1 h1 f hf
  exact Nat.le_of_ble_eq_true this
 ·have h1 := (key id hid).2
  unfold partsB at h1
  rw [hu] at h1
  exact Nat.le_of_ble_eq_true h1
end Go.PG
end
section
namespace Go.PG
open Go.RowKit Go.ChangeShapes
variable {P : Program} {w : World} {H : Type} {enc : TypeId × Value → H}
theorem rowContractGN {N : Nat} {G : World → Prop} {B : Ty → Nat} (HB : BytesOk P B fun t => t < P.types.size) {f : FuncId} {fn : Func} {t : Ty} {F : t.D → Option Bool} {rt : TypeId} {s : ChangeSpec} {base : Nat} {W : World} {args : Array Value} {ds gs : List (DataW H)} {before : List MemPlace}
  (hs : SpecOk P G f ⟨t, .bool, F⟩) (hl : laidOutB P = true) (hp : ArgsOk P t fn.params.toList) (hread : ∀ t, t ∈ fn.params.toList → P.readableRec t = true ∧ t < P.types.size)
  (hres : fn.resultTypes = #[rt]) (hrt : P.underlying rt = some .bool) (hvars : s.vars = []) (hfn : ∀ ds : List (DataW H), ds.length = fn.params.toList.length → s.fn H ds = { results := [.lit (.bool true)], args := ds })
  (hval : ∀ (j : Nat) t v, fn.params[j]? = some t → args[j]? = some v → Value.okWide P W .any base t v) (hW : DataW.Whole enc P fn.params.toList s.vars false W args.toList ds gs before)
  (hwt : InrN N (DataW.weightsEach P fn.params.toList ds)) (hF : ∀ x, Wf t x → WbN N B t x → F x = some true) (hG : G W) :
  Calls P f args W fun e W' => ∃ v, e = .returned v ∧ s.post enc P fn false true false false W args v W' := by
 have hW' := hW
 obtain ⟨p, q, hA, hV, rfl, hfz, hnd⟩ := hW
 rw [hvars] at hV
 obtain ⟨rfl, rfl⟩ := trodVars_none hV
 obtain ⟨x, hx, hwf, hwb⟩ := argsOf HB t _ _ _ _ (fun u hu => (hread u hu).2) hp (fun j id v h1 h2 => hval j id v (by rw [← Array.getElem?_toList]; exact h1) (by rw [← Array.getElem?_toList]; exact h2)) hA
 refine (hs (fun _ => False) W args x true hG (fun _ h => h.elim) (hF x hwf (hwb hwt)) hx).mono fun e W' ⟨v, he, bel, hv⟩ => ⟨v, he, ?_⟩
 have hv : v = .bool true := repV_bool (by simpa only [resAV] using hv)
 subst hv
 have hlen : ds.length = fn.params.toList.length := by
  have : ∀ (ts : List TypeId) (vs : List Value) (ds : List (DataW H)) (ps : List MemPlace), DataW.TrodAll enc P W 0 (fun _ => true) true ts vs ds ps → ds.length = ts.length := by
   intro ts
   induction ts with
   | nil => intro vs ds ps h; obtain ⟨_, rfl, _⟩ := trodAll_nil h; rfl
   | cons t ts ih =>
    intro vs ds ps h
    obtain ⟨v, vs', d, ds', p, q, rfl, rfl, rfl, h1, h2⟩ := trodAll_cons h
    simp [ih _ _ _ h2]
  exact this _ _ _ _ hA
 refine ⟨ds, [], _, [], p, [], hW', ?_, ?_, ?_, bel.frame _, fun h => by cases h⟩
 ·rw [List.append_nil, hfn ds hlen, hres]
  exact trodAll_mk1 (shut_bool hrt _)
 ·rw [List.append_nil, hfn ds hlen]
  exact argsBack hl bel _ _ _ _ hread hA
 ·rw [List.append_nil, hfn ds hlen, hvars]
  rfl
end Go.PG
end
section
open Go Go.Proofs Go.Lib Go.RowKit
namespace InsB
theorem run_copy_cellsK {P : Program} (w : World) (dT sT ty elem : TypeId) (s b o dLen dCap : Nat) (a : Addr) (sLen sCap : Nat) (cs : List Value)
  (hu : P.underlying dT = some (.slice elem)) (hs : (P.info? elem).map (·.size) = some s) (hn : cs.length = Nat.min sLen dLen * s)
  (hsrc : ∀ j v, cs[j]? = some v → w.cell? (a.add j) = some v) (hc : ∀ j, j < cs.length → (w.cell? ⟨b, o + j, none⟩).isSome = true) (hf : ∀ j, j < cs.length → w.frozen? ⟨b, o + j, none⟩ = false) (h1 : ∀ v ∈ cs, v.oneCell' = true) :
  (Builtin.copy_ #[dT, sT] ty #[.slice (some ⟨b, o, none⟩) dLen dCap, .slice (some a) sLen sCap]).run P w = .ok (goInt (Nat.min sLen dLen)) (w.setCells b o cs) := by
 have hl := run_loadCells_list (P := P) w a cs hsrc
 have hst := run_storeCells_cells (P := P) b o cs 0 w (by simpa using hc) (by simpa using hf) h1
 cases hq : P.info? elem with
 | none => simp [hq] at hs
 | some i =>
  have hi : i.size = s := by simpa [hq] using hs
  simp [Builtin.copy_, run_underlying hu, Builtin.lenOf, Builtin.firstCells, Go.sizeOf, typeInfo, hq, hi, ← hn, hl, hst]
theorem overlaps_rows {P : Program} (w : World) (tS tR e : TypeId) (ht : P.underlying tS = some (.slice e)) (size : Nat) (hz : ∀ w, (Go.sizeOf e).run P w = .ok size w)
  (a b : Addr) (la ca lb cb : Nat) (hne : a.block ≠ b.block) (tA tB : TypeId) (kA kB : Nat)
  (hsa : w.shape? a.block = some (tA, kA)) (hkA : kA ≠ 0) (hsb : w.shape? b.block = some (tB, kB))
  (hfb : w.frozen? b = false) (hfe : w.frozen? { block := b.block, off := kB } = false) :
  (Extern.SlicesOverlaps.overlaps #[tS, tS] #[tR] #[.slice (some a) la ca, .slice (some b) lb cb]).run P w = .ok (.bool false) w := by
 have hnb : (a.block != b.block) = true := by simpa using hne
 have hnb' : (a.block == b.block) = false := by simpa using hne
 change Sem.run P (α := Value) (do
  let some t := (#[tS, tS] : Array TypeId)[0]? | stuck "slices.overlaps: no parameter types"
  let .slice elem ← underlying t | stuck "slices.overlaps: slice type expected"
  let size ← sizeOf elem
  match (some a : Option Addr), (some b : Option Addr) with
  | some a, some b =>
   if la = 0 ∨ lb = 0 ∨ size = 0 then pure (Value.bool false)
   else if a.block != b.block && (← frozen a) && (← frozen b) then unsupported .addressObserved
   else do
    if a.block != b.block then do
     noView a; noView b
     if ← mayBeOne a b then return Value.bool ((← choose (.extern "sameAddr.stringBytes" 2)) == 1)
    pure (Value.bool (a.block == b.block && a.off < b.off + lb * size && b.off < a.off + la * size))
  | _, _ => pure (Value.bool false)) w = _
 by_cases h0 : la = 0 ∨ lb = 0 ∨ size = 0
 ·simp [run_underlying ht, hz, h0]
 ·cases kA with
  | zero => exact absurd rfl hkA
  | succ kA =>
   cases hfa : w.frozen? a
   ·cases hfc : w.frozen? { block := a.block, off := kA + 1 } <;> simp [run_underlying ht, hz, h0, hnb, hnb', frozen, noView, viewAt, mayBeOne, stringish, shape, Sem.run, hsa, hsb, hfb, hfe, hfa, hfc]
   ·simp [run_underlying ht, hz, h0, hnb, hnb', frozen, noView, viewAt, mayBeOne, stringish, shape, Sem.run, hsa, hsb, hfb, hfe, hfa]
theorem tSL : Tryz.prog.underlying 22 = some (.slice 54) := by kernel_rfl
theorem t3 : Tryz.prog.underlying 3 = some (.int .i64) := by kernel_rfl
theorem f80 : Tryz.prog.funcs[80]? = some Tryz.f80 := by kernel_rfl
theorem f106 : Tryz.prog.funcs[106]? = some Tryz.f106 := by kernel_rfl
theorem mixed : Tryz.prog.follows .mixedOrders = true := by kernel_rfl
theorem iEL : ∃ i, Tryz.prog.info? 54 = some i ∧ i.zero.map Value.cells = some #[.string ⟨#[]⟩, .slice none 0 0] ∧ i.size = 2 ∧ i.bytes = 40 := by
 have h : (Tryz.prog.info? 54).map (fun i => (i.zero.map Value.cells, i.size, i.bytes)) = some (some #[.string ⟨#[]⟩, .slice none 0 0], 2, 40) := by kernel_rfl
 cases q : Tryz.prog.info? 54 with
 | none => rw [q] at h; cases h
 | some i =>
  rw [q] at h
  simp only [Option.map_some, Option.some.injEq, Prod.mk.injEq] at h
  exact ⟨i, rfl, h.1, h.2.1, h.2.2⟩
theorem zEL : ∀ w, (Go.sizeOf 54).run Tryz.prog w = .ok 2 w := by
 obtain ⟨i, h1, h2, h3, h4⟩ := iEL
 intro w
 simp [Go.sizeOf, typeInfo, h1, h3]
theorem hsz : (Tryz.prog.info? 54).map (·.size) = some 2 := by
 obtain ⟨i, h1, h2, h3, h4⟩ := iEL
 simp [h1, h3]
set_option maxHeartbeats 4000000 in
set_option maxRecDepth 100000 in
theorem shift (b off n c i vb voff m vc : Nat) (cs vs : List Value) (w : World) (hi : i < n) (hm : 0 < m) (hroom : n + m ≤ c) (hbig : (n + m) * 40 ≤ 140737488355328) (hvb : vb ≠ b)
  (hcl : cs.length = n * 2) (hvl : vs.length = m * 2)
  (hcs : ∀ j v, cs[j]? = some v → w.cell? ⟨b, off + j, none⟩ = some v) (hsp : ∀ j, j < (n + m) * 2 → (w.cell? ⟨b, off + j, none⟩).isSome = true) (hfz : ∀ j, j < (n + m) * 2 → w.frozen? ⟨b, off + j, none⟩ = false)
  (hvs : ∀ j v, vs[j]? = some v → w.cell? ⟨vb, voff + j, none⟩ = some v) (h1c : ∀ v ∈ cs, v.oneCell' = true) (h1v : ∀ v ∈ vs, v.oneCell' = true)
  (tA tB : TypeId) (kA kB : Nat) (hsa : w.shape? vb = some (tA, kA)) (hsb : w.shape? b = some (tB, kB)) (hkA : kA ≠ 0) (hfb : ∀ k, w.frozen? ⟨b, k, none⟩ = false) :
  Calls Tryz.prog 80 #[.slice (some ⟨b, off, none⟩) n c, .int .i64 i, .slice (some ⟨vb, voff, none⟩) m vc] w fun e w' =>
   e = .returned (.slice (some ⟨b, off, none⟩) (n + m) c) ∧ w' = (w.drew.setCells b (off + (i + m) * 2) (cs.drop (i * 2))).setCells b (off + i * 2) vs := by
 have tSL := tSL; have zEL := zEL; have t3 := t3
 have uSL := run_underlying tSL; have u3 := run_underlying t3
 have hz1 : ¬ ((m : Int) = 0) := by omega
 have hz2 : ¬ ((i : Int) = (n : Int)) := by omega
 have hov : ∀ lb cb, (callFunc 106 #[.slice (some ⟨vb, voff, none⟩) m vc, .slice (some ⟨b, off + (i + m) * 2, none⟩) lb cb]).run Tryz.prog w = .ok (.value (.bool false)) w := fun lb cb => by
  rw [run_callFunc_extern f106 (by kernel_rfl) (by kernel_rfl) (by kernel_rfl) (e := Extern.SlicesOverlaps.overlaps #[22, 22] #[4]) (by kernel_rfl),
   overlaps_rows w 22 4 54 tSL 2 zEL ⟨vb, voff, none⟩ ⟨b, off + (i + m) * 2, none⟩ m vc lb cb hvb tA tB kA kB hsa hkA hsb (hfb _) (hfb _)]
  rfl
 have hdl : (cs.drop (i * 2)).length = (n - i) * 2 := by rw [List.length_drop, hcl]; omega
 have mixed := mixed
 have hw1 : IntKind.i64.wrap ((i : Int) + (m : Int)) = (i : Int) + (m : Int) := by rw [IntKind.wrap_i64]; omega
 have hb1 : (0 : Int) ≤ (i : Int) + (m : Int) := by omega
 have hin : i ≤ n := by omega
 have htn : ((i : Int) + (m : Int)).toNat = i + m := by omega
 have hb2 : ¬ (c = i + m) := by omega
 have hb3 : (i : Int) ≤ (n : Int) + (m : Int) := by omega
 have hb4 : ¬ (c = i) := by omega
 have mn1 : Nat.min (n + m - i) (n + m - (i + m)) = n - i := by simp only [Nat.min_def]; split <;> omega
 have mn2 : Nat.min m (n + m - i) = m := by simp only [Nat.min_def]; split <;> omega
 have hcp1 : ∀ ty dc sc, (Builtin.copy_ #[22, 22] ty #[.slice (some ⟨b, off + (i + m) * 2, none⟩) (n + m - (i + m)) dc, .slice (some ⟨b, off + i * 2, none⟩) (n + m - i) sc]).run Tryz.prog w.drew = .ok (goInt (n - i : Nat)) (w.drew.setCells b (off + (i + m) * 2) (cs.drop (i * 2))) := fun ty dc sc => by
  have := run_copy_cellsK (P := Tryz.prog) w.drew 22 22 ty 54 2 b (off + (i + m) * 2) (n + m - (i + m)) dc ⟨b, off + i * 2, none⟩ (n + m - i) sc (cs.drop (i * 2)) tSL hsz (by rw [hdl, mn1])
   (fun j v hj => by rw [Addr.add_lit, Nat.add_assoc]; exact hcs (i * 2 + j) v (by rwa [List.getElem?_drop] at hj))
   (fun j hj => by rw [Nat.add_assoc]; exact hsp _ (by omega)) (fun j hj => by rw [Nat.add_assoc]; exact hfz _ (by omega)) (fun v hv => h1c v (List.mem_of_mem_drop hv))
  rw [mn1] at this
  exact this
 obtain ⟨W1, hW1⟩ : ∃ W1, W1 = w.drew.setCells b (off + (i + m) * 2) (cs.drop (i * 2)) := ⟨_, rfl⟩
 have hsp1 : ∀ k, k < (n + m) * 2 → (W1.cell? ⟨b, off + k, none⟩).isSome = true := fun k hk => by
  rw [hW1]
  exact isSome_setCells b _ _ _ (fun j hj => by rw [Nat.add_assoc]; exact hsp _ (by omega)) _ (hsp k hk)
 have hcp2 : ∀ (W : World), (∀ x, W.cell? x = W1.cell? x) → (∀ x, W.frozen? x = W1.frozen? x) → ∀ ty dc, (Builtin.copy_ #[22, 22] ty #[.slice (some ⟨b, off + i * 2, none⟩) (n + m - i) dc, .slice (some ⟨vb, voff, none⟩) m vc]).run Tryz.prog W = .ok (goInt m) (W.setCells b (off + i * 2) vs) := fun W hWc hWf ty dc => by
  have := run_copy_cellsK (P := Tryz.prog) W 22 22 ty 54 2 b (off + i * 2) (n + m - i) dc ⟨vb, voff, none⟩ m vc vs tSL hsz (by rw [hvl, mn2])
   (fun j v hj => by
    rw [Addr.add_lit, hWc, hW1, World.cell?_setCells_out b _ _ _ _ (fun h _ => absurd h hvb)]
    exact hvs j v hj)
   (fun j hj => by rw [hWc, Nat.add_assoc]; exact hsp1 _ (by omega)) (fun j hj => by rw [hWf, hW1, World.frozen?_setCells, Nat.add_assoc]; exact hfz _ (by omega)) h1v
  rw [mn2] at this
  exact this
 rw [← hW1] at hcp1
 go_enter Tryz.func80, Tryz.ntmps80
 go_wp2_with (simp only [hov])
 go_region_law_o (refine step_copy_runI rfl _ _ 22 22 rfl _ _ (by simp [Act.eval, Act.put]) (by simp [Act.eval, Act.put]) (hcp1 _ _ _) ?_)
 go_wp2_with (at_builtin; refine wpList_copy_runI _ rfl _ _ 22 22 rfl _ _ rfl rfl (hcp2 _ (fun _ => rfl) (fun _ => rfl) _ _) ?_)
 go_ret
 first | exact ⟨rfl, rfl⟩ | exact ⟨rfl, by rw [hW1]⟩
set_option maxHeartbeats 4000000 in
set_option maxRecDepth 100000 in
theorem end_room (b off n c vb voff m vc : Nat) (vs : List Value) (w : World) (hm : 0 < m) (hroom : n + m ≤ c) (hbig : (n + m) * 40 ≤ 140737488355328)
  (hvl : vs.length = m * 2) (hsp : ∀ j, j < m * 2 → (w.cell? ⟨b, off + n * 2 + j, none⟩).isSome = true) (hfz : ∀ j, j < m * 2 → w.frozen? ⟨b, off + n * 2 + j, none⟩ = false)
  (hvs : ∀ j v, vs[j]? = some v → w.cell? ⟨vb, voff + j, none⟩ = some v) (h1v : ∀ v ∈ vs, v.oneCell' = true) :
  Calls Tryz.prog 80 #[.slice (some ⟨b, off, none⟩) n c, .int .i64 n, .slice (some ⟨vb, voff, none⟩) m vc] w fun e w' =>
   e = .returned (.slice (some ⟨b, off, none⟩) (n + m) c) ∧ w' = w.setCells b (off + n * 2) vs := by
 have tSL := tSL; have zEL := zEL; have t3 := t3
 have uSL := run_underlying tSL; have u3 := run_underlying t3
 have mixed := mixed
 obtain ⟨i0, hi0, hz0, hzs, hzb⟩ := iEL
 have hz1 : ¬ ((m : Int) = 0) := by omega
 have hsrc : Src Tryz.prog i0.size 22 (.slice (some ⟨vb, voff, none⟩) m vc) m vs w := by
  rw [hzs]
  exact Src.ofSlice w tSL ⟨vb, voff, none⟩ m vc vs (by omega) (fun j u hj => by rw [Addr.add_lit]; exact hvs j u hj) h1v
 have hrun : ∀ ty, (Builtin.append_ #[22, 22] ty #[.slice (some ⟨b, off, none⟩) n c, .slice (some ⟨vb, voff, none⟩) m vc]).run Tryz.prog w = _ := fun ty =>
  run_append_room_src w 22 22 ty 54 i0 tSL hi0 b off n c _ m vs hsrc hroom (by rw [hzs, hvl]; exact hsp) (by rw [hzs, hvl]; exact hfz)
 rw [hzs] at hrun
 go_enter Tryz.func80, Tryz.ntmps80
 go_wp2_with (at_builtin; refine Lib.wpList_append_run _ rfl _ _ _ _ rfl _ _ rfl rfl _ _ (hrun _) ?_)
 go_ret
 exact ⟨rfl, rfl⟩
set_option maxHeartbeats 4000000 in
set_option maxRecDepth 100000 in
theorem end_grow (base : Option Addr) (n c vb voff m vc : Nat) (cs vs : List Value) (w : World) (hm : 0 < m) (hnc : n ≤ c) (hroom : c < n + m) (hbig : (n + m) * 40 ≤ 140737488355328)
  (hcl : cs.length = n * 2) (hvl : vs.length = m * 2) (hnil : base = none → n = 0)
  (hcs : ∀ a, base = some a → ∀ j v, cs[j]? = some v → w.cell? (a.add j) = some v)
  (hvs : ∀ j v, vs[j]? = some v → w.cell? ⟨vb, voff + j, none⟩ = some v) (h1v : ∀ v ∈ vs, v.oneCell' = true) :
  Calls Tryz.prog 80 #[.slice base n c, .int .i64 n, .slice (some ⟨vb, voff, none⟩) m vc] w fun e w' => ∃ Z : Array Value, Z.size = 2 ∧
   e = .returned (.slice (some ⟨w.heap.size, 0, none⟩) (n + m) (grownCap w (n + m) c 54)) ∧
   w' = w.drew.alloc (.cells ((cs ++ vs).toArray ++ Builtin.zeroCells Z (grownCap w (n + m) c 54 - (n + m))) 54) := by
 have tSL := tSL; have zEL := zEL; have t3 := t3
 have uSL := run_underlying tSL; have u3 := run_underlying t3
 have mixed := mixed
 obtain ⟨i0, hi0, hz0, hzs, hzb⟩ := iEL
 obtain ⟨z, hzz, hzc0⟩ : ∃ z, i0.zero = some z ∧ z.cells.size = 2 := by
  cases q : i0.zero with
  | none => rw [q] at hz0; cases hz0
  | some z =>
   rw [q] at hz0
   simp only [Option.map_some, Option.some.injEq] at hz0
   exact ⟨z, rfl, by rw [hz0]; rfl⟩
 have hz1 : ¬ ((m : Int) = 0) := by omega
 have hsrc : Src Tryz.prog i0.size 22 (.slice (some ⟨vb, voff, none⟩) m vc) m vs w := by
  rw [hzs]
  exact Src.ofSlice w tSL ⟨vb, voff, none⟩ m vc vs (by omega) (fun j u hj => by rw [Addr.add_lit]; exact hvs j u hj) h1v
 have hold : (Builtin.firstCells i0.size n (.slice base n c)).run Tryz.prog w.drew = .ok cs.toArray w.drew := by
  rw [hzs]
  cases base with
  | none =>
   have h0 := hnil rfl
   subst h0
   rw [show cs = [] from List.length_eq_zero_iff.1 (by omega)]
   exact run_firstCells_none w.drew 2 0 0 c
  | some a => exact run_firstCells_some w.drew 2 n a n c cs (by omega) (fun j v hj => hcs a rfl j v hj)
 have hrun0 : ∀ ty, (Builtin.append_ #[22, 22] ty #[.slice base n c, .slice (some ⟨vb, voff, none⟩) m vc]).run Tryz.prog w = _ := fun ty =>
  run_append_grow_src w 22 22 ty 54 i0 _ tSL hi0 hzz base n c cs hold _ m vs hsrc hroom (by omega) (by rw [hzb]; exact growslice_fits hroom hbig)
 obtain ⟨ZC, hzc, hrun⟩ : ∃ ZC : Array Value, ZC.size = 2 ∧ ∀ ty, (Builtin.append_ #[22, 22] ty #[.slice base n c, .slice (some ⟨vb, voff, none⟩) m vc]).run Tryz.prog w = .ok (.slice (some ⟨w.heap.size, 0, none⟩) (n + m) (grownCap w (n + m) c 54))
    (w.drew.alloc (.cells ((cs ++ vs).toArray ++ Builtin.zeroCells ZC (grownCap w (n + m) c 54 - (n + m))) 54)) := ⟨_, hzc0, hrun0⟩
 clear hrun0 hzz hzc0 z
 go_enter Tryz.func80, Tryz.ntmps80
 cases base with
 | none =>
  have h0 := hnil rfl
  subst h0
  go_wp2_with (at_builtin; refine Lib.wpList_append_run _ rfl _ _ _ _ rfl _ _ rfl rfl _ _ (hrun _) ?_)
  go_ret
  exact ⟨ZC, hzc, rfl, rfl⟩
 | some a =>
  obtain ⟨ab, ao, asp⟩ := a
  go_wp2_with (at_builtin; refine Lib.wpList_append_run _ rfl _ _ _ _ rfl _ _ rfl rfl _ _ (hrun _) ?_)
  all_goals (go_ret; exact ⟨ZC, hzc, rfl, rfl⟩)
set_option maxHeartbeats 4000000 in
set_option maxRecDepth 100000 in
theorem grow (b off n c i vb voff m vc : Nat) (cs vs : List Value) (w : World) (hi : i < n) (hm : 0 < m) (hnc : n ≤ c) (hroom : c < n + m) (hbig : (n + m) * 40 ≤ 140737488355328)
  (hcl : cs.length = n * 2) (hvl : vs.length = m * 2)
  (hcs : ∀ j v, cs[j]? = some v → w.cell? ⟨b, off + j, none⟩ = some v)
  (hvs : ∀ j v, vs[j]? = some v → w.cell? ⟨vb, voff + j, none⟩ = some v) (h1c : ∀ v ∈ cs, v.oneCell' = true) (h1v : ∀ v ∈ vs, v.oneCell' = true) :
  Calls Tryz.prog 80 #[.slice (some ⟨b, off, none⟩) n c, .int .i64 i, .slice (some ⟨vb, voff, none⟩) m vc] w fun e w' => ∃ Z : Array Value, Z.size = 2 ∧
   e = .returned (.slice (some ⟨w.heap.size, 0, none⟩) (n + m) (grownCap w (n + m) c 54)) ∧
   w' = (((w.alloc (.cells ((cs.take (i * 2)).toArray ++ Builtin.zeroCells Z (n + m - i) ++ Builtin.zeroCells Z (grownCap w (n + m) c 54 - (n + m))) 54)).drew.setCells w.heap.size (i * 2) vs).drew).setCells w.heap.size ((i + m) * 2) (cs.drop (i * 2)) := by
 have tSL := tSL; have zEL := zEL; have t3 := t3
 have uSL := run_underlying tSL; have u3 := run_underlying t3
 have mixed := mixed
 obtain ⟨i0, hi0, hz0, hzs, hzb⟩ := iEL
 obtain ⟨z, hzz, hzc0⟩ : ∃ z, i0.zero = some z ∧ z.cells.size = 2 := by
  cases q : i0.zero with
  | none => rw [q] at hz0; cases hz0
  | some z =>
   rw [q] at hz0
   simp only [Option.map_some, Option.some.injEq] at hz0
   exact ⟨z, rfl, by rw [hz0]; rfl⟩
 have hz1 : ¬ ((m : Int) = 0) := by omega
 have hz2 : ¬ ((i : Int) = (n : Int)) := by omega
 have hz3 : (c : Int) < (n : Int) + (m : Int) := by omega
 have hbw : b < w.heap.size := block_lt_of_cell (hcs 0 _ (List.getElem?_eq_getElem (by omega)))
 have hvw : vb < w.heap.size := block_lt_of_cell (hvs 0 _ (List.getElem?_eq_getElem (by omega)))
 have hkk : (n : Int) + (m : Int) - (i : Int) = ((n + m - i : Nat) : Int) := by omega
 have hik : i + (n + m - i) = n + m := by omega
 have hold : (Builtin.firstCells i0.size i (.slice (some ⟨b, off, none⟩) i c)).run Tryz.prog w.drew = .ok (cs.take (i * 2)).toArray w.drew := by
  rw [hzs]
  exact run_firstCells_some w.drew 2 i ⟨b, off, none⟩ i c (cs.take (i * 2)) (by rw [List.length_take]; omega) (fun j v hj => by
   rw [Addr.add_lit]
   rw [List.getElem?_take] at hj
   split at hj
   ·exact hcs j v hj
   ·cases hj)
 have hrz0 : ∀ ty, (Builtin.append_ #[22, 3] ty #[.slice (some ⟨b, off, none⟩) i c, .int .i64 ((n : Int) + (m : Int) - (i : Int))]).run Tryz.prog w =
   .ok (.slice (some ⟨w.heap.size, 0, none⟩) (n + m) (grownCap w (n + m) c 54)) (w.drew.alloc (.cells ((cs.take (i * 2)).toArray ++ Builtin.zeroCells z.cells (n + m - i) ++ Builtin.zeroCells z.cells (grownCap w (n + m) c 54 - (n + m))) 54)) := fun ty => by
  have h := Lib.run_append_grow_zeros w 22 3 ty 54 i0 _ .i64 .i64 tSL t3 hi0 hzz (some ⟨b, off, none⟩) i c (cs.take (i * 2)) hold (n + m - i) (by omega) (by omega) (by omega) (by omega) (by rw [hzb]; omega) (by rw [hzb, hik]; exact growslice_fits hroom hbig)
  rw [hik] at h
  rw [hkk]
  exact h
 obtain ⟨ZC, hzc, hrz⟩ : ∃ ZC : Array Value, ZC.size = 2 ∧ ∀ ty, (Builtin.append_ #[22, 3] ty #[.slice (some ⟨b, off, none⟩) i c, .int .i64 ((n : Int) + (m : Int) - (i : Int))]).run Tryz.prog w =
   .ok (.slice (some ⟨w.heap.size, 0, none⟩) (n + m) (grownCap w (n + m) c 54)) (w.drew.alloc (.cells ((cs.take (i * 2)).toArray ++ Builtin.zeroCells ZC (n + m - i) ++ Builtin.zeroCells ZC (grownCap w (n + m) c 54 - (n + m))) 54)) := ⟨_, hzc0, hrz0⟩
 clear hrz0 hzz hzc0 z
 refine Calls.mono (R := fun e w' => e = .returned (.slice (some ⟨w.heap.size, 0, none⟩) (n + m) (grownCap w (n + m) c 54)) ∧
   w' = (((w.alloc (.cells ((cs.take (i * 2)).toArray ++ Builtin.zeroCells ZC (n + m - i) ++ Builtin.zeroCells ZC (grownCap w (n + m) c 54 - (n + m))) 54)).drew.setCells w.heap.size (i * 2) vs).drew).setCells w.heap.size ((i + m) * 2) (cs.drop (i * 2))) ?_ fun e w' h => ⟨ZC, hzc, h⟩
 obtain ⟨G, hG⟩ : ∃ G, G = grownCap w (n + m) c 54 := ⟨_, rfl⟩
 obtain ⟨ROW, hROW⟩ : ∃ ROW : Array Value, ROW = (cs.take (i * 2)).toArray ++ Builtin.zeroCells ZC (n + m - i) ++ Builtin.zeroCells ZC (G - (n + m)) := ⟨_, rfl⟩
 rw [← hG] at hrz ⊢
 rw [← hROW] at hrz ⊢
 have hRl : (n + m) * 2 ≤ ROW.size := by
  rw [hROW]
  simp [Builtin.zeroCells, hzc]
  omega
 obtain ⟨W1, hW1⟩ : ∃ W1, W1 = w.drew.alloc (.cells ROW 54) := ⟨_, rfl⟩
 rw [← hW1] at hrz
 have hN : ∀ j, j < (n + m) * 2 → (W1.cell? ⟨w.heap.size, j, none⟩).isSome = true := fun j hj => by
  rw [hW1, World.cell?_alloc_at (w := w.drew) ROW _ w.heap.size j rfl, Array.getElem?_eq_getElem (by omega)]; rfl
 have hNf : ∀ j, W1.frozen? ⟨w.heap.size, j, none⟩ = false := fun j => by rw [hW1]; exact World.frozen?_alloc_at (w := w.drew) ROW _ w.heap.size j rfl
 have hOb : ∀ j v, w.cell? ⟨b, j, none⟩ = some v → W1.cell? ⟨b, j, none⟩ = some v := fun j v h => by rw [hW1, World.cell?_alloc_past (w := w.drew) _ b j hbw]; exact h
 have hOv : ∀ j v, w.cell? ⟨vb, j, none⟩ = some v → W1.cell? ⟨vb, j, none⟩ = some v := fun j v h => by rw [hW1, World.cell?_alloc_past (w := w.drew) _ vb j hvw]; exact h
 have mn1 : Nat.min m (n + m - i) = m := by simp only [Nat.min_def]; split <;> omega
 have mn2 : Nat.min (n - i) (n + m - (i + m)) = n - i := by simp only [Nat.min_def]; split <;> omega
 have hcpA : ∀ (W : World), (∀ x, W.cell? x = W1.cell? x) → (∀ x, W.frozen? x = W1.frozen? x) → ∀ ty dc, (Builtin.copy_ #[22, 22] ty #[.slice (some ⟨w.heap.size, i * 2, none⟩) (n + m - i) dc, .slice (some ⟨vb, voff, none⟩) m vc]).run Tryz.prog W = .ok (goInt m) (W.setCells w.heap.size (i * 2) vs) := fun W hWc hWf ty dc => by
  have := run_copy_cellsK (P := Tryz.prog) W 22 22 ty 54 2 w.heap.size (i * 2) (n + m - i) dc ⟨vb, voff, none⟩ m vc vs tSL hsz (by rw [hvl, mn1])
   (fun j v hj => by rw [Addr.add_lit, hWc]; exact hOv _ v (hvs j v hj))
   (fun j hj => by rw [hWc]; exact hN _ (by omega)) (fun j hj => by rw [hWf]; exact hNf _) h1v
  rw [mn1] at this
  exact this
 have hGn : n + m ≤ G := by rw [hG]; exact grownCap_ge w _ _ _
 have hG63 : G ≤ 9223372036854775807 := by
  have := grownCap_le_maxLen w (n + m) c 54 (by unfold maxLen; omega)
  rw [← hG] at this
  unfold maxLen at this
  omega
 have hGi : ¬ (G = i) := by omega
 have hGim : ¬ (G = i + m) := by omega
 have hci : ¬ (c = i) := by omega
 have hbN : b ≠ w.heap.size := by omega
 have hdl : (cs.drop (i * 2)).length = (n - i) * 2 := by rw [List.length_drop, hcl]; omega
 have hcpB : ∀ (W : World), (∀ x, W.cell? x = (W1.setCells w.heap.size (i * 2) vs).cell? x) → (∀ x, W.frozen? x = (W1.setCells w.heap.size (i * 2) vs).frozen? x) → ∀ ty dc sc, (Builtin.copy_ #[22, 22] ty #[.slice (some ⟨w.heap.size, (i + m) * 2, none⟩) (n + m - (i + m)) dc, .slice (some ⟨b, off + i * 2, none⟩) (n - i) sc]).run Tryz.prog W = .ok (goInt (n - i : Nat)) (W.setCells w.heap.size ((i + m) * 2) (cs.drop (i * 2))) := fun W hWc hWf ty dc sc => by
  have := run_copy_cellsK (P := Tryz.prog) W 22 22 ty 54 2 w.heap.size ((i + m) * 2) (n + m - (i + m)) dc ⟨b, off + i * 2, none⟩ (n - i) sc (cs.drop (i * 2)) tSL hsz (by rw [hdl, mn2])
   (fun j v hj => by
    rw [Addr.add_lit, hWc, World.cell?_setCells_out _ _ _ _ _ (fun h _ => absurd h hbN), Nat.add_assoc]
    exact hOb _ v (hcs (i * 2 + j) v (by rwa [List.getElem?_drop] at hj)))
   (fun j hj => by rw [hWc]; exact isSome_setCells _ _ _ _ (fun t ht => hN _ (by omega)) _ (hN _ (by omega)))
   (fun j hj => by rw [hWf, World.frozen?_setCells]; exact hNf _) (fun v hv => h1c v (List.mem_of_mem_drop hv))
  rw [mn2] at this
  exact this
 subst hW1
 have hE1 : ∀ x, ((w.alloc (.cells ROW 54)).drew).cell? x = (w.drew.alloc (.cells ROW 54)).cell? x := fun x => rfl
 have hE2 : ∀ x, ((w.alloc (.cells ROW 54)).drew).frozen? x = (w.drew.alloc (.cells ROW 54)).frozen? x := fun x => rfl
 have hF1 : ∀ x, (((w.alloc (.cells ROW 54)).drew.setCells w.heap.size (i * 2) vs).drew).cell? x = ((w.drew.alloc (.cells ROW 54)).setCells w.heap.size (i * 2) vs).cell? x := fun x => rfl
 have hF2 : ∀ x, (((w.alloc (.cells ROW 54)).drew.setCells w.heap.size (i * 2) vs).drew).frozen? x = ((w.drew.alloc (.cells ROW 54)).setCells w.heap.size (i * 2) vs).frozen? x := fun x => rfl
 have hw1 : IntKind.i64.wrap ((i : Int) + (m : Int)) = (i : Int) + (m : Int) := by rw [IntKind.wrap_i64]; omega
 have hb1 : (0 : Int) ≤ (i : Int) + (m : Int) := by omega
 have hin : i ≤ n := by omega
 have htn : ((i : Int) + (m : Int)).toNat = i + m := by omega
 have hb3 : (i : Int) ≤ (n : Int) := by omega
 clear hkk hik hold hROW hG hRl
 go_enter Tryz.func80, Tryz.ntmps80
 go_wp2_with (first
  | (at_builtin; refine Lib.wpList_append_run _ rfl _ _ _ _ rfl _ _ rfl rfl _ _ (hrz _) ?_)
  | (at_builtin; refine wpList_copy_runI _ rfl _ _ 22 22 rfl _ _ rfl rfl (hcpA _ hE1 hE2 _ _) ?_)
  | (at_builtin; refine wpList_copy_runI _ rfl _ _ 22 22 rfl _ _ rfl rfl (hcpB _ (fun _ => rfl) (fun _ => rfl) _ _ _) ?_))
 go_region_law_o (refine step_copy_runI rfl _ _ 22 22 rfl (.slice (some ⟨w.heap.size, (i + m) * 2, none⟩) (n + m - (i + m)) (G - (i + m))) (.slice (some ⟨b, off + i * 2, none⟩) (n - i) (c - i)) (by simp [Act.eval, Act.put]) (by simp [Act.eval, Act.put]) (hcpB _ hF1 hF2 3 (G - (i + m)) (c - i)) ?_)
 go_wp2
 go_ret
 exact ⟨rfl, rfl⟩
end InsB
end
section
open Go Go.PG Go.Proofs Go.RowKit
namespace InsB
theorem RowRep.takeN {Z : Nat → Prop} {w : World} {e : Ty} {xs : List e.D} {cs : List Value} (h : RowRep Z w e xs cs) (n : Nat) (hn : n ≤ xs.length) : RowRep Z w e (xs.take n) (cs.take (n * e.size)) := by
 have hl := h.1
 have hm := Nat.mul_le_mul_right e.size hn
 refine ⟨by rw [List.length_take, List.length_take, Nat.min_eq_left hn, Nat.min_eq_left (by omega)], fun i x hx => ?_⟩
 rw [List.getElem?_take] at hx
 split at hx
 case isFalse => cases hx
 rename_i hi
 obtain ⟨d, h1, h2⟩ := h.2 i x hx
 refine ⟨d, h1, fun j v hv => ?_⟩
 have hj : j < e.size := by rw [← h1.len]; exact (List.getElem?_eq_some_iff.1 hv).1
 have : (i + 1) * e.size ≤ n * e.size := Nat.mul_le_mul_right _ hi
 rw [Nat.add_mul] at this
 rw [List.getElem?_take, if_pos (by omega)]
 exact h2 j v hv
theorem RowRep.dropN {Z : Nat → Prop} {w : World} {e : Ty} {xs : List e.D} {cs : List Value} (h : RowRep Z w e xs cs) (n : Nat) : RowRep Z w e (xs.drop n) (cs.drop (n * e.size)) := by
 have hl := h.1
 refine ⟨by rw [List.length_drop, List.length_drop, hl, Nat.sub_mul], fun i x hx => ?_⟩
 rw [List.getElem?_drop] at hx
 obtain ⟨d, h1, h2⟩ := h.2 (n + i) x hx
 refine ⟨d, h1, fun j v hv => ?_⟩
 rw [List.getElem?_drop, ← Nat.add_assoc, ← Nat.add_mul]
 exact h2 j v hv
theorem rows_of {Z : Nat → Prop} {w : World} {e : Ty} (hpos : 0 < e.size) {xs : List e.D} {b o : Nat} {cells : Array Value} {el : TypeId} {fz : Nat × Nat} (hh : w.heap[b]? = some (.cells cells el fz)) (hfit : o + xs.length * e.size ≤ cells.size)
  (hx : ∀ i x, xs[i]? = some x → ∃ d, RepD Z w e x d ∧ Mem w b (o + i * e.size) d) :
  RowRep Z w e xs ((cells.toList.drop o).take (xs.length * e.size)) ∧ ∀ j v, ((cells.toList.drop o).take (xs.length * e.size))[j]? = some v → w.cell? ⟨b, o + j, none⟩ = some v := by
 have hcell : ∀ k, w.cell? ⟨b, k, none⟩ = cells[k]? := fun k => by simp [World.cell?, hh]
 have hcl : cells.toList.length = cells.size := Array.length_toList
 refine ⟨⟨by rw [List.length_take, List.length_drop, hcl]; omega, fun i x hi => ?_⟩, fun j v hv => ?_⟩
 ·obtain ⟨d, h1, h2⟩ := hx i x hi
  refine ⟨d, h1, fun j v hv => ?_⟩
  have hj : j < e.size := by rw [← h1.len]; exact (List.getElem?_eq_some_iff.1 hv).1
  have hil := (List.getElem?_eq_some_iff.1 hi).1
  have : (i + 1) * e.size ≤ xs.length * e.size := Nat.mul_le_mul_right _ hil
  rw [Nat.add_mul] at this
  have h3 := h2 j v hv
  rw [hcell] at h3
  rw [List.getElem?_take, if_pos (by omega), List.getElem?_drop, Array.getElem?_toList, ← Nat.add_assoc]
  exact h3
 ·rw [List.getElem?_take] at hv
  split at hv
  case isFalse => cases hv
  rw [List.getElem?_drop, Array.getElem?_toList] at hv
  rw [hcell]
  exact hv
theorem sets (b : Nat) : ∀ (vs : List Value) (o : Nat) (w : World), (w.setCells b o vs).os = w.os ∧ (w.setCells b o vs).tape = w.tape ∧ (w.setCells b o vs).output = w.output ∧ (w.setCells b o vs).heap.size = w.heap.size ∧
  (∀ k, k ≠ b → (w.setCells b o vs).heap[k]? = w.heap[k]?) ∧ ∀ c el fz, w.heap[b]? = some (.cells c el fz) → ∃ c', (w.setCells b o vs).heap[b]? = some (.cells c' el fz) ∧ c'.size = c.size := by
 intro vs
 induction vs with
 | nil => intro o w; exact ⟨rfl, rfl, rfl, rfl, fun _ _ => rfl, fun c el fz h => ⟨c, h, rfl⟩⟩
 | cons v vs ih =>
  intro o w
  obtain ⟨h1, h2, h3, h4, h5, h6⟩ := ih (o + 1) (w.setCell ⟨b, o, none⟩ v)
  refine ⟨h1, h2, h3, h4.trans (by simp [World.setCell]), fun k hk => (h5 k hk).trans ?_, fun c el fz h => ?_⟩
  ·simp [World.setCell, Array.getElem?_modify, Ne.symm hk]
  ·obtain ⟨c', q1, q2⟩ := h6 (c.setIfInBounds o v) el fz (by simp [World.setCell, Array.getElem?_modify, h])
   exact ⟨c', q1, by rw [q2]; simp⟩
theorem mem_of_row {Z : Nat → Prop} {w w' : World} {e : Ty} {xs : List e.D} {cs : List Value} (h : RowRep Z w e xs cs) {b o : Nat} (hc : ∀ k v, cs[k]? = some v → w'.cell? ⟨b, o + k, none⟩ = some v) :
  ∀ i x, xs[i]? = some x → ∃ d, RepD Z w e x d ∧ Mem w' b (o + i * e.size) d := by
 intro i x hx
 obtain ⟨d, h1, h2⟩ := h.2 i x hx
 exact ⟨d, h1, fun j v hv => by rw [Nat.add_assoc]; exact hc _ v (h2 j v hv)⟩
theorem ins_ok {G : World → Prop} {e : Ty} (he : e.size = 2) : InsOk Tryz.prog G 80 e 40 := by
 intro Z w A cap xs ys n vb vo vc _ hxc hn0 hnl hyl hbytes hxs hyc hys
 obtain ⟨i, rfl⟩ : ∃ i : Nat, n = i := ⟨n.toNat, by omega⟩
 have hin : i ≤ xs.length := by omega
 have hpos : 0 < e.size := by omega
 have hins : PG.P.insAt xs (i : Int) ys = xs.take i ++ ys ++ xs.drop i := rfl
 have hlen : (PG.P.insAt xs (i : Int) ys).length = xs.length + ys.length := by
  rw [hins]; simp [List.length_take, List.length_drop]; omega
 rw [hlen]
 obtain ⟨vcs, vel, fz, hvb, hvfit⟩ : ∃ vcs vel fz, w.heap[vb]? = some (.cells vcs vel fz) ∧ vo + ys.length * e.size ≤ vcs.size := by
  obtain ⟨d, h1, h2⟩ := hys (ys.length - 1) _ (List.getElem?_eq_getElem (by omega))
  have hd := h1.len
  have hc := h2 (e.size - 1) _ (List.getElem?_eq_getElem (by omega))
  unfold World.cell? at hc
  split at hc
  case h_2 => cases hc
  rename_i vcs vel fz hq
  simp only [Option.isSome_none, Bool.false_eq_true, if_false] at hc
  have hlt := (Array.getElem?_eq_some_iff.1 hc).1
  refine ⟨vcs, vel, fz, hq, ?_⟩
  have hm : ys.length * e.size = (ys.length - 1) * e.size + e.size := by
   obtain ⟨k, hk⟩ : ∃ k, ys.length = k + 1 := ⟨ys.length - 1, by omega⟩
   rw [hk, Nat.add_sub_cancel, Nat.add_mul, Nat.one_mul]
  omega
 obtain ⟨rv, cv⟩ := rows_of hpos hvb (by omega) hys
 generalize hVS : (vcs.toList.drop vo).take (ys.length * e.size) = VS at rv cv
 have hVl : VS.length = ys.length * 2 := by rw [rv.1, he]
 have h1v : ∀ v ∈ VS, v.oneCell' = true := rowrep_one hpos rv
 have hbig : (xs.length + ys.length) * 40 ≤ 140737488355328 := by omega
 have hvsz : 0 < vcs.size := by
  have : 1 * e.size ≤ ys.length * e.size := Nat.mul_le_mul_right _ hyl
  omega
 have hVc : RowRep Z w e ys VS := rv
 -- a new row
 have newrow : ∀ (w' : World) (G0 : Nat) (cs' : Array Value) (el' : TypeId), xs.length + ys.length ≤ G0 → w'.heap[w.heap.size]? = some (.cells cs' el' (0, 0)) → G0 * e.size ≤ cs'.size →
   (∀ j x, (xs.take i ++ ys ++ xs.drop i)[j]? = some x → ∃ d, RepD Z w e x d ∧ Mem w' w.heap.size (0 + j * e.size) d) → (∀ k, k < w.heap.size → w'.heap[k]? = w.heap[k]?) → w'.os = w.os ∧ w'.tape = w.tape ∧ w'.output = w.output ∧ w.heap.size ≤ w'.heap.size →
   ∃ b' o' cap' cs' el', Ending.returned (.slice (some ⟨w.heap.size, 0, none⟩) (xs.length + ys.length) G0) = .returned (.slice (some ⟨b', o', none⟩) (xs.length + ys.length) cap') ∧ xs.length + ys.length ≤ cap' ∧
    w'.heap[b']? = some (.cells cs' el' (0, 0)) ∧ o' + cap' * e.size ≤ cs'.size ∧ (∀ i_1 x, (PG.P.insAt xs (i : Int) ys)[i_1]? = some x → ∃ d, RepD Z w e x d ∧ Mem w' b' (o' + i_1 * e.size) d) ∧
    (w.heap.size ≤ b' ∨ cap ≠ 0 ∧ ∃ o, A = some ⟨b', o, none⟩) ∧ (∀ k, k < w.heap.size → (cap ≠ 0 → ∀ o, A ≠ some ⟨k, o, none⟩) → w'.heap[k]? = w.heap[k]?) ∧
    w'.os = w.os ∧ w'.tape = w.tape ∧ w'.output = w.output ∧ w.heap.size ≤ w'.heap.size := by
  intro w' G0 cs' el' h1 h2 h3 h4 h5 h6
  exact ⟨w.heap.size, 0, G0, cs', el', rfl, h1, h2, by omega, h4, .inl (Nat.le_refl _), fun k hk _ => h5 k hk, h6⟩
 -- at the end, no room
 have endGrow : ∀ (base : Option Addr) (CS : List Value), A = base → i = xs.length → cap < xs.length + ys.length → RowRep Z w e xs CS → (base = none → xs.length = 0) → (∀ a, base = some a → ∀ j v, CS[j]? = some v → w.cell? (a.add j) = some v) →
   Calls Tryz.prog 80 #[.slice A xs.length cap, .int .i64 i, .slice (some ⟨vb, vo, none⟩) ys.length vc] w fun e' w' => ∃ b' o' cap' cs' el', e' = .returned (.slice (some ⟨b', o', none⟩) (xs.length + ys.length) cap') ∧ xs.length + ys.length ≤ cap' ∧
    w'.heap[b']? = some (.cells cs' el' (0, 0)) ∧ o' + cap' * e.size ≤ cs'.size ∧ (∀ i_1 x, (PG.P.insAt xs (i : Int) ys)[i_1]? = some x → ∃ d, RepD Z w e x d ∧ Mem w' b' (o' + i_1 * e.size) d) ∧
    (w.heap.size ≤ b' ∨ cap ≠ 0 ∧ ∃ o, A = some ⟨b', o, none⟩) ∧ (∀ k, k < w.heap.size → (cap ≠ 0 → ∀ o, A ≠ some ⟨k, o, none⟩) → w'.heap[k]? = w.heap[k]?) ∧
    w'.os = w.os ∧ w'.tape = w.tape ∧ w'.output = w.output ∧ w.heap.size ≤ w'.heap.size := by
  intro base CS hA hi hroom hrow hnil hcs
  subst hA
  subst hi
  refine (end_grow A xs.length cap vb vo ys.length vc CS VS w hyl hxc hroom hbig (by rw [hrow.1, he]) hVl hnil hcs cv h1v).mono fun e' w' ⟨ZZ, hZ, h1, h2⟩ => ?_
  subst h1; subst h2
  refine newrow _ _ ((CS ++ VS).toArray ++ Builtin.zeroCells ZZ (grownCap w (xs.length + ys.length) cap 54 - (xs.length + ys.length))) 54 (grownCap_ge _ _ _ _) (alloc_get w.drew _) ?_ ?_ (fun k hk => alloc_old w.drew _ k hk) ⟨rfl, rfl, rfl, by rw [alloc_size]; exact Nat.le_succ _⟩
  ·have hge := grownCap_ge w (xs.length + ys.length) cap 54
   simp only [Array.size_append, List.size_toArray, List.length_append, hrow.1, hVl, zeroCells_len, hZ, he]
   omega
  ·rw [List.take_length, List.drop_length, List.append_nil]
   refine mem_of_row (hrow.append hVc) fun k v hv => ?_
   have hg : (w.drew.alloc (.cells ((CS ++ VS).toArray ++ Builtin.zeroCells ZZ (grownCap w (xs.length + ys.length) cap 54 - (xs.length + ys.length))) 54 (0, 0))).heap[w.heap.size]? = _ := alloc_get w.drew _
   have hk := (List.getElem?_eq_some_iff.1 hv).1
   simp only [World.cell?, hg, Option.isSome_none, Bool.false_eq_true, if_false, Nat.zero_add]
   rw [Array.getElem?_append_left (by simpa using hk)]
   simpa using hv
 rcases hxs with rfl | ⟨b, o, cells, el, rfl, hbv, hb, hfit, hxs⟩
 ·have hx0 : xs = [] := List.length_eq_zero_iff.1 (by omega)
  have hi0 : i = 0 := by rw [hx0] at hin; simpa using hin
  subst hx0; subst hi0
  exact endGrow A [] rfl rfl (by simpa using hyl) ⟨by simp, fun i x hx => by simp at hx⟩ (fun _ => rfl) (fun a _ j v hj => by simp at hj)
 have hmulx : xs.length * e.size ≤ cap * e.size := Nat.mul_le_mul_right _ hxc
 obtain ⟨rx, cx'⟩ := rows_of hpos hb (by omega) hxs
 generalize hCS : (cells.toList.drop o).take (xs.length * e.size) = CS at rx cx'
 have hCl : CS.length = xs.length * 2 := by rw [rx.1, he]
 have h1c : ∀ v ∈ CS, v.oneCell' = true := rowrep_one hpos rx
 have hcell : ∀ k, w.cell? ⟨b, k, none⟩ = cells[k]? := fun k => by simp [World.cell?, hb]
 have fzb : ∀ k, w.frozen? ⟨b, k, none⟩ = false := fun k => by simp [World.frozen?, hb]
 have rtake : RowRep Z w e (xs.take i) (CS.take (i * 2)) := by have := RowRep.takeN rx i hin; rwa [he] at this
 have rdrop : RowRep Z w e (xs.drop i) (CS.drop (i * 2)) := by have := RowRep.dropN rx i; rwa [he] at this
 have rall := (rtake.append hVc).append rdrop
 have hdrop : (CS.drop (i * 2)).length = (xs.length - i) * 2 := by rw [List.length_drop, hCl]; omega
 have htake : (CS.take (i * 2)).length = i * 2 := by rw [List.length_take, hCl]; omega
 by_cases hroom : xs.length + ys.length ≤ cap
 ·have hmr : (xs.length + ys.length) * e.size ≤ cap * e.size := Nat.mul_le_mul_right _ hroom
  rw [he] at hmr hfit
  have some_ : ∀ k, k < (xs.length + ys.length) * 2 → (w.cell? ⟨b, o + k, none⟩).isSome = true := fun k hk => by
   rw [hcell, Array.getElem?_eq_getElem (by omega)]; rfl
  have hc0 : cap ≠ 0 := by omega
  rcases Nat.lt_or_ge i xs.length with hi | hi
  ·refine (shift b o xs.length cap i vb vo ys.length vc CS VS w hi hyl hroom hbig (Ne.symm hbv) hCl hVl cx' some_ (fun k _ => fzb _) cv h1c h1v vel el vcs.size cells.size (by simp [World.shape?, hvb]) (by simp [World.shape?, hb]) (by omega) (fun k => fzb k)).mono fun e' w' ⟨h1, h2⟩ => ?_
   subst h1; subst h2
   obtain ⟨p1, p2, p3, p4, p5, p6⟩ := sets b (CS.drop (i * 2)) (o + (i + ys.length) * 2) w.drew
   obtain ⟨q1, q2, q3, q4, q5, q6⟩ := sets b VS (o + i * 2) (w.drew.setCells b (o + (i + ys.length) * 2) (CS.drop (i * 2)))
   obtain ⟨c1, r1, r2⟩ := p6 cells el (0, 0) hb
   obtain ⟨c2, r3, r4⟩ := q6 c1 el (0, 0) r1
   have s1 : ∀ k, k < (xs.length + ys.length) * 2 → ((w.drew.setCells b (o + (i + ys.length) * 2) (CS.drop (i * 2))).cell? ⟨b, o + k, none⟩).isSome = true := fun k hk => by
    simp only [World.cell?, r1, Option.isSome_none, Bool.false_eq_true, if_false]
    rw [Array.getElem?_eq_getElem (by omega)]; rfl
   refine ⟨b, o, cap, c2, el, rfl, hroom, r3, by rw [r4, r2, he]; omega, ?_, .inr ⟨hc0, o, rfl⟩, fun k hk hA => (q5 k fun z => hA hc0 o (by rw [z])).trans (p5 k fun z => hA hc0 o (by rw [z])), q1.trans p1, q2.trans p2, q3.trans p3, by rw [q4, p4]; exact Nat.le_refl _⟩
   refine mem_of_row rall fun k v hv => ?_
   rcases Nat.lt_or_ge k (i * 2) with z1 | z1
   ·rw [List.append_assoc, List.getElem?_append_left (by omega), List.getElem?_take, if_pos z1] at hv
    rw [World.cell?_setCells_out _ _ _ _ _ (fun _ _ => .inl (by show o + k < o + i * 2; omega)), World.cell?_setCells_out _ _ _ _ _ (fun _ _ => .inl (by show o + k < o + (i + ys.length) * 2; omega))]
    exact cx' k v hv
   ·rw [List.append_assoc, List.getElem?_append_right (by omega), htake] at hv
    rcases Nat.lt_or_ge k ((i + ys.length) * 2) with z2 | z2
    ·rw [List.getElem?_append_left (by omega)] at hv
     obtain ⟨hlt, hv⟩ := List.getElem?_eq_some_iff.1 hv
     have := World.cell?_setCells_in b VS (o + i * 2) (w.drew.setCells b (o + (i + ys.length) * 2) (CS.drop (i * 2))) (fun j hj => by rw [Nat.add_assoc]; exact s1 _ (by omega)) (k - i * 2) hlt
     rw [show o + i * 2 + (k - i * 2) = o + k by omega, hv] at this
     exact this
    ·rw [List.getElem?_append_right (by omega), hVl] at hv
     obtain ⟨hlt, hv⟩ := List.getElem?_eq_some_iff.1 hv
     rw [World.cell?_setCells_out _ _ _ _ _ (fun _ _ => .inr (by show o + i * 2 + VS.length ≤ o + k; omega))]
     have := World.cell?_setCells_in b (CS.drop (i * 2)) (o + (i + ys.length) * 2) w.drew (fun j hj => by rw [Nat.add_assoc]; exact some_ _ (by omega)) (k - i * 2 - ys.length * 2) hlt
     rw [show o + (i + ys.length) * 2 + (k - i * 2 - ys.length * 2) = o + k by omega, hv] at this
     exact this
  ·have hi : i = xs.length := by omega
   subst hi
   refine (end_room b o xs.length cap vb vo ys.length vc VS w hyl hroom hbig hVl (fun j hj => by rw [Nat.add_assoc]; exact some_ _ (by omega)) (fun k _ => fzb _) cv h1v).mono fun e' w' ⟨h1, h2⟩ => ?_
   subst h1; subst h2
   obtain ⟨q1, q2, q3, q4, q5, q6⟩ := sets b VS (o + xs.length * 2) w
   obtain ⟨c2, r3, r4⟩ := q6 cells el (0, 0) hb
   refine ⟨b, o, cap, c2, el, rfl, hroom, r3, by rw [r4, he]; omega, ?_, .inr ⟨hc0, o, rfl⟩, fun k hk hA => q5 k fun z => hA hc0 o (by rw [z]), q1, q2, q3, by rw [q4]; exact Nat.le_refl _⟩
   refine mem_of_row rall fun k v hv => ?_
   rcases Nat.lt_or_ge k (xs.length * 2) with z1 | z1
   ·rw [List.append_assoc, List.getElem?_append_left (by omega), List.getElem?_take, if_pos z1] at hv
    rw [World.cell?_setCells_out _ _ _ _ _ (fun _ _ => .inl (by show o + k < o + xs.length * 2; omega))]
    exact cx' k v hv
   ·rw [List.append_assoc, List.getElem?_append_right (by omega), htake] at hv
    have hlt := (List.getElem?_eq_some_iff.1 hv).1
    rw [List.length_append, hdrop, Nat.sub_self, Nat.zero_mul, Nat.add_zero] at hlt
    rw [List.getElem?_append_left hlt] at hv
    obtain ⟨hlt, hv⟩ := List.getElem?_eq_some_iff.1 hv
    have := World.cell?_setCells_in b VS (o + xs.length * 2) w (fun j hj => by rw [Nat.add_assoc]; exact some_ _ (by omega)) (k - xs.length * 2) hlt
    rw [show o + xs.length * 2 + (k - xs.length * 2) = o + k by omega, hv] at this
    exact this
 ·have hroom : cap < xs.length + ys.length := by omega
  rcases Nat.lt_or_ge i xs.length with hi | hi
  ·refine (grow b o xs.length cap i vb vo ys.length vc CS VS w hi hyl hxc hroom hbig hCl hVl cx' cv h1c h1v).mono fun e' w' ⟨ZZ, hZ, h1, h2⟩ => ?_
   subst h1
   have hge := grownCap_ge w (xs.length + ys.length) cap 54
   generalize grownCap w (xs.length + ys.length) cap 54 = GC at hge h2 ⊢
   obtain ⟨ROW, hROW⟩ : ∃ ROW : Array Value, ROW = (CS.take (i * 2)).toArray ++ Builtin.zeroCells ZZ (xs.length + ys.length - i) ++ Builtin.zeroCells ZZ (GC - (xs.length + ys.length)) := ⟨_, rfl⟩
   rw [← hROW] at h2
   have hRl : ROW.size = GC * 2 := by
    rw [hROW]
    simp only [Array.size_append, List.size_toArray, htake, zeroCells_len, hZ]
    omega
   have hRt : ∀ k, k < i * 2 → ROW[k]? = CS[k]? := fun k hk => by
    rw [hROW, Array.append_assoc, Array.getElem?_append_left (by simpa [htake] using hk)]
    simp [List.getElem?_take, hk]
   generalize hW0 : (w.alloc (.cells ROW 54 (0, 0))).drew = W0 at h2
   have g0 : W0.heap[w.heap.size]? = some (.cells ROW 54 (0, 0)) := by rw [← hW0]; exact alloc_get w _
   have g1 : ∀ k, k < w.heap.size → W0.heap[k]? = w.heap[k]? := fun k hk => by rw [← hW0]; exact alloc_old w _ k hk
   have g2 : W0.os = w.os ∧ W0.tape = w.tape ∧ W0.output = w.output ∧ W0.heap.size = w.heap.size + 1 := by rw [← hW0]; exact ⟨rfl, rfl, rfl, alloc_size w _⟩
   obtain ⟨p1, p2, p3, p4, p5, p6⟩ := sets w.heap.size VS (i * 2) W0
   generalize hW1 : (W0.setCells w.heap.size (i * 2) VS) = W1 at h2 p1 p2 p3 p4 p5 p6
   obtain ⟨q1, q2, q3, q4, q5, q6⟩ := sets w.heap.size (CS.drop (i * 2)) ((i + ys.length) * 2) W1.drew
   obtain ⟨c1, r1, r2⟩ := p6 ROW 54 (0, 0) g0
   obtain ⟨c2, r3, r4⟩ := q6 c1 54 (0, 0) r1
   subst h2
   refine newrow _ GC c2 54 hge r3 (by rw [r4, r2, hRl, he]; exact Nat.le_refl _) ?_ (fun k hk => (q5 k (by omega)).trans ((p5 k (by omega)).trans (g1 k hk)))
    ⟨q1.trans (p1.trans g2.1), q2.trans (p2.trans g2.2.1), q3.trans (p3.trans g2.2.2.1), by rw [q4]; show w.heap.size ≤ W1.heap.size; rw [p4, g2.2.2.2]; exact Nat.le_succ _⟩
   refine mem_of_row rall fun k v hv => ?_
   have s0 : ∀ k, k < GC * 2 → (W0.cell? ⟨w.heap.size, k, none⟩).isSome = true := fun k hk => by
    simp only [World.cell?, g0, Option.isSome_none, Bool.false_eq_true, if_false]
    rw [Array.getElem?_eq_getElem (by omega)]; rfl
   have s1 : ∀ k, k < GC * 2 → (W1.drew.cell? ⟨w.heap.size, k, none⟩).isSome = true := fun k hk => by
    have r1' : W1.drew.heap[w.heap.size]? = some (.cells c1 54 (0, 0)) := r1
    simp only [World.cell?, r1', Option.isSome_none, Bool.false_eq_true, if_false]
    rw [Array.getElem?_eq_getElem (by omega)]; rfl
   rw [Nat.zero_add]
   rcases Nat.lt_or_ge k (i * 2) with z1 | z1
   ·rw [List.append_assoc, List.getElem?_append_left (by omega), List.getElem?_take, if_pos z1] at hv
    rw [World.cell?_setCells_out _ _ _ _ _ (fun _ _ => .inl (by show k < (i + ys.length) * 2; omega))]
    show W1.cell? _ = _
    rw [← hW1, World.cell?_setCells_out _ _ _ _ _ (fun _ _ => .inl z1)]
    simp only [World.cell?, g0, Option.isSome_none, Bool.false_eq_true, if_false]
    rw [hRt k z1]
    exact hv
   ·rw [List.append_assoc, List.getElem?_append_right (by omega), htake] at hv
    rcases Nat.lt_or_ge k ((i + ys.length) * 2) with z2 | z2
    ·rw [List.getElem?_append_left (by omega)] at hv
     obtain ⟨hlt, hv⟩ := List.getElem?_eq_some_iff.1 hv
     rw [World.cell?_setCells_out _ _ _ _ _ (fun _ _ => .inl z2)]
     show W1.cell? _ = _
     have := World.cell?_setCells_in w.heap.size VS (i * 2) W0 (fun j hj => s0 _ (by omega)) (k - i * 2) hlt
     rw [show i * 2 + (k - i * 2) = k by omega, hv, hW1] at this
     exact this
    ·rw [List.getElem?_append_right (by omega), hVl] at hv
     obtain ⟨hlt, hv⟩ := List.getElem?_eq_some_iff.1 hv
     have := World.cell?_setCells_in w.heap.size (CS.drop (i * 2)) ((i + ys.length) * 2) W1.drew (fun j hj => s1 _ (by omega)) (k - i * 2 - ys.length * 2) hlt
     rw [show (i + ys.length) * 2 + (k - i * 2 - ys.length * 2) = k by omega, hv] at this
     exact this
  ·have hi : i = xs.length := by omega
   exact endGrow _ CS rfl hi hroom rx (fun z => by cases z) (fun a ha j v hj => by injection ha with ha; subst ha; rw [Addr.add_lit]; exact cx' j v hj)
end InsB
end
section
open Go Go.Proofs Go.Lib Go.RowKit
namespace InsL
open InsB (run_copy_cellsK overlaps_rows)
theorem tSL : Tryz.prog.underlying 23 = some (.slice 46) := by kernel_rfl
theorem t3 : Tryz.prog.underlying 3 = some (.int .i64) := by kernel_rfl
theorem f88 : Tryz.prog.funcs[88]? = some Tryz.f88 := by kernel_rfl
theorem f115 : Tryz.prog.funcs[115]? = some Tryz.f115 := by kernel_rfl
theorem mixed : Tryz.prog.follows .mixedOrders = true := by kernel_rfl
theorem iEL : ∃ i, Tryz.prog.info? 46 = some i ∧ i.zero.map Value.cells = some #[.int .i64 0, .int .i64 0, .slice none 0 0, .slice none 0 0] ∧ i.size = 4 ∧ i.bytes = 64 := by
 have h : (Tryz.prog.info? 46).map (fun i => (i.zero.map Value.cells, i.size, i.bytes)) = some (some #[.int .i64 0, .int .i64 0, .slice none 0 0, .slice none 0 0], 4, 64) := by kernel_rfl
 cases q : Tryz.prog.info? 46 with
 | none => rw [q] at h; cases h
 | some i =>
  rw [q] at h
  simp only [Option.map_some, Option.some.injEq, Prod.mk.injEq] at h
  exact ⟨i, rfl, h.1, h.2.1, h.2.2⟩
theorem zEL : ∀ w, (Go.sizeOf 46).run Tryz.prog w = .ok 4 w := by
 obtain ⟨i, h1, h2, h3, h4⟩ := iEL
 intro w
 simp [Go.sizeOf, typeInfo, h1, h3]
theorem hsz : (Tryz.prog.info? 46).map (·.size) = some 4 := by
 obtain ⟨i, h1, h2, h3, h4⟩ := iEL
 simp [h1, h3]
set_option maxHeartbeats 4000000 in
set_option maxRecDepth 100000 in
theorem shift (b off n c i vb voff m vc : Nat) (cs vs : List Value) (w : World) (hi : i < n) (hm : 0 < m) (hroom : n + m ≤ c) (hbig : (n + m) * 64 ≤ 140737488355328) (hvb : vb ≠ b)
  (hcl : cs.length = n * 4) (hvl : vs.length = m * 4)
  (hcs : ∀ j v, cs[j]? = some v → w.cell? ⟨b, off + j, none⟩ = some v) (hsp : ∀ j, j < (n + m) * 4 → (w.cell? ⟨b, off + j, none⟩).isSome = true) (hfz : ∀ j, j < (n + m) * 4 → w.frozen? ⟨b, off + j, none⟩ = false)
  (hvs : ∀ j v, vs[j]? = some v → w.cell? ⟨vb, voff + j, none⟩ = some v) (h1c : ∀ v ∈ cs, v.oneCell' = true) (h1v : ∀ v ∈ vs, v.oneCell' = true)
  (tA tB : TypeId) (kA kB : Nat) (hsa : w.shape? vb = some (tA, kA)) (hsb : w.shape? b = some (tB, kB)) (hkA : kA ≠ 0) (hfb : ∀ k, w.frozen? ⟨b, k, none⟩ = false) :
  Calls Tryz.prog 88 #[.slice (some ⟨b, off, none⟩) n c, .int .i64 i, .slice (some ⟨vb, voff, none⟩) m vc] w fun e w' =>
   e = .returned (.slice (some ⟨b, off, none⟩) (n + m) c) ∧ w' = (w.drew.setCells b (off + (i + m) * 4) (cs.drop (i * 4))).setCells b (off + i * 4) vs := by
 have tSL := tSL; have zEL := zEL; have t3 := t3
 have uSL := run_underlying tSL; have u3 := run_underlying t3
 have hz1 : ¬ ((m : Int) = 0) := by omega
 have hz2 : ¬ ((i : Int) = (n : Int)) := by omega
 have hov : ∀ lb cb, (callFunc 115 #[.slice (some ⟨vb, voff, none⟩) m vc, .slice (some ⟨b, off + (i + m) * 4, none⟩) lb cb]).run Tryz.prog w = .ok (.value (.bool false)) w := fun lb cb => by
  rw [run_callFunc_extern f115 (by kernel_rfl) (by kernel_rfl) (by kernel_rfl) (e := Extern.SlicesOverlaps.overlaps #[23, 23] #[4]) (by kernel_rfl),
   overlaps_rows w 23 4 46 tSL 4 zEL ⟨vb, voff, none⟩ ⟨b, off + (i + m) * 4, none⟩ m vc lb cb hvb tA tB kA kB hsa hkA hsb (hfb _) (hfb _)]
  rfl
 have hdl : (cs.drop (i * 4)).length = (n - i) * 4 := by rw [List.length_drop, hcl]; omega
 have mixed := mixed
 have hw1 : IntKind.i64.wrap ((i : Int) + (m : Int)) = (i : Int) + (m : Int) := by rw [IntKind.wrap_i64]; omega
 have hb1 : (0 : Int) ≤ (i : Int) + (m : Int) := by omega
 have hin : i ≤ n := by omega
 have htn : ((i : Int) + (m : Int)).toNat = i + m := by omega
 have hb2 : ¬ (c = i + m) := by omega
 have hb3 : (i : Int) ≤ (n : Int) + (m : Int) := by omega
 have hb4 : ¬ (c = i) := by omega
 have mn1 : Nat.min (n + m - i) (n + m - (i + m)) = n - i := by simp only [Nat.min_def]; split <;> omega
 have mn2 : Nat.min m (n + m - i) = m := by simp only [Nat.min_def]; split <;> omega
 have hcp1 : ∀ ty dc sc, (Builtin.copy_ #[23, 23] ty #[.slice (some ⟨b, off + (i + m) * 4, none⟩) (n + m - (i + m)) dc, .slice (some ⟨b, off + i * 4, none⟩) (n + m - i) sc]).run Tryz.prog w.drew = .ok (goInt (n - i : Nat)) (w.drew.setCells b (off + (i + m) * 4) (cs.drop (i * 4))) := fun ty dc sc => by
  have := run_copy_cellsK (P := Tryz.prog) w.drew 23 23 ty 46 4 b (off + (i + m) * 4) (n + m - (i + m)) dc ⟨b, off + i * 4, none⟩ (n + m - i) sc (cs.drop (i * 4)) tSL hsz (by rw [hdl, mn1])
   (fun j v hj => by rw [Addr.add_lit, Nat.add_assoc]; exact hcs (i * 4 + j) v (by rwa [List.getElem?_drop] at hj))
   (fun j hj => by rw [Nat.add_assoc]; exact hsp _ (by omega)) (fun j hj => by rw [Nat.add_assoc]; exact hfz _ (by omega)) (fun v hv => h1c v (List.mem_of_mem_drop hv))
  rw [mn1] at this
  exact this
 obtain ⟨W1, hW1⟩ : ∃ W1, W1 = w.drew.setCells b (off + (i + m) * 4) (cs.drop (i * 4)) := ⟨_, rfl⟩
 have hsp1 : ∀ k, k < (n + m) * 4 → (W1.cell? ⟨b, off + k, none⟩).isSome = true := fun k hk => by
  rw [hW1]
  exact isSome_setCells b _ _ _ (fun j hj => by rw [Nat.add_assoc]; exact hsp _ (by omega)) _ (hsp k hk)
 have hcp2 : ∀ (W : World), (∀ x, W.cell? x = W1.cell? x) → (∀ x, W.frozen? x = W1.frozen? x) → ∀ ty dc, (Builtin.copy_ #[23, 23] ty #[.slice (some ⟨b, off + i * 4, none⟩) (n + m - i) dc, .slice (some ⟨vb, voff, none⟩) m vc]).run Tryz.prog W = .ok (goInt m) (W.setCells b (off + i * 4) vs) := fun W hWc hWf ty dc => by
  have := run_copy_cellsK (P := Tryz.prog) W 23 23 ty 46 4 b (off + i * 4) (n + m - i) dc ⟨vb, voff, none⟩ m vc vs tSL hsz (by rw [hvl, mn2])
   (fun j v hj => by
    rw [Addr.add_lit, hWc, hW1, World.cell?_setCells_out b _ _ _ _ (fun h _ => absurd h hvb)]
    exact hvs j v hj)
   (fun j hj => by rw [hWc, Nat.add_assoc]; exact hsp1 _ (by omega)) (fun j hj => by rw [hWf, hW1, World.frozen?_setCells, Nat.add_assoc]; exact hfz _ (by omega)) h1v
  rw [mn2] at this
  exact this
 rw [← hW1] at hcp1
 go_enter Tryz.func88, Tryz.ntmps88
 go_wp2_with (simp only [hov])
 go_region_law_o (refine step_copy_runI rfl _ _ 23 23 rfl _ _ (by simp [Act.eval, Act.put]) (by simp [Act.eval, Act.put]) (hcp1 _ _ _) ?_)
 go_wp2_with (at_builtin; refine wpList_copy_runI _ rfl _ _ 23 23 rfl _ _ rfl rfl (hcp2 _ (fun _ => rfl) (fun _ => rfl) _ _) ?_)
 go_ret
 first | exact ⟨rfl, rfl⟩ | exact ⟨rfl, by rw [hW1]⟩
set_option maxHeartbeats 4000000 in
set_option maxRecDepth 100000 in
theorem end_room (b off n c vb voff m vc : Nat) (vs : List Value) (w : World) (hm : 0 < m) (hroom : n + m ≤ c) (hbig : (n + m) * 64 ≤ 140737488355328)
  (hvl : vs.length = m * 4) (hsp : ∀ j, j < m * 4 → (w.cell? ⟨b, off + n * 4 + j, none⟩).isSome = true) (hfz : ∀ j, j < m * 4 → w.frozen? ⟨b, off + n * 4 + j, none⟩ = false)
  (hvs : ∀ j v, vs[j]? = some v → w.cell? ⟨vb, voff + j, none⟩ = some v) (h1v : ∀ v ∈ vs, v.oneCell' = true) :
  Calls Tryz.prog 88 #[.slice (some ⟨b, off, none⟩) n c, .int .i64 n, .slice (some ⟨vb, voff, none⟩) m vc] w fun e w' =>
   e = .returned (.slice (some ⟨b, off, none⟩) (n + m) c) ∧ w' = w.setCells b (off + n * 4) vs := by
 have tSL := tSL; have zEL := zEL; have t3 := t3
 have uSL := run_underlying tSL; have u3 := run_underlying t3
 have mixed := mixed
 obtain ⟨i0, hi0, hz0, hzs, hzb⟩ := iEL
 have hz1 : ¬ ((m : Int) = 0) := by omega
 have hsrc : Src Tryz.prog i0.size 23 (.slice (some ⟨vb, voff, none⟩) m vc) m vs w := by
  rw [hzs]
  exact Src.ofSlice w tSL ⟨vb, voff, none⟩ m vc vs (by omega) (fun j u hj => by rw [Addr.add_lit]; exact hvs j u hj) h1v
 have hrun : ∀ ty, (Builtin.append_ #[23, 23] ty #[.slice (some ⟨b, off, none⟩) n c, .slice (some ⟨vb, voff, none⟩) m vc]).run Tryz.prog w = _ := fun ty =>
  run_append_room_src w 23 23 ty 46 i0 tSL hi0 b off n c _ m vs hsrc hroom (by rw [hzs, hvl]; exact hsp) (by rw [hzs, hvl]; exact hfz)
 rw [hzs] at hrun
 go_enter Tryz.func88, Tryz.ntmps88
 go_wp2_with (at_builtin; refine Lib.wpList_append_run _ rfl _ _ _ _ rfl _ _ rfl rfl _ _ (hrun _) ?_)
 go_ret
 exact ⟨rfl, rfl⟩
set_option maxHeartbeats 4000000 in
set_option maxRecDepth 100000 in
theorem end_grow (base : Option Addr) (n c vb voff m vc : Nat) (cs vs : List Value) (w : World) (hm : 0 < m) (hnc : n ≤ c) (hroom : c < n + m) (hbig : (n + m) * 64 ≤ 140737488355328)
  (hcl : cs.length = n * 4) (hvl : vs.length = m * 4) (hnil : base = none → n = 0)
  (hcs : ∀ a, base = some a → ∀ j v, cs[j]? = some v → w.cell? (a.add j) = some v)
  (hvs : ∀ j v, vs[j]? = some v → w.cell? ⟨vb, voff + j, none⟩ = some v) (h1v : ∀ v ∈ vs, v.oneCell' = true) :
  Calls Tryz.prog 88 #[.slice base n c, .int .i64 n, .slice (some ⟨vb, voff, none⟩) m vc] w fun e w' => ∃ Z : Array Value, Z.size = 4 ∧
   e = .returned (.slice (some ⟨w.heap.size, 0, none⟩) (n + m) (grownCap w (n + m) c 46)) ∧
   w' = w.drew.alloc (.cells ((cs ++ vs).toArray ++ Builtin.zeroCells Z (grownCap w (n + m) c 46 - (n + m))) 46) := by
 have tSL := tSL; have zEL := zEL; have t3 := t3
 have uSL := run_underlying tSL; have u3 := run_underlying t3
 have mixed := mixed
 obtain ⟨i0, hi0, hz0, hzs, hzb⟩ := iEL
 obtain ⟨z, hzz, hzc0⟩ : ∃ z, i0.zero = some z ∧ z.cells.size = 4 := by
  cases q : i0.zero with
  | none => rw [q] at hz0; cases hz0
  | some z =>
   rw [q] at hz0
   simp only [Option.map_some, Option.some.injEq] at hz0
   exact ⟨z, rfl, by rw [hz0]; rfl⟩
 have hz1 : ¬ ((m : Int) = 0) := by omega
 have hsrc : Src Tryz.prog i0.size 23 (.slice (some ⟨vb, voff, none⟩) m vc) m vs w := by
  rw [hzs]
  exact Src.ofSlice w tSL ⟨vb, voff, none⟩ m vc vs (by omega) (fun j u hj => by rw [Addr.add_lit]; exact hvs j u hj) h1v
 have hold : (Builtin.firstCells i0.size n (.slice base n c)).run Tryz.prog w.drew = .ok cs.toArray w.drew := by
  rw [hzs]
  cases base with
  | none =>
   have h0 := hnil rfl
   subst h0
   rw [show cs = [] from List.length_eq_zero_iff.1 (by omega)]
   exact run_firstCells_none w.drew 4 0 0 c
  | some a => exact run_firstCells_some w.drew 4 n a n c cs (by omega) (fun j v hj => hcs a rfl j v hj)
 have hrun0 : ∀ ty, (Builtin.append_ #[23, 23] ty #[.slice base n c, .slice (some ⟨vb, voff, none⟩) m vc]).run Tryz.prog w = _ := fun ty =>
  run_append_grow_src w 23 23 ty 46 i0 _ tSL hi0 hzz base n c cs hold _ m vs hsrc hroom (by omega) (by rw [hzb]; exact growslice_fits hroom hbig)
 obtain ⟨ZC, hzc, hrun⟩ : ∃ ZC : Array Value, ZC.size = 4 ∧ ∀ ty, (Builtin.append_ #[23, 23] ty #[.slice base n c, .slice (some ⟨vb, voff, none⟩) m vc]).run Tryz.prog w = .ok (.slice (some ⟨w.heap.size, 0, none⟩) (n + m) (grownCap w (n + m) c 46))
    (w.drew.alloc (.cells ((cs ++ vs).toArray ++ Builtin.zeroCells ZC (grownCap w (n + m) c 46 - (n + m))) 46)) := ⟨_, hzc0, hrun0⟩
 clear hrun0 hzz hzc0 z
 go_enter Tryz.func88, Tryz.ntmps88
 cases base with
 | none =>
  have h0 := hnil rfl
  subst h0
  go_wp2_with (at_builtin; refine Lib.wpList_append_run _ rfl _ _ _ _ rfl _ _ rfl rfl _ _ (hrun _) ?_)
  go_ret
  exact ⟨ZC, hzc, rfl, rfl⟩
 | some a =>
  obtain ⟨ab, ao, asp⟩ := a
  go_wp2_with (at_builtin; refine Lib.wpList_append_run _ rfl _ _ _ _ rfl _ _ rfl rfl _ _ (hrun _) ?_)
  all_goals (go_ret; exact ⟨ZC, hzc, rfl, rfl⟩)
set_option maxHeartbeats 4000000 in
set_option maxRecDepth 100000 in
theorem grow (b off n c i vb voff m vc : Nat) (cs vs : List Value) (w : World) (hi : i < n) (hm : 0 < m) (hnc : n ≤ c) (hroom : c < n + m) (hbig : (n + m) * 64 ≤ 140737488355328)
  (hcl : cs.length = n * 4) (hvl : vs.length = m * 4)
  (hcs : ∀ j v, cs[j]? = some v → w.cell? ⟨b, off + j, none⟩ = some v)
  (hvs : ∀ j v, vs[j]? = some v → w.cell? ⟨vb, voff + j, none⟩ = some v) (h1c : ∀ v ∈ cs, v.oneCell' = true) (h1v : ∀ v ∈ vs, v.oneCell' = true) :
  Calls Tryz.prog 88 #[.slice (some ⟨b, off, none⟩) n c, .int .i64 i, .slice (some ⟨vb, voff, none⟩) m vc] w fun e w' => ∃ Z : Array Value, Z.size = 4 ∧
   e = .returned (.slice (some ⟨w.heap.size, 0, none⟩) (n + m) (grownCap w (n + m) c 46)) ∧
   w' = (((w.alloc (.cells ((cs.take (i * 4)).toArray ++ Builtin.zeroCells Z (n + m - i) ++ Builtin.zeroCells Z (grownCap w (n + m) c 46 - (n + m))) 46)).drew.setCells w.heap.size (i * 4) vs).drew).setCells w.heap.size ((i + m) * 4) (cs.drop (i * 4)) := by
 have tSL := tSL; have zEL := zEL; have t3 := t3
 have uSL := run_underlying tSL; have u3 := run_underlying t3
 have mixed := mixed
 obtain ⟨i0, hi0, hz0, hzs, hzb⟩ := iEL
 obtain ⟨z, hzz, hzc0⟩ : ∃ z, i0.zero = some z ∧ z.cells.size = 4 := by
  cases q : i0.zero with
  | none => rw [q] at hz0; cases hz0
  | some z =>
   rw [q] at hz0
   simp only [Option.map_some, Option.some.injEq] at hz0
   exact ⟨z, rfl, by rw [hz0]; rfl⟩
 have hz1 : ¬ ((m : Int) = 0) := by omega
 have hz2 : ¬ ((i : Int) = (n : Int)) := by omega
 have hz3 : (c : Int) < (n : Int) + (m : Int) := by omega
 have hbw : b < w.heap.size := block_lt_of_cell (hcs 0 _ (List.getElem?_eq_getElem (by omega)))
 have hvw : vb < w.heap.size := block_lt_of_cell (hvs 0 _ (List.getElem?_eq_getElem (by omega)))
 have hkk : (n : Int) + (m : Int) - (i : Int) = ((n + m - i : Nat) : Int) := by omega
 have hik : i + (n + m - i) = n + m := by omega
 have hold : (Builtin.firstCells i0.size i (.slice (some ⟨b, off, none⟩) i c)).run Tryz.prog w.drew = .ok (cs.take (i * 4)).toArray w.drew := by
  rw [hzs]
  exact run_firstCells_some w.drew 4 i ⟨b, off, none⟩ i c (cs.take (i * 4)) (by rw [List.length_take]; omega) (fun j v hj => by
   rw [Addr.add_lit]
   rw [List.getElem?_take] at hj
   split at hj
   ·exact hcs j v hj
   ·cases hj)
 have hrz0 : ∀ ty, (Builtin.append_ #[23, 3] ty #[.slice (some ⟨b, off, none⟩) i c, .int .i64 ((n : Int) + (m : Int) - (i : Int))]).run Tryz.prog w =
   .ok (.slice (some ⟨w.heap.size, 0, none⟩) (n + m) (grownCap w (n + m) c 46)) (w.drew.alloc (.cells ((cs.take (i * 4)).toArray ++ Builtin.zeroCells z.cells (n + m - i) ++ Builtin.zeroCells z.cells (grownCap w (n + m) c 46 - (n + m))) 46)) := fun ty => by
  have h := Lib.run_append_grow_zeros w 23 3 ty 46 i0 _ .i64 .i64 tSL t3 hi0 hzz (some ⟨b, off, none⟩) i c (cs.take (i * 4)) hold (n + m - i) (by omega) (by omega) (by omega) (by omega) (by rw [hzb]; omega) (by rw [hzb, hik]; exact growslice_fits hroom hbig)
  rw [hik] at h
  rw [hkk]
  exact h
 obtain ⟨ZC, hzc, hrz⟩ : ∃ ZC : Array Value, ZC.size = 4 ∧ ∀ ty, (Builtin.append_ #[23, 3] ty #[.slice (some ⟨b, off, none⟩) i c, .int .i64 ((n : Int) + (m : Int) - (i : Int))]).run Tryz.prog w =
   .ok (.slice (some ⟨w.heap.size, 0, none⟩) (n + m) (grownCap w (n + m) c 46)) (w.drew.alloc (.cells ((cs.take (i * 4)).toArray ++ Builtin.zeroCells ZC (n + m - i) ++ Builtin.zeroCells ZC (grownCap w (n + m) c 46 - (n + m))) 46)) := ⟨_, hzc0, hrz0⟩
 clear hrz0 hzz hzc0 z
 refine Calls.mono (R := fun e w' => e = .returned (.slice (some ⟨w.heap.size, 0, none⟩) (n + m) (grownCap w (n + m) c 46)) ∧
   w' = (((w.alloc (.cells ((cs.take (i * 4)).toArray ++ Builtin.zeroCells ZC (n + m - i) ++ Builtin.zeroCells ZC (grownCap w (n + m) c 46 - (n + m))) 46)).drew.setCells w.heap.size (i * 4) vs).drew).setCells w.heap.size ((i + m) * 4) (cs.drop (i * 4))) ?_ fun e w' h => ⟨ZC, hzc, h⟩
 obtain ⟨G, hG⟩ : ∃ G, G = grownCap w (n + m) c 46 := ⟨_, rfl⟩
 obtain ⟨ROW, hROW⟩ : ∃ ROW : Array Value, ROW = (cs.take (i * 4)).toArray ++ Builtin.zeroCells ZC (n + m - i) ++ Builtin.zeroCells ZC (G - (n + m)) := ⟨_, rfl⟩
 rw [← hG] at hrz ⊢
 rw [← hROW] at hrz ⊢
 have hRl : (n + m) * 4 ≤ ROW.size := by
  rw [hROW]
  simp [Builtin.zeroCells, hzc]
  omega
 obtain ⟨W1, hW1⟩ : ∃ W1, W1 = w.drew.alloc (.cells ROW 46) := ⟨_, rfl⟩
 rw [← hW1] at hrz
 have hN : ∀ j, j < (n + m) * 4 → (W1.cell? ⟨w.heap.size, j, none⟩).isSome = true := fun j hj => by
  rw [hW1, World.cell?_alloc_at (w := w.drew) ROW _ w.heap.size j rfl, Array.getElem?_eq_getElem (by omega)]; rfl
 have hNf : ∀ j, W1.frozen? ⟨w.heap.size, j, none⟩ = false := fun j => by rw [hW1]; exact World.frozen?_alloc_at (w := w.drew) ROW _ w.heap.size j rfl
 have hOb : ∀ j v, w.cell? ⟨b, j, none⟩ = some v → W1.cell? ⟨b, j, none⟩ = some v := fun j v h => by rw [hW1, World.cell?_alloc_past (w := w.drew) _ b j hbw]; exact h
 have hOv : ∀ j v, w.cell? ⟨vb, j, none⟩ = some v → W1.cell? ⟨vb, j, none⟩ = some v := fun j v h => by rw [hW1, World.cell?_alloc_past (w := w.drew) _ vb j hvw]; exact h
 have mn1 : Nat.min m (n + m - i) = m := by simp only [Nat.min_def]; split <;> omega
 have mn2 : Nat.min (n - i) (n + m - (i + m)) = n - i := by simp only [Nat.min_def]; split <;> omega
 have hcpA : ∀ (W : World), (∀ x, W.cell? x = W1.cell? x) → (∀ x, W.frozen? x = W1.frozen? x) → ∀ ty dc, (Builtin.copy_ #[23, 23] ty #[.slice (some ⟨w.heap.size, i * 4, none⟩) (n + m - i) dc, .slice (some ⟨vb, voff, none⟩) m vc]).run Tryz.prog W = .ok (goInt m) (W.setCells w.heap.size (i * 4) vs) := fun W hWc hWf ty dc => by
  have := run_copy_cellsK (P := Tryz.prog) W 23 23 ty 46 4 w.heap.size (i * 4) (n + m - i) dc ⟨vb, voff, none⟩ m vc vs tSL hsz (by rw [hvl, mn1])
   (fun j v hj => by rw [Addr.add_lit, hWc]; exact hOv _ v (hvs j v hj))
   (fun j hj => by rw [hWc]; exact hN _ (by omega)) (fun j hj => by rw [hWf]; exact hNf _) h1v
  rw [mn1] at this
  exact this
 have hGn : n + m ≤ G := by rw [hG]; exact grownCap_ge w _ _ _
 have hG63 : G ≤ 9223372036854775807 := by
  have := grownCap_le_maxLen w (n + m) c 46 (by unfold maxLen; omega)
  rw [← hG] at this
  unfold maxLen at this
  omega
 have hGi : ¬ (G = i) := by omega
 have hGim : ¬ (G = i + m) := by omega
 have hci : ¬ (c = i) := by omega
 have hbN : b ≠ w.heap.size := by omega
 have hdl : (cs.drop (i * 4)).length = (n - i) * 4 := by rw [List.length_drop, hcl]; omega
 have hcpB : ∀ (W : World), (∀ x, W.cell? x = (W1.setCells w.heap.size (i * 4) vs).cell? x) → (∀ x, W.frozen? x = (W1.setCells w.heap.size (i * 4) vs).frozen? x) → ∀ ty dc sc, (Builtin.copy_ #[23, 23] ty #[.slice (some ⟨w.heap.size, (i + m) * 4, none⟩) (n + m - (i + m)) dc, .slice (some ⟨b, off + i * 4, none⟩) (n - i) sc]).run Tryz.prog W = .ok (goInt (n - i : Nat)) (W.setCells w.heap.size ((i + m) * 4) (cs.drop (i * 4))) := fun W hWc hWf ty dc sc => by
  have := run_copy_cellsK (P := Tryz.prog) W 23 23 ty 46 4 w.heap.size ((i + m) * 4) (n + m - (i + m)) dc ⟨b, off + i * 4, none⟩ (n - i) sc (cs.drop (i * 4)) tSL hsz (by rw [hdl, mn2])
   (fun j v hj => by
    rw [Addr.add_lit, hWc, World.cell?_setCells_out _ _ _ _ _ (fun h _ => absurd h hbN), Nat.add_assoc]
    exact hOb _ v (hcs (i * 4 + j) v (by rwa [List.getElem?_drop] at hj)))
   (fun j hj => by rw [hWc]; exact isSome_setCells _ _ _ _ (fun t ht => hN _ (by omega)) _ (hN _ (by omega)))
   (fun j hj => by rw [hWf, World.frozen?_setCells]; exact hNf _) (fun v hv => h1c v (List.mem_of_mem_drop hv))
  rw [mn2] at this
  exact this
 subst hW1
 have hE1 : ∀ x, ((w.alloc (.cells ROW 46)).drew).cell? x = (w.drew.alloc (.cells ROW 46)).cell? x := fun x => rfl
 have hE2 : ∀ x, ((w.alloc (.cells ROW 46)).drew).frozen? x = (w.drew.alloc (.cells ROW 46)).frozen? x := fun x => rfl
 have hF1 : ∀ x, (((w.alloc (.cells ROW 46)).drew.setCells w.heap.size (i * 4) vs).drew).cell? x = ((w.drew.alloc (.cells ROW 46)).setCells w.heap.size (i * 4) vs).cell? x := fun x => rfl
 have hF2 : ∀ x, (((w.alloc (.cells ROW 46)).drew.setCells w.heap.size (i * 4) vs).drew).frozen? x = ((w.drew.alloc (.cells ROW 46)).setCells w.heap.size (i * 4) vs).frozen? x := fun x => rfl
 have hw1 : IntKind.i64.wrap ((i : Int) + (m : Int)) = (i : Int) + (m : Int) := by rw [IntKind.wrap_i64]; omega
 have hb1 : (0 : Int) ≤ (i : Int) + (m : Int) := by omega
 have hin : i ≤ n := by omega
 have htn : ((i : Int) + (m : Int)).toNat = i + m := by omega
 have hb3 : (i : Int) ≤ (n : Int) := by omega
 clear hkk hik hold hROW hG hRl
 go_enter Tryz.func88, Tryz.ntmps88
 go_wp2_with (first
  | (at_builtin; refine Lib.wpList_append_run _ rfl _ _ _ _ rfl _ _ rfl rfl _ _ (hrz _) ?_)
  | (at_builtin; refine wpList_copy_runI _ rfl _ _ 23 23 rfl _ _ rfl rfl (hcpA _ hE1 hE2 _ _) ?_)
  | (at_builtin; refine wpList_copy_runI _ rfl _ _ 23 23 rfl _ _ rfl rfl (hcpB _ (fun _ => rfl) (fun _ => rfl) _ _ _) ?_))
 go_region_law_o (refine step_copy_runI rfl _ _ 23 23 rfl (.slice (some ⟨w.heap.size, (i + m) * 4, none⟩) (n + m - (i + m)) (G - (i + m))) (.slice (some ⟨b, off + i * 4, none⟩) (n - i) (c - i)) (by simp [Act.eval, Act.put]) (by simp [Act.eval, Act.put]) (hcpB _ hF1 hF2 3 (G - (i + m)) (c - i)) ?_)
 go_wp2
 go_ret
 exact ⟨rfl, rfl⟩
end InsL
end
section
open Go Go.PG Go.Proofs Go.RowKit
namespace InsL
open InsB (RowRep.takeN RowRep.dropN rows_of sets mem_of_row)
theorem ins_ok {G : World → Prop} {e : Ty} (he : e.size = 4) : InsOk Tryz.prog G 88 e 64 := by
 intro Z w A cap xs ys n vb vo vc _ hxc hn0 hnl hyl hbytes hxs hyc hys
 obtain ⟨i, rfl⟩ : ∃ i : Nat, n = i := ⟨n.toNat, by omega⟩
 have hin : i ≤ xs.length := by omega
 have hpos : 0 < e.size := by omega
 have hins : PG.P.insAt xs (i : Int) ys = xs.take i ++ ys ++ xs.drop i := rfl
 have hlen : (PG.P.insAt xs (i : Int) ys).length = xs.length + ys.length := by
  rw [hins]; simp [List.length_take, List.length_drop]; omega
 rw [hlen]
 obtain ⟨vcs, vel, fz, hvb, hvfit⟩ : ∃ vcs vel fz, w.heap[vb]? = some (.cells vcs vel fz) ∧ vo + ys.length * e.size ≤ vcs.size := by
  obtain ⟨d, h1, h2⟩ := hys (ys.length - 1) _ (List.getElem?_eq_getElem (by omega))
  have hd := h1.len
  have hc := h2 (e.size - 1) _ (List.getElem?_eq_getElem (by omega))
  unfold World.cell? at hc
  split at hc
  case h_2 => cases hc
  rename_i vcs vel fz hq
  simp only [Option.isSome_none, Bool.false_eq_true, if_false] at hc
  have hlt := (Array.getElem?_eq_some_iff.1 hc).1
  refine ⟨vcs, vel, fz, hq, ?_⟩
  have hm : ys.length * e.size = (ys.length - 1) * e.size + e.size := by
   obtain ⟨k, hk⟩ : ∃ k, ys.length = k + 1 := ⟨ys.length - 1, by omega⟩
   rw [hk, Nat.add_sub_cancel, Nat.add_mul, Nat.one_mul]
  omega
 obtain ⟨rv, cv⟩ := rows_of hpos hvb (by omega) hys
 generalize hVS : (vcs.toList.drop vo).take (ys.length * e.size) = VS at rv cv
 have hVl : VS.length = ys.length * 4 := by rw [rv.1, he]
 have h1v : ∀ v ∈ VS, v.oneCell' = true := rowrep_one hpos rv
 have hbig : (xs.length + ys.length) * 64 ≤ 140737488355328 := by omega
 have hvsz : 0 < vcs.size := by
  have : 1 * e.size ≤ ys.length * e.size := Nat.mul_le_mul_right _ hyl
  omega
 have hVc : RowRep Z w e ys VS := rv
 -- a new row
 have newrow : ∀ (w' : World) (G0 : Nat) (cs' : Array Value) (el' : TypeId), xs.length + ys.length ≤ G0 → w'.heap[w.heap.size]? = some (.cells cs' el' (0, 0)) → G0 * e.size ≤ cs'.size →
   (∀ j x, (xs.take i ++ ys ++ xs.drop i)[j]? = some x → ∃ d, RepD Z w e x d ∧ Mem w' w.heap.size (0 + j * e.size) d) → (∀ k, k < w.heap.size → w'.heap[k]? = w.heap[k]?) → w'.os = w.os ∧ w'.tape = w.tape ∧ w'.output = w.output ∧ w.heap.size ≤ w'.heap.size →
   ∃ b' o' cap' cs' el', Ending.returned (.slice (some ⟨w.heap.size, 0, none⟩) (xs.length + ys.length) G0) = .returned (.slice (some ⟨b', o', none⟩) (xs.length + ys.length) cap') ∧ xs.length + ys.length ≤ cap' ∧
    w'.heap[b']? = some (.cells cs' el' (0, 0)) ∧ o' + cap' * e.size ≤ cs'.size ∧ (∀ i_1 x, (PG.P.insAt xs (i : Int) ys)[i_1]? = some x → ∃ d, RepD Z w e x d ∧ Mem w' b' (o' + i_1 * e.size) d) ∧
    (w.heap.size ≤ b' ∨ cap ≠ 0 ∧ ∃ o, A = some ⟨b', o, none⟩) ∧ (∀ k, k < w.heap.size → (cap ≠ 0 → ∀ o, A ≠ some ⟨k, o, none⟩) → w'.heap[k]? = w.heap[k]?) ∧
    w'.os = w.os ∧ w'.tape = w.tape ∧ w'.output = w.output ∧ w.heap.size ≤ w'.heap.size := by
  intro w' G0 cs' el' h1 h2 h3 h4 h5 h6
  exact ⟨w.heap.size, 0, G0, cs', el', rfl, h1, h2, by omega, h4, .inl (Nat.le_refl _), fun k hk _ => h5 k hk, h6⟩
 -- at the end, no room
 have endGrow : ∀ (base : Option Addr) (CS : List Value), A = base → i = xs.length → cap < xs.length + ys.length → RowRep Z w e xs CS → (base = none → xs.length = 0) → (∀ a, base = some a → ∀ j v, CS[j]? = some v → w.cell? (a.add j) = some v) →
   Calls Tryz.prog 88 #[.slice A xs.length cap, .int .i64 i, .slice (some ⟨vb, vo, none⟩) ys.length vc] w fun e' w' => ∃ b' o' cap' cs' el', e' = .returned (.slice (some ⟨b', o', none⟩) (xs.length + ys.length) cap') ∧ xs.length + ys.length ≤ cap' ∧
    w'.heap[b']? = some (.cells cs' el' (0, 0)) ∧ o' + cap' * e.size ≤ cs'.size ∧ (∀ i_1 x, (PG.P.insAt xs (i : Int) ys)[i_1]? = some x → ∃ d, RepD Z w e x d ∧ Mem w' b' (o' + i_1 * e.size) d) ∧
    (w.heap.size ≤ b' ∨ cap ≠ 0 ∧ ∃ o, A = some ⟨b', o, none⟩) ∧ (∀ k, k < w.heap.size → (cap ≠ 0 → ∀ o, A ≠ some ⟨k, o, none⟩) → w'.heap[k]? = w.heap[k]?) ∧
    w'.os = w.os ∧ w'.tape = w.tape ∧ w'.output = w.output ∧ w.heap.size ≤ w'.heap.size := by
  intro base CS hA hi hroom hrow hnil hcs
  subst hA
  subst hi
  refine (end_grow A xs.length cap vb vo ys.length vc CS VS w hyl hxc hroom hbig (by rw [hrow.1, he]) hVl hnil hcs cv h1v).mono fun e' w' ⟨ZZ, hZ, h1, h2⟩ => ?_
  subst h1; subst h2
  refine newrow _ _ ((CS ++ VS).toArray ++ Builtin.zeroCells ZZ (grownCap w (xs.length + ys.length) cap 46 - (xs.length + ys.length))) 46 (grownCap_ge _ _ _ _) (alloc_get w.drew _) ?_ ?_ (fun k hk => alloc_old w.drew _ k hk) ⟨rfl, rfl, rfl, by rw [alloc_size]; exact Nat.le_succ _⟩
  ·have hge := grownCap_ge w (xs.length + ys.length) cap 46
   simp only [Array.size_append, List.size_toArray, List.length_append, hrow.1, hVl, zeroCells_len, hZ, he]
   omega
  ·rw [List.take_length, List.drop_length, List.append_nil]
   refine mem_of_row (hrow.append hVc) fun k v hv => ?_
   have hg : (w.drew.alloc (.cells ((CS ++ VS).toArray ++ Builtin.zeroCells ZZ (grownCap w (xs.length + ys.length) cap 46 - (xs.length + ys.length))) 46 (0, 0))).heap[w.heap.size]? = _ := alloc_get w.drew _
   have hk := (List.getElem?_eq_some_iff.1 hv).1
   simp only [World.cell?, hg, Option.isSome_none, Bool.false_eq_true, if_false, Nat.zero_add]
   rw [Array.getElem?_append_left (by simpa using hk)]
   simpa using hv
 rcases hxs with rfl | ⟨b, o, cells, el, rfl, hbv, hb, hfit, hxs⟩
 ·have hx0 : xs = [] := List.length_eq_zero_iff.1 (by omega)
  have hi0 : i = 0 := by rw [hx0] at hin; simpa using hin
  subst hx0; subst hi0
  exact endGrow A [] rfl rfl (by simpa using hyl) ⟨by simp, fun i x hx => by simp at hx⟩ (fun _ => rfl) (fun a _ j v hj => by simp at hj)
 have hmulx : xs.length * e.size ≤ cap * e.size := Nat.mul_le_mul_right _ hxc
 obtain ⟨rx, cx'⟩ := rows_of hpos hb (by omega) hxs
 generalize hCS : (cells.toList.drop o).take (xs.length * e.size) = CS at rx cx'
 have hCl : CS.length = xs.length * 4 := by rw [rx.1, he]
 have h1c : ∀ v ∈ CS, v.oneCell' = true := rowrep_one hpos rx
 have hcell : ∀ k, w.cell? ⟨b, k, none⟩ = cells[k]? := fun k => by simp [World.cell?, hb]
 have fzb : ∀ k, w.frozen? ⟨b, k, none⟩ = false := fun k => by simp [World.frozen?, hb]
 have rtake : RowRep Z w e (xs.take i) (CS.take (i * 4)) := by have := RowRep.takeN rx i hin; rwa [he] at this
 have rdrop : RowRep Z w e (xs.drop i) (CS.drop (i * 4)) := by have := RowRep.dropN rx i; rwa [he] at this
 have rall := (rtake.append hVc).append rdrop
 have hdrop : (CS.drop (i * 4)).length = (xs.length - i) * 4 := by rw [List.length_drop, hCl]; omega
 have htake : (CS.take (i * 4)).length = i * 4 := by rw [List.length_take, hCl]; omega
 by_cases hroom : xs.length + ys.length ≤ cap
 ·have hmr : (xs.length + ys.length) * e.size ≤ cap * e.size := Nat.mul_le_mul_right _ hroom
  rw [he] at hmr hfit
  have some_ : ∀ k, k < (xs.length + ys.length) * 4 → (w.cell? ⟨b, o + k, none⟩).isSome = true := fun k hk => by
   rw [hcell, Array.getElem?_eq_getElem (by omega)]; rfl
  have hc0 : cap ≠ 0 := by omega
  rcases Nat.lt_or_ge i xs.length with hi | hi
  ·refine (shift b o xs.length cap i vb vo ys.length vc CS VS w hi hyl hroom hbig (Ne.symm hbv) hCl hVl cx' some_ (fun k _ => fzb _) cv h1c h1v vel el vcs.size cells.size (by simp [World.shape?, hvb]) (by simp [World.shape?, hb]) (by omega) (fun k => fzb k)).mono fun e' w' ⟨h1, h2⟩ => ?_
   subst h1; subst h2
   obtain ⟨p1, p2, p3, p4, p5, p6⟩ := sets b (CS.drop (i * 4)) (o + (i + ys.length) * 4) w.drew
   obtain ⟨q1, q2, q3, q4, q5, q6⟩ := sets b VS (o + i * 4) (w.drew.setCells b (o + (i + ys.length) * 4) (CS.drop (i * 4)))
   obtain ⟨c1, r1, r2⟩ := p6 cells el (0, 0) hb
   obtain ⟨c2, r3, r4⟩ := q6 c1 el (0, 0) r1
   have s1 : ∀ k, k < (xs.length + ys.length) * 4 → ((w.drew.setCells b (o + (i + ys.length) * 4) (CS.drop (i * 4))).cell? ⟨b, o + k, none⟩).isSome = true := fun k hk => by
    simp only [World.cell?, r1, Option.isSome_none, Bool.false_eq_true, if_false]
    rw [Array.getElem?_eq_getElem (by omega)]; rfl
   refine ⟨b, o, cap, c2, el, rfl, hroom, r3, by rw [r4, r2, he]; omega, ?_, .inr ⟨hc0, o, rfl⟩, fun k hk hA => (q5 k fun z => hA hc0 o (by rw [z])).trans (p5 k fun z => hA hc0 o (by rw [z])), q1.trans p1, q2.trans p2, q3.trans p3, by rw [q4, p4]; exact Nat.le_refl _⟩
   refine mem_of_row rall fun k v hv => ?_
   rcases Nat.lt_or_ge k (i * 4) with z1 | z1
   ·rw [List.append_assoc, List.getElem?_append_left (by omega), List.getElem?_take, if_pos z1] at hv
    rw [World.cell?_setCells_out _ _ _ _ _ (fun _ _ => .inl (by show o + k < o + i * 4; omega)), World.cell?_setCells_out _ _ _ _ _ (fun _ _ => .inl (by show o + k < o + (i + ys.length) * 4; omega))]
    exact cx' k v hv
   ·rw [List.append_assoc, List.getElem?_append_right (by omega), htake] at hv
    rcases Nat.lt_or_ge k ((i + ys.length) * 4) with z2 | z2
    ·rw [List.getElem?_append_left (by omega)] at hv
     obtain ⟨hlt, hv⟩ := List.getElem?_eq_some_iff.1 hv
     have := World.cell?_setCells_in b VS (o + i * 4) (w.drew.setCells b (o + (i + ys.length) * 4) (CS.drop (i * 4))) (fun j hj => by rw [Nat.add_assoc]; exact s1 _ (by omega)) (k - i * 4) hlt
     rw [show o + i * 4 + (k - i * 4) = o + k by omega, hv] at this
     exact this
    ·rw [List.getElem?_append_right (by omega), hVl] at hv
     obtain ⟨hlt, hv⟩ := List.getElem?_eq_some_iff.1 hv
     rw [World.cell?_setCells_out _ _ _ _ _ (fun _ _ => .inr (by show o + i * 4 + VS.length ≤ o + k; omega))]
     have := World.cell?_setCells_in b (CS.drop (i * 4)) (o + (i + ys.length) * 4) w.drew (fun j hj => by rw [Nat.add_assoc]; exact some_ _ (by omega)) (k - i * 4 - ys.length * 4) hlt
     rw [show o + (i + ys.length) * 4 + (k - i * 4 - ys.length * 4) = o + k by omega, hv] at this
     exact this
  ·have hi : i = xs.length := by omega
   subst hi
   refine (end_room b o xs.length cap vb vo ys.length vc VS w hyl hroom hbig hVl (fun j hj => by rw [Nat.add_assoc]; exact some_ _ (by omega)) (fun k _ => fzb _) cv h1v).mono fun e' w' ⟨h1, h2⟩ => ?_
   subst h1; subst h2
   obtain ⟨q1, q2, q3, q4, q5, q6⟩ := sets b VS (o + xs.length * 4) w
   obtain ⟨c2, r3, r4⟩ := q6 cells el (0, 0) hb
   refine ⟨b, o, cap, c2, el, rfl, hroom, r3, by rw [r4, he]; omega, ?_, .inr ⟨hc0, o, rfl⟩, fun k hk hA => q5 k fun z => hA hc0 o (by rw [z]), q1, q2, q3, by rw [q4]; exact Nat.le_refl _⟩
   refine mem_of_row rall fun k v hv => ?_
   rcases Nat.lt_or_ge k (xs.length * 4) with z1 | z1
   ·rw [List.append_assoc, List.getElem?_append_left (by omega), List.getElem?_take, if_pos z1] at hv
    rw [World.cell?_setCells_out _ _ _ _ _ (fun _ _ => .inl (by show o + k < o + xs.length * 4; omega))]
    exact cx' k v hv
   ·rw [List.append_assoc, List.getElem?_append_right (by omega), htake] at hv
    have hlt := (List.getElem?_eq_some_iff.1 hv).1
    rw [List.length_append, hdrop, Nat.sub_self, Nat.zero_mul, Nat.add_zero] at hlt
    rw [List.getElem?_append_left hlt] at hv
    obtain ⟨hlt, hv⟩ := List.getElem?_eq_some_iff.1 hv
    have := World.cell?_setCells_in b VS (o + xs.length * 4) w (fun j hj => by rw [Nat.add_assoc]; exact some_ _ (by omega)) (k - xs.length * 4) hlt
    rw [show o + xs.length * 4 + (k - xs.length * 4) = o + k by omega, hv] at this
    exact this
 ·have hroom : cap < xs.length + ys.length := by omega
  rcases Nat.lt_or_ge i xs.length with hi | hi
  ·refine (grow b o xs.length cap i vb vo ys.length vc CS VS w hi hyl hxc hroom hbig hCl hVl cx' cv h1c h1v).mono fun e' w' ⟨ZZ, hZ, h1, h2⟩ => ?_
   subst h1
   have hge := grownCap_ge w (xs.length + ys.length) cap 46
   generalize grownCap w (xs.length + ys.length) cap 46 = GC at hge h2 ⊢
   obtain ⟨ROW, hROW⟩ : ∃ ROW : Array Value, ROW = (CS.take (i * 4)).toArray ++ Builtin.zeroCells ZZ (xs.length + ys.length - i) ++ Builtin.zeroCells ZZ (GC - (xs.length + ys.length)) := ⟨_, rfl⟩
   rw [← hROW] at h2
   have hRl : ROW.size = GC * 4 := by
    rw [hROW]
    simp only [Array.size_append, List.size_toArray, htake, zeroCells_len, hZ]
    omega
   have hRt : ∀ k, k < i * 4 → ROW[k]? = CS[k]? := fun k hk => by
    rw [hROW, Array.append_assoc, Array.getElem?_append_left (by simpa [htake] using hk)]
    simp [List.getElem?_take, hk]
   generalize hW0 : (w.alloc (.cells ROW 46 (0, 0))).drew = W0 at h2
   have g0 : W0.heap[w.heap.size]? = some (.cells ROW 46 (0, 0)) := by rw [← hW0]; exact alloc_get w _
   have g1 : ∀ k, k < w.heap.size → W0.heap[k]? = w.heap[k]? := fun k hk => by rw [← hW0]; exact alloc_old w _ k hk
   have g2 : W0.os = w.os ∧ W0.tape = w.tape ∧ W0.output = w.output ∧ W0.heap.size = w.heap.size + 1 := by rw [← hW0]; exact ⟨rfl, rfl, rfl, alloc_size w _⟩
   obtain ⟨p1, p2, p3, p4, p5, p6⟩ := sets w.heap.size VS (i * 4) W0
   generalize hW1 : (W0.setCells w.heap.size (i * 4) VS) = W1 at h2 p1 p2 p3 p4 p5 p6
   obtain ⟨q1, q2, q3, q4, q5, q6⟩ := sets w.heap.size (CS.drop (i * 4)) ((i + ys.length) * 4) W1.drew
   obtain ⟨c1, r1, r2⟩ := p6 ROW 46 (0, 0) g0
   obtain ⟨c2, r3, r4⟩ := q6 c1 46 (0, 0) r1
   subst h2
   refine newrow _ GC c2 46 hge r3 (by rw [r4, r2, hRl, he]; exact Nat.le_refl _) ?_ (fun k hk => (q5 k (by omega)).trans ((p5 k (by omega)).trans (g1 k hk)))
    ⟨q1.trans (p1.trans g2.1), q2.trans (p2.trans g2.2.1), q3.trans (p3.trans g2.2.2.1), by rw [q4]; show w.heap.size ≤ W1.heap.size; rw [p4, g2.2.2.2]; exact Nat.le_succ _⟩
   refine mem_of_row rall fun k v hv => ?_
   have s0 : ∀ k, k < GC * 4 → (W0.cell? ⟨w.heap.size, k, none⟩).isSome = true := fun k hk => by
    simp only [World.cell?, g0, Option.isSome_none, Bool.false_eq_true, if_false]
    rw [Array.getElem?_eq_getElem (by omega)]; rfl
   have s1 : ∀ k, k < GC * 4 → (W1.drew.cell? ⟨w.heap.size, k, none⟩).isSome = true := fun k hk => by
    have r1' : W1.drew.heap[w.heap.size]? = some (.cells c1 46 (0, 0)) := r1
    simp only [World.cell?, r1', Option.isSome_none, Bool.false_eq_true, if_false]
    rw [Array.getElem?_eq_getElem (by omega)]; rfl
   rw [Nat.zero_add]
   rcases Nat.lt_or_ge k (i * 4) with z1 | z1
   ·rw [List.append_assoc, List.getElem?_append_left (by omega), List.getElem?_take, if_pos z1] at hv
    rw [World.cell?_setCells_out _ _ _ _ _ (fun _ _ => .inl (by show k < (i + ys.length) * 4; omega))]
    show W1.cell? _ = _
    rw [← hW1, World.cell?_setCells_out _ _ _ _ _ (fun _ _ => .inl z1)]
    simp only [World.cell?, g0, Option.isSome_none, Bool.false_eq_true, if_false]
    rw [hRt k z1]
    exact hv
   ·rw [List.append_assoc, List.getElem?_append_right (by omega), htake] at hv
    rcases Nat.lt_or_ge k ((i + ys.length) * 4) with z2 | z2
    ·rw [List.getElem?_append_left (by omega)] at hv
     obtain ⟨hlt, hv⟩ := List.getElem?_eq_some_iff.1 hv
     rw [World.cell?_setCells_out _ _ _ _ _ (fun _ _ => .inl z2)]
     show W1.cell? _ = _
     have := World.cell?_setCells_in w.heap.size VS (i * 4) W0 (fun j hj => s0 _ (by omega)) (k - i * 4) hlt
     rw [show i * 4 + (k - i * 4) = k by omega, hv, hW1] at this
     exact this
    ·rw [List.getElem?_append_right (by omega), hVl] at hv
     obtain ⟨hlt, hv⟩ := List.getElem?_eq_some_iff.1 hv
     have := World.cell?_setCells_in w.heap.size (CS.drop (i * 4)) ((i + ys.length) * 4) W1.drew (fun j hj => s1 _ (by omega)) (k - i * 4 - ys.length * 4) hlt
     rw [show (i + ys.length) * 4 + (k - i * 4 - ys.length * 4) = k by omega, hv] at this
     exact this
  ·have hi : i = xs.length := by omega
   exact endGrow _ CS rfl hi hroom rx (fun z => by cases z) (fun a ha j v hj => by injection ha with ha; subst ha; rw [Addr.add_lit]; exact cx' j v hj)
end InsL
end
section
open Go Go.Proofs Go.Lib Go.RowKit
namespace InsT
open InsB (run_copy_cellsK overlaps_rows)
theorem tSL : Tryz.prog.underlying 32 = some (.slice 58) := by kernel_rfl
theorem t3 : Tryz.prog.underlying 3 = some (.int .i64) := by kernel_rfl
theorem f114 : Tryz.prog.funcs[114]? = some Tryz.f114 := by kernel_rfl
theorem f125 : Tryz.prog.funcs[125]? = some Tryz.f125 := by kernel_rfl
theorem mixed : Tryz.prog.follows .mixedOrders = true := by kernel_rfl
theorem iEL : ∃ i, Tryz.prog.info? 58 = some i ∧ i.zero.map Value.cells = some #[.string ⟨#[]⟩, .bool false, .slice none 0 0] ∧ i.size = 3 ∧ i.bytes = 48 := by
 have h : (Tryz.prog.info? 58).map (fun i => (i.zero.map Value.cells, i.size, i.bytes)) = some (some #[.string ⟨#[]⟩, .bool false, .slice none 0 0], 3, 48) := by kernel_rfl
 cases q : Tryz.prog.info? 58 with
 | none => rw [q] at h; cases h
 | some i =>
  rw [q] at h
  simp only [Option.map_some, Option.some.injEq, Prod.mk.injEq] at h
  exact ⟨i, rfl, h.1, h.2.1, h.2.2⟩
theorem zEL : ∀ w, (Go.sizeOf 58).run Tryz.prog w = .ok 3 w := by
 obtain ⟨i, h1, h2, h3, h4⟩ := iEL
 intro w
 simp [Go.sizeOf, typeInfo, h1, h3]
theorem hsz : (Tryz.prog.info? 58).map (·.size) = some 3 := by
 obtain ⟨i, h1, h2, h3, h4⟩ := iEL
 simp [h1, h3]
set_option maxHeartbeats 4000000 in
set_option maxRecDepth 100000 in
theorem shift (b off n c i vb voff m vc : Nat) (cs vs : List Value) (w : World) (hi : i < n) (hm : 0 < m) (hroom : n + m ≤ c) (hbig : (n + m) * 48 ≤ 140737488355328) (hvb : vb ≠ b)
  (hcl : cs.length = n * 3) (hvl : vs.length = m * 3)
  (hcs : ∀ j v, cs[j]? = some v → w.cell? ⟨b, off + j, none⟩ = some v) (hsp : ∀ j, j < (n + m) * 3 → (w.cell? ⟨b, off + j, none⟩).isSome = true) (hfz : ∀ j, j < (n + m) * 3 → w.frozen? ⟨b, off + j, none⟩ = false)
  (hvs : ∀ j v, vs[j]? = some v → w.cell? ⟨vb, voff + j, none⟩ = some v) (h1c : ∀ v ∈ cs, v.oneCell' = true) (h1v : ∀ v ∈ vs, v.oneCell' = true)
  (tA tB : TypeId) (kA kB : Nat) (hsa : w.shape? vb = some (tA, kA)) (hsb : w.shape? b = some (tB, kB)) (hkA : kA ≠ 0) (hfb : ∀ k, w.frozen? ⟨b, k, none⟩ = false) :
  Calls Tryz.prog 114 #[.slice (some ⟨b, off, none⟩) n c, .int .i64 i, .slice (some ⟨vb, voff, none⟩) m vc] w fun e w' =>
   e = .returned (.slice (some ⟨b, off, none⟩) (n + m) c) ∧ w' = (w.drew.setCells b (off + (i + m) * 3) (cs.drop (i * 3))).setCells b (off + i * 3) vs := by
 have tSL := tSL; have zEL := zEL; have t3 := t3
 have uSL := run_underlying tSL; have u3 := run_underlying t3
 have hz1 : ¬ ((m : Int) = 0) := by omega
 have hz2 : ¬ ((i : Int) = (n : Int)) := by omega
 have hov : ∀ lb cb, (callFunc 125 #[.slice (some ⟨vb, voff, none⟩) m vc, .slice (some ⟨b, off + (i + m) * 3, none⟩) lb cb]).run Tryz.prog w = .ok (.value (.bool false)) w := fun lb cb => by
  rw [run_callFunc_extern f125 (by kernel_rfl) (by kernel_rfl) (by kernel_rfl) (e := Extern.SlicesOverlaps.overlaps #[32, 32] #[4]) (by kernel_rfl),
   overlaps_rows w 32 4 58 tSL 3 zEL ⟨vb, voff, none⟩ ⟨b, off + (i + m) * 3, none⟩ m vc lb cb hvb tA tB kA kB hsa hkA hsb (hfb _) (hfb _)]
  rfl
 have hdl : (cs.drop (i * 3)).length = (n - i) * 3 := by rw [List.length_drop, hcl]; omega
 have mixed := mixed
 have hw1 : IntKind.i64.wrap ((i : Int) + (m : Int)) = (i : Int) + (m : Int) := by rw [IntKind.wrap_i64]; omega
 have hb1 : (0 : Int) ≤ (i : Int) + (m : Int) := by omega
 have hin : i ≤ n := by omega
 have htn : ((i : Int) + (m : Int)).toNat = i + m := by omega
 have hb2 : ¬ (c = i + m) := by omega
 have hb3 : (i : Int) ≤ (n : Int) + (m : Int) := by omega
 have hb4 : ¬ (c = i) := by omega
 have mn1 : Nat.min (n + m - i) (n + m - (i + m)) = n - i := by simp only [Nat.min_def]; split <;> omega
 have mn2 : Nat.min m (n + m - i) = m := by simp only [Nat.min_def]; split <;> omega
 have hcp1 : ∀ ty dc sc, (Builtin.copy_ #[32, 32] ty #[.slice (some ⟨b, off + (i + m) * 3, none⟩) (n + m - (i + m)) dc, .slice (some ⟨b, off + i * 3, none⟩) (n + m - i) sc]).run Tryz.prog w.drew = .ok (goInt (n - i : Nat)) (w.drew.setCells b (off + (i + m) * 3) (cs.drop (i * 3))) := fun ty dc sc => by
  have := run_copy_cellsK (P := Tryz.prog) w.drew 32 32 ty 58 3 b (off + (i + m) * 3) (n + m - (i + m)) dc ⟨b, off + i * 3, none⟩ (n + m - i) sc (cs.drop (i * 3)) tSL hsz (by rw [hdl, mn1])
   (fun j v hj => by rw [Addr.add_lit, Nat.add_assoc]; exact hcs (i * 3 + j) v (by rwa [List.getElem?_drop] at hj))
   (fun j hj => by rw [Nat.add_assoc]; exact hsp _ (by omega)) (fun j hj => by rw [Nat.add_assoc]; exact hfz _ (by omega)) (fun v hv => h1c v (List.mem_of_mem_drop hv))
  rw [mn1] at this
  exact this
 obtain ⟨W1, hW1⟩ : ∃ W1, W1 = w.drew.setCells b (off + (i + m) * 3) (cs.drop (i * 3)) := ⟨_, rfl⟩
 have hsp1 : ∀ k, k < (n + m) * 3 → (W1.cell? ⟨b, off + k, none⟩).isSome = true := fun k hk => by
  rw [hW1]
  exact isSome_setCells b _ _ _ (fun j hj => by rw [Nat.add_assoc]; exact hsp _ (by omega)) _ (hsp k hk)
 have hcp2 : ∀ (W : World), (∀ x, W.cell? x = W1.cell? x) → (∀ x, W.frozen? x = W1.frozen? x) → ∀ ty dc, (Builtin.copy_ #[32, 32] ty #[.slice (some ⟨b, off + i * 3, none⟩) (n + m - i) dc, .slice (some ⟨vb, voff, none⟩) m vc]).run Tryz.prog W = .ok (goInt m) (W.setCells b (off + i * 3) vs) := fun W hWc hWf ty dc => by
  have := run_copy_cellsK (P := Tryz.prog) W 32 32 ty 58 3 b (off + i * 3) (n + m - i) dc ⟨vb, voff, none⟩ m vc vs tSL hsz (by rw [hvl, mn2])
   (fun j v hj => by
    rw [Addr.add_lit, hWc, hW1, World.cell?_setCells_out b _ _ _ _ (fun h _ => absurd h hvb)]
    exact hvs j v hj)
   (fun j hj => by rw [hWc, Nat.add_assoc]; exact hsp1 _ (by omega)) (fun j hj => by rw [hWf, hW1, World.frozen?_setCells, Nat.add_assoc]; exact hfz _ (by omega)) h1v
  rw [mn2] at this
  exact this
 rw [← hW1] at hcp1
 go_enter Tryz.func114, Tryz.ntmps114
 go_wp2_with (simp only [hov])
 go_region_law_o (refine step_copy_runI rfl _ _ 32 32 rfl _ _ (by simp [Act.eval, Act.put]) (by simp [Act.eval, Act.put]) (hcp1 _ _ _) ?_)
 go_wp2_with (at_builtin; refine wpList_copy_runI _ rfl _ _ 32 32 rfl _ _ rfl rfl (hcp2 _ (fun _ => rfl) (fun _ => rfl) _ _) ?_)
 go_ret
 first | exact ⟨rfl, rfl⟩ | exact ⟨rfl, by rw [hW1]⟩
set_option maxHeartbeats 4000000 in
set_option maxRecDepth 100000 in
theorem end_room (b off n c vb voff m vc : Nat) (vs : List Value) (w : World) (hm : 0 < m) (hroom : n + m ≤ c) (hbig : (n + m) * 48 ≤ 140737488355328)
  (hvl : vs.length = m * 3) (hsp : ∀ j, j < m * 3 → (w.cell? ⟨b, off + n * 3 + j, none⟩).isSome = true) (hfz : ∀ j, j < m * 3 → w.frozen? ⟨b, off + n * 3 + j, none⟩ = false)
  (hvs : ∀ j v, vs[j]? = some v → w.cell? ⟨vb, voff + j, none⟩ = some v) (h1v : ∀ v ∈ vs, v.oneCell' = true) :
  Calls Tryz.prog 114 #[.slice (some ⟨b, off, none⟩) n c, .int .i64 n, .slice (some ⟨vb, voff, none⟩) m vc] w fun e w' =>
   e = .returned (.slice (some ⟨b, off, none⟩) (n + m) c) ∧ w' = w.setCells b (off + n * 3) vs := by
 have tSL := tSL; have zEL := zEL; have t3 := t3
 have uSL := run_underlying tSL; have u3 := run_underlying t3
 have mixed := mixed
 obtain ⟨i0, hi0, hz0, hzs, hzb⟩ := iEL
 have hz1 : ¬ ((m : Int) = 0) := by omega
 have hsrc : Src Tryz.prog i0.size 32 (.slice (some ⟨vb, voff, none⟩) m vc) m vs w := by
  rw [hzs]
  exact Src.ofSlice w tSL ⟨vb, voff, none⟩ m vc vs (by omega) (fun j u hj => by rw [Addr.add_lit]; exact hvs j u hj) h1v
 have hrun : ∀ ty, (Builtin.append_ #[32, 32] ty #[.slice (some ⟨b, off, none⟩) n c, .slice (some ⟨vb, voff, none⟩) m vc]).run Tryz.prog w = _ := fun ty =>
  run_append_room_src w 32 32 ty 58 i0 tSL hi0 b off n c _ m vs hsrc hroom (by rw [hzs, hvl]; exact hsp) (by rw [hzs, hvl]; exact hfz)
 rw [hzs] at hrun
 go_enter Tryz.func114, Tryz.ntmps114
 go_wp2_with (at_builtin; refine Lib.wpList_append_run _ rfl _ _ _ _ rfl _ _ rfl rfl _ _ (hrun _) ?_)
 go_ret
 exact ⟨rfl, rfl⟩
set_option maxHeartbeats 4000000 in
set_option maxRecDepth 100000 in
theorem end_grow (base : Option Addr) (n c vb voff m vc : Nat) (cs vs : List Value) (w : World) (hm : 0 < m) (hnc : n ≤ c) (hroom : c < n + m) (hbig : (n + m) * 48 ≤ 140737488355328)
  (hcl : cs.length = n * 3) (hvl : vs.length = m * 3) (hnil : base = none → n = 0)
  (hcs : ∀ a, base = some a → ∀ j v, cs[j]? = some v → w.cell? (a.add j) = some v)
  (hvs : ∀ j v, vs[j]? = some v → w.cell? ⟨vb, voff + j, none⟩ = some v) (h1v : ∀ v ∈ vs, v.oneCell' = true) :
  Calls Tryz.prog 114 #[.slice base n c, .int .i64 n, .slice (some ⟨vb, voff, none⟩) m vc] w fun e w' => ∃ Z : Array Value, Z.size = 3 ∧
   e = .returned (.slice (some ⟨w.heap.size, 0, none⟩) (n + m) (grownCap w (n + m) c 58)) ∧
   w' = w.drew.alloc (.cells ((cs ++ vs).toArray ++ Builtin.zeroCells Z (grownCap w (n + m) c 58 - (n + m))) 58) := by
 have tSL := tSL; have zEL := zEL; have t3 := t3
 have uSL := run_underlying tSL; have u3 := run_underlying t3
 have mixed := mixed
 obtain ⟨i0, hi0, hz0, hzs, hzb⟩ := iEL
 obtain ⟨z, hzz, hzc0⟩ : ∃ z, i0.zero = some z ∧ z.cells.size = 3 := by
  cases q : i0.zero with
  | none => rw [q] at hz0; cases hz0
  | some z =>
   rw [q] at hz0
   simp only [Option.map_some, Option.some.injEq] at hz0
   exact ⟨z, rfl, by rw [hz0]; rfl⟩
 have hz1 : ¬ ((m : Int) = 0) := by omega
 have hsrc : Src Tryz.prog i0.size 32 (.slice (some ⟨vb, voff, none⟩) m vc) m vs w := by
  rw [hzs]
  exact Src.ofSlice w tSL ⟨vb, voff, none⟩ m vc vs (by omega) (fun j u hj => by rw [Addr.add_lit]; exact hvs j u hj) h1v
 have hold : (Builtin.firstCells i0.size n (.slice base n c)).run Tryz.prog w.drew = .ok cs.toArray w.drew := by
  rw [hzs]
  cases base with
  | none =>
   have h0 := hnil rfl
   subst h0
   rw [show cs = [] from List.length_eq_zero_iff.1 (by omega)]
   exact run_firstCells_none w.drew 3 0 0 c
  | some a => exact run_firstCells_some w.drew 3 n a n c cs (by omega) (fun j v hj => hcs a rfl j v hj)
 have hrun0 : ∀ ty, (Builtin.append_ #[32, 32] ty #[.slice base n c, .slice (some ⟨vb, voff, none⟩) m vc]).run Tryz.prog w = _ := fun ty =>
  run_append_grow_src w 32 32 ty 58 i0 _ tSL hi0 hzz base n c cs hold _ m vs hsrc hroom (by omega) (by rw [hzb]; exact growslice_fits hroom hbig)
 obtain ⟨ZC, hzc, hrun⟩ : ∃ ZC : Array Value, ZC.size = 3 ∧ ∀ ty, (Builtin.append_ #[32, 32] ty #[.slice base n c, .slice (some ⟨vb, voff, none⟩) m vc]).run Tryz.prog w = .ok (.slice (some ⟨w.heap.size, 0, none⟩) (n + m) (grownCap w (n + m) c 58))
    (w.drew.alloc (.cells ((cs ++ vs).toArray ++ Builtin.zeroCells ZC (grownCap w (n + m) c 58 - (n + m))) 58)) := ⟨_, hzc0, hrun0⟩
 clear hrun0 hzz hzc0 z
 go_enter Tryz.func114, Tryz.ntmps114
 cases base with
 | none =>
  have h0 := hnil rfl
  subst h0
  go_wp2_with (at_builtin; refine Lib.wpList_append_run _ rfl _ _ _ _ rfl _ _ rfl rfl _ _ (hrun _) ?_)
  go_ret
  exact ⟨ZC, hzc, rfl, rfl⟩
 | some a =>
  obtain ⟨ab, ao, asp⟩ := a
  go_wp2_with (at_builtin; refine Lib.wpList_append_run _ rfl _ _ _ _ rfl _ _ rfl rfl _ _ (hrun _) ?_)
  all_goals (go_ret; exact ⟨ZC, hzc, rfl, rfl⟩)
set_option maxHeartbeats 4000000 in
set_option maxRecDepth 100000 in
theorem grow (b off n c i vb voff m vc : Nat) (cs vs : List Value) (w : World) (hi : i < n) (hm : 0 < m) (hnc : n ≤ c) (hroom : c < n + m) (hbig : (n + m) * 48 ≤ 140737488355328)
  (hcl : cs.length = n * 3) (hvl : vs.length = m * 3)
  (hcs : ∀ j v, cs[j]? = some v → w.cell? ⟨b, off + j, none⟩ = some v)
  (hvs : ∀ j v, vs[j]? = some v → w.cell? ⟨vb, voff + j, none⟩ = some v) (h1c : ∀ v ∈ cs, v.oneCell' = true) (h1v : ∀ v ∈ vs, v.oneCell' = true) :
  Calls Tryz.prog 114 #[.slice (some ⟨b, off, none⟩) n c, .int .i64 i, .slice (some ⟨vb, voff, none⟩) m vc] w fun e w' => ∃ Z : Array Value, Z.size = 3 ∧
   e = .returned (.slice (some ⟨w.heap.size, 0, none⟩) (n + m) (grownCap w (n + m) c 58)) ∧
   w' = (((w.alloc (.cells ((cs.take (i * 3)).toArray ++ Builtin.zeroCells Z (n + m - i) ++ Builtin.zeroCells Z (grownCap w (n + m) c 58 - (n + m))) 58)).drew.setCells w.heap.size (i * 3) vs).drew).setCells w.heap.size ((i + m) * 3) (cs.drop (i * 3)) := by
 have tSL := tSL; have zEL := zEL; have t3 := t3
 have uSL := run_underlying tSL; have u3 := run_underlying t3
 have mixed := mixed
 obtain ⟨i0, hi0, hz0, hzs, hzb⟩ := iEL
 obtain ⟨z, hzz, hzc0⟩ : ∃ z, i0.zero = some z ∧ z.cells.size = 3 := by
  cases q : i0.zero with
  | none => rw [q] at hz0; cases hz0
  | some z =>
   rw [q] at hz0
   simp only [Option.map_some, Option.some.injEq] at hz0
   exact ⟨z, rfl, by rw [hz0]; rfl⟩
 have hz1 : ¬ ((m : Int) = 0) := by omega
 have hz2 : ¬ ((i : Int) = (n : Int)) := by omega
 have hz3 : (c : Int) < (n : Int) + (m : Int) := by omega
 have hbw : b < w.heap.size := block_lt_of_cell (hcs 0 _ (List.getElem?_eq_getElem (by omega)))
 have hvw : vb < w.heap.size := block_lt_of_cell (hvs 0 _ (List.getElem?_eq_getElem (by omega)))
 have hkk : (n : Int) + (m : Int) - (i : Int) = ((n + m - i : Nat) : Int) := by omega
 have hik : i + (n + m - i) = n + m := by omega
 have hold : (Builtin.firstCells i0.size i (.slice (some ⟨b, off, none⟩) i c)).run Tryz.prog w.drew = .ok (cs.take (i * 3)).toArray w.drew := by
  rw [hzs]
  exact run_firstCells_some w.drew 3 i ⟨b, off, none⟩ i c (cs.take (i * 3)) (by rw [List.length_take]; omega) (fun j v hj => by
   rw [Addr.add_lit]
   rw [List.getElem?_take] at hj
   split at hj
   ·exact hcs j v hj
   ·cases hj)
 have hrz0 : ∀ ty, (Builtin.append_ #[32, 3] ty #[.slice (some ⟨b, off, none⟩) i c, .int .i64 ((n : Int) + (m : Int) - (i : Int))]).run Tryz.prog w =
   .ok (.slice (some ⟨w.heap.size, 0, none⟩) (n + m) (grownCap w (n + m) c 58)) (w.drew.alloc (.cells ((cs.take (i * 3)).toArray ++ Builtin.zeroCells z.cells (n + m - i) ++ Builtin.zeroCells z.cells (grownCap w (n + m) c 58 - (n + m))) 58)) := fun ty => by
  have h := Lib.run_append_grow_zeros w 32 3 ty 58 i0 _ .i64 .i64 tSL t3 hi0 hzz (some ⟨b, off, none⟩) i c (cs.take (i * 3)) hold (n + m - i) (by omega) (by omega) (by omega) (by omega) (by rw [hzb]; omega) (by rw [hzb, hik]; exact growslice_fits hroom hbig)
  rw [hik] at h
  rw [hkk]
  exact h
 obtain ⟨ZC, hzc, hrz⟩ : ∃ ZC : Array Value, ZC.size = 3 ∧ ∀ ty, (Builtin.append_ #[32, 3] ty #[.slice (some ⟨b, off, none⟩) i c, .int .i64 ((n : Int) + (m : Int) - (i : Int))]).run Tryz.prog w =
   .ok (.slice (some ⟨w.heap.size, 0, none⟩) (n + m) (grownCap w (n + m) c 58)) (w.drew.alloc (.cells ((cs.take (i * 3)).toArray ++ Builtin.zeroCells ZC (n + m - i) ++ Builtin.zeroCells ZC (grownCap w (n + m) c 58 - (n + m))) 58)) := ⟨_, hzc0, hrz0⟩
 clear hrz0 hzz hzc0 z
 refine Calls.mono (R := fun e w' => e = .returned (.slice (some ⟨w.heap.size, 0, none⟩) (n + m) (grownCap w (n + m) c 58)) ∧
   w' = (((w.alloc (.cells ((cs.take (i * 3)).toArray ++ Builtin.zeroCells ZC (n + m - i) ++ Builtin.zeroCells ZC (grownCap w (n + m) c 58 - (n + m))) 58)).drew.setCells w.heap.size (i * 3) vs).drew).setCells w.heap.size ((i + m) * 3) (cs.drop (i * 3))) ?_ fun e w' h => ⟨ZC, hzc, h⟩
 obtain ⟨G, hG⟩ : ∃ G, G = grownCap w (n + m) c 58 := ⟨_, rfl⟩
 obtain ⟨ROW, hROW⟩ : ∃ ROW : Array Value, ROW = (cs.take (i * 3)).toArray ++ Builtin.zeroCells ZC (n + m - i) ++ Builtin.zeroCells ZC (G - (n + m)) := ⟨_, rfl⟩
 rw [← hG] at hrz ⊢
 rw [← hROW] at hrz ⊢
 have hRl : (n + m) * 3 ≤ ROW.size := by
  rw [hROW]
  simp [Builtin.zeroCells, hzc]
  omega
 obtain ⟨W1, hW1⟩ : ∃ W1, W1 = w.drew.alloc (.cells ROW 58) := ⟨_, rfl⟩
 rw [← hW1] at hrz
 have hN : ∀ j, j < (n + m) * 3 → (W1.cell? ⟨w.heap.size, j, none⟩).isSome = true := fun j hj => by
  rw [hW1, World.cell?_alloc_at (w := w.drew) ROW _ w.heap.size j rfl, Array.getElem?_eq_getElem (by omega)]; rfl
 have hNf : ∀ j, W1.frozen? ⟨w.heap.size, j, none⟩ = false := fun j => by rw [hW1]; exact World.frozen?_alloc_at (w := w.drew) ROW _ w.heap.size j rfl
 have hOb : ∀ j v, w.cell? ⟨b, j, none⟩ = some v → W1.cell? ⟨b, j, none⟩ = some v := fun j v h => by rw [hW1, World.cell?_alloc_past (w := w.drew) _ b j hbw]; exact h
 have hOv : ∀ j v, w.cell? ⟨vb, j, none⟩ = some v → W1.cell? ⟨vb, j, none⟩ = some v := fun j v h => by rw [hW1, World.cell?_alloc_past (w := w.drew) _ vb j hvw]; exact h
 have mn1 : Nat.min m (n + m - i) = m := by simp only [Nat.min_def]; split <;> omega
 have mn2 : Nat.min (n - i) (n + m - (i + m)) = n - i := by simp only [Nat.min_def]; split <;> omega
 have hcpA : ∀ (W : World), (∀ x, W.cell? x = W1.cell? x) → (∀ x, W.frozen? x = W1.frozen? x) → ∀ ty dc, (Builtin.copy_ #[32, 32] ty #[.slice (some ⟨w.heap.size, i * 3, none⟩) (n + m - i) dc, .slice (some ⟨vb, voff, none⟩) m vc]).run Tryz.prog W = .ok (goInt m) (W.setCells w.heap.size (i * 3) vs) := fun W hWc hWf ty dc => by
  have := run_copy_cellsK (P := Tryz.prog) W 32 32 ty 58 3 w.heap.size (i * 3) (n + m - i) dc ⟨vb, voff, none⟩ m vc vs tSL hsz (by rw [hvl, mn1])
   (fun j v hj => by rw [Addr.add_lit, hWc]; exact hOv _ v (hvs j v hj))
   (fun j hj => by rw [hWc]; exact hN _ (by omega)) (fun j hj => by rw [hWf]; exact hNf _) h1v
  rw [mn1] at this
  exact this
 have hGn : n + m ≤ G := by rw [hG]; exact grownCap_ge w _ _ _
 have hG63 : G ≤ 9223372036854775807 := by
  have := grownCap_le_maxLen w (n + m) c 58 (by unfold maxLen; omega)
  rw [← hG] at this
  unfold maxLen at this
  omega
 have hGi : ¬ (G = i) := by omega
 have hGim : ¬ (G = i + m) := by omega
 have hci : ¬ (c = i) := by omega
 have hbN : b ≠ w.heap.size := by omega
 have hdl : (cs.drop (i * 3)).length = (n - i) * 3 := by rw [List.length_drop, hcl]; omega
 have hcpB : ∀ (W : World), (∀ x, W.cell? x = (W1.setCells w.heap.size (i * 3) vs).cell? x) → (∀ x, W.frozen? x = (W1.setCells w.heap.size (i * 3) vs).frozen? x) → ∀ ty dc sc, (Builtin.copy_ #[32, 32] ty #[.slice (some ⟨w.heap.size, (i + m) * 3, none⟩) (n + m - (i + m)) dc, .slice (some ⟨b, off + i * 3, none⟩) (n - i) sc]).run Tryz.prog W = .ok (goInt (n - i : Nat)) (W.setCells w.heap.size ((i + m) * 3) (cs.drop (i * 3))) := fun W hWc hWf ty dc sc => by
  have := run_copy_cellsK (P := Tryz.prog) W 32 32 ty 58 3 w.heap.size ((i + m) * 3) (n + m - (i + m)) dc ⟨b, off + i * 3, none⟩ (n - i) sc (cs.drop (i * 3)) tSL hsz (by rw [hdl, mn2])
   (fun j v hj => by
    rw [Addr.add_lit, hWc, World.cell?_setCells_out _ _ _ _ _ (fun h _ => absurd h hbN), Nat.add_assoc]
    exact hOb _ v (hcs (i * 3 + j) v (by rwa [List.getElem?_drop] at hj)))
   (fun j hj => by rw [hWc]; exact isSome_setCells _ _ _ _ (fun t ht => hN _ (by omega)) _ (hN _ (by omega)))
   (fun j hj => by rw [hWf, World.frozen?_setCells]; exact hNf _) (fun v hv => h1c v (List.mem_of_mem_drop hv))
  rw [mn2] at this
  exact this
 subst hW1
 have hE1 : ∀ x, ((w.alloc (.cells ROW 58)).drew).cell? x = (w.drew.alloc (.cells ROW 58)).cell? x := fun x => rfl
 have hE2 : ∀ x, ((w.alloc (.cells ROW 58)).drew).frozen? x = (w.drew.alloc (.cells ROW 58)).frozen? x := fun x => rfl
 have hF1 : ∀ x, (((w.alloc (.cells ROW 58)).drew.setCells w.heap.size (i * 3) vs).drew).cell? x = ((w.drew.alloc (.cells ROW 58)).setCells w.heap.size (i * 3) vs).cell? x := fun x => rfl
 have hF2 : ∀ x, (((w.alloc (.cells ROW 58)).drew.setCells w.heap.size (i * 3) vs).drew).frozen? x = ((w.drew.alloc (.cells ROW 58)).setCells w.heap.size (i * 3) vs).frozen? x := fun x => rfl
 have hw1 : IntKind.i64.wrap ((i : Int) + (m : Int)) = (i : Int) + (m : Int) := by rw [IntKind.wrap_i64]; omega
 have hb1 : (0 : Int) ≤ (i : Int) + (m : Int) := by omega
 have hin : i ≤ n := by omega
 have htn : ((i : Int) + (m : Int)).toNat = i + m := by omega
 have hb3 : (i : Int) ≤ (n : Int) := by omega
 clear hkk hik hold hROW hG hRl
 go_enter Tryz.func114, Tryz.ntmps114
 go_wp2_with (first
  | (at_builtin; refine Lib.wpList_append_run _ rfl _ _ _ _ rfl _ _ rfl rfl _ _ (hrz _) ?_)
  | (at_builtin; refine wpList_copy_runI _ rfl _ _ 32 32 rfl _ _ rfl rfl (hcpA _ hE1 hE2 _ _) ?_)
  | (at_builtin; refine wpList_copy_runI _ rfl _ _ 32 32 rfl _ _ rfl rfl (hcpB _ (fun _ => rfl) (fun _ => rfl) _ _ _) ?_))
 go_region_law_o (refine step_copy_runI rfl _ _ 32 32 rfl (.slice (some ⟨w.heap.size, (i + m) * 3, none⟩) (n + m - (i + m)) (G - (i + m))) (.slice (some ⟨b, off + i * 3, none⟩) (n - i) (c - i)) (by simp [Act.eval, Act.put]) (by simp [Act.eval, Act.put]) (hcpB _ hF1 hF2 3 (G - (i + m)) (c - i)) ?_)
 go_wp2
 go_ret
 exact ⟨rfl, rfl⟩
end InsT
end
section
open Go Go.PG Go.Proofs Go.RowKit
namespace InsT
open InsB (RowRep.takeN RowRep.dropN rows_of sets mem_of_row)
theorem ins_ok {G : World → Prop} {e : Ty} (he : e.size = 3) : InsOk Tryz.prog G 114 e 48 := by
 intro Z w A cap xs ys n vb vo vc _ hxc hn0 hnl hyl hbytes hxs hyc hys
 obtain ⟨i, rfl⟩ : ∃ i : Nat, n = i := ⟨n.toNat, by omega⟩
 have hin : i ≤ xs.length := by omega
 have hpos : 0 < e.size := by omega
 have hins : PG.P.insAt xs (i : Int) ys = xs.take i ++ ys ++ xs.drop i := rfl
 have hlen : (PG.P.insAt xs (i : Int) ys).length = xs.length + ys.length := by
  rw [hins]; simp [List.length_take, List.length_drop]; omega
 rw [hlen]
 obtain ⟨vcs, vel, fz, hvb, hvfit⟩ : ∃ vcs vel fz, w.heap[vb]? = some (.cells vcs vel fz) ∧ vo + ys.length * e.size ≤ vcs.size := by
  obtain ⟨d, h1, h2⟩ := hys (ys.length - 1) _ (List.getElem?_eq_getElem (by omega))
  have hd := h1.len
  have hc := h2 (e.size - 1) _ (List.getElem?_eq_getElem (by omega))
  unfold World.cell? at hc
  split at hc
  case h_2 => cases hc
  rename_i vcs vel fz hq
  simp only [Option.isSome_none, Bool.false_eq_true, if_false] at hc
  have hlt := (Array.getElem?_eq_some_iff.1 hc).1
  refine ⟨vcs, vel, fz, hq, ?_⟩
  have hm : ys.length * e.size = (ys.length - 1) * e.size + e.size := by
   obtain ⟨k, hk⟩ : ∃ k, ys.length = k + 1 := ⟨ys.length - 1, by omega⟩
   rw [hk, Nat.add_sub_cancel, Nat.add_mul, Nat.one_mul]
  omega
 obtain ⟨rv, cv⟩ := rows_of hpos hvb (by omega) hys
 generalize hVS : (vcs.toList.drop vo).take (ys.length * e.size) = VS at rv cv
 have hVl : VS.length = ys.length * 3 := by rw [rv.1, he]
 have h1v : ∀ v ∈ VS, v.oneCell' = true := rowrep_one hpos rv
 have hbig : (xs.length + ys.length) * 48 ≤ 140737488355328 := by omega
 have hvsz : 0 < vcs.size := by
  have : 1 * e.size ≤ ys.length * e.size := Nat.mul_le_mul_right _ hyl
  omega
 have hVc : RowRep Z w e ys VS := rv
 -- a new row
 have newrow : ∀ (w' : World) (G0 : Nat) (cs' : Array Value) (el' : TypeId), xs.length + ys.length ≤ G0 → w'.heap[w.heap.size]? = some (.cells cs' el' (0, 0)) → G0 * e.size ≤ cs'.size →
   (∀ j x, (xs.take i ++ ys ++ xs.drop i)[j]? = some x → ∃ d, RepD Z w e x d ∧ Mem w' w.heap.size (0 + j * e.size) d) → (∀ k, k < w.heap.size → w'.heap[k]? = w.heap[k]?) → w'.os = w.os ∧ w'.tape = w.tape ∧ w'.output = w.output ∧ w.heap.size ≤ w'.heap.size →
   ∃ b' o' cap' cs' el', Ending.returned (.slice (some ⟨w.heap.size, 0, none⟩) (xs.length + ys.length) G0) = .returned (.slice (some ⟨b', o', none⟩) (xs.length + ys.length) cap') ∧ xs.length + ys.length ≤ cap' ∧
    w'.heap[b']? = some (.cells cs' el' (0, 0)) ∧ o' + cap' * e.size ≤ cs'.size ∧ (∀ i_1 x, (PG.P.insAt xs (i : Int) ys)[i_1]? = some x → ∃ d, RepD Z w e x d ∧ Mem w' b' (o' + i_1 * e.size) d) ∧
    (w.heap.size ≤ b' ∨ cap ≠ 0 ∧ ∃ o, A = some ⟨b', o, none⟩) ∧ (∀ k, k < w.heap.size → (cap ≠ 0 → ∀ o, A ≠ some ⟨k, o, none⟩) → w'.heap[k]? = w.heap[k]?) ∧
    w'.os = w.os ∧ w'.tape = w.tape ∧ w'.output = w.output ∧ w.heap.size ≤ w'.heap.size := by
  intro w' G0 cs' el' h1 h2 h3 h4 h5 h6
  exact ⟨w.heap.size, 0, G0, cs', el', rfl, h1, h2, by omega, h4, .inl (Nat.le_refl _), fun k hk _ => h5 k hk, h6⟩
 -- at the end, no room
 have endGrow : ∀ (base : Option Addr) (CS : List Value), A = base → i = xs.length → cap < xs.length + ys.length → RowRep Z w e xs CS → (base = none → xs.length = 0) → (∀ a, base = some a → ∀ j v, CS[j]? = some v → w.cell? (a.add j) = some v) →
   Calls Tryz.prog 114 #[.slice A xs.length cap, .int .i64 i, .slice (some ⟨vb, vo, none⟩) ys.length vc] w fun e' w' => ∃ b' o' cap' cs' el', e' = .returned (.slice (some ⟨b', o', none⟩) (xs.length + ys.length) cap') ∧ xs.length + ys.length ≤ cap' ∧
    w'.heap[b']? = some (.cells cs' el' (0, 0)) ∧ o' + cap' * e.size ≤ cs'.size ∧ (∀ i_1 x, (PG.P.insAt xs (i : Int) ys)[i_1]? = some x → ∃ d, RepD Z w e x d ∧ Mem w' b' (o' + i_1 * e.size) d) ∧
    (w.heap.size ≤ b' ∨ cap ≠ 0 ∧ ∃ o, A = some ⟨b', o, none⟩) ∧ (∀ k, k < w.heap.size → (cap ≠ 0 → ∀ o, A ≠ some ⟨k, o, none⟩) → w'.heap[k]? = w.heap[k]?) ∧
    w'.os = w.os ∧ w'.tape = w.tape ∧ w'.output = w.output ∧ w.heap.size ≤ w'.heap.size := by
  intro base CS hA hi hroom hrow hnil hcs
  subst hA
  subst hi
  refine (end_grow A xs.length cap vb vo ys.length vc CS VS w hyl hxc hroom hbig (by rw [hrow.1, he]) hVl hnil hcs cv h1v).mono fun e' w' ⟨ZZ, hZ, h1, h2⟩ => ?_
  subst h1; subst h2
  refine newrow _ _ ((CS ++ VS).toArray ++ Builtin.zeroCells ZZ (grownCap w (xs.length + ys.length) cap 58 - (xs.length + ys.length))) 58 (grownCap_ge _ _ _ _) (alloc_get w.drew _) ?_ ?_ (fun k hk => alloc_old w.drew _ k hk) ⟨rfl, rfl, rfl, by rw [alloc_size]; exact Nat.le_succ _⟩
  ·have hge := grownCap_ge w (xs.length + ys.length) cap 58
   simp only [Array.size_append, List.size_toArray, List.length_append, hrow.1, hVl, zeroCells_len, hZ, he]
   omega
  ·rw [List.take_length, List.drop_length, List.append_nil]
   refine mem_of_row (hrow.append hVc) fun k v hv => ?_
   have hg : (w.drew.alloc (.cells ((CS ++ VS).toArray ++ Builtin.zeroCells ZZ (grownCap w (xs.length + ys.length) cap 58 - (xs.length + ys.length))) 58 (0, 0))).heap[w.heap.size]? = _ := alloc_get w.drew _
   have hk := (List.getElem?_eq_some_iff.1 hv).1
   simp only [World.cell?, hg, Option.isSome_none, Bool.false_eq_true, if_false, Nat.zero_add]
   rw [Array.getElem?_append_left (by simpa using hk)]
   simpa using hv
 rcases hxs with rfl | ⟨b, o, cells, el, rfl, hbv, hb, hfit, hxs⟩
 ·have hx0 : xs = [] := List.length_eq_zero_iff.1 (by omega)
  have hi0 : i = 0 := by rw [hx0] at hin; simpa using hin
  subst hx0; subst hi0
  exact endGrow A [] rfl rfl (by simpa using hyl) ⟨by simp, fun i x hx => by simp at hx⟩ (fun _ => rfl) (fun a _ j v hj => by simp at hj)
 have hmulx : xs.length * e.size ≤ cap * e.size := Nat.mul_le_mul_right _ hxc
 obtain ⟨rx, cx'⟩ := rows_of hpos hb (by omega) hxs
 generalize hCS : (cells.toList.drop o).take (xs.length * e.size) = CS at rx cx'
 have hCl : CS.length = xs.length * 3 := by rw [rx.1, he]
 have h1c : ∀ v ∈ CS, v.oneCell' = true := rowrep_one hpos rx
 have hcell : ∀ k, w.cell? ⟨b, k, none⟩ = cells[k]? := fun k => by simp [World.cell?, hb]
 have fzb : ∀ k, w.frozen? ⟨b, k, none⟩ = false := fun k => by simp [World.frozen?, hb]
 have rtake : RowRep Z w e (xs.take i) (CS.take (i * 3)) := by have := RowRep.takeN rx i hin; rwa [he] at this
 have rdrop : RowRep Z w e (xs.drop i) (CS.drop (i * 3)) := by have := RowRep.dropN rx i; rwa [he] at this
 have rall := (rtake.append hVc).append rdrop
 have hdrop : (CS.drop (i * 3)).length = (xs.length - i) * 3 := by rw [List.length_drop, hCl]; omega
 have htake : (CS.take (i * 3)).length = i * 3 := by rw [List.length_take, hCl]; omega
 by_cases hroom : xs.length + ys.length ≤ cap
 ·have hmr : (xs.length + ys.length) * e.size ≤ cap * e.size := Nat.mul_le_mul_right _ hroom
  rw [he] at hmr hfit
  have some_ : ∀ k, k < (xs.length + ys.length) * 3 → (w.cell? ⟨b, o + k, none⟩).isSome = true := fun k hk => by
   rw [hcell, Array.getElem?_eq_getElem (by omega)]; rfl
  have hc0 : cap ≠ 0 := by omega
  rcases Nat.lt_or_ge i xs.length with hi | hi
  ·refine (shift b o xs.length cap i vb vo ys.length vc CS VS w hi hyl hroom hbig (Ne.symm hbv) hCl hVl cx' some_ (fun k _ => fzb _) cv h1c h1v vel el vcs.size cells.size (by simp [World.shape?, hvb]) (by simp [World.shape?, hb]) (by omega) (fun k => fzb k)).mono fun e' w' ⟨h1, h2⟩ => ?_
   subst h1; subst h2
   obtain ⟨p1, p2, p3, p4, p5, p6⟩ := sets b (CS.drop (i * 3)) (o + (i + ys.length) * 3) w.drew
   obtain ⟨q1, q2, q3, q4, q5, q6⟩ := sets b VS (o + i * 3) (w.drew.setCells b (o + (i + ys.length) * 3) (CS.drop (i * 3)))
   obtain ⟨c1, r1, r2⟩ := p6 cells el (0, 0) hb
   obtain ⟨c2, r3, r4⟩ := q6 c1 el (0, 0) r1
   have s1 : ∀ k, k < (xs.length + ys.length) * 3 → ((w.drew.setCells b (o + (i + ys.length) * 3) (CS.drop (i * 3))).cell? ⟨b, o + k, none⟩).isSome = true := fun k hk => by
    simp only [World.cell?, r1, Option.isSome_none, Bool.false_eq_true, if_false]
    rw [Array.getElem?_eq_getElem (by omega)]; rfl
   refine ⟨b, o, cap, c2, el, rfl, hroom, r3, by rw [r4, r2, he]; omega, ?_, .inr ⟨hc0, o, rfl⟩, fun k hk hA => (q5 k fun z => hA hc0 o (by rw [z])).trans (p5 k fun z => hA hc0 o (by rw [z])), q1.trans p1, q2.trans p2, q3.trans p3, by rw [q4, p4]; exact Nat.le_refl _⟩
   refine mem_of_row rall fun k v hv => ?_
   rcases Nat.lt_or_ge k (i * 3) with z1 | z1
   ·rw [List.append_assoc, List.getElem?_append_left (by omega), List.getElem?_take, if_pos z1] at hv
    rw [World.cell?_setCells_out _ _ _ _ _ (fun _ _ => .inl (by show o + k < o + i * 3; omega)), World.cell?_setCells_out _ _ _ _ _ (fun _ _ => .inl (by show o + k < o + (i + ys.length) * 3; omega))]
    exact cx' k v hv
   ·rw [List.append_assoc, List.getElem?_append_right (by omega), htake] at hv
    rcases Nat.lt_or_ge k ((i + ys.length) * 3) with z2 | z2
    ·rw [List.getElem?_append_left (by omega)] at hv
     obtain ⟨hlt, hv⟩ := List.getElem?_eq_some_iff.1 hv
     have := World.cell?_setCells_in b VS (o + i * 3) (w.drew.setCells b (o + (i + ys.length) * 3) (CS.drop (i * 3))) (fun j hj => by rw [Nat.add_assoc]; exact s1 _ (by omega)) (k - i * 3) hlt
     rw [show o + i * 3 + (k - i * 3) = o + k by omega, hv] at this
     exact this
    ·rw [List.getElem?_append_right (by omega), hVl] at hv
     obtain ⟨hlt, hv⟩ := List.getElem?_eq_some_iff.1 hv
     rw [World.cell?_setCells_out _ _ _ _ _ (fun _ _ => .inr (by show o + i * 3 + VS.length ≤ o + k; omega))]
     have := World.cell?_setCells_in b (CS.drop (i * 3)) (o + (i + ys.length) * 3) w.drew (fun j hj => by rw [Nat.add_assoc]; exact some_ _ (by omega)) (k - i * 3 - ys.length * 3) hlt
     rw [show o + (i + ys.length) * 3 + (k - i * 3 - ys.length * 3) = o + k by omega, hv] at this
     exact this
  ·have hi : i = xs.length := by omega
   subst hi
   refine (end_room b o xs.length cap vb vo ys.length vc VS w hyl hroom hbig hVl (fun j hj => by rw [Nat.add_assoc]; exact some_ _ (by omega)) (fun k _ => fzb _) cv h1v).mono fun e' w' ⟨h1, h2⟩ => ?_
   subst h1; subst h2
   obtain ⟨q1, q2, q3, q4, q5, q6⟩ := sets b VS (o + xs.length * 3) w
   obtain ⟨c2, r3, r4⟩ := q6 cells el (0, 0) hb
   refine ⟨b, o, cap, c2, el, rfl, hroom, r3, by rw [r4, he]; omega, ?_, .inr ⟨hc0, o, rfl⟩, fun k hk hA => q5 k fun z => hA hc0 o (by rw [z]), q1, q2, q3, by rw [q4]; exact Nat.le_refl _⟩
   refine mem_of_row rall fun k v hv => ?_
   rcases Nat.lt_or_ge k (xs.length * 3) with z1 | z1
   ·rw [List.append_assoc, List.getElem?_append_left (by omega), List.getElem?_take, if_pos z1] at hv
    rw [World.cell?_setCells_out _ _ _ _ _ (fun _ _ => .inl (by show o + k < o + xs.length * 3; omega))]
    exact cx' k v hv
   ·rw [List.append_assoc, List.getElem?_append_right (by omega), htake] at hv
    have hlt := (List.getElem?_eq_some_iff.1 hv).1
    rw [List.length_append, hdrop, Nat.sub_self, Nat.zero_mul, Nat.add_zero] at hlt
    rw [List.getElem?_append_left hlt] at hv
    obtain ⟨hlt, hv⟩ := List.getElem?_eq_some_iff.1 hv
    have := World.cell?_setCells_in b VS (o + xs.length * 3) w (fun j hj => by rw [Nat.add_assoc]; exact some_ _ (by omega)) (k - xs.length * 3) hlt
    rw [show o + xs.length * 3 + (k - xs.length * 3) = o + k by omega, hv] at this
    exact this
 ·have hroom : cap < xs.length + ys.length := by omega
  rcases Nat.lt_or_ge i xs.length with hi | hi
  ·refine (grow b o xs.length cap i vb vo ys.length vc CS VS w hi hyl hxc hroom hbig hCl hVl cx' cv h1c h1v).mono fun e' w' ⟨ZZ, hZ, h1, h2⟩ => ?_
   subst h1
   have hge := grownCap_ge w (xs.length + ys.length) cap 58
   generalize grownCap w (xs.length + ys.length) cap 58 = GC at hge h2 ⊢
   obtain ⟨ROW, hROW⟩ : ∃ ROW : Array Value, ROW = (CS.take (i * 3)).toArray ++ Builtin.zeroCells ZZ (xs.length + ys.length - i) ++ Builtin.zeroCells ZZ (GC - (xs.length + ys.length)) := ⟨_, rfl⟩
   rw [← hROW] at h2
   have hRl : ROW.size = GC * 3 := by
    rw [hROW]
    simp only [Array.size_append, List.size_toArray, htake, zeroCells_len, hZ]
    omega
   have hRt : ∀ k, k < i * 3 → ROW[k]? = CS[k]? := fun k hk => by
    rw [hROW, Array.append_assoc, Array.getElem?_append_left (by simpa [htake] using hk)]
    simp [List.getElem?_take, hk]
   generalize hW0 : (w.alloc (.cells ROW 58 (0, 0))).drew = W0 at h2
   have g0 : W0.heap[w.heap.size]? = some (.cells ROW 58 (0, 0)) := by rw [← hW0]; exact alloc_get w _
   have g1 : ∀ k, k < w.heap.size → W0.heap[k]? = w.heap[k]? := fun k hk => by rw [← hW0]; exact alloc_old w _ k hk
   have g2 : W0.os = w.os ∧ W0.tape = w.tape ∧ W0.output = w.output ∧ W0.heap.size = w.heap.size + 1 := by rw [← hW0]; exact ⟨rfl, rfl, rfl, alloc_size w _⟩
   obtain ⟨p1, p2, p3, p4, p5, p6⟩ := sets w.heap.size VS (i * 3) W0
   generalize hW1 : (W0.setCells w.heap.size (i * 3) VS) = W1 at h2 p1 p2 p3 p4 p5 p6
   obtain ⟨q1, q2, q3, q4, q5, q6⟩ := sets w.heap.size (CS.drop (i * 3)) ((i + ys.length) * 3) W1.drew
   obtain ⟨c1, r1, r2⟩ := p6 ROW 58 (0, 0) g0
   obtain ⟨c2, r3, r4⟩ := q6 c1 58 (0, 0) r1
   subst h2
   refine newrow _ GC c2 58 hge r3 (by rw [r4, r2, hRl, he]; exact Nat.le_refl _) ?_ (fun k hk => (q5 k (by omega)).trans ((p5 k (by omega)).trans (g1 k hk)))
    ⟨q1.trans (p1.trans g2.1), q2.trans (p2.trans g2.2.1), q3.trans (p3.trans g2.2.2.1), by rw [q4]; show w.heap.size ≤ W1.heap.size; rw [p4, g2.2.2.2]; exact Nat.le_succ _⟩
   refine mem_of_row rall fun k v hv => ?_
   have s0 : ∀ k, k < GC * 3 → (W0.cell? ⟨w.heap.size, k, none⟩).isSome = true := fun k hk => by
    simp only [World.cell?, g0, Option.isSome_none, Bool.false_eq_true, if_false]
    rw [Array.getElem?_eq_getElem (by omega)]; rfl
   have s1 : ∀ k, k < GC * 3 → (W1.drew.cell? ⟨w.heap.size, k, none⟩).isSome = true := fun k hk => by
    have r1' : W1.drew.heap[w.heap.size]? = some (.cells c1 58 (0, 0)) := r1
    simp only [World.cell?, r1', Option.isSome_none, Bool.false_eq_true, if_false]
    rw [Array.getElem?_eq_getElem (by omega)]; rfl
   rw [Nat.zero_add]
   rcases Nat.lt_or_ge k (i * 3) with z1 | z1
   ·rw [List.append_assoc, List.getElem?_append_left (by omega), List.getElem?_take, if_pos z1] at hv
    rw [World.cell?_setCells_out _ _ _ _ _ (fun _ _ => .inl (by show k < (i + ys.length) * 3; omega))]
    show W1.cell? _ = _
    rw [← hW1, World.cell?_setCells_out _ _ _ _ _ (fun _ _ => .inl z1)]
    simp only [World.cell?, g0, Option.isSome_none, Bool.false_eq_true, if_false]
    rw [hRt k z1]
    exact hv
   ·rw [List.append_assoc, List.getElem?_append_right (by omega), htake] at hv
    rcases Nat.lt_or_ge k ((i + ys.length) * 3) with z2 | z2
    ·rw [List.getElem?_append_left (by omega)] at hv
     obtain ⟨hlt, hv⟩ := List.getElem?_eq_some_iff.1 hv
     rw [World.cell?_setCells_out _ _ _ _ _ (fun _ _ => .inl z2)]
     show W1.cell? _ = _
     have := World.cell?_setCells_in w.heap.size VS (i * 3) W0 (fun j hj => s0 _ (by omega)) (k - i * 3) hlt
     rw [show i * 3 + (k - i * 3) = k by omega, hv, hW1] at this
     exact this
    ·rw [List.getElem?_append_right (by omega), hVl] at hv
     obtain ⟨hlt, hv⟩ := List.getElem?_eq_some_iff.1 hv
     have := World.cell?_setCells_in w.heap.size (CS.drop (i * 3)) ((i + ys.length) * 3) W1.drew (fun j hj => s1 _ (by omega)) (k - i * 3 - ys.length * 3) hlt
     rw [show (i + ys.length) * 3 + (k - i * 3 - ys.length * 3) = k by omega, hv] at this
     exact this
  ·have hi : i = xs.length := by omega
   exact endGrow _ CS rfl hi hroom rx (fun z => by cases z) (fun a ha j v hj => by injection ha with ha; subst ha; rw [Addr.add_lit]; exact cx' j v hj)
end InsT
end

/- The evaluator's soundness: calls; each operation. -/
import Derived.Test.YtmklilemnfkppaaPGL
set_option linter.all false
namespace Go.PG
open Go.RowKit

variable {Pg : Program} {G : World → Prop} {E : Env} {S : Nat → Prop} {B : Nat} {w0 w w' : World} {h : Hp} {M : Nat → Bk} {ρ : Type} {K : AV → Hp → Option ρ} {r : ρ} {st : St} {a : Act} {o : Oper}

/-- Blocks more, nothing else. -/
theorem HInv.grow (H : HInv S B w0 h M w) (b : Below w.heap.size w w') : HInv S B w0 h M w' ∧ HStp S h M w h M w' := by
  have k : Tr (cx S h M w) (cx S h M w') := ⟨fun c hc hz => ⟨hz, b.block c hc⟩, Nat.le_refl _, fun id _ => ids_self H id⟩
  exact ⟨⟨fun id q hq => (H.ent id q hq).tr k rfl (fun c hc => b.block c (blk_lt H (by rw [hq]; simp) hc)), H.fresh, H.dist, H.own, H.bel.trans (b.mono H.bsz), Nat.le_trans H.bsz b.size, H.old, H.bw⟩, k, rfl, fun _ _ _ => ⟨rfl, rfl⟩⟩

theorem RepD.flat {Z Z' : Nat → Prop} {w w' : World} : ∀ {t : Ty} {x : t.D} {cs : List Value}, t.flat = true → RepD Z w t x cs → RepD Z' w' t x cs := by
  intro t
  induction t with
  | slice e ih => intro x cs f; simp [Ty.flat] at f
  | opq => intro x cs f; simp [Ty.flat] at f
  | st b ih => intro x cs f h; simp only [Ty.flat] at f; simp only [RepD] at h ⊢; exact ih f h
  | pair p q ihp ihq =>
    intro x cs f h
    simp only [Ty.flat, Bool.and_eq_true] at f
    simp only [RepD] at h ⊢
    obtain ⟨c1, c2, rfl, h1, h2⟩ := h
    exact ⟨c1, c2, rfl, ihp f.1 h1, ihq f.2 h2⟩
  | _ => intro x cs _ h; exact h

theorem RepDV.flat {Z Z' : Nat → Prop} {w w' : World} {t : Ty} {x : t.D} {v : Value} (f : t.flat = true) (h : RepDV Z w t x v) : RepDV Z' w' t x v := by
  rcases h with ⟨e, cs, rfl, h⟩ | ⟨e, h⟩
  · exact .inl ⟨e, cs, rfl, h.flat f⟩
  · exact .inr ⟨e, h.flat f⟩

theorem repT_data {c : Cx} {t : Ty} {x : t.D} {vs : List Value} : RepT c (.data t x) vs ↔ ∃ v, vs = [v] ∧ RepDV c.Z c.w t x v := by
  simp only [RepT, RepDV]

theorem cz_Zeq (Z : Nat → Prop) (w : World) : (cz Z w).Z = Z := funext fun b => propext (cz_Z Z w b)

theorem repT_spread_flat {Z Z' : Nat → Prop} {w w' : World} : ∀ (t : Ty) (x : t.D) (vs : List Value), t.flat = true → RepT (cz Z w) (spread t x) vs → RepT (cz Z' w') (spread t x) vs := by
  intro t
  induction t with
  | pair p q ihp ihq =>
    intro x vs f h
    simp only [Ty.flat, Bool.and_eq_true] at f
    simp only [spread, RepT, RepV] at h ⊢
    obtain ⟨v, vs', e, h1, h2⟩ := h
    rw [cz_Zeq] at h1 ⊢
    exact ⟨v, vs', e, RepDV.flat f.1 h1, ihq x.2 vs' f.2 h2⟩
  | _ =>
    intro x vs f h
    simp only [spread] at h ⊢
    rw [repT_data] at h ⊢
    obtain ⟨v, e, h⟩ := h
    exact ⟨v, e, h.flat f⟩

theorem resV_flat {Z Z' : Nat → Prop} {w w' : World} {t : Ty} {x : t.D} {v : Value} (f : t.flat = true) (h : RepV (cz Z w) (resAV t x) v) : RepV (cz Z' w') (resAV t x) v := by
  cases t with
  | pair p q =>
    simp only [resAV, RepV] at h ⊢
    obtain ⟨vs, e, h⟩ := h
    exact ⟨vs, e, repT_spread_flat (.pair p q) x _ f h⟩
  | unit => simp only [resAV, RepV, RepT] at h ⊢; exact h
  | _ =>
    simp only [resAV] at h ⊢
    have h := repV_data h
    simp only [RepV]
    exact h.flat f

theorem toD_V (H : HInv S B w0 h M w) {Z' : Nat → Prop} (hZ : ∀ b, Z' b → (cx S h M w).Z b) {v : AV} {t : Ty} {x : t.D} {u : Value} (hown : ∀ id ∈ v.owns, ∀ b, h.e id ≠ none → (M id).blk = some b → ¬ Z' b)
    (hx : toD h v t = some x) (hu : RepV (cx S h M w) v u) : RepDV Z' w t x u := by
  have hne : v ≠ .unit := by rintro rfl; exact (by simpa only [RepV] using hu : False)
  have hsol := toD_solid v t x hx hne
  have hd := toD_rep H hZ v t x _ hown hx (repV_cells v u hsol hu)
  cases v with
  | data t' x' =>
    simp only [toD] at hx
    split at hx
    · rename_i e
      subst e
      rcases repV_data hu with ⟨q, cs, rfl, _⟩ | ⟨q, hq⟩
      · exact .inl ⟨q, cs, rfl, hd⟩
      · rw [oneCell_cells (hq.one u (by simp))] at hd
        exact .inr ⟨q, by simpa using hd⟩
    · cases hx
  | nilS e =>
    cases t with
    | slice e' => simp only [RepV] at hu; obtain ⟨z, h4, h5⟩ := hu.one; injection h4 with h4; subst h4; rw [oneCell_cells h5] at hd; exact .inr ⟨rfl, by simpa using hd⟩
    | _ => simp [toD] at hx
  | own id =>
    cases t with
    | slice e' => simp only [RepV] at hu; obtain ⟨z, h4, h5⟩ := hu.one; injection h4 with h4; subst h4; rw [oneCell_cells h5] at hd; exact .inr ⟨rfl, by simpa using hd⟩
    | _ => simp [toD] at hx
  | st b =>
    cases t with
    | st tb =>
      simp only [RepV] at hu
      obtain ⟨cs, rfl, _⟩ := hu
      exact .inl ⟨rfl, cs, rfl, hd⟩
    | _ => simp [toD] at hx
  | pr p q => simp only [RepV] at hu
  | unit => exact absurd rfl hne
  | _ => simp [toD] at hx

/-- Values, one by one. -/
def Reps (c : Cx) (args : List AV) (vals : List Value) : Prop := args.length = vals.length ∧ ∀ (i : Nat) (a : AV) (v : Value), args[i]? = some a → vals[i]? = some v → RepV c a v

theorem reps_cons {c : Cx} {a : AV} {args : List AV} {vals : List Value} (h : Reps c (a :: args) vals) : ∃ v vs, vals = v :: vs ∧ RepV c a v ∧ Reps c args vs := by
  obtain ⟨h1, h2⟩ := h
  cases vals with
  | nil => simp at h1
  | cons v vs => exact ⟨v, vs, rfl, h2 0 a v rfl rfl, by simpa using h1, fun i x y hx hy => h2 (i + 1) x y (by simpa using hx) (by simpa using hy)⟩

theorem args_rep (H : HInv S B w0 h M w) {Z' : Nat → Prop} (hZ : ∀ b, Z' b → (cx S h M w).Z b) : ∀ (args : List AV) (t : Ty) (v : AV) (x : t.D) (vals : List Value), argsD h args t = some v → toD h v t = some x →
    (∀ id ∈ v.owns, ∀ b, h.e id ≠ none → (M id).blk = some b → ¬ Z' b) → Reps (cx S h M w) args vals → RepT (cz Z' w) (argAV t x) vals := by
  intro args
  induction args with
  | nil =>
    intro t v x vals ha hx _ hr
    simp only [argsD] at ha
    injection ha with ha
    subst ha
    have hv : vals = [] := List.eq_nil_of_length_eq_zero hr.1.symm
    subst hv
    cases t <;> simp [toD] at hx
    simp [argAV, RepT]
  | cons a args ih =>
    intro t v x vals ha hx hown hr
    obtain ⟨u, vs, rfl, hu, hr'⟩ := reps_cons hr
    cases args with
    | nil =>
      have hvs : vs = [] := List.eq_nil_of_length_eq_zero hr'.1.symm
      subst hvs
      cases t with
      | unit => simp [argsD] at ha
      | pair p q => simp [argsD] at ha
      | _ =>
        simp only [argsD] at ha
        injection ha with ha
        subst ha
        have hV := toD_V H hZ hown hx hu
        simp only [argAV]
        rw [repT_data, cz_Zeq]
        exact ⟨u, rfl, hV⟩
    | cons a2 args2 =>
      cases t with
      | pair p q =>
        simp only [argsD] at ha
        split at ha
        · rename_i z hz
          injection ha with ha
          subst ha
          simp only [toD] at hx
          split at hx
          case h_2 => cases hx
          rename_i x1 hx1
          split at hx
          case h_2 => cases hx
          rename_i x2 hx2
          injection hx with hx
          subst hx
          have hV := toD_V H hZ (fun id hid => hown id (by simp [AV.owns, hid])) hx1 hu
          simp only [argAV, RepT, RepV]
          rw [cz_Zeq]
          exact ⟨u, vs, rfl, hV, ih q z x2 vs hz hx2 (fun id hid => hown id (by simp [AV.owns, hid])) hr'⟩
        · cases ha
      | _ => simp [argsD] at ha

theorem bind_some {α β : Type} {x : Option α} {f : α → Option β} {y : β} (h : P.bind x f = some y) : ∃ z, x = some z ∧ f z = some y := by
  unfold P.bind at h
  cases x with
  | none => cases h
  | some z => exact ⟨z, rfl, h⟩

theorem cx_lt (H : HInv S B w0 h M w) : ∀ b, (cx S h M w).Z b → b < w.heap.size := by
  rintro b (z | ⟨id, e, q1, q2⟩)
  · exact Nat.lt_of_lt_of_le (H.old b z) H.bsz
  · exact blk_lt H (by rw [show h.e id = some e from q1]; simp) q2

theorem spec_ok (HE : EnvOk Pg G E) (hG : G w0) (H : HInv S B w0 h M w) {f : FuncId} {s : Spec} (hs : SpecOk Pg G f s) {args : List AV} {vals : Array Value} (hargs : Reps (cx S h M w) args vals.toList)
    (hr : callSpec s args h K = some r) : Calls Pg f vals w fun e w' => ∃ v, e = .returned v ∧ Post K r S B w0 h M w v w' := by
  have hGw : G w := HE.G w0 w hG (by rw [H.bw]; exact H.bel)
  unfold callSpec at hr
  split at hr
  · cases hr
  rename_i v hv
  have key : ∀ x, toD h v s.a = some x → ∀ res, s.F x = some res →
      Calls Pg f vals w fun e w' => ∃ u, e = .returned u ∧ Below w.heap.size w w' ∧ RepV (cz (cx S (h.kills v.owns) M w).Z w') (resAV s.r res) u := by
    intro x hx res hres
    refine hs (cx S (h.kills v.owns) M w).Z w vals x res hGw (fun b z => cx_lt H b (Z_kills b z)) hres (args_rep H Z_kills args s.a v x vals.toList hv hx ?_ hargs)
    intro id hid b hl hb z
    rcases z with z | ⟨i, e, q1, q2⟩
    · have := H.own id b hl hb
      have := H.old b z
      omega
    · simp only [cx] at q1
      rw [kills_e] at q1
      split at q1
      · cases q1
      · rename_i hni
        have := H.dist id i b hl (by rw [q1]; simp) hb q2
        subst this
        exact hni hid
  split at hr
  · rename_i hflat
    split at hr
    case h_2 => cases hr
    rename_i x hx
    obtain ⟨res, hres, hk⟩ := bind_some hr
    refine (key x hx res hres).mono fun e w' ⟨u, he, hb, hu⟩ => ⟨u, he, ?_⟩
    obtain ⟨H', k⟩ := H.grow hb
    refine ⟨_, h, M, hk, H', k, ?_⟩
    have := resV_flat (Z' := (cx S h M w').Z) (w' := w') hflat hu
    exact RepV.tr (c := cz (cx S h M w').Z w') ⟨by rw [cz_Zeq]; exact Held.refl _ _, Nat.zero_le _, fun id hid => absurd hid (Nat.not_lt_zero _)⟩ _ _ this
  · unfold freeze at hr
    split at hr
    case h_2 => cases hr
    rename_i x hx
    split at hr
    case h_2 => cases hr
    rename_i hul
    simp only at hr
    obtain ⟨res, hres, hk⟩ := bind_some hr
    refine (key x hx res hres).mono fun e w' ⟨u, he, hb, hu⟩ => ⟨u, he, ?_⟩
    obtain ⟨H1, k1⟩ := H.kills hul
    obtain ⟨H', k⟩ := H1.grow hb
    refine ⟨_, h.kills v.owns, M, hk, H', k1.trans k, ?_⟩
    refine RepV.tr (c := cz (cx S (h.kills v.owns) M w).Z w') ⟨?_, Nat.zero_le _, fun id hid => absurd hid (Nat.not_lt_zero _)⟩ _ _ hu
    rw [cz_Zeq]
    intro b _ hz
    exact ⟨fun z => hz (by rcases z with z | z; exact .inl z; exact .inr z), rfl⟩

/-! ### calls -/
theorem caps_reps {c : Cx} : ∀ (v : AV) (vs : List Value), RepT c v vs → Reps c (capsList v) vs := by
  have one : ∀ (v : AV) (vs : List Value), capsList v = [v] → (∃ u, vs = [u] ∧ RepV c v u) → Reps c (capsList v) vs := by
    rintro v vs e ⟨u, rfl, h⟩
    rw [e]
    refine ⟨rfl, fun i a x ha hx => ?_⟩
    cases i with
    | zero => simp at ha hx; subst ha; subst hx; exact h
    | succ i => simp at ha
  intro v
  induction v with
  | unit => intro vs h; simp only [RepT] at h; subst h; exact ⟨rfl, by simp [capsList]⟩
  | pr p q ihp ihq =>
    intro vs h
    simp only [RepT] at h
    obtain ⟨u, vs', rfl, h1, h2⟩ := h
    obtain ⟨h3, h4⟩ := ihq vs' h2
    refine ⟨by simp [capsList, h3], fun i a x ha hx => ?_⟩
    cases i with
    | zero => simp [capsList] at ha hx; subst ha; subst hx; exact h1
    | succ i => simp [capsList] at ha hx; exact h4 i a x ha hx
  | undef => intro vs h; simp only [RepT] at h; obtain ⟨u, rfl⟩ := h; exact one _ _ rfl ⟨u, rfl, by simp only [RepV]⟩
  | tup b _ => intro vs h; simp only [RepT] at h; obtain ⟨us, rfl, h⟩ := h; exact one _ _ rfl ⟨_, rfl, by simp only [RepV]; exact ⟨us, rfl, h⟩⟩
  | data t x => intro vs h; simp only [RepT] at h; obtain ⟨u, rfl, h⟩ := h; exact one _ _ rfl ⟨u, rfl, by simp only [RepV]; exact h⟩
  | st b _ => intro vs h; simp only [RepT] at h; obtain ⟨us, rfl, h⟩ := h; exact one _ _ rfl ⟨_, rfl, by simp only [RepV]; exact ⟨us, rfl, h⟩⟩
  | fn f d _ => intro vs h; simp only [RepT] at h; obtain ⟨us, rfl, h⟩ := h; exact one _ _ rfl ⟨_, rfl, by simp only [RepV]; exact ⟨us, rfl, h⟩⟩
  | nilS e => intro vs h; simp only [RepT] at h; obtain ⟨u, rfl, h⟩ := h; exact one _ _ rfl ⟨u, rfl, by simp only [RepV]; exact h⟩
  | own id => intro vs h; simp only [RepT] at h; obtain ⟨u, rfl, h⟩ := h; exact one _ _ rfl ⟨u, rfl, by simp only [RepV]; exact h⟩
  | ptr id p => intro vs h; simp only [RepT] at h; obtain ⟨u, rfl, h⟩ := h; exact one _ _ rfl ⟨u, rfl, by simp only [RepV]; exact h⟩
  | rptr t x => intro vs h; simp only [RepT] at h; obtain ⟨u, rfl, h⟩ := h; exact one _ _ rfl ⟨u, rfl, by simp only [RepV]; exact h⟩
  | eptr id i p => intro vs h; simp only [RepT] at h; obtain ⟨u, rfl, h⟩ := h; exact one _ _ rfl ⟨u, rfl, by simp only [RepV]; exact h⟩

theorem reps_append {c : Cx} {a1 a2 : List AV} {v1 v2 : List Value} (h1 : Reps c a1 v1) (h2 : Reps c a2 v2) : Reps c (a1 ++ a2) (v1 ++ v2) := by
  refine ⟨by simp [h1.1, h2.1], fun i a v ha hv => ?_⟩
  by_cases hi : i < a1.length
  · rw [List.getElem?_append_left hi] at ha
    rw [List.getElem?_append_left (by rw [← h1.1]; exact hi)] at hv
    exact h1.2 i a v ha hv
  · rw [List.getElem?_append_right (by omega)] at ha
    rw [List.getElem?_append_right (by rw [← h1.1]; omega)] at hv
    exact h2.2 _ a v ha (by rw [h1.1]; exact hv)

theorem run_callFunc {f : FuncId} {args : Array Value} (h : (Pg.funcs[f]?).any (fun fn => fn.name != "runtime.NumGoroutine" && fn.body.isSome) = true) : (callFunc f args).run Pg w = .ok (.enter f args) w := by
  cases hf : Pg.funcs[f]? with
  | none => simp [hf] at h
  | some fn =>
    simp only [hf, Option.any_some, Bool.and_eq_true, bne_iff_ne, ne_eq] at h
    have h1 : (fn.name == "runtime.NumGoroutine") = false := by simpa using h.1
    have h2 : fn.body.isNone = false := by
      cases q : fn.body with
      | none => rw [q] at h; simp at h
      | some b => rfl
    simp only [callFunc, Sem.run_bind, run_program, Result.andThen_ok, hf, h1, h2, Bool.false_eq_true, if_false]
    rfl

theorem call_ok (HE : EnvOk Pg G E) (hG : G w0) {call : Handler} (HC : HandlerOk Pg G S B w0 call) (F : ∀ t, RepV (cx S st.h M w) (st.fr t) (a.tmps.getD t undef)) (H : HInv S B w0 st.h M w) {c : Call} (ho : o.op = .call c)
    {f : Operand} (hc : c.callee = .value f) {g : FuncId} {caps : AV} (hf : opnd none st.fr f = .fn g caps) (hlen : Nat.beq c.args.toList.length c.argTypes.toList.length = true)
    (hr : (match (generalizing := false) look E.specs g, caps with
          | some s, .unit => callSpec s ((c.args.toList.zip c.argTypes.toList).map fun p => opnd (E.ty p.2) st.fr p.1) st.h K
          | _, _ => call g (((c.args.toList.zip c.argTypes.toList).map fun p => opnd (E.ty p.2) st.fr p.1) ++ capsList caps) st.h K) = some r) : Does Pg o a w (Post K r S B w0 st.h M w) := by
  have hx := opnd_rep F none (by intros; simp) f
  rw [hf] at hx
  simp only [RepV] at hx
  obtain ⟨vs, hv, hcaps⟩ := hx
  have hlen' : c.args.toList.length = c.argTypes.toList.length := Nat.eq_of_beq_eq_true hlen
  have hargs : Reps (cx S st.h M w) ((c.args.toList.zip c.argTypes.toList).map fun p => opnd (E.ty p.2) st.fr p.1) (c.args.map a.eval).toList := by
    refine ⟨by simp at hlen' ⊢; omega, fun i x v hx hv => ?_⟩
    simp only [List.getElem?_map, Option.map_eq_some_iff] at hx
    obtain ⟨⟨op, t⟩, h1, rfl⟩ := hx
    rw [List.getElem?_zip_eq_some] at h1
    simp only [Array.toList_map, List.getElem?_map, h1.1, Option.map_some] at hv
    injection hv with hv
    subst hv
    exact opnd_rep F (E.ty t) (HE.noPair t) op
  have enter : ∀ (args : Array Value), args = c.args.map a.eval ++ vs → (Pg.funcs[g]?).any (fun fn => fn.name != "runtime.NumGoroutine" && fn.body.isSome) = true →
      (Calls Pg g args w fun e w' => ∃ v, e = .returned v ∧ Post K r S B w0 st.h M w v w') → Does Pg o a w (Post K r S B w0 st.h M w) := by
    rintro args rfl hany hcall
    refine Does.enter (f := g) (args := c.args.map a.eval ++ vs) ?_ hcall
    simp [execOp, ho, resolve, hc, hv, Deferred.ofValue, invoke, run_callFunc hany]
  have hGw : G w := HE.G w0 w hG (by rw [H.bw]; exact H.bel)
  have gen : call g (((c.args.toList.zip c.argTypes.toList).map fun p => opnd (E.ty p.2) st.fr p.1) ++ capsList caps) st.h K = some r → Does Pg o a w (Post K r S B w0 st.h M w) := by
    intro hr
    obtain ⟨hany, hcall⟩ := HC g _ st.h K r M w (c.args.map a.eval ++ vs) hr H hGw (by
      have := reps_append hargs (caps_reps caps _ hcaps)
      obtain ⟨h1, h2⟩ := this
      exact ⟨by simpa using h1, fun i x v hx hv => h2 i x v hx (by rw [← Array.toList_append, Array.getElem?_toList]; exact hv)⟩)
    exact enter _ rfl hany hcall
  cases hs : look E.specs g with
  | none => rw [hs] at hr; exact gen hr
  | some s =>
    rw [hs] at hr
    cases caps with
    | unit =>
      obtain ⟨hspec, hany⟩ := HE.specs g s hs
      have hvs : vs = #[] := by
        simp only [RepT] at hcaps
        exact Array.toList_inj.1 (by simpa using hcaps)
      subst hvs
      exact enter (c.args.map a.eval) (by simp) hany (spec_ok HE hG H hspec hargs hr)
    | _ => exact gen hr

theorem builtin_run {c : Call} {b : Builtin} {f : Array TypeId → TypeId → Array Value → Sem Value} {z : Value} (ho : o.op = .call c) (hc : c.callee = .builtin b)
    (hb : ∀ at_ t cs args, Go.builtin b at_ t cs args = (do pure (.value (← f at_ t args)))) (hrun : (f c.argTypes o.type (c.args.map a.eval)).run Pg w = .ok z w') : (execOp a.eval o).run Pg w = .ok (.value z) w' := by
  simp [execOp, ho, resolve, hc, invoke, hb, hrun]

theorem evBuiltin_ok (HE : EnvOk Pg G E) (F : ∀ t, RepV (cx S st.h M w) (st.fr t) (a.tmps.getD t undef)) (H : HInv S B w0 st.h M w) {c : Call} (ho : o.op = .call c) {b : Builtin} (hc : c.callee = .builtin b)
    (hr : evBuiltin E b c.argTypes (c.args.toList.map (opnd none st.fr)) st.h K = some r) : Does Pg o a w (Post K r S B w0 st.h M w) := by
  unfold evBuiltin at hr
  split at hr
  · rename_i x hargs
    obtain ⟨y, hy, rfl⟩ : ∃ y, c.args.toList = [y] ∧ x = opnd none st.fr y := by
      cases q : c.args.toList with
      | nil => rw [q] at hargs; cases hargs
      | cons y l => cases l with
        | nil => rw [q] at hargs; simp at hargs; exact ⟨y, rfl, hargs.symm⟩
        | cons z l => rw [q] at hargs; simp at hargs
    have hca : c.args = #[y] := by apply Array.toList_inj.1; simpa using hy
    have hx := opnd_rep F none (by intros; simp) y
    split at hr
    case h_2 => cases hr
    rename_i t l ht
    obtain ⟨tl, hat⟩ : ∃ tl : List TypeId, c.argTypes = (t :: tl).toArray := ⟨l, by apply Array.toList_inj.1; simpa using ht⟩
    have fin : ∀ n, (Builtin.len_ c.argTypes o.type (c.args.map a.eval)).run Pg w = .ok (.int .i64 n) w → K (.data (.int .i64) n) st.h = some r → Does Pg o a w (Post K r S B w0 st.h M w) := by
      intro n h1 h2
      exact Does.value (builtin_run ho hc (fun _ _ _ _ => rfl) h1) (Post.same H h2 (rep_int _ _ _))
    split at hr
    · rename_i s hty e
      obtain ⟨hu, _⟩ := HE.ty t _ hty
      rw [e] at hx
      have hx := repV_str hx
      refine fin _ ?_ hr
      simp [Builtin.len_, hca, hat, hx, run_underlying hu, goInt, P.slen]
    · cases hr
    · rename_i e2 hty hno
      obtain ⟨⟨e', hu, _⟩, _⟩ := HE.ty t _ hty
      split at hr
      case h_2 => cases hr
      rename_i n hn
      rcases len_rep H hn hx with ⟨s, hs, hv, _⟩ | ⟨A, m, cap, hv, hm, _⟩
      · exact (hno s hs).elim
      · refine fin _ ?_ hr
        simp [Builtin.len_, hca, hat, hv, run_underlying hu, goInt, hm]
    · cases hr
  · rename_i s x hargs
    obtain ⟨y, z, hyz, rfl, rfl⟩ : ∃ y z, c.args.toList = [y, z] ∧ s = opnd none st.fr y ∧ x = opnd none st.fr z := by
      cases q : c.args.toList with
      | nil => rw [q] at hargs; cases hargs
      | cons y l => cases l with
        | nil => rw [q] at hargs; simp at hargs
        | cons z l => cases l with
          | nil => rw [q] at hargs; simp at hargs; exact ⟨y, z, rfl, hargs.1.symm, hargs.2.symm⟩
          | cons u l => rw [q] at hargs; simp at hargs
    have hca : c.args = #[y, z] := by apply Array.toList_inj.1; simpa using hyz
    have hy := opnd_rep F none (by intros; simp) y
    have hz := opnd_rep F none (by intros; simp) z
    split at hr
    case h_2 => cases hr
    rename_i t u ht
    have hat : c.argTypes = #[t, u] := by apply Array.toList_inj.1; simpa using ht
    split at hr
    case h_2 => cases hr
    rename_i e2 hu2
    split at hr
    case h_2 => cases hr
    rename_i row hrow
    split at hr
    case h_2 => cases hr
    rename_i e hre
    obtain ⟨⟨xe, hux, _⟩, _⟩ := HE.ty u _ hu2
    obtain ⟨e', info, h1, h2, h3, h4, h5⟩ := HE.bytes t row e hrow hre
    obtain ⟨v, w', hrun, hpost⟩ := append_ok H o.type h1 hux h2 h3 h5 h4 hy hz hr
    refine Does.value (builtin_run ho hc (fun _ _ _ _ => rfl) ?_) hpost
    simpa [hca, hat] using hrun
  · cases hr
end Go.PG

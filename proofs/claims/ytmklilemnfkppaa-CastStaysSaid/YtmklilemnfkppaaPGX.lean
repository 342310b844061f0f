/- The evaluator's soundness: code, functions. -/
import Derived.Test.YtmklilemnfkppaaPGC
set_option linter.all false
namespace Go.PG
open Go.RowKit

variable {Pg : Program} {G : World → Prop} {E : Env} {S : Nat → Prop} {B : Nat} {w0 w w' w'' w1 : World} {h h' : Hp} {M0 M M' M'' M1 : Nat → Bk} {ρ : Type} {r : ρ} {st st' st'' b s s2 s' : St} {a a' a'' a1 : Act} {o : Oper}

theorem evC_ok (HE : EnvOk Pg G E) (hG : G w0) {call : Handler} (HC : HandlerOk Pg G S B w0 call) {hs : List (Nat × Hint)} : ∀ (c : Code), CodeOk Pg E S B w0 call hs c := by
  intro c
  induction c with
  | skip =>
    intro ρ st kn ke kr r a M w Q g hr hn he hk
    simp only [evC] at hr
    exact wp_skip (hn st a M w g (Stp.refl g) hr)
  | region id ops draw =>
    intro ρ st kn ke kr r a M w Q g hr hn he hk
    simp only [evC] at hr
    split at hr
    · exact region_ok HE hG HC g hr hn
    · split at hr
      · rename_i hd; exact draw_ok HE hG HC hd g hr hn
      · cases hr
  | seq x y ihx ihy =>
    intro ρ st kn ke kr r a M w Q g hr hn he hk
    simp only [evC] at hr
    apply wp_seq
    refine ihx st _ ke kr r a M w _ g hr ?_ he hk
    intro st' a' M' w' g' k' hr'
    exact ihy st' kn ke kr r a' M' w' Q g' hr' (hn.after k') (fun i => (he i).after k') (hk.after k')
  | cond c x y ihx ihy =>
    intro ρ st kn ke kr r a M w Q g hr hn he hk
    cases c with
    | tmp t =>
      simp only [evC] at hr
      split at hr
      case h_2 => cases hr
      rename_i v hv
      have hF := g.F t
      rw [hv] at hF
      have hF := repV_bool hF
      have hr := cond_some hr
      cases v with
      | true =>
        simp only [if_true] at hr
        rw [refine1_eq hv] at hr
        exact wp_cond_true (c := .tmp t) hF (ihx st kn ke kr r a M w Q g hr hn he hk)
      | false =>
        simp only [Bool.false_eq_true, if_false] at hr
        rw [refine1_eq hv] at hr
        exact wp_cond_false (c := .tmp t) hF (ihy st kn ke kr r a M w Q g hr hn he hk)
    | const v =>
      cases v with
      | bool b =>
        simp only [evC] at hr
        have hr := cond_some hr
        cases b with
        | true => exact wp_cond_true (c := .const (.bool true)) rfl (ihx st kn ke kr r a M w Q g (by simpa using hr) hn he hk)
        | false => exact wp_cond_false (c := .const (.bool false)) rfl (ihy st kn ke kr r a M w Q g (by simpa using hr) hn he hk)
      | _ => simp [evC] at hr
    | _ => simp [evC] at hr
  | block id c ih =>
    intro ρ st kn ke kr r a M w Q g hr hn he hk
    simp only [evC] at hr
    apply wp_block
    refine ih st kn _ kr r a M w _ g hr hn ?_ hk
    intro i st' a' M' w' g' k' hr'
    simp only at hr'
    show Exit.inBlock id Q (.exit i) a' w'
    simp only [Exit.inBlock]
    split at hr'
    · rename_i e
      have := Nat.eq_of_beq_eq_true e
      subst this
      simp only [if_true]
      exact hn st' a' M' w' g' k' hr'
    · rename_i e
      have : i ≠ id := by rintro rfl; simp [Nat.beq_refl] at e
      simp only [this, if_false]
      exact he i st' a' M' w' g' k' hr'
  | loop c ih =>
    intro ρ st kn ke kr r a M w Q g hr hn he hk
    simp only [evC] at hr
    exact evLoop_ok ih g hr he hk
  | exit id =>
    intro ρ st kn ke kr r a M w Q g hr hn he hk
    simp only [evC] at hr
    exact wp_exit (he id st a M w g (Stp.refl g) hr)
  | ret =>
    intro ρ st kn ke kr r a M w Q g hr hn he hk
    simp only [evC] at hr
    exact wp_ret (hk st a M w g (Stp.refl g) hr)
  | _ =>
    intro ρ st kn ke kr r a M w Q g hr hn he hk
    simp [evC] at hr
/-! ### results -/
theorem run_loadVar_ok {t : Ty} {id : TypeId} (h : Ok Pg t (.typ id)) {b o : Nat} {cs : List Value} (hm : Mem w b o cs) (hl : cs.length = t.size) :
    ∃ v, (loadVar id ⟨b, o, none⟩).run Pg w = .ok v w ∧ valOf t cs v := by
  have ha := ok_agg h w
  have hs := run_sizeOf_ok h w
  cases e : isSt t with
  | true =>
    rw [e] at ha
    refine ⟨.agg cs.toArray, ?_, .inl ⟨e, rfl⟩⟩
    have hc := run_loadCells_list (P := Pg) w ⟨b, o, none⟩ cs (fun j v hv => by rw [Addr.add_mid]; exact hm j v hv)
    rw [hl] at hc
    simp [loadVar, ha, hs, hc]
  | false =>
    rw [e] at ha
    have h1 : t.size = 1 := by
      cases t <;> first | rfl | exact h.elim | cases e
    obtain ⟨v, rfl⟩ : ∃ v, cs = [v] := List.length_eq_one_iff.1 (by omega)
    refine ⟨v, ?_, .inr ⟨e, rfl⟩⟩
    have := hm 0 v rfl
    simp at this
    simp [loadVar, ha, this]

/-- One result's run. -/
def resRun (tmps : Array Value) : ResultVar → Sem Value
  | .tmp t => pure (tmps.getD t undef)
  | .cell a t => do loadVar t (← asAddr (tmps.getD a undef))

theorem resOf_ok (HE : EnvOk Pg G E) (g : Good S B w0 st a M w) {rv : ResultVar} {v : AV} (hr : resOf E st.h st.fr rv = some v) : ∃ u, (resRun a.tmps rv).run Pg w = .ok u w ∧ RepV (cx S st.h M w) v u := by
  cases rv with
  | tmp t =>
    simp only [resOf] at hr
    injection hr with hr
    subst hr
    exact ⟨_, by simp [resRun], g.F t⟩
  | cell x t =>
    simp only [resOf] at hr
    split at hr
    case h_2 => cases hr
    rename_i id p e
    split at hr
    case h_2 => cases hr
    rename_i v0 L he
    split at hr
    case h_2 => cases hr
    rename_i off u hoff
    split at hr
    case h_2 => cases hr
    rename_i hd
    have hty : E.ty t = some u := by simpa using hd
    have hx := g.F x
    rw [e] at hx
    simp only [RepV, Rep1] at hx
    obtain ⟨_, q, hv, hx⟩ := hx
    injection hv with hv
    rcases hx with hx | ⟨b, v1, L1, o1, u1, h1, h2, h3, h4⟩
    · simp only [cx] at hx; rw [he] at hx; cases hx
    · simp only [cx] at h2
      rw [he] at h2
      injection h2 with h2
      injection h2 with e1 e2
      subst e1; subst e2
      rw [hoff] at h3
      injection h3 with h3
      injection h3 with e3 e4
      subst e3; subst e4
      subst h4
      obtain ⟨b2, cs, el, k1, k2, k3, k4⟩ := g.H.ent id _ he
      simp only [cx] at k1 k2 h1
      rw [h1] at k1
      injection k1 with k1
      subst k1
      obtain ⟨f1, c1, d, c2, ec, hl, hd⟩ := av_get p v0 L v cs.toList off u hr hoff k3 k4
      have hm : Mem w b off d := by
        have := mem_of_heap k2
        rw [ec] at this
        have := mem_part this
        rw [hl] at this
        simpa using this
      obtain ⟨z, q1, q2⟩ := run_loadVar_ok (HE.ty t u hty) hm (fits_len v u d f1 hd)
      exact ⟨z, by simp [resRun, hv, asAddr, q1], repC_repV f1 (fun a b q => HE.noPair t a b (by rw [hty, q])) hd q2⟩

theorem ressOf_ok (HE : EnvOk Pg G E) (g : Good S B w0 st a M w) : ∀ (l : List ResultVar) (v : AV), ressOf E st.h st.fr l = some v → ∃ us, (l.mapM (resRun a.tmps)).run Pg w = .ok us w ∧ us.length = l.length ∧ RepT (cx S st.h M w) v us := by
  intro l
  induction l with
  | nil =>
    intro v hr
    simp only [ressOf] at hr
    injection hr with hr
    subst hr
    exact ⟨[], by simp, rfl, by simp only [RepT]⟩
  | cons rv l ih =>
    intro v hr
    simp only [ressOf] at hr
    split at hr
    case h_2 => cases hr
    rename_i v1 h1
    split at hr
    case h_2 => cases hr
    rename_i v2 h2
    injection hr with hr
    subst hr
    obtain ⟨u, k1, k2⟩ := resOf_ok HE g h1
    obtain ⟨us, k3, k4, k5⟩ := ih v2 h2
    exact ⟨u :: us, by simp [List.mapM_cons, k1, k3], by simp [k4], by simp only [RepT]; exact ⟨u, us, rfl, k2, k5⟩⟩

theorem results_run (fn : Func) (tmps : Array Value) : results fn tmps = (do let vs ← fn.results.mapM (resRun tmps); pure (if h : vs.size = 1 then vs[0] else .tuple vs)) := by
  unfold results
  congr 1

theorem resultAV_ok (HE : EnvOk Pg G E) (g : Good S B w0 st a M w) {fn : Func} {v : AV} (hr : resultAV E st.h st.fr fn.results.toList = some v) : ∃ u, (results fn a.tmps).run Pg w = .ok u w ∧ RepV (cx S st.h M w) v u := by
  rw [results_run]
  have hrs : fn.results = fn.results.toList.toArray := by simp
  rw [hrs, List.mapM_toArray]
  generalize fn.results.toList = l at hr
  match l, hr with
  | [rv], hr =>
    simp only [resultAV] at hr
    obtain ⟨u, k1, k2⟩ := resOf_ok HE g hr
    exact ⟨u, by simp [List.mapM_cons, k1], k2⟩
  | [], hr =>
    simp only [resultAV] at hr
    split at hr
    case h_2 => cases hr
    rename_i v1 h1
    injection hr with hr
    subst hr
    obtain ⟨us, k3, k4, k5⟩ := ressOf_ok HE g _ v1 h1
    refine ⟨.tuple us.toArray, ?_, by simp only [RepV]; exact ⟨us.toArray, rfl, by simpa using k5⟩⟩
    have : us = [] := List.eq_nil_of_length_eq_zero k4
    subst this
    simp
  | x :: y :: l, hr =>
    simp only [resultAV] at hr
    split at hr
    case h_2 => cases hr
    rename_i v1 h1
    injection hr with hr
    subst hr
    obtain ⟨us, k3, k4, k5⟩ := ressOf_ok HE g _ v1 h1
    refine ⟨.tuple us.toArray, ?_, by simp only [RepV]; exact ⟨us.toArray, rfl, by simpa using k5⟩⟩
    have hne : us.length ≠ 1 := by simp at k4; omega
    simp only [Sem.run_bind, Sem.run_map, k3]
    simp [hne]

/-! ### functions -/
theorem argsFr_rep {c : Cx} : ∀ (args : List AV) (vals : List Value), Reps c args vals → ∀ t u, vals[t]? = some u → RepV c (argsFr args t) u := by
  intro args
  induction args with
  | nil => intro vals h t u hu; simp only [argsFr, RepV]
  | cons x args ih =>
    intro vals h t u hu
    obtain ⟨v, vs, rfl, h1, h2⟩ := reps_cons h
    cases t with
    | zero => simp at hu; subst hu; exact h1
    | succ t => exact ih vs h2 t u (by simpa using hu)

theorem argsFr_none : ∀ (args : List AV) (t : Nat), args.length ≤ t → argsFr args t = .undef := by
  intro args
  induction args with
  | nil => intro t _; rfl
  | cons x args ih =>
    intro t ht
    cases t with
    | zero => simp at ht
    | succ t => exact ih t (by simpa using ht)

theorem evBody_ok (HE : EnvOk Pg G E) (hG : G w0) {call : Handler} (HC : HandlerOk Pg G S B w0 call) {fn : Func} {f : FuncId} (hf : Pg.funcs[f]? = some fn) {hs : List (Nat × Hint)} {args : List AV} {vals : Array Value} {K : AV → Hp → Option ρ}
    (H : HInv S B w0 h M w) (ha : Reps (cx S h M w) args vals.toList) (hr : evBody E call fn hs args h K = some r) : Calls Pg f vals w fun e w' => ∃ v, e = .returned v ∧ Post K r S B w0 h M w v w' := by
  unfold evBody at hr
  split at hr
  · cases hr
  rename_i c hc
  simp only at hr
  refine calls_of_wp hf hc ?_
  have hlen : args.length = vals.size := by simpa using ha.1
  have g : Good S B w0 { n := fn.ntmps, fr := argsFr args, ro := fun _ => false, h := h } { tmps := vals ++ Array.replicate (fn.ntmps - vals.size) undef, defers := [] } M w := by
    refine ⟨H, fun t => ?_, by simp only [Array.size_append, Array.size_replicate]; omega, rfl⟩
    rcases Nat.lt_or_ge t vals.size with q | q
    · have e1 : (vals ++ Array.replicate (fn.ntmps - vals.size) undef).getD t undef = vals[t] := by
        rw [Array.getD_eq_getD_getElem?, Array.getElem?_append_left q]
        simp [q]
      simp only [e1]
      exact argsFr_rep args vals.toList ha t _ (by simp [q])
    · simp only [argsFr_none args t (by omega), RepV]
  refine evC_ok HE hG HC c _ _ _ _ r _ M w _ g hr ?_ ?_ ?_
  · intro st' a' M' w' g' k' hk
    simp only at hk
    split at hk
    · rename_i v hv
      obtain ⟨u, q1, q2⟩ := resultAV_ok HE g' hv
      exact ⟨g'.d, u, q1, u, rfl, v, st'.h, M', hk, g'.H, k'.k, q2⟩
    · cases hk
  · intro i st' a' M' w' g' k' hk
    cases hk
  · intro st' a' M' w' g' k' hk
    simp only at hk
    split at hk
    · rename_i v hv
      obtain ⟨u, q1, q2⟩ := resultAV_ok HE g' hv
      exact ⟨g'.d, u, q1, u, rfl, v, st'.h, M', hk, g'.H, k'.k, q2⟩
    · cases hk

theorem evCall_ok (HE : EnvOk Pg G E) (hG : G w0) : ∀ n, HandlerOk Pg G S B w0 (evCall E n) := by
  intro n
  induction n with
  | zero => intro ρ f args h K r M w vals hr; simp [evCall] at hr
  | succ n ih =>
    intro ρ f args h K r M w vals hr H _ ha
    simp only [evCall] at hr
    split at hr
    case h_2 => cases hr
    rename_i fn hs hl
    obtain ⟨h1, h2⟩ := HE.codes f fn hs hl
    refine ⟨by rw [h1]; simpa using h2, ?_⟩
    exact evBody_ok HE hG ih h1 H ⟨by simpa using ha.1, fun i x v hx hv => ha.2 i x v hx (by simpa using hv)⟩ hr

/-! ### a function as data -/
theorem argRep_reps {Z : Nat → Prop} {c : Cx} {w : World} (hZ : ∀ b, b < w.heap.size → ¬ Z b → ¬ c.Z b) (hw : c.w = w) : ∀ (t : Ty) (x : t.D) (vals : List Value), RepT (cz Z w) (argAV t x) vals → Reps c (argList t x) vals := by
  have one : ∀ (t : Ty) (x : t.D) (vals : List Value), RepT (cz Z w) (.data t x) vals → Reps c [.data t x] vals := by
    intro t x vals h
    rw [repT_data] at h
    obtain ⟨v, rfl, h⟩ := h
    refine ⟨rfl, fun i a u ha hu => ?_⟩
    cases i with
    | succ i => simp at ha
    | zero =>
      simp at ha hu
      subst ha; subst hu
      simp only [RepV]
      have hk : Held (cz Z w).Z c.Z (cz Z w).w c.w := by
        rw [hw]
        exact fun b hb hz => ⟨hZ b hb (fun z => hz ((cz_Z Z w b).2 z)), rfl⟩
      rcases h with ⟨e, cs, rfl, h⟩ | ⟨e, h⟩
      · exact .inl ⟨e, cs, rfl, h.held hk⟩
      · exact .inr ⟨e, h.held hk⟩
  intro t
  induction t with
  | unit => intro x vals h; simp only [argAV, RepT] at h; subst h; exact ⟨rfl, by simp [argList]⟩
  | pair p q ihp ihq =>
    intro x vals h
    simp only [argAV, RepT] at h
    obtain ⟨v, vs, rfl, h1, h2⟩ := h
    have k1 := one p x.1 [v] (by rw [repT_data]; exact ⟨v, rfl, repV_data h1⟩)
    have k2 := ihq x.2 vs h2
    have := reps_append k1 k2
    simpa [argList] using this
  | bool => intro x vals h; exact one _ x vals h
  | str => intro x vals h; exact one _ x vals h
  | opq => intro x vals h; exact one _ x vals h
  | int k => intro x vals h; exact one _ x vals h
  | slice e ih => intro x vals h; exact one _ x vals h
  | st b ih => intro x vals h; exact one _ x vals h

theorem chain_rep (H : HInv S B w0 h M w) {Z : Nat → Prop} (hZ : ∀ b, Z b → (cx S h M w).Z b) (hown : ∀ id b, h.e id ≠ none → (M id).blk = some b → ¬ Z b) : ∀ (v : AV) (t : Ty) (x : t.D) (vs : List Value), toChain h v t = some x → RepT (cx S h M w) v vs → RepT (cz Z w) (spread t x) vs := by
  intro v
  induction v with
  | pr p q _ ihq =>
    intro t x vs hx hr
    simp only [RepT] at hr
    obtain ⟨u, us, rfl, h1, h2⟩ := hr
    have leaf : ∀ (t : Ty) (x : t.D), q = .unit → toD h p t = some x → RepT (cz Z w) (.data t x) (u :: us) := by
      rintro t x rfl hx
      simp only [RepT] at h2
      subst h2
      rw [repT_data]
      refine ⟨u, rfl, ?_⟩
      rw [cz_Zeq]
      exact toD_V H hZ (fun id _ b => hown id b) hx h1
    cases t with
    | pair ta tr =>
      simp only [toChain] at hx
      split at hx
      case h_2 => cases hx
      rename_i x1 hx1
      split at hx
      case h_2 => cases hx
      rename_i x2 hx2
      injection hx with hx
      subst hx
      simp only [spread, RepT, RepV]
      rw [cz_Zeq]
      exact ⟨u, us, rfl, toD_V H hZ (fun id _ b => hown id b) hx1 h1, ihq tr x2 us hx2 h2⟩
    | unit => simp [toChain] at hx
    | _ =>
      cases q with
      | unit => exact leaf _ x rfl (by simpa [toChain] using hx)
      | _ => simp [toChain] at hx
  | _ => intro t x vs hx hr; cases t <;> simp [toChain] at hx

/-- A function that is evaluated: what it does of data. -/
theorem fn_spec (HE : EnvOk Pg G E) {n : Nat} {fn : Func} {f : FuncId} {hs : List (Nat × Hint)} {t u : Ty} (hf : Pg.funcs[f]? = some fn) {F : t.D → Option u.D} (hF : ∀ x, F x = evFn E n fn hs t u x) : SpecOk Pg G f ⟨t, u, F⟩ := by
  intro Z w vals x res hG hlt hx hargs
  simp only at x res hx hargs
  rw [hF] at hx
  have H : HInv Z w.heap.size w h0 (fun _ => .nil) w := by
    refine ⟨fun id e he => ?_, fun _ _ => rfl, fun i j b hi => ?_, fun i b hi => ?_, Below.refl _ _, Nat.le_refl _, hlt, rfl⟩
    · simp [h0] at he
    · simp [h0] at hi
    · simp [h0] at hi
  have hcZ : ∀ b, (cx Z h0 (fun _ => .nil) w).Z b → Z b := by
    rintro b (z | ⟨id, e, q1, _⟩)
    · exact z
    · simp [cx, h0] at q1
  have ha : Reps (cx Z h0 (fun _ => .nil) w) (argList t x) vals.toList := argRep_reps (Z := Z) (w := w) (fun b _ hz z => hz (hcZ b z)) rfl t x vals.toList hargs
  refine (evBody_ok HE hG (evCall_ok HE hG n) hf H ha hx).mono fun e w' ⟨v, he, av, h', M', hk, H', k', hv⟩ => ⟨v, he, H'.bel, ?_⟩
  have hZ : ∀ b, Z b → (cx Z h' M' w').Z b := fun b z => .inl z
  have hown : ∀ id b, h'.e id ≠ none → (M' id).blk = some b → ¬ Z b := fun id b hl hb z => by
    have := H'.own id b hl hb
    have := hlt b z
    omega
  have leaf : ∀ (t : Ty) (y : t.D), toD h' av t = some y → (∀ p q, t ≠ .pair p q) → t ≠ .unit → RepV (cz Z w') (resAV t y) v := by
    intro t y hy hp hu
    have := toD_V H' hZ (fun id _ b => hown id b) hy hv
    have e : resAV t y = .data t y := by
      cases t with
      | pair p q => exact absurd rfl (hp p q)
      | unit => exact absurd rfl hu
      | _ => rfl
    rw [e]
    simp only [RepV]
    rw [cz_Zeq]
    exact this
  cases u with
  | pair p q =>
    cases av with
    | tup b =>
      simp only [toRes] at hk
      simp only [RepV] at hv
      obtain ⟨vs, rfl, hT⟩ := hv
      simp only [resAV, RepV]
      exact ⟨vs, rfl, chain_rep H' hZ hown b (.pair p q) res vs.toList hk hT⟩
    | _ => simp [toRes] at hk
  | unit =>
    cases av with
    | tup b =>
      cases b with
      | unit =>
        simp only [RepV, RepT] at hv
        simp only [resAV, RepV, RepT]
        exact hv
      | _ => simp [toRes] at hk
    | _ => simp [toRes] at hk
  | _ => exact leaf _ res (by simpa only [toRes] using hk) (by simp) (by simp)
end Go.PG

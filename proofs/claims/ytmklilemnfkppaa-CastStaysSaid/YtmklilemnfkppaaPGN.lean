/- The evaluator's soundness: every operation. -/
import Derived.Test.YtmklilemnfkppaaPGM
set_option linter.all false
namespace Go.PG
open Go.RowKit

variable {Pg : Program} {G : World → Prop} {E : Env} {S : Nat → Prop} {B : Nat} {w0 w w' : World} {h : Hp} {M : Nat → Bk} {ρ : Type} {K : AV → Hp → Option ρ} {r : ρ} {st : St} {a : Act} {o : Oper}

theorem cond_some {α : Type} {b : Bool} {x y : Option α} {r : α} (h : P.cond b x y = some r) : (if b then x else y) = some r := by
  cases b <;> simpa [P.cond] using h

/-- A part of an aggregate's cells, whatever they stand for. -/
theorem run_part_ok {t : Ty} {id : TypeId} (h : Ok Pg t (.typ id)) {xs : Array Value} {p c s : List Value} (e : xs.toList = p ++ c ++ s) (hl : c.length = t.size) (w : World) :
    ∃ v, (part id xs p.length).run Pg w = .ok v w ∧ valOf t c v := by
  have ha := ok_agg h w
  cases q : isSt t with
  | true =>
    rw [q] at ha
    refine ⟨.agg c.toArray, ?_, .inl ⟨q, rfl⟩⟩
    have hs := run_sizeOf_ok h w
    have hx : xs.extract p.length (p.length + t.size) = c.toArray := by
      apply Array.toList_inj.1
      rw [Array.toList_extract, e]
      simp [List.extract, ← hl]
    simp [part, ha, hs, hx]
  | false =>
    rw [q] at ha
    have h1 : t.size = 1 := by cases t <;> first | rfl | exact h.elim | cases q
    obtain ⟨v, rfl⟩ : ∃ v, c = [v] := List.length_eq_one_iff.1 (by omega)
    refine ⟨v, ?_, .inr ⟨q, rfl⟩⟩
    have : xs[p.length]? = some v := by
      rw [← Array.getElem?_toList, e]; simp
    simp [part, ha, this]

theorem repV_agg {c : Cx} {v : AV} {b : Ty} {u : Value} (f : fitsT v (.st b) = true) (h : RepV c v u) : ∃ cs, u = .agg cs ∧ RepC c v cs.toList := by
  cases v with
  | data t x =>
    simp only [fitsT, decide_eq_true_eq] at f
    subst f
    rcases repV_data h with ⟨_, cs, rfl, h'⟩ | ⟨q, _⟩
    · exact ⟨cs, rfl, by simpa only [RepC] using h'⟩
    · simp [isSt] at q
  | st a =>
    simp only [RepV] at h
    obtain ⟨cs, rfl, h⟩ := h
    exact ⟨cs, rfl, by simpa only [RepC] using h⟩
  | _ => simp [fitsT] at f

theorem repT_one {c : Cx} {v : AV} {vs : List Value} (h1 : v ≠ .unit) (h2 : ∀ p q, v ≠ .pr p q) (h : RepT c v vs) : ∃ u, vs = [u] ∧ RepV c v u := by
  cases v with
  | unit => exact absurd rfl h1
  | pr p q => exact absurd rfl (h2 p q)
  | undef => simp only [RepT] at h; obtain ⟨u, rfl⟩ := h; exact ⟨u, rfl, by simp only [RepV]⟩
  | tup b => simp only [RepT] at h; obtain ⟨us, rfl, h⟩ := h; exact ⟨_, rfl, by simp only [RepV]; exact ⟨us, rfl, h⟩⟩
  | data t x => simp only [RepT] at h; obtain ⟨u, rfl, h⟩ := h; exact ⟨u, rfl, by simp only [RepV]; exact h⟩
  | st b => simp only [RepT] at h; obtain ⟨us, rfl, h⟩ := h; exact ⟨_, rfl, by simp only [RepV]; exact ⟨us, rfl, h⟩⟩
  | fn f d => simp only [RepT] at h; obtain ⟨us, rfl, h⟩ := h; exact ⟨_, rfl, by simp only [RepV]; exact ⟨us, rfl, h⟩⟩
  | nilS e => simp only [RepT] at h; obtain ⟨u, rfl, h⟩ := h; exact ⟨u, rfl, by simp only [RepV]; exact h⟩
  | own id => simp only [RepT] at h; obtain ⟨u, rfl, h⟩ := h; exact ⟨u, rfl, by simp only [RepV]; exact h⟩
  | ptr id p => simp only [RepT] at h; obtain ⟨u, rfl, h⟩ := h; exact ⟨u, rfl, by simp only [RepV]; exact h⟩
  | rptr t x => simp only [RepT] at h; obtain ⟨u, rfl, h⟩ := h; exact ⟨u, rfl, by simp only [RepV]; exact h⟩
  | eptr id i p => simp only [RepT] at h; obtain ⟨u, rfl, h⟩ := h; exact ⟨u, rfl, by simp only [RepV]; exact h⟩

theorem tupP_rep {c : Cx} : ∀ (v : AV) (j : Nat) (u : AV) (vs : List Value), tupP v j = some u → RepT c v vs → ∃ z, vs[j]? = some z ∧ RepV c u z := by
  have one : ∀ (v : AV) (j : Nat) (u : AV) (vs : List Value), v ≠ .unit → (∀ p q, v ≠ .pr p q) → tupP v j = some u → RepT c v vs → ∃ z, vs[j]? = some z ∧ RepV c u z := by
    intro v j u vs h1 h2 hu h
    obtain ⟨z, rfl, hz⟩ := repT_one h1 h2 h
    cases j with
    | zero =>
      have : tupP v 0 = some v := by cases v <;> first | rfl | exact absurd rfl h1 | exact absurd rfl (h2 _ _)
      rw [this] at hu
      injection hu with hu
      subst hu
      exact ⟨z, rfl, hz⟩
    | succ j =>
      have : tupP v (j + 1) = none := by cases v <;> first | rfl | exact absurd rfl h1 | exact absurd rfl (h2 _ _)
      rw [this] at hu
      cases hu
  intro v
  induction v with
  | pr p q _ ihq =>
    intro j u vs hu h
    simp only [RepT] at h
    obtain ⟨z, vs', rfl, h1, h2⟩ := h
    cases j with
    | zero => simp only [tupP] at hu; injection hu with hu; subst hu; exact ⟨z, rfl, h1⟩
    | succ j =>
      simp only [tupP] at hu
      exact ihq j u vs' hu h2
  | unit => intro j u vs hu h; simp [tupP] at hu
  | _ => intro j u vs hu h; exact one _ j u vs (by simp) (by simp) hu h

theorem capsOf_rep {c : Cx} {fr : Nat → AV} {a : Act} (F : ∀ t, RepV c (fr t) (a.tmps.getD t undef)) : ∀ (l : List Operand), RepT c (capsOf (l.map (opnd none fr))) (l.map a.eval)
  | [] => by simp [capsOf, RepT]
  | x :: l => by
    simp only [List.map_cons, capsOf, RepT]
    exact ⟨_, _, rfl, opnd_rep F none (by intros; simp) x, capsOf_rep F l⟩

theorem evIdx_spec {v : AV} {n : Int} {h : Hp} {K : AV → Hp → Option ρ} : ∀ (m j : Nat), evIdx v n h K m j = some r →
    ∃ (i : Nat) (u : AV), n = (i : Int) ∧ v.comp i = some u ∧ K u h = some r ∧ ∀ {σ : Type} (h2 : Hp) (K' : AV → Hp → Option σ), evIdx v n h2 K' m j = K' u h2 := by
  intro m
  induction m with
  | zero => intro j hr; simp [evIdx] at hr
  | succ m ih =>
    intro j hr
    simp only [evIdx] at hr
    split at hr
    case h_2 => cases hr
    rename_i u hu
    cases hb : P.ieq n (Int.ofNat j) with
    | true =>
      rw [hb] at hr
      have : n = Int.ofNat j := by simpa [P.ieq] using hb
      exact ⟨j, u, this, hu, hr, fun h2 K' => by simp only [evIdx, hu, hb, P.cond]⟩
    | false =>
      rw [hb] at hr
      obtain ⟨i, u', q1, q2, q3, q4⟩ := ih (j + 1) hr
      exact ⟨i, u', q1, q2, q3, fun h2 K' => by simp only [evIdx, hu, hb, P.cond]; exact q4 h2 K'⟩

theorem evOp_ok (HE : EnvOk Pg G E) (hG : G w0) {call : Handler} (HC : HandlerOk Pg G S B w0 call) (F : ∀ t, RepV (cx S st.h M w) (st.fr t) (a.tmps.getD t undef)) (H : HInv S B w0 st.h M w)
    (hr : evOp E call o st K = some r) : Does Pg o a w (Post K r S B w0 st.h M w) := by
  unfold evOp at hr
  simp only at hr
  split at hr
  · -- move
    rename_i x ho
    exact Does.value (v := a.eval x) (w' := w) (by simp [execOp, ho]) (Post.same H hr (opnd_rep F _ (HE.noPair _) x))
  · rename_i x ho
    exact Does.value (v := a.eval x) (w' := w) (by simp [execOp, ho]) (Post.same H hr (opnd_rep F _ (HE.noPair _) x))
  · -- pick
    rename_i c x y ho
    have hc := opnd_rep F none (by intros; simp) c
    split at hr
    case h_2 => cases hr
    rename_i t e
    rw [e] at hc
    have hc := repV_bool hc
    have hr := cond_some hr
    cases t with
    | true => exact Does.value (v := a.eval x) (w' := w) (by simp [execOp, ho, hc, asBool]) (Post.same H (by simpa using hr) (opnd_rep F _ (HE.noPair _) x))
    | false => exact Does.value (v := a.eval y) (w' := w) (by simp [execOp, ho, hc, asBool]) (Post.same H (by simpa using hr) (opnd_rep F _ (HE.noPair _) y))
  · -- alloc
    rename_i t ho
    split at hr
    case h_2 => cases hr
    rename_i L hL
    obtain ⟨z, hz, hrep, hfit⟩ := ok_zero (c := cx S st.h M w) (HE.ty t _ hL) w
    refine Does.value (v := .pointer (some ⟨w.heap.size, 0, none⟩)) (w' := w.alloc (.cells z.cells t (0, 0))) ?_ (new_box H t hfit hrep hr)
    simp [execOp, ho, Instr.alloc, hz, newVar, newRow]
  · -- box
    rename_i t x ho
    split at hr
    case h_2 => cases hr
    rename_i L hL
    split at hr
    case h_2 => cases hr
    rename_i hsol hfit
    have hx := opnd_rep F (some L) (by intro p q e; exact HE.noPair t p q (hL.trans e)) x
    refine Does.value (v := .pointer (some ⟨w.heap.size, 0, none⟩)) (w' := w.alloc (.cells (a.eval x).cells t (0, 0))) ?_ (new_box H t hfit (repV_cells _ _ hsol hx) hr)
    simp [execOp, ho, Instr.box, newVar, newRow]
  · -- build
    rename_i t ps ho
    exact build_ok HE F H ho hr
  · -- buildSlice
    rename_i t n ps ho
    split at hr
    case h_2 => cases hr
    rename_i e hty
    split at hr
    case h_2 => cases hr
    rename_i xs hf hd hs
    split at hr
    case h_2 => cases hr
    rename_i hul
    exact buildSlice_ok HE F H ho hty hf hd hs hul hr
  · -- load
    rename_i t x ho
    exact load_ok HE F H ho hr
  · -- store
    rename_i t x y ho
    split at hr
    · rename_i id p e
      split at hr
      · rename_i v L he hlk
        split at hr
        · rename_i off u hoff
          split at hr
          · rename_i hty hs hf
            split at hr
            · rename_i v' hv'
              exact store_box HE F H ho e he hlk hoff (by simpa using hty) hs hf hv' hr
            · cases hr
          · cases hr
        · cases hr
      · cases hr
    · rename_i id i p e
      split at hr
      · rename_i et xs he hlk
        split at hr
        · rename_i off u hoff
          split at hr
          · rename_i hty hm
            exact store_row HE F H ho e he hlk hoff (by simpa using hty) hm hr
          · cases hr
        · cases hr
      · cases hr
    · cases hr
  · -- nilCheck
    rename_i x ho
    have hx := opnd_rep F none (by intros; simp) x
    split at hr
    · rename_i id p e
      split at hr
      case h_2 => cases hr
      rename_i en he
      rw [e] at hx
      have hx0 := hx
      simp only [RepV, Rep1] at hx
      obtain ⟨_, q, hv, hx⟩ := hx
      rcases hx with hx | ⟨b, v, L, of, u, h1, h2, h3, rfl⟩
      · simp only [cx] at hx; rw [he] at hx; cases hx
      · injection hv with hv _
        exact Does.value (v := a.eval x) (w' := w) (by simp [execOp, ho, hv]) (Post.same H hr hx0)
    · rename_i t y e
      rw [e] at hx
      have hx0 := hx
      simp only [RepV, Rep1] at hx
      obtain ⟨b, of, d, hv, _⟩ := hx
      injection hv with hv _
      exact Does.value (v := a.eval x) (w' := w) (by simp [execOp, ho, hv]) (Post.same H hr hx0)
    · rename_i id i p e
      split at hr
      case h_2 => cases hr
      rename_i en he
      rw [e] at hx
      have hx0 := hx
      simp only [RepV, Rep1] at hx
      obtain ⟨_, q, hv, hx⟩ := hx
      rcases hx with hx | ⟨b, of, n, cap, et, xs, qq, u, h1, h2, h3, h4, h5, rfl⟩
      · simp only [cx] at hx; rw [he] at hx; cases hx
      · injection hv with hv _
        exact Does.value (v := a.eval x) (w' := w) (by simp [execOp, ho, hv]) (Post.same H hr hx0)
    · rename_i f c e
      rw [e] at hx
      have hx0 := hx
      simp only [RepV] at hx
      obtain ⟨vs, hv, _⟩ := hx
      exact Does.value (v := a.eval x) (w' := w) (by simp [execOp, ho, hv]) (Post.same H hr hx0)
    · cases hr
  · rename_i op t x y u ho
    split at hr
    · rename_i b v hh
      obtain ⟨ht, hr⟩ := test_some hr
      exact hard_ok HE F H ho hh ht hr
    · exact binOp_ok HE F H ho hr
  · rename_i op t x ho
    exact unOp_ok F H ho hr
  · rename_i s t x ho
    exact convert_ok HE F H ho hr
  · -- fieldAddr
    rename_i s x j ho
    split at hr
    · cases hr
    · rename_i ha
      exact fieldAddr_ok HE F H ho ha hr
  · -- field
    rename_i s x j ho
    split at hr
    · cases hr
    rename_i har
    split at hr
    case h_2 => cases hr
    rename_i L hL
    split at hr
    case h_2 => cases hr
    rename_i u hfit hcomp
    have hx := opnd_rep F (some L) (by intro p q e; exact HE.noPair s p q (hL.trans e)) x
    have hLs : ∃ b, L = .st b := by
      cases q : opnd (some L) st.fr x with
      | data t y => rw [q] at hcomp hfit; cases t with
        | st b => simp only [fitsT, decide_eq_true_eq] at hfit; exact ⟨b, hfit.symm⟩
        | _ => simp [AV.comp] at hcomp
      | st b => rw [q] at hfit; cases L with
        | st c => exact ⟨c, rfl⟩
        | _ => simp [fitsT] at hfit
      | _ => rw [q] at hcomp; simp [AV.comp] at hcomp
    obtain ⟨b, rfl⟩ := hLs
    obtain ⟨cs, hv, hrep⟩ := repV_agg hfit hx
    obtain ⟨b', t, eb, hn, hfu, c1, d, c2, ecs, hl, hd⟩ := av_comp hcomp hfit hrep
    injection eb with eb
    subst eb
    obtain ⟨fs, hu⟩ := HE.struct hL har
    have hok := HE.ty s _ hL
    obtain ⟨hk, _⟩ := hok
    have hfl : Ok Pg b (.flds fs.toList 0) := by
      rcases hk with ⟨fs', h1, h2⟩ | ⟨n, e', h1, _⟩
      · rw [hu] at h1; injection h1 with h1; injection h1 with h1; subst h1; exact h2
      · rw [hu] at h1; cases h1
    obtain ⟨f, hf, hoff, hft⟩ := ok_field b fs.toList 0 j t hfl hn
    have hnp : ∀ p q, t ≠ .pair p q := by rintro p q rfl; exact hft
    obtain ⟨z, hz, hvz⟩ := run_part_ok hft ecs (fits_len u t d hfu hd) w
    refine Does.value (v := z) (w' := w) ?_ (Post.same H hr (repC_repV hfu hnp hd hvz))
    have hf' : fs[j]? = some f := by rw [← Array.getElem?_toList]; exact hf
    have ho' : f.offset = c1.length := by rw [hoff, hl]; omega
    simp only [execOp, ho, hv, Instr.field, Sem.run_bind, run_underlying hu, Result.andThen_ok, hf', asAgg, Sem.run_pure, ho', hz]
  · -- index
    rename_i t x i ho
    split at hr
    · cases hr
    rename_i har
    split at hr
    case h_2 => cases hr
    rename_i b hL
    split at hr
    case h_2 => cases hr
    rename_i k n hfit hn
    obtain ⟨j, u, rfl, hcomp, hr, _⟩ := evIdx_spec _ _ hr
    have hx := opnd_rep F (some (.st b)) (by intro p q e; exact HE.noPair t p q (hL.trans e)) x
    have hi := opnd_rep F none (by intros; simp) i
    rw [hn] at hi
    have hi := repV_int hi
    obtain ⟨cs, hv, hrep⟩ := repV_agg hfit hx
    obtain ⟨b', ty, eb, hnth, hfu, c1, d, c2, ecs, hl, hd⟩ := av_comp hcomp hfit hrep
    injection eb with eb
    subst eb
    obtain ⟨len, e, hu⟩ := HE.array hL har
    obtain ⟨hk, _⟩ := HE.ty t _ hL
    have hae : Ok Pg b (.arr len e) := by
      rcases hk with ⟨fs, h1, _⟩ | ⟨n', e', h1, h2⟩
      · rw [hu] at h1; cases h1
      · rw [hu] at h1; injection h1 with h1; injection h1 with h1 h1'; subst h1; subst h1'; exact h2
    obtain ⟨hj, hft, hoff⟩ := ok_elem b len j e ty hae hnth
    have hnp : ∀ p q, ty ≠ .pair p q := by rintro p q rfl; exact hft
    obtain ⟨z, hz, hvz⟩ := run_part_ok hft ecs (fits_len u ty d hfu hd) w
    obtain ⟨inf, hi1, hi2⟩ := ok_size hft
    refine Does.value (v := z) (w' := w) ?_ (Post.same H hr (repC_repV hfu hnp hd hvz))
    have hof : j * inf.size = c1.length := by rw [hl]; exact (hoff inf hi1).symm
    simp [execOp, ho, hv, hi, Instr.index, asIntOf, run_underlying hu, sizeOf, typeInfo, hi1, hj, hof, hz]
  · -- indexAddr
    rename_i t x i ho
    split at hr
    · exact indexS_ok HE F H ho hr
    · rename_i ha
      exact indexA_ok HE F H ho (fun b hb => HE.array hb ha) hr
  · rename_i t x lo hi mx ho
    exact slice_ok HE F H ho hr
  · -- makeFunc
    rename_i f first caps ho
    split at hr
    case h_2 => cases hr
    rename_i hfirst
    have h0 : first = #[] := by apply Array.toList_inj.1; simpa using hfirst
    subst h0
    refine Does.value (v := .func (.func f) #[] (caps.map a.eval)) (w' := w) (by simp [execOp, ho, Instr.makeFunc]) (Post.same H hr ?_)
    simp only [RepV]
    refine ⟨_, rfl, ?_⟩
    rw [Array.toList_map]
    exact capsOf_rep F caps.toList
  · -- extract
    rename_i t j ho
    have ht := opnd_rep F none (by intros; simp) t
    split at hr
    case h_2 => cases hr
    rename_i b e
    split at hr
    case h_2 => cases hr
    rename_i u hu
    rw [e] at ht
    simp only [RepV] at ht
    obtain ⟨vs, hv, hT⟩ := ht
    obtain ⟨z, hz, hrz⟩ := tupP_rep b j u _ hu hT
    refine Does.value (v := z) (w' := w) ?_ (Post.same H hr hrz)
    have hz' : vs[j]? = some z := by rw [← Array.getElem?_toList]; exact hz
    simp [execOp, ho, hv, Instr.extract, hz']
  · -- call
    rename_i c ho
    split at hr
    · rename_i b hc
      exact evBuiltin_ok HE F H ho hc hr
    · rename_i f hc
      split at hr
      case h_2 => cases hr
      rename_i g caps hf
      split at hr
      · cases hr
      · rename_i hlen
        exact call_ok HE hG HC F H ho hc hf hlen hr
    · cases hr
  · cases hr
end Go.PG

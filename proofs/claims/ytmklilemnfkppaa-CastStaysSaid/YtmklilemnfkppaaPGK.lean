/- The evaluator's soundness: slices, literals, parts, calls of builtins. -/
import Derived.Test.YtmklilemnfkppaaPGJ
set_option linter.all false
namespace Go.PG
open Go.RowKit

variable {Pg : Program} {G : World → Prop} {E : Env} {S : Nat → Prop} {B : Nat} {w0 w w' : World} {h : Hp} {M : Nat → Bk} {ρ : Type} {K : AV → Hp → Option ρ} {r : ρ} {st : St} {a : Act} {o : Oper}

/-! ### slicing -/
theorem run_bound {k : IntKind} {i : Int} {y : Nat} (c : BoundsCode) (h0 : 0 ≤ i) (h1 : i ≤ y) : (Instr.sliceBound (.int k i) y c).run Pg w = .ok i.toNat w := by
  simp [Instr.sliceBound, asIntOf, h0, h1]

/-- A bound as it is told: left out, or a number. -/
def Bound (x : Option Value) (d : Int) (i : Int) : Prop := (x = none ∧ i = d) ∨ ∃ k, x = some (.int k i)

theorem run_bounds {lo hi : Option Value} {l u : Int} {s : Bool} {n cap : Nat} (hl : Bound lo 0 l) (hu : Bound hi n u) (h0 : 0 ≤ l) (h1 : l ≤ u) (h2 : u ≤ cap) :
    (Instr.sliceBounds s n cap lo hi none).run Pg w = .ok (l.toNat, u.toNat, cap) w := by
  rcases hl with ⟨rfl, rfl⟩ | ⟨k, rfl⟩ <;> rcases hu with ⟨rfl, rfl⟩ | ⟨k', rfl⟩
  · simp [Instr.sliceBounds]
  · simp [Instr.sliceBounds, run_bound (Pg := Pg) (w := w) _ (by omega : 0 ≤ u) h2]
  · simp [Instr.sliceBounds, run_bound (Pg := Pg) (w := w) _ h0 h1]
  · have : (u.toNat : Int) = u := by omega
    simp [Instr.sliceBounds, run_bound (Pg := Pg) (w := w) _ (by omega : 0 ≤ u) h2, run_bound (Pg := Pg) (w := w) _ h0 (by omega : l ≤ (u.toNat : Int))]

theorem run_slice_row {t e' : TypeId} {e : Ty} (hu : Pg.underlying t = some (.slice e')) (he : Ok Pg e (.typ e')) {lo hi : Option Value} {l u : Int} {A : Option Addr} {n cap : Nat} (hl : Bound lo 0 l) (hh : Bound hi n u) (h0 : 0 ≤ l) (h1 : l ≤ u) (h2 : u ≤ cap) :
    (Instr.sliceAt t (.slice A n cap) lo hi none).run Pg w = .ok (.slice (if cap = l.toNat then A else A.map (·.add (l.toNat * e.size))) (u.toNat - l.toNat) (cap - l.toNat)) w := by
  have := run_underlying hu w
  simp [Instr.sliceAt, Instr.slice, this, run_bounds (Pg := Pg) (w := w) hl hh h0 h1 h2, run_sizeOf_ok he w]

theorem run_slice_str {t : TypeId} (hu : Pg.underlying t = some .string) {lo hi : Option Value} {l u : Int} {s : ByteArray} (hl : Bound lo 0 l) (hh : Bound hi s.size u) (h0 : 0 ≤ l) (h1 : l ≤ u) (h2 : u ≤ (s.size : Int)) :
    (Instr.sliceAt t (.string s) lo hi none).run Pg w = .ok (.string (s.extract l.toNat u.toNat)) w := by
  have := run_underlying hu w
  simp [Instr.sliceAt, Instr.slice, this, run_bounds (Pg := Pg) (w := w) hl hh h0 h1 h2]

theorem run_slice_none {t e' : TypeId} {e : Ty} (hu : Pg.underlying t = some (.slice e')) (he : Ok Pg e (.typ e')) {k1 k2 k3 : IntKind} {A : Option Addr} {n cap : Nat} :
    (Instr.sliceAt t (.slice A n cap) (some (.int k1 0)) (some (.int k2 0)) (some (.int k3 0))).run Pg w = .ok (.slice A 0 0) w := by
  have := run_underlying hu w
  have h1 : ∀ (y : Nat) (k : IntKind) (c : BoundsCode), (Instr.sliceBound (.int k 0) y c).run Pg w = .ok 0 w := fun y k c => by
    have := run_bound (Pg := Pg) (w := w) (k := k) (i := 0) (y := y) c (by omega) (by omega)
    simpa using this
  simp [Instr.sliceAt, Instr.slice, this, Instr.sliceBounds, h1, run_sizeOf_ok he w]

theorem bound_rep {c : Cx} {fr : Nat → AV} (F : ∀ t, RepV c (fr t) (a.tmps.getD t undef)) {x : Option Operand} {d i : Int} (h : ((x.map (opnd none fr)).map asInt).getD (some d) = some i) : Bound (x.map a.eval) d i := by
  cases x with
  | none => left; simpa using h.symm
  | some x =>
    right
    have hx := opnd_rep F none (by intros; simp) x
    simp only [Option.map_some, Option.getD_some] at h
    unfold asInt at h
    split at h
    · rename_i k n e
      injection h with h
      subst h
      rw [e] at hx
      exact ⟨k, by simp [repV_int hx]⟩
    · cases h

theorem len_rep (H : HInv S B w0 h M w) {v : AV} {u : Value} {n : Int} (hn : sliceLen h v = some n) (hv : RepV (cx S h M w) v u) :
    (∃ s, v = .data .str s ∧ u = .string s ∧ n = s.size) ∨ (∃ A m cap, u = .slice A m cap ∧ n = m ∧ m ≤ cap) := by
  cases v with
  | data t x =>
    cases t with
    | slice e =>
      right
      simp only [sliceLen] at hn
      injection hn with hn
      rcases repV_data hv with ⟨q, _⟩ | ⟨_, q⟩
      · cases q
      · simp only [RepD] at q
        obtain ⟨A, cap, h1, h2, _⟩ := q
        injection h1 with h1
        exact ⟨A, _, cap, h1, hn.symm, h2⟩
    | str =>
      left
      simp only [sliceLen] at hn
      injection hn with hn
      exact ⟨x, rfl, repV_str hv, hn.symm⟩
    | _ => simp [sliceLen] at hn
  | nilS e =>
    right
    simp only [sliceLen] at hn
    injection hn with hn
    simp only [RepV, Rep1] at hv
    obtain ⟨A, h1⟩ := hv
    injection h1 with h1
    exact ⟨A, 0, 0, h1, by omega, Nat.le_refl _⟩
  | own id =>
    right
    simp only [sliceLen] at hn
    split at hn
    · rename_i e xs he
      injection hn with hn
      obtain ⟨A, cap, h1, h2, _⟩ := slice_cells H (v := .own id) (e := e) (xs := xs) (by simp [toD, he]) hv
      exact ⟨A, _, cap, h1, hn.symm, h2⟩
    · cases hn
  | _ => simp [sliceLen] at hn

theorem slice_ok (HE : EnvOk Pg G E) (F : ∀ t, RepV (cx S st.h M w) (st.fr t) (a.tmps.getD t undef)) (H : HInv S B w0 st.h M w) {t : TypeId} {x : Operand} {lo hi mx : Option Operand} (ho : o.op = .slice t x lo hi mx)
    (hr : evSlice (E.ty t) (opnd none st.fr x) (lo.map (opnd none st.fr)) (hi.map (opnd none st.fr)) (mx.map (opnd none st.fr)) st.h K = some r) : Does Pg o a w (Post K r S B w0 st.h M w) := by
  have hx := opnd_rep F none (by intros; simp) x
  have fin : ∀ (z : Value), (Instr.sliceAt t (a.eval x) (lo.map a.eval) (hi.map a.eval) (mx.map a.eval)).run Pg w = .ok z w → Post K r S B w0 st.h M w z w → Does Pg o a w (Post K r S B w0 st.h M w) := by
    intro z h1 h2
    refine Does.value (v := z) (w' := w) ?_ h2
    simp only [execOp, ho, Sem.run_bind, h1, Result.andThen_ok, Sem.run_pure]
  unfold evSlice at hr
  split at hr
  · -- to nothing
    rename_i m hm
    split at hr
    case h_2 => cases hr
    rename_i e hty h1 h2 h3
    obtain ⟨⟨e', hu, he'⟩, _⟩ := HE.ty t _ hty
    obtain ⟨mo, rfl, rfl⟩ : ∃ mo, mx = some mo ∧ m = opnd none st.fr mo := by
      cases mx with
      | none => cases hm
      | some mo => injection hm with hm; exact ⟨mo, rfl, hm.symm⟩
    have num : ∀ {y : Operand}, asInt (opnd none st.fr y) = some 0 → ∃ k, a.eval y = .int k 0 := by
      intro y hy
      have hq := opnd_rep F none (by intros; simp) y
      unfold asInt at hy
      split at hy
      · rename_i k n e2
        injection hy with hy
        subst hy
        rw [e2] at hq
        exact ⟨k, repV_int hq⟩
      · cases hy
    obtain ⟨k3, hk3⟩ := num h1
    obtain ⟨lo', rfl⟩ : ∃ y, lo = some y := by cases lo with | none => simp at h2 | some y => exact ⟨y, rfl⟩
    obtain ⟨hi', rfl⟩ : ∃ y, hi = some y := by cases hi with | none => simp at h3 | some y => exact ⟨y, rfl⟩
    obtain ⟨k1, hk1⟩ := num (y := lo') (by simpa using h2)
    obtain ⟨k2, hk2⟩ := num (y := hi') (by simpa using h3)
    have key : ∀ A n cap, a.eval x = .slice A n cap → K (.nilS e) st.h = some r → Does Pg o a w (Post K r S B w0 st.h M w) := by
      intro A n cap hv hk
      refine fin (.slice A 0 0) ?_ (Post.same H hk (by simp [RepV, Rep1]))
      simp only [Option.map_some, hk1, hk2, hk3, hv]
      exact run_slice_none hu he'
    split at hr
    · rename_i e2 xs ex
      rw [ex] at hx
      rcases repV_data hx with ⟨q, _⟩ | ⟨_, q⟩
      · cases q
      · simp only [RepD] at q
        obtain ⟨A, cap, h1, _⟩ := q
        injection h1 with h1
        exact key _ _ _ h1 hr
    · rename_i e2 ex
      rw [ex] at hx
      simp only [RepV, Rep1] at hx
      obtain ⟨A, h1⟩ := hx
      injection h1 with h1
      exact key _ _ _ h1 hr
    · rename_i id ex
      split at hr
      case h_2 => cases hr
      rw [ex] at hx
      simp only [RepV, Rep1] at hx
      obtain ⟨_, A, n, cap, h1, _⟩ := hx
      injection h1 with h1
      exact key _ _ _ h1 hr
    · cases hr
  · rename_i hm
    obtain rfl : mx = none := by cases mx with | none => rfl | some y => cases hm
    split at hr
    case h_1 => cases hr
    rename_i n hn
    split at hr
    case h_2 => cases hr
    rename_i l u hl hu
    obtain ⟨hcut, hr'⟩ := test_some hr
    clear hr
    have hr := hr'
    clear hr'
    have hcut : 0 ≤ l ∧ l ≤ u ∧ u ≤ n := by
      unfold P.cut at hcut
      simp only [Bool.and_eq_true, decide_eq_true_eq] at hcut
      exact ⟨hcut.1.1, hcut.1.2, hcut.2⟩
    obtain ⟨c0, c1, c2⟩ := hcut
    have hl := bound_rep F hl
    have hu' := bound_rep F hu
    have hlen := len_rep H hn hx
    split at hr
    · rename_i e e2 xs hty ex
      split at hr
      case h_2 => cases hr
      rename_i hd
      have hd : e = e2 := by simpa using hd
      subst hd
      obtain ⟨⟨e', hun, he'⟩, _⟩ := HE.ty t _ hty
      rw [ex] at hx hn
      simp only [sliceLen] at hn
      injection hn with hn
      subst hn
      unfold P.len at c2 hu'
      rcases repV_data hx with ⟨q, _⟩ | ⟨_, q⟩
      · cases q
      simp only [RepD] at q
      obtain ⟨A, cap, h1, hle, h3⟩ := q
      injection h1 with h1
      refine fin _ (by rw [h1]; exact run_slice_row hun he' hl hu' c0 c1 (by omega)) (Post.same H hr ?_)
      simp only [RepV]
      right
      refine ⟨rfl, ?_⟩
      simp only [RepD]
      have hlen : List.length (P.sub_ xs l u) = u.toNat - l.toNat := by simp [P.sub_]; omega
      refine ⟨_, _, by rw [hlen], by rw [hlen]; omega, ?_⟩
      by_cases hz : u.toNat - l.toNat = 0
      · exact .inl (List.eq_nil_of_length_eq_zero (by rw [hlen]; exact hz))
      right
      rcases h3 with h3 | ⟨b, of, rfl, hb, hnz, hel⟩
      · subst h3; simp at c2; omega
      refine ⟨b, of + l.toNat * e.size, ?_, hb, hnz, fun i y hy => ?_⟩
      · rw [if_neg (by omega)]; simp [Addr.add_mid]
      · have hy' : xs[l.toNat + i]? = some y := by
          unfold P.sub_ at hy
          rw [List.getElem?_drop, List.getElem?_take] at hy
          split at hy
          · exact hy
          · cases hy
        obtain ⟨d, h4, h5⟩ := hel _ _ hy'
        refine ⟨d, h4, ?_⟩
        have e1 : of + l.toNat * e.size + i * e.size = of + (l.toNat + i) * e.size := by rw [Nat.add_mul]; omega
        rw [e1]; exact h5
    · rename_i s hty ex
      obtain ⟨hun, _⟩ := HE.ty t _ hty
      rw [ex] at hx hn
      simp only [sliceLen] at hn
      injection hn with hn
      subst hn
      unfold P.slen at c2 hu'
      have hx := repV_str hx
      exact fin _ (by rw [hx]; exact run_slice_str hun hl hu' c0 c1 c2) (Post.same H hr (rep_str _ _))
    · rename_i e id hty ex
      split at hr
      case h_2 => cases hr
      rename_i e2 xs he hlk
      split at hr
      case h_2 => cases hr
      rename_i hd
      have hd : e = e2 := by simpa using hd
      subst hd
      obtain ⟨⟨e', hun, he'⟩, _⟩ := HE.ty t _ hty
      rw [ex] at hx hn
      simp only [sliceLen, he] at hn
      injection hn with hn
      subst hn
      unfold P.len at c2 hu'
      simp only [RepV, Rep1] at hx
      obtain ⟨_, A, n, cap, h1, h2⟩ := hx
      injection h1 with h1
      rcases h2 with h2 | hM
      · simp only [cx] at h2; rw [he] at h2; cases h2
      obtain ⟨A', cap', h3, h4, h5⟩ := H.ent id _ he
      simp only [cx] at hM h3
      rw [hM] at h3
      injection h3 with q1 q2 q3
      subst q1; subst q2; subst q3
      have hlen : List.length (P.sub_ xs l u) = u.toNat - l.toNat := by simp [P.sub_]; omega
      refine fin _ (by rw [h1]; exact run_slice_row hun he' hl hu' c0 c1 (by omega)) ?_
      rw [← hlen]
      refine grow_row (l := [id]) H (by simp [unlocked, hlk]) (Below.refl _ _) rfl (by rw [hlen]; omega) (fun hc => ?_) (fun _ => rfl) hr
      rcases h5 with h5 | ⟨_, b, of, cs, el, rfl, h6, h7, h8⟩
      · omega
      refine ⟨b, of + l.toNat * e.size, cs, el, id, ?_, by simp, by rw [he]; simp, by rw [hM]; exact blk_row (by omega), h6, ?_, fun _ _ => rfl, fun i y hy => ?_⟩
      · rw [if_neg (by omega)]; simp [Addr.add_mid]
      · have : cap * e.size = l.toNat * e.size + (cap - l.toNat) * e.size := by rw [← Nat.add_mul]; congr 1; omega
        omega
      · have hy' : xs[l.toNat + i]? = some y := by
          unfold P.sub_ at hy
          rw [List.getElem?_drop, List.getElem?_take] at hy
          split at hy
          · exact hy
          · cases hy
        obtain ⟨d, h9, h10⟩ := h8 _ _ hy'
        refine ⟨d, h9, ?_⟩
        have e1 : of + l.toNat * e.size + i * e.size = of + (l.toNat + i) * e.size := by rw [Nat.add_mul]; omega
        rw [e1]; exact h10
    · cases hr
end Go.PG

/- The evaluator's soundness: literals. -/
import Derived.Test.YtmklilemnfkppaaPGK
import Derived.Great.BuildSlice
set_option linter.all false
namespace Go.PG
open Go.RowKit

variable {Pg : Program} {G : World → Prop} {E : Env} {S : Nat → Prop} {B : Nat} {w0 w w' : World} {h : Hp} {M : Nat → Bk} {ρ : Type} {K : AV → Hp → Option ρ} {r : ρ} {st : St} {a : Act} {o : Oper}

theorem fold_set : ∀ (d : List Value) (n off : Nat) (cells : Array Value) (c1 e c2 : List Value), cells.toList = c1 ++ e ++ c2 → c1.length = off + n → e.length = d.length →
    ((d.zipIdx n).foldl (fun cs p => cs.setIfInBounds (off + p.2) p.1) cells).toList = c1 ++ d ++ c2 := by
  intro d
  induction d with
  | nil =>
    intro n off cells c1 e c2 h h1 h2
    have : e = [] := List.eq_nil_of_length_eq_zero (by simpa using h2)
    subst this
    simpa using h
  | cons v d ih =>
    intro n off cells c1 e c2 h h1 h2
    cases e with
    | nil => simp at h2
    | cons x e =>
      simp only [List.zipIdx_cons, List.foldl_cons]
      have := ih (n + 1) off (cells.setIfInBounds (off + n) v) (c1 ++ [v]) e c2 (by
        rw [Array.toList_setIfInBounds, h, ← h1]
        simp) (by simp [h1]; omega) (by simpa using h2)
      rw [this]
      simp

theorem fill_step {place : Nat → Option (Nat × Nat)} {cells : Array Value} {i off size : Nat} {v : Value} {rest : List (Nat × Value)} {c1 e c2 : List Value} (hp : place i = some (off, size)) (hc : cells.toList = c1 ++ e ++ c2)
    (h1 : c1.length = off) (h2 : e.length = size) (h3 : v.cells.toList.length = size) : Instr.fill place cells ((i, v) :: rest) = Instr.fill place (c1 ++ v.cells.toList ++ c2).toArray rest := by
  have hs : v.cells.size = size := by simpa using h3
  have hsz : cells.size = c1.length + e.length + c2.length := by rw [← Array.length_toList, hc]; simp; omega
  have hcond : ¬ ((v.cells.size ≠ size) || (off + v.cells.size > cells.size)) = true := by simp [hs]; omega
  have hf := fold_set v.cells.toList 0 off cells c1 e c2 hc (by simpa using h1) (by omega)
  have : v.cells.zipIdx.foldl (fun cs (x : Value × Nat) => cs.setIfInBounds (off + x.2) x.1) cells = (c1 ++ v.cells.toList ++ c2).toArray := by
    apply Array.toList_inj.1
    rw [← Array.foldl_toList, Array.toList_zipIdx]
    exact hf
  simp only [Instr.fill, hp]
  rw [if_neg (by simpa using hcond)]
  exact congrArg (fun z => Instr.fill place z rest) this

theorem build_rep (HE : EnvOk Pg G E) (F : ∀ t, RepV (cx S h M w) (st.fr t) (a.tmps.getD t undef)) {b : Ty} {pl : Nat → Option (Nat × Nat)} (hpl : ∀ j t, b.nth j = some t → pl j = some (b.off j, t.size)) (hnp : ∀ j t, b.nth j = some t → ∀ x y, t ≠ .pair x y) :
    ∀ (ps : List (Nat × Operand)) (v v' : AV) (cs : Array Value), buildParts st.fr (.st b) ps v = some v' → fitsT v (.st b) = true → RepC (cx S h M w) v cs.toList →
      ∃ cs', Instr.fill pl cs (ps.map fun p => (p.1, a.eval p.2)) = some cs' ∧ fitsT v' (.st b) = true ∧ RepC (cx S h M w) v' cs'.toList := by
  intro ps
  induction ps with
  | nil =>
    intro v v' cs hb f hr
    simp only [buildParts] at hb
    injection hb with hb
    subst hb
    exact ⟨cs, rfl, f, hr⟩
  | cons p ps ih =>
    intro v v' cs hb f hr
    obtain ⟨j, x⟩ := p
    simp only [buildParts] at hb
    split at hb
    case h_2 => cases hb
    rename_i t ht
    simp only [partTy] at ht
    split at hb
    case h_2 => cases hb
    rename_i hs hf
    split at hb
    case h_2 => cases hb
    rename_i v2 hv2
    have hx := opnd_rep F (some t) (by rintro y z q; injection q with q; exact hnp j t ht y z q) x
    have hxc := repV_cells _ _ hs hx
    obtain ⟨fz, c1, e, c2, ecs, hl, hel, hz⟩ := av_upd hv2 f ht hf hr hxc
    have hxl := fits_len _ t _ hf hxc
    obtain ⟨cs', h1, h2, h3⟩ := ih v2 v' (c1 ++ (a.eval x).cells.toList ++ c2).toArray hb fz (by simpa using hz)
    refine ⟨cs', ?_, h2, h3⟩
    rw [List.map_cons, fill_step (hpl j t ht) ecs hl (by omega) hxl]
    exact h1

theorem nth_nopair {b : Ty} : ∀ {m : Mode}, (∀ t, m ≠ .typ t) → Ok Pg b m → ∀ j t, b.nth j = some t → ∀ x y, t ≠ .pair x y := by
  induction b with
  | pair p q ihp ihq =>
    intro m hm h j t hn x y e
    subst e
    cases m with
    | typ t => exact hm t rfl
    | flds l o =>
      cases l with
      | nil => exact h.elim
      | cons f l =>
        cases j with
        | zero => simp only [Ty.nth] at hn; injection hn with hn; subst hn; exact h.2.2.1
        | succ j => simp only [Ty.nth] at hn; exact ihq (by simp) h.2.2.2 j _ hn x y rfl
    | arr n e =>
      cases n with
      | zero => exact h.elim
      | succ n =>
        cases j with
        | zero => simp only [Ty.nth] at hn; injection hn with hn; subst hn; exact h.1
        | succ j => simp only [Ty.nth] at hn; exact ihq (by simp) h.2 j _ hn x y rfl
  | _ =>
    intro m hm h j t hn x y e
    obtain ⟨_, h2, _⟩ := nth_leaf (by intros; simp) hn
    subst h2
    cases e

theorem places_ok : ∀ (b : Ty) (l : List Field) (o : Nat), Ok Pg b (.flds l o) → ∃ ps, l.mapM (fun f => (Pg.info? f.type).map fun i => (f.offset, i.size)) = some ps ∧ ∀ j t, b.nth j = some t → ps[j]? = some (o + b.off j, t.size) := by
  intro b
  induction b with
  | pair p q ihp ihq =>
    intro l o h
    cases l with
    | nil => exact h.elim
    | cons f l =>
      obtain ⟨h1, _, h2, h3⟩ := h
      obtain ⟨ps, h4, h5⟩ := ihq l _ h3
      obtain ⟨i, h6, h7⟩ := ok_size h2
      refine ⟨(f.offset, i.size) :: ps, by simp [List.mapM_cons, h6, h4], fun j t hn => ?_⟩
      cases j with
      | zero => simp only [Ty.nth] at hn; injection hn with hn; subst hn; simp [h1, h7, Ty.off]
      | succ j =>
        simp only [Ty.nth] at hn
        simp only [List.getElem?_cons_succ, h5 j t hn, Ty.off]
        congr 2
        omega
  | _ =>
    intro l o h
    obtain ⟨f, rfl, h1, _, h2⟩ := ok_leaf_flds (by intros; simp) h
    obtain ⟨i, h6, h7⟩ := ok_size h2
    refine ⟨[(f.offset, i.size)], by simp [List.mapM_cons, h6], fun j t hn => ?_⟩
    obtain ⟨rfl, rfl, e⟩ := nth_leaf (by intros; simp) hn
    simp [h1, h7, e]

theorem build_ok (HE : EnvOk Pg G E) (F : ∀ t, RepV (cx S st.h M w) (st.fr t) (a.tmps.getD t undef)) (H : HInv S B w0 st.h M w) {t : TypeId} {ps : Array (Nat × Operand)} (ho : o.op = .build t ps)
    (hr : (match E.ty t with
    | some (.st b) => match buildParts st.fr (.st b) ps.toList (zeroAV (.st b)) with
      | some v => K v st.h
      | none => none
    | _ => none) = some r) : Does Pg o a w (Post K r S B w0 st.h M w) := by
  split at hr
  case h_2 => cases hr
  rename_i b hL
  split at hr
  case h_2 => cases hr
  rename_i v hv
  have hok := HE.ty t _ hL
  · obtain ⟨hk, zs, ⟨i, hi1, hi2, hi3⟩, hz⟩ := hok
    obtain ⟨c1, e, hrep, hfit⟩ := zero_rep (c := cx S st.h M w) (.st b) zs.toList [] (by simpa [zeroRun] using hz)
    rw [List.append_nil] at e
    rw [← e] at hrep
    have hmap : (ps.map fun (i, x) => (i, a.eval x)).toList = ps.toList.map fun p => (p.1, a.eval p.2) := by simp
    have fin : ∀ (pl : Nat → Option (Nat × Nat)), (∀ j t, b.nth j = some t → pl j = some (b.off j, t.size)) → (∀ j t, b.nth j = some t → ∀ x y, t ≠ .pair x y) →
        (∀ cs', Instr.fill pl zs (ps.toList.map fun p => (p.1, a.eval p.2)) = some cs' → Pg.built t (ps.map fun (i, x) => (i, a.eval x)).toList = some cs') → Does Pg o a w (Post K r S B w0 st.h M w) := by
      intro pl h1 h2 h3
      obtain ⟨cs', h4, h5, h6⟩ := build_rep HE F h1 h2 ps.toList (zeroAV (.st b)) v zs hv hfit hrep
      refine Does.value (v := .agg cs') (w' := w) ?_ (Post.same H hr ?_)
      · simp only [execOp, ho, Sem.run_bind, run_build w t _ cs' (h3 cs' h4), Result.andThen_ok, Sem.run_pure]
      · exact repC_repV h5 (by intros; simp) h6 (.inl ⟨rfl, by simp⟩)
    rcases hk with ⟨fs, h1, h2⟩ | ⟨n, e', h1, h2⟩
    · obtain ⟨places, h3, h4⟩ := places_ok b fs.toList 0 h2
      refine fin (fun j => places[j]?) (fun j t hn => by rw [h4 j t hn]; simp) (nth_nopair (by simp) h2) (fun cs' hf => ?_)
      rw [hmap]
      unfold Program.built
      simp only [hi1, h1, hi3, h3, Value.cells]
      simpa using hf
    · have hie : ∃ ie, Pg.info? e' = some ie := by
        cases b with
        | pair p q => cases n with
          | zero => exact h2.elim
          | succ n => obtain ⟨i, h, _⟩ := ok_size h2.1; exact ⟨i, h⟩
        | unit => exact h2.elim
        | _ => obtain ⟨i, h, _⟩ := ok_size (ok_leaf_arr (by intros; simp) h2).2; exact ⟨i, h⟩
      obtain ⟨ie, hie⟩ := hie
      refine fin (fun j => some (j * ie.size, ie.size)) (fun j t hn => ?_) (nth_nopair (by simp) h2) (fun cs' hf => ?_)
      · obtain ⟨_, h3, h4⟩ := ok_elem b n j e' t h2 hn
        obtain ⟨i2, h5, h6⟩ := ok_size h3
        rw [hie] at h5
        injection h5 with h5
        subst h5
        rw [h4 ie hie, h6]
      · rw [hmap]
        unfold Program.built
        simp only [hi1, h1, hi3, hie, Value.cells]
        exact hf

/-! ### literal slices -/
theorem zeroCellD {Z : Nat → Prop} {t : Ty} {v : Value} (h : zeroCell t v = true) (hd : dataTy t = true) : RepD Z w t t.zero [v] := by
  cases t with
  | bool => cases v <;> simp [zeroCell] at h; subst h; simp [RepD, Ty.zero]
  | int k => cases v <;> simp [zeroCell] at h; obtain ⟨rfl, rfl⟩ := h; simp [RepD, Ty.zero]
  | str =>
    cases v <;> simp [zeroCell] at h
    rename_i s
    obtain ⟨d⟩ := s
    obtain rfl : d = #[] := by injection h
    simp [RepD, Ty.zero]
  | slice e =>
    cases v with
    | slice A n m =>
      cases A with
      | some a => simp [zeroCell] at h
      | none => cases n with
        | succ n => simp [zeroCell] at h
        | zero => cases m with
          | succ m => simp [zeroCell] at h
          | zero => simp [RepD, Ty.zero]
    | _ => simp [zeroCell] at h
  | _ => simp [dataTy] at hd <;> simp [zeroCell] at h

theorem zeroD {Z : Nat → Prop} : ∀ (t : Ty) (cs r : List Value), zeroRun t cs = some r → dataTy t = true → ∃ c1, cs = c1 ++ r ∧ RepD Z w t t.zero c1 := by
  intro t
  induction t with
  | st b ih =>
    intro cs r h hd
    simp only [zeroRun] at h
    simp only [dataTy] at hd
    obtain ⟨c1, e, h1⟩ := ih cs r h hd
    exact ⟨c1, e, by simpa only [RepD, Ty.zero] using h1⟩
  | pair a b iha ihb =>
    intro cs r h hd
    simp only [zeroRun] at h
    simp only [dataTy] at hd
    split at hd
    case h_2 => cases hd
    rename_i hda
    split at h
    · rename_i r' hr
      obtain ⟨c1, rfl, h1⟩ := iha cs r' hr hda
      obtain ⟨c2, rfl, h3⟩ := ihb r' r h hd
      exact ⟨c1 ++ c2, by simp, by simp only [RepD, Ty.zero]; exact ⟨c1, c2, rfl, h1, h3⟩⟩
    · cases h
  | _ =>
    intro cs r h hd
    cases cs with
    | nil => simp [zeroRun] at h
    | cons v l =>
      simp only [zeroRun] at h
      cases hz : zeroCell _ v with
      | false => rw [hz] at h; cases h
      | true =>
        rw [hz] at h
        injection h with h
        subst h
        exact ⟨[v], rfl, zeroCellD hz hd⟩

theorem ok_zeroD {Z : Nat → Prop} {t : Ty} {id : TypeId} (h : Ok Pg t (.typ id)) (hd : dataTy t = true) : ∃ i z, Pg.info? id = some i ∧ i.size = t.size ∧ i.zero = some z ∧ RepD Z w t t.zero z.cells.toList := by
  have key : ∀ z n, Info Pg id n z → n = t.size → zeroRun t z.cells.toList = some [] → ∃ i z, Pg.info? id = some i ∧ i.size = t.size ∧ i.zero = some z ∧ RepD Z w t t.zero z.cells.toList := by
    rintro z n ⟨i, h1, h2, h3⟩ hn hz
    obtain ⟨c1, e, h4⟩ := zeroD (Z := Z) (w := w) t _ _ hz hd
    refine ⟨i, z, h1, h2.trans hn, h3, ?_⟩
    rw [e]; simpa using h4
  cases t with
  | unit => exact h.elim
  | pair a b => exact h.elim
  | bool => exact key _ _ h.2 rfl (by simp [Value.cells, zeroRun, zeroCell])
  | int k => exact key _ _ h.2 rfl (by simp [Value.cells, zeroRun, zeroCell])
  | str => obtain ⟨_, s, h1, h2⟩ := h; exact key _ _ h1 rfl (by simp [Value.cells, zeroRun, zeroCell, h2])
  | slice e => exact key _ _ h.2 rfl (by simp [Value.cells, zeroRun, zeroCell])
  | opq => simp [dataTy] at hd
  | st b => obtain ⟨_, zs, h1, h2⟩ := h; exact key _ _ h1 rfl (by simpa [Value.cells, zeroRun] using h2)

theorem fillParts_rep (HE : EnvOk Pg G E) (F : ∀ t, RepV (cx S h M w) (st.fr t) (a.tmps.getD t undef)) (H : HInv S B w0 h M w) {e : Ty} (he : ∀ x y, e ≠ .pair x y) (hpos : 0 < e.size) {Z' : Nat → Prop} (hZ : ∀ b, Z' b → (cx S h M w).Z b) :
    ∀ (ps : List (Nat × Operand)) (acc xs : List e.D) (cs : Array Value), (∀ p ∈ ps, ∀ id ∈ (opnd (some e) st.fr p.2).owns, ∀ b, h.e id ≠ none → (M id).blk = some b → ¬ Z' b) →
      fillParts e h (ps.map fun p => (p.1, opnd (some e) st.fr p.2)) acc = some xs → RowRep Z' w e acc cs.toList →
      ∃ cs', Instr.fill (fun i => some (i * e.size, e.size)) cs (ps.map fun p => (p.1, a.eval p.2)) = some cs' ∧ RowRep Z' w e xs cs'.toList ∧ List.length xs = List.length acc := by
  intro ps
  induction ps with
  | nil =>
    intro acc xs cs _ hf hr
    simp only [List.map_nil, fillParts] at hf
    injection hf with hf
    subst hf
    exact ⟨cs, rfl, hr, rfl⟩
  | cons p ps ih =>
    intro acc xs cs hown hf hr
    obtain ⟨i, x⟩ := p
    simp only [List.map_cons, fillParts] at hf
    split at hf
    case h_2 => cases hf
    rename_i y hy hi
    have hi : i < List.length acc := by simpa using hi
    have hx := opnd_rep F (some e) (by rintro p q r; injection r with r; exact he p q r) x
    have hsol := toD_solid _ e _ hy (by rintro q; rw [q] at hy; cases e <;> simp [toD] at hy; simp [Ty.size] at hpos)
    have hxc := repV_cells _ _ hsol hx
    have hd := toD_rep H hZ _ e y _ (hown (i, x) List.mem_cons_self) hy hxc
    obtain ⟨hlen, hel⟩ := hr
    obtain ⟨d, h1, h2⟩ := hel i _ (List.getElem?_eq_getElem hi)
    have hmul := mul_le_of_lt (n := e.size) hi
    have hsplit : cs.toList = cs.toList.take (i * e.size) ++ d ++ cs.toList.drop (i * e.size + e.size) := by
      have hmid : (cs.toList.drop (i * e.size)).take e.size = d := by
        apply List.ext_getElem?
        intro j
        rw [List.getElem?_take]
        split
        · rename_i hj
          rw [List.getElem?_drop]
          have hj' : j < d.length := by rw [h1.len]; exact hj
          rw [List.getElem?_eq_getElem hj']
          exact h2 j _ (List.getElem?_eq_getElem hj')
        · rename_i hj
          symm
          apply List.getElem?_eq_none
          rw [h1.len]; omega
      have h3 := List.take_append_drop (i * e.size) cs.toList
      have h4 := List.take_append_drop e.size (cs.toList.drop (i * e.size))
      rw [List.drop_drop, hmid] at h4
      rw [List.append_assoc, h4, h3]
    have hpl : (cs.toList.take (i * e.size)).length = i * e.size := by
      rw [List.length_take, hlen]; omega
    have hstep := fill_step (place := fun i => some (i * e.size, e.size)) (i := i) (v := a.eval x) (rest := ps.map fun p => (p.1, a.eval p.2)) rfl hsplit hpl h1.len hd.len
    obtain ⟨cs', h5, h6, h7⟩ := ih (acc.set i y) xs (cs.toList.take (i * e.size) ++ (a.eval x).cells.toList ++ cs.toList.drop (i * e.size + e.size)).toArray (fun p hp => hown p (List.mem_cons_of_mem _ hp)) hf ⟨by
        have := congrArg List.length hsplit
        simp only [List.length_append, h1.len] at this
        simp only [List.length_append, hd.len, List.length_set]
        omega, fun i' x' hx' => by
        rw [List.getElem?_set] at hx'
        by_cases hii : i = i'
        · subst hii
          simp [hi] at hx'
          subst hx'
          refine ⟨_, hd, fun j v hv => ?_⟩
          have hj := (List.getElem?_eq_some_iff.1 hv).1
          show (_ ++ _ ++ _ : List Value)[_]? = _
          rw [List.append_assoc, List.getElem?_append_right (by omega), hpl, Nat.add_sub_cancel_left, List.getElem?_append_left hj]
          exact hv
        · simp only [hii, if_false] at hx'
          obtain ⟨d', g1, g2⟩ := hel i' x' hx'
          refine ⟨d', g1, fun j v hv => ?_⟩
          have hj : j < e.size := by rw [← g1.len]; exact (List.getElem?_eq_some_iff.1 hv).1
          have hold := g2 j v hv
          show (_ ++ _ ++ _ : List Value)[_]? = _
          rw [cell_splice (e := d) (by rw [h1.len, hd.len]), ← hsplit, hpl, hd.len]
          rcases Nat.lt_or_gt_of_ne hii with hlt | hgt
          · have := mul_le_of_lt (n := e.size) hlt
            rw [if_neg (by omega), if_neg (by omega)]
            exact hold
          · have := mul_le_of_lt (n := e.size) hgt
            rw [if_pos (by omega)]
            exact hold⟩
    exact ⟨cs', by rw [List.map_cons, hstep]; exact h5, h6, by rw [h7, List.length_set]⟩

theorem zero_row {Z : Nat → Prop} {e : Ty} {z : Array Value} (hz : RepD Z w e e.zero z.toList) (n : Nat) : RowRep Z w e (List.replicate n e.zero) ((Array.range (n * e.size)).map (z[· % z.size]!)).toList := by
  have hl : z.size = e.size := by simpa using hz.len
  refine ⟨by simp, fun i x hx => ?_⟩
  have hi : i < n := by have := (List.getElem?_eq_some_iff.1 hx).1; simpa using this
  rw [List.getElem?_replicate, if_pos hi] at hx
  injection hx with hx
  subst hx
  refine ⟨_, hz, fun j v hv => ?_⟩
  have hj : j < z.size := by simpa using (List.getElem?_eq_some_iff.1 hv).1
  have := mul_le_of_lt (n := e.size) hi
  have hlt : i * e.size + j < n * e.size := by omega
  rw [Array.getElem?_toList, Array.getElem?_map]
  rw [Array.getElem?_eq_getElem (by simpa using hlt)]
  simp only [Array.getElem_range, Option.map_some]
  have e1 : (i * e.size + j) % z.size = j := by rw [hl, Nat.add_comm, Nat.add_mul_mod_self_right]; exact Nat.mod_eq_of_lt (by omega)
  rw [e1]
  rw [Array.getElem?_toList, Array.getElem?_eq_getElem hj] at hv
  rw [getElem!_pos z j hj]
  exact hv

theorem buildSlice_ok (HE : EnvOk Pg G E) (F : ∀ t, RepV (cx S st.h M w) (st.fr t) (a.tmps.getD t undef)) (H : HInv S B w0 st.h M w) {t : TypeId} {n : Nat} {ps : Array (Nat × Operand)} (ho : o.op = .buildSlice t n ps)
    {e : Ty} (hty : E.ty t = some (.slice e)) {xs : List e.D} (hf : fillParts e st.h (ps.toList.map fun p => (p.1, opnd (some e) st.fr p.2)) (List.replicate n e.zero) = some xs) (hdt : dataTy e = true) (hsm : Nat.ble (n * e.size) 16777216 = true)
    (hul : unlocked st.h (ps.toList.flatMap fun p => (opnd (some e) st.fr p.2).owns) = true)
    (hr : K (.own st.h.next) ((st.h.kills (ps.toList.flatMap fun p => (opnd (some e) st.fr p.2).owns)).new (.row e xs)) = some r) : Does Pg o a w (Post K r S B w0 st.h M w) := by
  obtain ⟨⟨e', hu, he⟩, _⟩ := HE.ty t _ hty
  have hpos := ok_pos e _ he
  obtain ⟨ie, z, hi1, hi2, hi3, hz⟩ := ok_zeroD (Z := (cx S (st.h.kills (ps.toList.flatMap fun p => (opnd (some e) st.fr p.2).owns)) M w).Z) (w := w) he hdt
  have hzr := zero_row hz n
  have hown : ∀ p ∈ ps.toList, ∀ id ∈ (opnd (some e) st.fr p.2).owns, ∀ b, st.h.e id ≠ none → (M id).blk = some b → ¬ (cx S (st.h.kills (ps.toList.flatMap fun p => (opnd (some e) st.fr p.2).owns)) M w).Z b := by
    intro p hp id hid b hl hb zz
    rcases zz with zz | ⟨i, f, q1, q2⟩
    · have := H.own id b hl hb
      have := H.old b zz
      omega
    · simp only [cx] at q1
      rw [kills_e] at q1
      split at q1
      · cases q1
      · rename_i hni
        have := H.dist id i b hl (by rw [q1]; simp) hb q2
        subst this
        exact hni (List.mem_flatMap.2 ⟨p, hp, hid⟩)
  obtain ⟨cs', h1, h2, h3⟩ := fillParts_rep HE F H (by rintro x y rfl; exact he) hpos Z_kills ps.toList _ xs _ hown hf hzr
  have hlen : List.length xs = n := by rw [h3]; simp
  have hmap : (ps.map fun (i, x) => (i, a.eval x)).toList = ps.toList.map fun p => (p.1, a.eval p.2) := by simp
  have hfin := new_row (w' := w) (el := e') (cs := cs'.toList) (rest := []) (cap := n) H hul rfl (Below.refl _ _) (by rw [List.append_nil, h2.1, hlen]) (by omega) h2 hr
  rw [List.append_nil, hlen] at hfin
  have hsm' : n * e.size ≤ 16777216 := Nat.le_of_ble_eq_true hsm
  refine Does.value (v := .slice (some ⟨w.heap.size, 0, none⟩) n n) (w' := w.alloc (.cells cs' e' (0, 0))) ?_ (by simpa using hfin)
  by_cases hn : n = 0
  · subst hn
    have hps : ps.toList = [] := by
      cases q : ps.toList with
      | nil => rfl
      | cons p l => rw [q] at hf; simp [fillParts] at hf
    rw [hps, Nat.zero_mul, show Array.range 0 = #[] from rfl] at h1
    simp [Instr.fill] at h1
    have hpe : ps = #[] := by apply Array.toList_inj.1; simpa using hps
    subst hpe
    subst h1
    simp [execOp, ho, Instr.buildSlice, run_underlying hu, sizeOf, typeInfo, hi1, Instr.fill, newRow]
    rw [show Array.range 0 = #[] from rfl, Array.map_empty]
  · have hrun := run_buildSlice (P := Pg) w t e' n (ps.map fun (i, x) => (i, a.eval x)) cs' ie z hu hi1 hi3 (by rw [hi2]; omega) (by
      rw [hi2]
      have : n * e.size ≠ 0 := Nat.mul_ne_zero hn (by omega)
      exact this) (by rw [hmap, hi2]; exact h1)
    simp only [execOp, ho, Sem.run_bind, hrun, Result.andThen_ok, Sem.run_pure]
end Go.PG

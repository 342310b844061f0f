/- The evaluator's soundness: operations on addresses and memory. -/
import Derived.Test.YtmklilemnfkppaaPGE
set_option linter.all false
namespace Go.PG
open Go.RowKit

variable {Pg : Program} {G : World → Prop} {E : Env} {S : Nat → Prop} {B : Nat} {w0 w : World} {M : Nat → Bk} {ρ : Type} {K : AV → Hp → Option ρ} {r : ρ} {st : St} {a : Act} {o : Oper}

theorem offs_snoc : ∀ (p : List Nat) (L : Ty) (o : Nat) (b t : Ty) (j : Nat), offs L p = some (o, .st b) → b.nth j = some t → offs L (p ++ [j]) = some (o + b.off j, t) := by
  intro p
  induction p with
  | nil =>
    intro L o b t j h hn
    simp only [offs] at h
    injection h with h
    injection h with h1 h2
    subst h1; subst h2
    simp [offs, hn]
  | cons i p ih =>
    intro L o b t j h hn
    cases L with
    | st c =>
      simp only [offs] at h
      simp only [List.cons_append, offs]
      split at h
      · rename_i t' ht'
        split at h
        · rename_i o' u' hu'
          injection h with h
          injection h with h1 h2
          subst h1; subst h2
          rw [ih t' o' b t j hu' hn]
          simp
          omega
        · cases h
      · cases h
    | _ => simp [offs] at h

theorem addPath_spec {ty : TypeId → Option Ty} {s : TypeId} {L : Ty} {p : List Nat} {j : Nat} (h : addPath ty s L p j = true) :
    ∃ o b t, offs L p = some (o, .st b) ∧ ty s = some (.st b) ∧ b.nth j = some t ∧ offs L (p ++ [j]) = some (o + b.off j, t) := by
  unfold addPath at h
  split at h
  · rename_i o b e
    split at h
    · rename_i t e1 e2
      exact ⟨o, b, t, e, by simpa using e1, e2, offs_snoc p L o b t j e e2⟩
    · cases h
  · cases h

/-- The address of a part. -/
theorem run_fieldAt {b : Ty} {s : TypeId} (hs : Ok Pg (.st b) (.typ s)) {j : Nat} {t : Ty} (hn : b.nth j = some t) (fs : Array Field) (hu : Pg.underlying s = some (.struct fs)) (bl o : Nat) (w : World) :
    (Instr.fieldAt s (.pointer (some ⟨bl, o, none⟩)) j).run Pg w = .ok (.pointer (some ⟨bl, o + b.off j, none⟩)) w := by
  obtain ⟨h | h, _⟩ := hs
  · obtain ⟨fs', h1, h2⟩ := h
    rw [hu] at h1
    injection h1 with h1
    injection h1 with h1
    subst h1
    obtain ⟨f, h3, h4, h5⟩ := ok_field b _ 0 j t h2 hn
    have h3' : fs[j]? = some f := by simpa using h3
    have hsz := run_sizeOf_ok h5 w
    have hpos := ok_pos t _ h5
    simp [Instr.fieldAt, run_underlying hu, h3', Instr.sureAddr, fieldPlace, hsz, Nat.ne_of_gt hpos, h4, Addr.add_mid]
  · obtain ⟨n, e, h1, _⟩ := h
    rw [hu] at h1
    cases h1

theorem run_indexArr {b : Ty} {s : TypeId} (hs : Ok Pg (.st b) (.typ s)) {j : Nat} {t : Ty} (hn : b.nth j = some t) (n : Nat) (e : TypeId) (hu : Pg.underlying s = some (.array n e)) (bl o : Nat) (k : IntKind) (w : World) :
    (Instr.indexAt s (.pointer (some ⟨bl, o, none⟩)) (.int k (j : Int))).run Pg w = .ok (.pointer (some ⟨bl, o + b.off j, none⟩)) w := by
  obtain ⟨h | h, _⟩ := hs
  · obtain ⟨fs', h1, h2⟩ := h
    rw [hu] at h1
    cases h1
  · obtain ⟨n', e', h1, h2⟩ := h
    rw [hu] at h1
    injection h1 with h1
    injection h1 with h1 h1'
    subst h1; subst h1'
    obtain ⟨hj, h3, h4⟩ := ok_elem b n j e t h2 hn
    obtain ⟨i, hi, hsz⟩ := ok_size h3
    have h5 := h4 i hi
    simp [Instr.indexAt, asIntOf, run_underlying hu, Instr.sureAddr, sizeOf, typeInfo, hi, h5, Addr.add_mid]
    intro; omega

theorem run_indexSlice {e : Ty} {s e' : TypeId} (hu : Pg.underlying s = some (.slice e')) (he : Ok Pg e (.typ e')) (bl o n c : Nat) (i : Int) (k : IntKind) (h0 : 0 ≤ i) (h1 : i < n) (w : World) :
    (Instr.indexAt s (.slice (some ⟨bl, o, none⟩) n c) (.int k i)).run Pg w = .ok (.pointer (some ⟨bl, o + i.toNat * e.size, none⟩)) w := by
  have hsz := run_sizeOf_ok he w
  simp [Instr.indexAt, asIntOf, run_underlying hu, hsz, h0, h1, Addr.add_mid]

theorem st_kinds {b : Ty} {s : TypeId} (hs : Ok Pg (.st b) (.typ s)) : (∃ fs, Pg.underlying s = some (.struct fs)) ∨ (∃ n e, Pg.underlying s = some (.array n e)) := by
  obtain ⟨h | h, _⟩ := hs
  · obtain ⟨fs, h, _⟩ := h; exact .inl ⟨fs, h⟩
  · obtain ⟨n, e, h, _⟩ := h; exact .inr ⟨n, e, h⟩

theorem mem_part {w : World} {b o : Nat} {c1 c c2 : List Value} (h : Mem w b o (c1 ++ c ++ c2)) : Mem w b (o + c1.length) c := by
  intro j v hv
  have := h (c1.length + j) v (by
    rw [List.append_assoc, List.getElem?_append_right (by omega)]
    simp only [Nat.add_sub_cancel_left]
    rw [List.getElem?_append_left (by exact (List.getElem?_eq_some_iff.1 hv).1)]
    exact hv)
  rw [Nat.add_assoc]
  exact this

/-- A place behind an address of one's own: the cells there. -/
theorem mem_of_heap {w : World} {b : Nat} {cs : Array Value} {el : TypeId} {fz : Nat × Nat} (h : w.heap[b]? = some (.cells cs el fz)) : Mem w b 0 cs.toList := by
  intro j v hv
  simp only [World.cell?, h, Nat.zero_add]
  simpa using hv

theorem inb_spec {i : Int} {n : Int} (h : P.inb i n = true) : 0 ≤ i ∧ i < n := by
  unfold P.inb at h
  simpa using h

theorem test_some {b : Bool} {x : Option ρ} (h : test b x = some r) : b = true ∧ x = some r := by
  unfold test P.cond at h
  cases b with
  | true => exact ⟨rfl, h⟩
  | false => cases h

theorem toNat_get {α : Type} {l : List α} {i : Int} {d : α} (h : P.inb i (P.len l) = true) : l[i.toNat]? = some (P.get l i d) := by
  obtain ⟨h0, h1⟩ := inb_spec h
  unfold P.len at h1
  have : i.toNat < l.length := by omega
  unfold P.get
  rw [List.getD_eq_getElem?_getD, List.getElem?_eq_getElem this]
  rfl

/-! ### loads -/
theorem load_ok (HE : EnvOk Pg G E) (F : ∀ t, RepV (cx S st.h M w) (st.fr t) (a.tmps.getD t undef)) (H : HInv S B w0 st.h M w) {t : TypeId} {x : Operand} (ho : o.op = .load t x)
    (hr : (match opnd none st.fr x with
    | .rptr u x => match decide (E.ty t = some u) with
      | true => K (.data u x) st.h
      | false => none
    | .ptr id p => match st.h.e id with
      | some (.box v L) => match offs L p with
        | some (_, u) => match decide (E.ty t = some u), v.get p with
          | true, some y => K y st.h
          | _, _ => none
        | none => none
      | _ => none
    | .eptr id i p => match st.h.e id with
      | some (.row e xs) => match offs e p with
        | some (_, u) => match decide (E.ty t = some u), (AV.data e (P.get xs i e.zero)).get p with
          | true, some y => K y st.h
          | _, _ => none
        | none => none
      | _ => none
    | _ => none) = some r) : Does Pg o a w (Post K r S B w0 st.h M w) := by
  have hx := opnd_rep F none (by intros; simp) x
  split at hr
  · rename_i u y e
    rw [e] at hx
    split at hr
    · rename_i hd
      have hty : E.ty t = some u := by simpa using hd
      simp only [RepV, Rep1] at hx
      obtain ⟨b, of, d, hv, hb, hz, hrep, hm⟩ := hx
      injection hv with hv
      have hm : Mem w b of d := hm
      obtain ⟨v, h1, h2⟩ := run_load_ok (HE.ty t u hty) hm hrep.len
      refine Does.value (v := v) (w' := w) ?_ (Post.same H hr ?_)
      · simp only [execOp, ho, hv, Sem.run_bind, h1]; rfl
      · exact repC_repV (t := u) (by simp [fitsT]) (fun a b q => HE.noPair t a b (by rw [hty, q])) (by simpa only [RepC] using hrep) h2
    · cases hr
  · rename_i id p e
    rw [e] at hx
    split at hr
    · rename_i v L he
      split at hr
      · rename_i off u hoff
        split at hr
        · rename_i y hd hy
          have hty : E.ty t = some u := by simpa using hd
          simp only [RepV, Rep1] at hx
          obtain ⟨_, q, hv, hx⟩ := hx
          injection hv with hv
          rcases hx with hx | ⟨b, v', L', o', u', hM, he', ho', rfl⟩
          · simp only [cx] at hx; rw [he] at hx; cases hx
          · simp only [cx] at he' hM
            rw [he] at he'
            injection he' with he'
            injection he' with e1 e2
            subst e1; subst e2
            rw [hoff] at ho'
            injection ho' with ho'
            injection ho' with e1 e2
            subst e1; subst e2
            obtain ⟨b', cs, el, hM', hheap, hfit, hrep⟩ := H.ent id _ he
            simp only [cx] at hM' hheap
            rw [hM] at hM'
            injection hM' with hM'
            subst hM'
            obtain ⟨fy, c1, d, c2, ecs, hl, hd'⟩ := av_get p v L y cs.toList off u hy hoff hfit hrep
            have hm : Mem w b off d := by
              have := mem_part (o := 0) (by rw [← ecs]; exact mem_of_heap hheap)
              rwa [Nat.zero_add, hl] at this
            obtain ⟨q, h1, h2⟩ := run_load_ok (HE.ty t u hty) hm (fits_len y u d fy hd')
            refine Does.value (v := q) (w' := w) ?_ (Post.same H hr ?_)
            · simp only [execOp, ho, hv, Sem.run_bind, h1]; rfl
            · exact repC_repV fy (fun a b q => HE.noPair t a b (by rw [hty, q])) hd' h2
        · cases hr
      · cases hr
    · cases hr
  · rename_i id i p e
    rw [e] at hx
    split at hr
    · rename_i et xs he
      split at hr
      · rename_i off u hoff
        split at hr
        · rename_i y hd hy
          have hty : E.ty t = some u := by simpa using hd
          simp only [RepV, Rep1] at hx
          obtain ⟨_, q, hv, hx⟩ := hx
          injection hv with hv
          rcases hx with hx | ⟨b, o', n, cap, et', xs', q', u', hM, he', h0, h1, ho', rfl⟩
          · simp only [cx] at hx; rw [he] at hx; cases hx
          · simp only [cx] at he' hM
            rw [he] at he'
            injection he' with he'
            injection he' with e1 e2
            subst e1
            have e2 := eq_of_heq e2
            subst e2
            rw [hoff] at ho'
            injection ho' with ho'
            injection ho' with e1 e2
            subst e1; subst e2
            obtain ⟨A, cap', hM', hle', hrow⟩ := H.ent id _ he
            simp only [cx] at hM' hrow
            rw [hM] at hM'
            injection hM' with e1 e2 e3
            subst e1; subst e3
            rcases hrow with hrow | ⟨_, b', o2, cs, el, hA, hheap, hfit, hel⟩
            · omega
            · injection hA with hA
              injection hA with e1 e2
              subst e1; subst e2
              have hget : xs[i.toNat]? = some (P.get xs i et.zero) := toNat_get (by unfold P.inb P.len; simp; omega)
              obtain ⟨d, hd1, hd2⟩ := hel i.toNat _ hget
              obtain ⟨fy, c1, d', c2, ecs, hl, hd'⟩ := av_get p (.data et (P.get xs i et.zero)) et y d off u hy hoff (by simp [fitsT]) (by simpa only [RepC] using hd1)
              have hm : Mem w b (o' + i.toNat * et.size + off) d' := by
                have := mem_part (by rw [← ecs]; exact hd2)
                rwa [hl] at this
              obtain ⟨q, g1, g2⟩ := run_load_ok (HE.ty t u hty) hm (fits_len y u d' fy hd')
              refine Does.value (v := q) (w' := w) ?_ (Post.same H hr ?_)
              · simp only [execOp, ho, hv, Sem.run_bind, g1]; rfl
              · exact repC_repV fy (fun a b q => HE.noPair t a b (by rw [hty, q])) hd' g2
        · cases hr
      · cases hr
    · cases hr
  · cases hr

theorem memb_false {i : Nat} : ∀ {l : List Nat}, memb i l = false → i ∉ l := by
  intro l
  induction l with
  | nil => simp
  | cons j l ih =>
    intro h
    simp only [memb] at h
    split at h
    · cases h
    · rename_i hj
      rintro q
      rcases List.mem_cons.1 q with rfl | q
      · rw [Nat.beq_refl] at hj; cases hj
      · exact ih h q

/-! ### stores -/
theorem setRow_below (H : HInv S B w0 st.h M w) {b : Nat} (hb : B ≤ b) (cs : Array Value) : Below B w (w.setRow b cs) :=
  ⟨rfl, rfl, rfl, by simp, fun k hk => setRow_other w b k cs (by omega)⟩

theorem take_splice {c1 e c2 d : List Value} {o n : Nat} (h1 : c1.length = o) (h2 : e.length = n) : (c1 ++ e ++ c2).take o ++ d ++ (c1 ++ e ++ c2).drop (o + n) = c1 ++ d ++ c2 := by
  subst h1; subst h2
  simp [List.drop_append]

theorem cell_splice {c1 e c2 d : List Value} (hl : e.length = d.length) (j : Nat) : (c1 ++ d ++ c2)[j]? = if j < c1.length then (c1 ++ e ++ c2)[j]? else if j < c1.length + d.length then d[j - c1.length]? else (c1 ++ e ++ c2)[j]? := by
  by_cases h1 : j < c1.length
  · simp [h1, List.getElem?_append_left]
  · by_cases h2 : j < c1.length + d.length
    · simp only [h1, h2, if_true, if_false]
      rw [List.append_assoc, List.getElem?_append_right (by omega), List.getElem?_append_left (by omega)]
    · simp only [h1, h2, if_false]
      rw [List.getElem?_append_right (by simp; omega), List.getElem?_append_right (by simp; omega)]
      simp [hl]

theorem store_box (HE : EnvOk Pg G E) (F : ∀ t, RepV (cx S st.h M w) (st.fr t) (a.tmps.getD t undef)) (H : HInv S B w0 st.h M w) {t : TypeId} {x y : Operand} (ho : o.op = .store t x y)
    {id : Nat} {p : List Nat} (e : opnd none st.fr x = .ptr id p) {v : AV} {L : Ty} (he : st.h.e id = some (.box v L)) (hlk : st.h.lk id = false) {off : Nat} {u : Ty} (hoff : offs L p = some (off, u))
    (hty : E.ty t = some u) (hs : (opnd (E.ty t) st.fr y).solid = true) (hf : fitsT (opnd (E.ty t) st.fr y) u = true) {v' : AV} (hv' : v.set p (opnd (E.ty t) st.fr y) = some v')
    (hr : K .undef (st.h.put id (.box v' L)) = some r) : Does Pg o a w (Post K r S B w0 st.h M w) := by
  have hx := opnd_rep F none (by intros; simp) x
  rw [e] at hx
  have hy := opnd_rep F (E.ty t) (HE.noPair t) y
  simp only [RepV, Rep1] at hx
  obtain ⟨_, q, hv, hx⟩ := hx
  injection hv with hv
  rcases hx with hx | ⟨b, v2, L', o', u', hM, he', ho', rfl⟩
  · simp only [cx] at hx; rw [he] at hx; cases hx
  simp only [cx] at he' hM
  rw [he] at he'
  injection he' with he'
  injection he' with e1 e2
  subst e1; subst e2
  rw [hoff] at ho'
  injection ho' with ho'
  injection ho' with e1 e2
  subst e1; subst e2
  obtain ⟨b', cs, el, hM', hheap, hfit, hrep⟩ := H.ent id _ he
  simp only [cx] at hM' hheap
  rw [hM] at hM'
  injection hM' with hM'
  subst hM'
  have hyc := repV_cells _ _ hs hy
  obtain ⟨fz, c1, ec, c2, ecs, hl, hel, hz⟩ := av_set p v L _ v' cs.toList _ off u hv' hoff hfit hf hrep hyc
  have hylen := fits_len _ u _ hf hyc
  have hcs : cs.size = c1.length + ec.length + c2.length := by rw [← Array.length_toList, ecs]; simp; omega
  have hrun := run_store_ok (HE.ty t u hty) (o := off) (v := a.eval y) hheap hylen (by omega) (RepC.one _ _ hyc)
  rw [ecs, take_splice hl (by rw [hel, hylen])] at hrun
  have hB : B ≤ b := H.own id b (by rw [he]; simp) (by rw [hM]; rfl)
  obtain ⟨H', k⟩ := H.upd (w' := w.setRow b (c1 ++ (a.eval y).cells.toList ++ c2).toArray) he hlk (e' := .box v' L) (.inl ⟨v, v', L, rfl, rfl⟩)
    (fun b' hb' => setRow_other w b b' _ (fun z => hb' (by rw [hM, z]; rfl))) (by simp) (setRow_below H hB _)
    (fun k => ⟨b, _, el, hM, setRow_heap w b _ _ el (0, 0) hheap, fz, RepC.tr k _ _ (by simpa using hz)⟩)
  refine Does.skip (w' := w.setRow b (c1 ++ (a.eval y).cells.toList ++ c2).toArray) ?_ ⟨.undef, _, _, hr, H', k, by simp only [RepV]⟩
  simp only [execOp, ho, hv, Sem.run_bind, hrun, Result.andThen_ok, Sem.run_pure]

theorem setD_rep {Z : Nat → Prop} {w : World} : ∀ (p : List Nat) (t : Ty) (x : t.D) (u : Ty) (y : u.D) (z : t.D) (cs d : List Value) (o : Nat) (u' : Ty), setD t x p u y = some z → offs t p = some (o, u') → RepD Z w t x cs → RepD Z w u y d →
    u = u' ∧ ∃ c1 e c2, cs = c1 ++ e ++ c2 ∧ c1.length = o ∧ e.length = d.length ∧ RepD Z w t z (c1 ++ d ++ c2) := by
  intro p
  induction p with
  | nil =>
    intro t x u y z cs d o u' hz ho hx hy
    unfold setD at hz
    split at hz
    · rename_i e
      subst e
      injection hz with hz
      subst hz
      simp only [offs] at ho
      injection ho with ho
      injection ho with h1 h2
      subst h1; subst h2
      exact ⟨rfl, [], cs, [], by simp, rfl, by rw [hx.len, hy.len], by simpa using hy⟩
    · cases hz
  | cons j p ih =>
    intro t x u y z cs d o u' hz ho hx hy
    cases t with
    | st b =>
      simp only [setD] at hz
      split at hz
      · rename_i q hq
        split at hz
        · rename_i z' hz'
          simp only [RepD] at hx
          obtain ⟨hn, c1, c, c2, rfl, hl, hd⟩ := comp_rep b j x q cs hq hx
          simp only [offs, hn] at ho
          split at ho
          · rename_i o' u2 ho'
            injection ho with ho
            injection ho with h1 h2
            subst h1; subst h2
            obtain ⟨e1, d1, e, d2, rfl, hl', hel, hd'⟩ := ih q.1 q.2 u y z' c d o' u2 hz' ho' hd hy
            obtain ⟨_, g1, g, g2, eg, hlg, hgl, hg⟩ := upd_rep b j x q.1 z' z _ _ hz hx hd'
            have hg1 : g1 = c1 := List.append_inj_left (by simpa using eg.symm) (by omega)
            subst hg1
            have : g ++ g2 = (d1 ++ e ++ d2) ++ c2 := by
              have := List.append_cancel_left (as := g1) (by simpa using eg.symm)
              simpa using this
            obtain ⟨hg3, hg4⟩ := List.append_inj this (by simp [hgl, hel])
            subst hg4
            exact ⟨e1, g1 ++ d1, e, d2 ++ g2, by simp, by simp [hl, hl'], hel, by simpa [RepD] using hg⟩
          · cases ho
        · cases hz
      · cases hz
    | _ => simp [setD] at hz

theorem mul_le_of_lt {i i' n : Nat} (h : i < i') : i * n + n ≤ i' * n := by
  have := Nat.mul_le_mul_right n (show i + 1 ≤ i' from h)
  rw [Nat.add_mul] at this
  omega

theorem store_row (HE : EnvOk Pg G E) (F : ∀ t, RepV (cx S st.h M w) (st.fr t) (a.tmps.getD t undef)) (H : HInv S B w0 st.h M w) {t : TypeId} {x y : Operand} (ho : o.op = .store t x y)
    {id : Nat} {p : List Nat} {i : Int} (e : opnd none st.fr x = .eptr id i p) {et : Ty} {xs : List et.D} (he : st.h.e id = some (.row et xs)) (hlk : st.h.lk id = false) {off : Nat} {u : Ty} (hoff : offs et p = some (off, u))
    (hty : E.ty t = some u) (hm : memb id (opnd (E.ty t) st.fr y).owns = false)
    (hr : freeze st.h (opnd (E.ty t) st.fr y) u (fun y h' => match setD et (P.get xs i et.zero) p u y with
            | some z => K .undef (h'.put id (.row et (P.set xs i z)))
            | none => none) = some r) : Does Pg o a w (Post K r S B w0 st.h M w) := by
  have hx := opnd_rep F none (by intros; simp) x
  rw [e] at hx
  have hy := opnd_rep F (E.ty t) (HE.noPair t) y
  simp only [RepV, Rep1] at hx
  obtain ⟨_, q, hv, hx⟩ := hx
  injection hv with hv
  rcases hx with hx | ⟨b, o', n, cap, et', xs', q', u', hM, he', h0, h1, ho', rfl⟩
  · simp only [cx] at hx; rw [he] at hx; cases hx
  simp only [cx] at he' hM
  rw [he] at he'
  injection he' with he'
  injection he' with e1 e2
  subst e1
  have e2 := eq_of_heq e2
  subst e2
  rw [hoff] at ho'
  injection ho' with ho'
  injection ho' with e1 e2
  subst e1; subst e2
  unfold freeze at hr
  split at hr
  · rename_i yv hyv
    split at hr
    · rename_i hul
      simp only at hr
      split at hr
      · rename_i z hz
        have hsol := toD_solid _ _ _ hyv (by rintro q; rw [q] at hyv; cases u <;> simp [toD] at hyv; exact HE.ty t _ hty)
        have hyc := repV_cells _ _ hsol hy
        obtain ⟨H1, k1⟩ := H.kills hul
        have hyd := freeze_rep H hyv hyc
        have hid : id ∉ (opnd (E.ty t) st.fr y).owns := fun q => by
          have := memb_false hm; exact this q
        have he1 : (st.h.kills (opnd (E.ty t) st.fr y).owns).e id = some (.row et xs) := by rw [kills_e]; simp [hid, he]
        have hlk1 : (st.h.kills (opnd (E.ty t) st.fr y).owns).lk id = false := by rw [kills_lk]; exact hlk
        obtain ⟨A, cap', hM', hle', hrow⟩ := H1.ent id _ he1
        simp only [cx] at hM' hrow
        rw [hM] at hM'
        injection hM' with e1 e2 e3
        subst e1; subst e3
        rcases hrow with hrow | ⟨hc, b', o2, cs, el, hA, hheap, hfit, hel⟩
        · omega
        injection hA with hA
        injection hA with e1 e3
        subst e1; subst e3
        have hget : xs[i.toNat]? = some (P.get xs i et.zero) := toNat_get (by unfold P.inb P.len; simp; omega)
        obtain ⟨d, hd1, hd2⟩ := hel i.toNat _ hget
        obtain ⟨_, c1, ec, c2, rfl, hl, hecl, hzr⟩ := setD_rep p et _ u yv z d _ off u hz hoff hd1 hyd
        -- the row's cells
        have hdl := hd1.len
        have hylen : (a.eval y).cells.toList.length = u.size := hyd.len
        have hcsz : o' + i.toNat * et.size + et.size ≤ cs.size := by
          have := mul_le_of_lt (n := et.size) (show i.toNat < cap by omega)
          omega
        obtain ⟨pre, suf, hpre, hprel⟩ : ∃ pre suf, cs.toList = pre ++ (c1 ++ ec ++ c2) ++ suf ∧ pre.length = o' + i.toNat * et.size := by
          refine ⟨cs.toList.take (o' + i.toNat * et.size), cs.toList.drop (o' + i.toNat * et.size + et.size), ?_, by simp; omega⟩
          have hmid : (cs.toList.drop (o' + i.toNat * et.size)).take et.size = c1 ++ ec ++ c2 := by
            apply List.ext_getElem?
            intro j
            rw [List.getElem?_take]
            split
            · rename_i hj
              rw [List.getElem?_drop]
              have hj' : j < (c1 ++ ec ++ c2).length := by rw [hdl]; exact hj
              have := hd2 j _ (List.getElem?_eq_getElem hj')
              simp only [World.cell?, hheap] at this
              rw [Array.getElem?_toList, List.getElem?_eq_getElem hj']
              simpa using this
            · rename_i hj
              symm
              apply List.getElem?_eq_none
              rw [hdl]; omega
          rw [← hmid]
          have := List.take_append_drop (o' + i.toNat * et.size) cs.toList
          have h2 := List.take_append_drop et.size (cs.toList.drop (o' + i.toNat * et.size))
          rw [List.drop_drop] at h2
          rw [List.append_assoc, h2, this]
        have hrun := run_store_ok (HE.ty t u hty) (o := o' + i.toNat * et.size + off) (v := a.eval y) hheap hylen (by
          have : c1.length + ec.length + c2.length = et.size := by rw [← hdl]; simp; omega
          omega) (RepC.one _ _ hyc)
        have hsplice : cs.toList.take (o' + i.toNat * et.size + off) ++ (a.eval y).cells.toList ++ cs.toList.drop (o' + i.toNat * et.size + off + u.size) = (pre ++ c1) ++ (a.eval y).cells.toList ++ (c2 ++ suf) := by
          have := take_splice (c1 := pre ++ c1) (e := ec) (c2 := c2 ++ suf) (d := (a.eval y).cells.toList) (o := o' + i.toNat * et.size + off) (n := u.size) (by simp [hprel, hl]) (by rw [hecl, hylen])
          rw [← this, hpre]
          simp
        rw [hsplice] at hrun
        have hB : B ≤ b := H.own id b (by rw [he]; simp) (by rw [hM]; exact blk_row hc)
        have hnew := setRow_heap w b cs ((pre ++ c1) ++ (a.eval y).cells.toList ++ (c2 ++ suf)).toArray el (0, 0) hheap
        have hE : Tr (cx S (st.h.kills (opnd (E.ty t) st.fr y).owns) M w) (cx S ((st.h.kills (opnd (E.ty t) st.fr y).owns).put id (.row et (P.set xs i z))) M (w.setRow b ((pre ++ c1) ++ (a.eval y).cells.toList ++ (c2 ++ suf)).toArray)) →
            EntOk (cx S ((st.h.kills (opnd (E.ty t) st.fr y).owns).put id (.row et (P.set xs i z))) M (w.setRow b ((pre ++ c1) ++ (a.eval y).cells.toList ++ (c2 ++ suf)).toArray)) id (.row et (P.set xs i z)) := by
          intro k
          have hle : List.length xs ≤ cap := by omega
          refine ⟨_, cap, (show M id = _ by rw [hM, e2]; simp [P.set]), by simpa [P.set] using hle, .inr ⟨hc, b, o', _, el, rfl, hnew, ?_, fun i' x' hx' => ?_⟩⟩
          · have : ((pre ++ c1) ++ (a.eval y).cells.toList ++ (c2 ++ suf)).toArray.size = cs.size := by
              rw [← Array.length_toList (xs := cs), hpre]
              simp [← hecl]
            rw [this]; exact hfit
          · unfold P.set at hx'
            rw [List.getElem?_set] at hx'
            by_cases hii : i.toNat = i'
            · subst hii
              simp only [if_true] at hx'
              have : i.toNat < xs.length := by omega
              simp [this] at hx'
              subst hx'
              refine ⟨_, hzr.held k.held, fun j v hv => ?_⟩
              simp only [cx, World.cell?, hnew, Option.isSome_none, Bool.false_eq_true, if_false]
              rw [List.getElem?_toArray, ← hprel]
              have : (pre ++ c1) ++ (a.eval y).cells.toList ++ (c2 ++ suf) = pre ++ ((c1 ++ (a.eval y).cells.toList ++ c2) ++ suf) := by simp
              rw [this, List.getElem?_append_right (by omega)]
              simp only [Nat.add_sub_cancel_left]
              rw [List.getElem?_append_left (List.getElem?_eq_some_iff.1 hv).1]
              exact hv
            · simp only [hii, if_false] at hx'
              obtain ⟨d', g1, g2⟩ := hel i' x' hx'
              refine ⟨d', g1.held k.held, fun j v hv => ?_⟩
              have hjl : j < et.size := by rw [← g1.len]; exact (List.getElem?_eq_some_iff.1 hv).1
              have hold := g2 j v hv
              simp only [World.cell?, hheap, Option.isSome_none, Bool.false_eq_true, if_false] at hold
              simp only [cx, World.cell?, hnew, Option.isSome_none, Bool.false_eq_true, if_false]
              rw [List.getElem?_toArray, cell_splice (e := ec) hecl]
              have hcs : (pre ++ c1) ++ ec ++ (c2 ++ suf) = cs.toList := by rw [hpre]; simp
              rw [hcs, Array.getElem?_toList]
              have hsum : c1.length + ec.length + c2.length = et.size := by rw [← hdl]; simp; omega
              have hpl : (pre ++ c1).length = o' + i.toNat * et.size + off := by simp [hprel, hl]
              rw [hpl]
              rcases Nat.lt_or_gt_of_ne hii with hlt | hgt
              · have := mul_le_of_lt (n := et.size) hlt
                rw [if_neg (by omega), if_neg (by omega)]
                exact hold
              · have := mul_le_of_lt (n := et.size) hgt
                rw [if_pos (by omega)]
                exact hold
        obtain ⟨H', k⟩ := H1.upd (w' := w.setRow b ((pre ++ c1) ++ (a.eval y).cells.toList ++ (c2 ++ suf)).toArray) he1 hlk1 (e' := .row et (P.set xs i z)) (.inr ⟨et, xs, _, rfl, rfl, by simp [P.set]⟩)
          (fun b' hb' => setRow_other w b b' _ (fun z => hb' (by rw [hM, blk_row hc, z]))) (by simp) (setRow_below H hB _)
          hE
        refine Does.skip (w' := w.setRow b ((pre ++ c1) ++ (a.eval y).cells.toList ++ (c2 ++ suf)).toArray) ?_ ⟨.undef, _, _, hr, H', k1.trans k, by simp only [RepV]⟩
        simp only [execOp, ho, hv, Sem.run_bind, hrun, Result.andThen_ok, Sem.run_pure]
      · cases hr
    · cases hr
  · cases hr
end Go.PG

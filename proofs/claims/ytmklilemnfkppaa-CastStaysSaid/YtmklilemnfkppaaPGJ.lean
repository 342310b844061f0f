/- The evaluator's soundness: append, slices, literals. -/
import Derived.Test.YtmklilemnfkppaaPGI
import Derived.Laws.NewFold
set_option linter.all false
namespace Go.PG
open Go.RowKit

variable {Pg : Program} {G : World → Prop} {E : Env} {S : Nat → Prop} {B : Nat} {w0 w w' : World} {h : Hp} {M : Nat → Bk} {ρ : Type} {K : AV → Hp → Option ρ} {r : ρ} {st : St} {a : Act} {o : Oper}

theorem owns_of_slice {h : Hp} {v : AV} {e : Ty} {xs : List e.D} (hx : toD h v (.slice e) = some xs) : v.owns = [] ∨ ∃ id, v = .own id ∧ v.owns = [id] := by
  cases v with
  | own id => exact .inr ⟨id, rfl, rfl⟩
  | data t x => exact .inl rfl
  | nilS e => exact .inl rfl
  | _ => simp [toD] at hx

theorem nextcap_le (need old : Nat) (h : old < need) : Builtin.nextslicecap need old ≤ 2 * need := by
  have hg : ∀ k c, c ≤ 2 * need → (c < need → c + (c + 768) / 4 ≤ 2 * need ∨ 256 ≤ c) → Builtin.growBy need k c ≤ 2 * need ∨ True := fun _ _ _ _ => .inr trivial
  unfold Builtin.nextslicecap
  split
  · omega
  · split
    · omega
    · rename_i h1 h2
      have key : ∀ k c, 256 ≤ c → c ≤ 2 * need → Builtin.growBy need k c ≤ 2 * need := by
        intro k
        induction k with
        | zero => intro c _ h; simpa [Builtin.growBy] using h
        | succ k ih =>
          intro c h3 h4
          simp only [Builtin.growBy]
          split
          · exact h4
          · exact ih _ (by omega) (by omega)
      exact key 4 old (by omega) (by omega)

theorem run_lenOf (A : Option Addr) (n c : Nat) (w : World) : (Builtin.lenOf (.slice A n c)).run Pg w = .ok n w := rfl

theorem run_firstCells {A : Option Addr} {n c sz : Nat} {cs : List Value} (hl : cs.length = n * sz) (hm : cs = [] ∨ ∃ b of, A = some ⟨b, of, none⟩ ∧ Mem w b of cs) : (Builtin.firstCells sz n (.slice A n c)).run Pg w = .ok cs.toArray w := by
  rcases hm with rfl | ⟨b, of, rfl, hm⟩
  · cases A with
    | none => simp [Builtin.firstCells]
    | some a => 
      have : n * sz = 0 := by simpa using hl.symm
      simp [Builtin.firstCells, this, loadCells, loadCellsFrom]
  · have := run_loadCells_list (P := Pg) w ⟨b, of, none⟩ cs (fun j v hv => by rw [Addr.add_mid]; exact hm j v hv)
    rw [hl] at this
    simp [Builtin.firstCells, this]

theorem zeroCells_len (zero : Array Value) (n : Nat) : (Builtin.zeroCells zero n).size = n * zero.size := by simp [Builtin.zeroCells]

section
variable {sT xT e' xe : TypeId} {info : TypeInfo} {A A2 : Option Addr} {n m cap cap2 : Nat} {cs ds : List Value}

theorem run_append_stay (ty : TypeId) (hu : Pg.underlying sT = some (.slice e')) (hux : Pg.underlying xT = some (.slice xe)) (hi : Pg.info? e' = some info)
    (hfx : (Builtin.firstCells info.size m (.slice A2 m cap2)).run Pg w = .ok ds.toArray w) (hle : n + m ≤ cap) (h0 : A = none ∨ ds = []) :
    (Builtin.append_ #[sT, xT] ty #[.slice A n cap, .slice A2 m cap2]).run Pg w = .ok (.slice A (n + m) cap) w := by
  have hunder := run_underlying hu w
  have hunderx := run_underlying hux w
  rcases h0 with rfl | rfl
  · simp [Builtin.append_, hunder, hunderx, sizeOf, typeInfo, hi, run_lenOf, hfx, hle]
  · cases A with
    | none => simp [Builtin.append_, hunder, hunderx, sizeOf, typeInfo, hi, run_lenOf, hfx, hle]
    | some ad => simp [Builtin.append_, hunder, hunderx, sizeOf, typeInfo, hi, run_lenOf, hfx, hle, storeCells]

theorem run_append_room (ty : TypeId) (hu : Pg.underlying sT = some (.slice e')) (hux : Pg.underlying xT = some (.slice xe)) (hi : Pg.info? e' = some info) {b o : Nat} {cur : Array Value} {el : TypeId}
    (hfx : (Builtin.firstCells info.size m (.slice A2 m cap2)).run Pg w = .ok ds.toArray w) (hle : n + m ≤ cap) (hw : w.heap[b]? = some (.cells cur el (0, 0))) (hds : ds.length = m * info.size)
    (hfit : o + n * info.size + m * info.size ≤ cur.size) (h1 : ∀ v ∈ ds, v.oneCell' = true) :
    (Builtin.append_ #[sT, xT] ty #[.slice (some ⟨b, o, none⟩) n cap, .slice A2 m cap2]).run Pg w =
      .ok (.slice (some ⟨b, o, none⟩) (n + m) cap) (w.setRow b (cur.toList.take (o + n * info.size) ++ ds ++ cur.toList.drop (o + n * info.size + m * info.size)).toArray) := by
  have hunder := run_underlying hu w
  have hunderx := run_underlying hux w
  have := run_storeCells_at Pg b (o + n * info.size) el ds 0 cur w hw (by rw [hds]; omega) h1
  rw [hds] at this
  simp only [Nat.add_zero] at this
  simp [Builtin.append_, hunder, hunderx, sizeOf, typeInfo, hi, run_lenOf, hfx, hle, Addr.add_mid, this]

theorem run_append_new (ty : TypeId) (hu : Pg.underlying sT = some (.slice e')) (hux : Pg.underlying xT = some (.slice xe)) (hi : Pg.info? e' = some info) {z : Value} (hz : info.zero = some z) (hzs : z.cells.size = info.size)
    (hfs : ∀ w' : World, w'.heap = w.heap → (Builtin.firstCells info.size n (.slice A n cap)).run Pg w' = .ok cs.toArray w') (hfx : ∀ w' : World, w'.heap = w.heap → (Builtin.firstCells info.size m (.slice A2 m cap2)).run Pg w' = .ok ds.toArray w')
    (hgt : cap < n + m) (hroom : (n + m) * info.bytes ≤ 35184372088832) (hbig : n + m ≤ 9223372036854775807) :
    ∃ newCap rest, n + m ≤ newCap ∧ rest.length = (newCap - (n + m)) * info.size ∧
      (Builtin.append_ #[sT, xT] ty #[.slice A n cap, .slice A2 m cap2]).run Pg w =
        .ok (.slice (some ⟨w.heap.size, 0, none⟩) (n + m) newCap) ({ w with drawn := w.drawn + 1 }.alloc (.cells (cs ++ ds ++ rest).toArray e' (0, 0))) := by
  have hunder := run_underlying hu w
  have hunderx := run_underlying hux w
  have hn := nextcap_le (n + m) cap hgt
  have hcapb : ¬ (Builtin.nextslicecap (n + m) cap * info.bytes > 2 ^ 48) := by
    have := Nat.mul_le_mul_right info.bytes hn
    rw [Nat.mul_assoc] at this
    omega
  have hnot : ¬ (n + m ≤ cap) := by omega
  have hbig' : ¬ (((n + m : Nat) : Int) > IntKind.i64.max ∧ info.bytes = 0) := by
    have : IntKind.i64.max = 9223372036854775807 := by decide
    rw [this]
    omega
  refine ⟨(Question.appendCap (n + m) cap e').cut (w.tape w.drawn (.appendCap (n + m) cap e')), (Builtin.zeroCells z.cells ((Question.appendCap (n + m) cap e').cut (w.tape w.drawn (.appendCap (n + m) cap e')) - (n + m))).toList, ?_, ?_, ?_⟩
  · simp only [Question.cut]; omega
  · simp [zeroCells_len, hzs]
  · have h1 := hfs { w with drawn := w.drawn + 1 } rfl
    have h2 := hfx { w with drawn := w.drawn + 1 } rfl
    simp only [Builtin.append_, Sem.run_bind, hunder, hunderx, Result.andThen_ok, sizeOf, typeInfo, run_program, hi, run_lenOf, Sem.run_pure, Bool.false_eq_true, if_false, false_or, hnot, hbig', hcapb, Sem.run_ite, List.getElem?_toArray,
      List.getElem?_cons_zero, List.getElem?_cons_succ, run_choose, Question.forced, run_askRoom, h1, h2, zeroValue, hz, newRow, run_newObj_alloc]
    have e : ∀ Z : Array Value, cs.toArray ++ ds.toArray ++ Z = (cs ++ ds ++ Z.toList).toArray := fun Z => by apply Array.toList_inj.1; simp
    simp only [Bool.not_false, if_true, Result.andThen_ok, e]
end

/-- The row behind an append that stays where it was. -/
theorem grow_row (H : HInv S B w0 h M w) {l : List Nat} (u : unlocked h l = true) {e : Ty} {zs : List e.D} {A : Option Addr} {cap : Nat} (bel : Below B w w') (hs : w.heap.size = w'.heap.size)
    (hle : List.length zs ≤ cap)
    (hA : cap ≠ 0 → ∃ b of cs el id, A = some ⟨b, of, none⟩ ∧ id ∈ l ∧ h.e id ≠ none ∧ (M id).blk = some b ∧ w'.heap[b]? = some (.cells cs el (0, 0)) ∧ of + cap * e.size ≤ cs.size ∧
      (∀ b', b' ≠ b → w'.heap[b']? = w.heap[b']?) ∧ ∀ i x, zs[i]? = some x → ∃ d, RepD (cx S h M w).Z w e x d ∧ Mem w' b (of + i * e.size) d)
    (hA0 : cap = 0 → w'.heap = w.heap)
    (hk : K (.own h.next) ((h.kills l).new (.row e zs)) = some r) : Post K r S B w0 h M w (.slice A (List.length zs) cap) w' := by
  have hne : (set1 M h.next (Bk.row A (List.length zs) cap)) h.next = Bk.row A (List.length zs) cap := by simp [set1, Nat.beq_refl]
  have fin : ∀ (H' : HInv S B w0 ((h.kills l).new (.row e zs)) (set1 M h.next (Bk.row A (List.length zs) cap)) w') (k : HStp S h M w ((h.kills l).new (.row e zs)) (set1 M h.next (Bk.row A (List.length zs) cap)) w'),
      Post K r S B w0 h M w (.slice A (List.length zs) cap) w' := fun H' k =>
    ⟨.own h.next, _, _, hk, H', k, row_value (e := e) (xs := zs) (by simp [Hp.new, kills_next]) hne⟩
  by_cases hc : cap = 0
  · subst hc
    have hh := hA0 rfl
    obtain ⟨H', k⟩ := H.renew u (.row e zs) (.row A (List.length zs) 0) (w' := w') (fun b _ _ => by rw [hh]) (by omega) bel (fun b hb => by obtain ⟨q, _⟩ := blk_some hb; exact absurd rfl q)
      (fun k => ⟨A, 0, hne, hle, .inl rfl⟩)
    exact fin H' k
  · obtain ⟨b, of, cs, el, id, rfl, hid, hlive, hblk, hheap, hfit, hoth, hel⟩ := hA hc
    have hbz : ∀ b', (¬ (cx S h M w).Z b' ∨ ∃ j, h.e j ≠ none ∧ j ∉ l ∧ (M j).blk = some b') → b' ≠ b := by
      rintro b' (hz | ⟨j, h1, h2, h3⟩) rfl
      · cases hq : h.e id with
        | none => exact absurd hq hlive
        | some f => exact hz (.inr ⟨id, f, hq, hblk⟩)
      · have := H.dist j id b' h1 hlive h3 hblk
        subst this
        exact h2 hid
    obtain ⟨H', k⟩ := H.renew u (.row e zs) (.row (some ⟨b, of, none⟩) (List.length zs) cap) (w' := w') (fun b' _ hz => hoth b' (hbz b' hz)) (by omega) bel
      (fun b' hb => by obtain ⟨_, ad, h1, h2⟩ := blk_some hb; injection h1 with h1; subst h1; exact .inr ⟨id, hid, hlive, by rw [hblk, ← h2]⟩)
      (fun k => ⟨_, cap, hne, hle, .inr ⟨hc, b, of, cs, el, rfl, hheap, hfit, fun i x hx => by
        obtain ⟨d, h1, h2⟩ := hel i x hx
        exact ⟨d, h1.held k.held, h2⟩⟩⟩)
    exact fin H' k

theorem rowrep_one {Z : Nat → Prop} {e : Ty} (hpos : 0 < e.size) {ys : List e.D} {ds : List Value} (h : RowRep Z w e ys ds) : ∀ v ∈ ds, v.oneCell' = true := by
  intro v hv
  obtain ⟨j, hj, rfl⟩ := List.getElem_of_mem hv
  have hlen := h.1
  have hq : j / e.size < ys.length := (Nat.div_lt_iff_lt_mul hpos).2 (by omega)
  obtain ⟨d, h1, h2⟩ := h.2 (j / e.size) _ (List.getElem?_eq_getElem hq)
  have hr : j % e.size < d.length := by rw [h1.len]; exact Nat.mod_lt _ hpos
  have h3 := h2 (j % e.size) _ (List.getElem?_eq_getElem hr)
  have e1 : j / e.size * e.size + j % e.size = j := by rw [Nat.mul_comm]; exact Nat.div_add_mod j e.size
  rw [e1, List.getElem?_eq_getElem hj] at h3
  injection h3 with h3
  rw [h3]
  exact h1.one _ (List.getElem_mem hr)

theorem append_ok (H : HInv S B w0 h M w) {sT xT e' xe : TypeId} {e : Ty} {bytes : Nat} {s x : AV} {sv xv : Value} {info : TypeInfo} (ty : TypeId)
    (hu : Pg.underlying sT = some (.slice e')) (hux : Pg.underlying xT = some (.slice xe)) (hi : Pg.info? e' = some info) (hb : info.bytes = bytes) (hb0 : 0 < bytes) (he : Ok Pg e (.typ e'))
    (hs : RepV (cx S h M w) s sv) (hx : RepV (cx S h M w) x xv) (hr : evAppend bytes e s x h K = some r) :
    ∃ v w', (Builtin.append_ #[sT, xT] ty #[sv, xv]).run Pg w = .ok v w' ∧ Post K r S B w0 h M w v w' := by
  have key : ∀ xs ys, toD h s (.slice e) = some xs → ((∃ id, s = .own id) ∨ ∃ t, s = .nilS t) → toD h x (.slice e) = some ys → unlocked h (s.owns ++ x.owns) = true →
      test (P.room (P.add (P.len xs) (P.len ys)) bytes) (K (.own h.next) ((h.kills (s.owns ++ x.owns)).new (.row e (P.app xs ys)))) = some r →
      ∃ v w', (Builtin.append_ #[sT, xT] ty #[sv, xv]).run Pg w = .ok v w' ∧ Post K r S B w0 h M w v w' := by
    intro xs ys hxs hform hys hul hr
    obtain ⟨hroom, hr⟩ := test_some hr
    have hroom' : (List.length xs + List.length ys) * bytes ≤ 35184372088832 := by
      unfold P.room P.add P.len at hroom
      have := of_decide_eq_true hroom
      have e1 : ((List.length xs : Int) + (List.length ys : Int)).toNat = List.length xs + List.length ys := by omega
      rwa [e1] at this
    have hbig : List.length xs + List.length ys ≤ 9223372036854775807 := by
      have := Nat.le_mul_of_pos_right (List.length xs + List.length ys) hb0
      omega
    obtain ⟨A, cap, rfl, hle, hsm⟩ := slice_cells H hxs hs
    obtain ⟨A2, cap2, rfl, hle2, hxm⟩ := slice_cells H hys hx
    have hsz : info.size = e.size := by
      obtain ⟨i, h1, h2⟩ := ok_size he
      rw [hi] at h1; injection h1 with h1; subst h1; exact h2
    have hpos := ok_pos e _ he
    have cells : ∀ {zs : List e.D} {D : Option Addr}, (zs = [] ∨ ∃ b of, D = some ⟨b, of, none⟩ ∧ b < w.heap.size ∧ ∀ i y, zs[i]? = some y → ∃ d, RepD (cx S h M w).Z w e y d ∧ Mem w b (of + i * e.size) d) →
        ∃ cs, RowRep (cx S h M w).Z w e zs cs ∧ (cs = [] ∨ ∃ b of, D = some ⟨b, of, none⟩ ∧ Mem w b of cs) := by
      rintro zs D (rfl | ⟨b, of, rfl, _, h3⟩)
      · exact ⟨[], ⟨by simp, by simp⟩, .inl rfl⟩
      · obtain ⟨cs, h4, h5⟩ := row_of_mem h3
        exact ⟨cs, h4, .inr ⟨b, of, rfl, h5⟩⟩
    obtain ⟨cs, hcs, hcm⟩ := cells hsm
    obtain ⟨ds, hds, hdm⟩ := cells hxm
    have hone := rowrep_one hpos hds
    have hfx : ∀ w' : World, w'.heap = w.heap → (Builtin.firstCells info.size (List.length ys) (.slice A2 (List.length ys) cap2)).run Pg w' = .ok ds.toArray w' := fun w' hw => by
      rw [hsz]
      exact run_firstCells hds.1 (hdm.imp id fun ⟨b, of, q, m⟩ => ⟨b, of, q, fun j v hv => (cell_of_heap (by rw [hw])).trans (m j v hv)⟩)
    have hfs : ∀ w' : World, w'.heap = w.heap → (Builtin.firstCells info.size (List.length xs) (.slice A (List.length xs) cap)).run Pg w' = .ok cs.toArray w' := fun w' hw => by
      rw [hsz]
      exact run_firstCells hcs.1 (hcm.imp id fun ⟨b, of, q, m⟩ => ⟨b, of, q, fun j v hv => (cell_of_heap (by rw [hw])).trans (m j v hv)⟩)
    have hlen : List.length (P.app xs ys) = List.length xs + List.length ys := by simp [P.app]
    -- the capacity of a value that is one's own
    have hcapinfo : cap = 0 ∨ ∃ id b of cur el, s = .own id ∧ A = some ⟨b, of, none⟩ ∧ cap ≠ 0 ∧ h.e id ≠ none ∧ (M id).blk = some b ∧ w.heap[b]? = some (.cells cur el (0, 0)) ∧ of + cap * e.size ≤ cur.size ∧
        ∀ i y, xs[i]? = some y → ∃ d, RepD (cx S h M w).Z w e y d ∧ Mem w b (of + i * e.size) d := by
      rcases hform with ⟨id, rfl⟩ | ⟨t, rfl⟩
      · simp only [toD] at hxs
        split at hxs
        · rename_i e2 zs hz
          split at hxs
          · rename_i q; subst q
            injection hxs with hxs
            have hxs : zs = xs := hxs
            subst hxs
            simp only [RepV, Rep1] at hs
            obtain ⟨_, A', n', cap', h1, h2⟩ := hs
            injection h1 with h1
            injection h1 with q1 q2 q3
            subst q1; subst q3
            rcases h2 with h2 | h2
            · simp only [cx] at h2; rw [hz] at h2; cases h2
            obtain ⟨A'', cap'', h3, h4, h5⟩ := H.ent id _ hz
            simp only [cx] at h2 h3
            rw [h2] at h3
            injection h3 with q1 q2 q3
            subst q1; subst q3
            rcases h5 with h5 | ⟨hc, b, of, cur, el, rfl, h6, h7, h8⟩
            · exact .inl h5
            · exact .inr ⟨id, b, of, cur, el, rfl, rfl, hc, by rw [hz]; simp, by rw [h2]; exact blk_row hc, h6, h7, h8⟩
          · cases hxs
        · cases hxs
      · simp only [RepV, Rep1] at hs
        obtain ⟨A', h1⟩ := hs
        injection h1 with h1
        injection h1 with q1 q2 q3
        exact .inl q3
    by_cases hin : List.length xs + List.length ys ≤ cap
    · rcases hcapinfo with hc | ⟨id, b, of, cur, el, rfl, rfl, hc, hlive, hblk, hheap, hfit, hel⟩
      · -- no room, and nothing to lay
        have hys0 : ys = [] := List.eq_nil_of_length_eq_zero (by omega)
        have hds0 : ds = [] := List.eq_nil_of_length_eq_zero (by rw [hds.1, hys0]; simp)
        refine ⟨_, w, run_append_stay ty hu hux hi (hfx w rfl) hin (.inr hds0), ?_⟩
        rw [← hlen]
        exact grow_row H hul (Below.refl _ _) rfl (by omega) (fun q => absurd hc q) (fun _ => rfl) hr
      · have hmul : List.length xs * e.size + List.length ys * e.size ≤ cap * e.size := by
          rw [← Nat.add_mul]; exact Nat.mul_le_mul_right _ hin
        have hrun := run_append_room (Pg := Pg) (w := w) (n := List.length xs) (m := List.length ys) ty hu hux hi (o := of) (hfx w rfl) hin hheap (by rw [hsz]; exact hds.1) (by rw [hsz]; omega) hone
        refine ⟨_, _, hrun, ?_⟩
        rw [← hlen]
        have hB : B ≤ b := H.own id b hlive hblk
        refine grow_row H hul (l := (AV.own id).owns ++ x.owns) ⟨rfl, rfl, rfl, by simp, fun k hk => setRow_other w b k _ (by omega)⟩ (by simp) (by omega) (fun _ => ⟨b, of, _, el, id, rfl, by simp [AV.owns], hlive, hblk, setRow_heap w b _ _ el (0, 0) hheap, ?_, fun b' hb' => setRow_other w b b' _ hb', ?_⟩) (fun q => absurd q hc) hr
        · simp only [List.size_toArray, List.length_append, List.length_take, List.length_drop, Array.length_toList]
          rw [hds.1, hsz]
          omega
        · intro i y hy
          have hnew := setRow_heap w b cur (cur.toList.take (of + List.length xs * info.size) ++ ds ++ cur.toList.drop (of + List.length xs * info.size + List.length ys * info.size)).toArray el (0, 0) hheap
          unfold P.app at hy
          by_cases hi' : i < List.length xs
          · rw [List.getElem?_append_left hi'] at hy
            obtain ⟨d, h1, h2⟩ := hel i y hy
            refine ⟨d, h1, fun j v hv => ?_⟩
            have hj : j < e.size := by rw [← h1.len]; exact (List.getElem?_eq_some_iff.1 hv).1
            have := mul_le_of_lt (n := e.size) hi'
            have hold := h2 j v hv
            simp only [World.cell?, hheap, Option.isSome_none, Bool.false_eq_true, if_false] at hold
            simp only [World.cell?, hnew, Option.isSome_none, Bool.false_eq_true, if_false]
            rw [List.getElem?_toArray, List.append_assoc, List.getElem?_append_left (by simp; rw [hsz]; omega), List.getElem?_take, if_pos (by rw [hsz]; omega), Array.getElem?_toList]
            exact hold
          · rw [List.getElem?_append_right (by omega)] at hy
            obtain ⟨d, h1, h2⟩ := hds.2 _ y hy
            refine ⟨d, h1, fun j v hv => ?_⟩
            have hold := h2 j v hv
            have hlt := (List.getElem?_eq_some_iff.1 hold).1
            simp only [World.cell?, hnew, Option.isSome_none, Bool.false_eq_true, if_false]
            have e1 : of + i * e.size + j = (of + List.length xs * e.size) + ((i - List.length xs) * e.size + j) := by
              have : i * e.size = List.length xs * e.size + (i - List.length xs) * e.size := by rw [← Nat.add_mul]; congr 1; omega
              omega
            have hlt2 : (List.take (of + List.length xs * e.size) cur.toList).length = of + List.length xs * e.size := by simp; omega
            rw [List.getElem?_toArray, hsz, List.append_assoc, e1, List.getElem?_append_right (by omega), hlt2, Nat.add_sub_cancel_left, List.getElem?_append_left hlt]
            exact hold
    · -- new memory
      obtain ⟨z, hz1, hz2, _⟩ := ok_zero (c := cz (fun _ => False) w) he w
      obtain ⟨i', hi1, hi2⟩ : ∃ zz, info.zero = some zz ∧ zz.cells.size = info.size := by
        have hzz := hz1
        simp only [zeroValue, typeInfo, Sem.run_bind, run_program, Result.andThen_ok, hi, Sem.run_pure] at hzz
        cases hq : info.zero with
        | none => rw [hq] at hzz; simp at hzz
        | some zz =>
          rw [hq] at hzz
          simp at hzz
          subst hzz
          refine ⟨_, rfl, ?_⟩
          have := fits_len _ e _ (by assumption) hz2
          rw [← Array.length_toList, this, hsz]
      obtain ⟨newCap, rest, h1, h2, h3⟩ := run_append_new (Pg := Pg) (w := w) (cs := cs) (ds := ds) ty hu hux hi hi1 hi2 hfs hfx (by omega) (by rw [hb]; exact hroom') hbig
      refine ⟨_, _, h3, ?_⟩
      rw [← hlen]
      have := new_row (w' := { w with drawn := w.drawn + 1 }) (el := e') (cs := cs ++ ds) (rest := rest) (cap := newCap) H hul rfl ⟨rfl, rfl, rfl, Nat.le_refl _, fun _ _ => rfl⟩
        (by
          simp only [List.length_append]
          rw [hcs.1, hds.1, h2, hsz]
          have : newCap * e.size = (List.length xs + List.length ys) * e.size + (newCap - (List.length xs + List.length ys)) * e.size := by rw [← Nat.add_mul]; congr 1; omega
          rw [this, Nat.add_mul]) (by rw [List.length_append]; exact h1) ((hcs.append hds).held (Held.of_le w Z_kills)) hr
      exact this
  unfold evAppend at hr
  split at hr
  · rename_i xs id hxs
    split at hr
    · rename_i ys hys
      split at hr
      · rename_i hul
        exact key _ ys hxs (.inl ⟨_, rfl⟩) hys hul hr
      · cases hr
    · cases hr
  · rename_i xs t hxs
    split at hr
    · rename_i ys hys
      split at hr
      · rename_i hul
        exact key _ ys hxs (.inr ⟨_, rfl⟩) hys hul hr
      · cases hr
    · cases hr
  · cases hr
end Go.PG

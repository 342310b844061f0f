/- Lemmas for the claim. -/
import Derived.Test.YtijheoafbhjcbaaGreatDoorProg
import Derived.KernelRfl
import Derived.Shelf.RegionOpenPlain
import Derived.WalkKit
import Derived.Lib.Walk
import Derived.Lib.SliceRun
import Derived.Lib.JoinLaws
import Derived.Lib.AppendZeros
import Derived.Lib.AppendZerosOnto
import Derived.Lib.Overlaps
import Derived.Laws.Externs
import Derived.Laws.IdiomCopy
import Derived.Laws.NewBlocks
import Derived.Shelf.Spec.SlicesInsert
import Derived.Test.YtijheoafbhjcbaaGreatDoorG3
import Derived.Ground.SlsfProg
import Derived.Shelf.SlSortCmp.WholeK
import Derived.Lib.Small
import Derived.Sort.Grow
import Derived.LoopN
import Derived.Handy
import Derived.Deep.DeepMust
import Derived.Deep.RegionHeld3
import Derived.Sort.LotA
import Derived.Shelf.Strings.Builder1
import Derived.Shelf.Strings.Builder2
import Derived.Shelf.Strings.OnBuilder
import Derived.Shelf.Small.Bits
import Derived.Shelf.Small.Strs
import Derived.Shelf.Small.Wraps
import Derived.Shelf.Strings.BuilderF
import Derived.Shelf.Strings.BuilderK
import Derived.Shelf.Strings.Builder2Cap
import Derived.Shelf.Strconv.Itoa0
import Derived.Shelf.Strconv.Itoa1
import Derived.Shelf.LaysM
import Derived.Shelf.Strconv.Itoa2
import Derived.Shelf.Strconv.Itoa3
import Derived.Shelf.Strings.BuilderCap
import Derived.Ground.Names2Prog
import Derived.Shelf.Slices.SearchI
import Derived.Test.YtijheoafbhjcbaaGreatDoorG1
import Derived.Lib.Strings
import Derived.Lib.Slices
import Derived.Lib.Builder
import Derived.Lib.AppendStr
import Derived.Lib.UnsafeStr
import Derived.Lib.FrozenHead
import Derived.Lib.OthersKept
set_option linter.all false
section
open Go Go.Proofs Go.Lib Go.RowKit
namespace InsL
theorem run_copy_cellsK {P : Program} (w : World) (dT sT ty elem : TypeId) (s b o dLen dCap : Nat) (a : Addr) (sLen sCap : Nat) (cs : List Value)
    (hu : P.underlying dT = some (.slice elem)) (hs : (P.info? elem).map (·.size) = some s) (hn : cs.length = Nat.min sLen dLen * s)
    (hsrc : ∀ j v, cs[j]? = some v → w.cell? (a.add j) = some v) (hc : ∀ j, j < cs.length → (w.cell? ⟨b, o + j, none⟩).isSome = true) (hf : ∀ j, j < cs.length → w.frozen? ⟨b, o + j, none⟩ = false) (h1 : ∀ v ∈ cs, v.oneCell' = true) :
    (Builtin.copy_ #[dT, sT] ty #[.slice (some ⟨b, o, none⟩) dLen dCap, .slice (some a) sLen sCap]).run P w = .ok (goInt (Nat.min sLen dLen)) (w.setCells b o cs) := by
  have hl := run_loadCells_list (P := P) w a cs hsrc
  have hst := run_storeCells_cells (P := P) b o cs 0 w (by simpa using hc) (by simpa using hf) h1
  cases hq : P.info? elem with
  | none => simp [hq] at hs
  | some i =>
    have hi : i.size = s := by simpa [hq] using hs
    simp [Builtin.copy_, run_underlying hu, Builtin.lenOf, Builtin.firstCells, Go.sizeOf, typeInfo, hq, hi, ← hn, hl, hst]
theorem overlaps_rows {P : Program} (w : World) (tS tR e : TypeId) (ht : P.underlying tS = some (.slice e)) (size : Nat) (hz : ∀ w, (Go.sizeOf e).run P w = .ok size w)
    (a b : Addr) (la ca lb cb : Nat) (hne : a.block ≠ b.block) (tA tB : TypeId) (kA kB : Nat)
    (hsa : w.shape? a.block = some (tA, kA)) (hkA : kA ≠ 0) (hsb : w.shape? b.block = some (tB, kB))
    (hfb : w.frozen? b = false) (hfe : w.frozen? { block := b.block, off := kB } = false) :
    (Extern.SlicesOverlaps.overlaps #[tS, tS] #[tR] #[.slice (some a) la ca, .slice (some b) lb cb]).run P w = .ok (.bool false) w := by
  have hnb : (a.block != b.block) = true := by simpa using hne
  have hnb' : (a.block == b.block) = false := by simpa using hne
  change Sem.run P (α := Value) (do
    let some t := (#[tS, tS] : Array TypeId)[0]? | stuck "slices.overlaps: no parameter types"
    let .slice elem ← underlying t | stuck "slices.overlaps: slice type expected"
    let size ← sizeOf elem
    match (some a : Option Addr), (some b : Option Addr) with
    | some a, some b =>
      if la = 0 ∨ lb = 0 ∨ size = 0 then pure (Value.bool false)
      else if a.block != b.block && (← frozen a) && (← frozen b) then unsupported .addressObserved
      else do
        if a.block != b.block then do
          noView a; noView b
          if ← mayBeOne a b then return Value.bool ((← choose (.extern "sameAddr.stringBytes" 2)) == 1)
        pure (Value.bool (a.block == b.block && a.off < b.off + lb * size && b.off < a.off + la * size))
    | _, _ => pure (Value.bool false)) w = _
  by_cases h0 : la = 0 ∨ lb = 0 ∨ size = 0
  · simp [run_underlying ht, hz, h0]
  · cases kA with
    | zero => exact absurd rfl hkA
    | succ kA =>
      cases hfa : w.frozen? a
      · cases hfc : w.frozen? { block := a.block, off := kA + 1 } <;> simp [run_underlying ht, hz, h0, hnb, hnb', frozen, noView, viewAt, mayBeOne, stringish, shape, Sem.run, hsa, hsb, hfb, hfe, hfa, hfc]
      · simp [run_underlying ht, hz, h0, hnb, hnb', frozen, noView, viewAt, mayBeOne, stringish, shape, Sem.run, hsa, hsb, hfb, hfe, hfa]
theorem tSL : Tryz.prog.underlying 23 = some (.slice 46) := by kernel_rfl
theorem t3 : Tryz.prog.underlying 3 = some (.int .i64) := by kernel_rfl
theorem f88 : Tryz.prog.funcs[88]? = some Tryz.f88 := by kernel_rfl
theorem f115 : Tryz.prog.funcs[115]? = some Tryz.f115 := by kernel_rfl
theorem mixed : Tryz.prog.follows .mixedOrders = true := by kernel_rfl
theorem iEL : ∃ i, Tryz.prog.info? 46 = some i ∧ i.zero.map Value.cells = some #[.int .i64 0, .int .i64 0, .slice none 0 0, .slice none 0 0] ∧ i.size = 4 ∧ i.bytes = 64 := by
  have h : (Tryz.prog.info? 46).map (fun i => (i.zero.map Value.cells, i.size, i.bytes)) = some (some #[.int .i64 0, .int .i64 0, .slice none 0 0, .slice none 0 0], 4, 64) := by kernel_rfl
  cases q : Tryz.prog.info? 46 with
  | none => rw [q] at h; cases h
  | some i =>
    rw [q] at h
    simp only [Option.map_some, Option.some.injEq, Prod.mk.injEq] at h
    exact ⟨i, rfl, h.1, h.2.1, h.2.2⟩
theorem zEL : ∀ w, (Go.sizeOf 46).run Tryz.prog w = .ok 4 w := by
  obtain ⟨i, h1, h2, h3, h4⟩ := iEL
  intro w
  simp [Go.sizeOf, typeInfo, h1, h3]
theorem hsz : (Tryz.prog.info? 46).map (·.size) = some 4 := by
  obtain ⟨i, h1, h2, h3, h4⟩ := iEL
  simp [h1, h3]
set_option maxHeartbeats 4000000 in
set_option maxRecDepth 100000 in
theorem shift (b off n c i vb voff m vc : Nat) (cs vs : List Value) (w : World) (hi : i < n) (hm : 0 < m) (hroom : n + m ≤ c) (hbig : (n + m) * 64 ≤ 140737488355328) (hvb : vb ≠ b)
    (hcl : cs.length = n * 4) (hvl : vs.length = m * 4)
    (hcs : ∀ j v, cs[j]? = some v → w.cell? ⟨b, off + j, none⟩ = some v) (hsp : ∀ j, j < (n + m) * 4 → (w.cell? ⟨b, off + j, none⟩).isSome = true) (hfz : ∀ j, j < (n + m) * 4 → w.frozen? ⟨b, off + j, none⟩ = false)
    (hvs : ∀ j v, vs[j]? = some v → w.cell? ⟨vb, voff + j, none⟩ = some v) (h1c : ∀ v ∈ cs, v.oneCell' = true) (h1v : ∀ v ∈ vs, v.oneCell' = true)
    (tA tB : TypeId) (kA kB : Nat) (hsa : w.shape? vb = some (tA, kA)) (hsb : w.shape? b = some (tB, kB)) (hkA : kA ≠ 0) (hfb : ∀ k, w.frozen? ⟨b, k, none⟩ = false) :
    Calls Tryz.prog 88 #[.slice (some ⟨b, off, none⟩) n c, .int .i64 i, .slice (some ⟨vb, voff, none⟩) m vc] w fun e w' =>
      e = .returned (.slice (some ⟨b, off, none⟩) (n + m) c) ∧ w' = (w.drew.setCells b (off + (i + m) * 4) (cs.drop (i * 4))).setCells b (off + i * 4) vs := by
  have tSL := tSL; have zEL := zEL; have t3 := t3
  have uSL := run_underlying tSL; have u3 := run_underlying t3
  have hz1 : ¬ ((m : Int) = 0) := by omega
  have hz2 : ¬ ((i : Int) = (n : Int)) := by omega
  have hov : ∀ lb cb, (callFunc 115 #[.slice (some ⟨vb, voff, none⟩) m vc, .slice (some ⟨b, off + (i + m) * 4, none⟩) lb cb]).run Tryz.prog w = .ok (.value (.bool false)) w := fun lb cb => by
    rw [run_callFunc_extern f115 (by kernel_rfl) (by kernel_rfl) (by kernel_rfl) (e := Extern.SlicesOverlaps.overlaps #[23, 23] #[4]) (by kernel_rfl),
      overlaps_rows w 23 4 46 tSL 4 zEL ⟨vb, voff, none⟩ ⟨b, off + (i + m) * 4, none⟩ m vc lb cb hvb tA tB kA kB hsa hkA hsb (hfb _) (hfb _)]
    rfl
  have hdl : (cs.drop (i * 4)).length = (n - i) * 4 := by rw [List.length_drop, hcl]; omega
  have mixed := mixed
  have hw1 : IntKind.i64.wrap ((i : Int) + (m : Int)) = (i : Int) + (m : Int) := by rw [IntKind.wrap_i64]; omega
  have hb1 : (0 : Int) ≤ (i : Int) + (m : Int) := by omega
  have hin : i ≤ n := by omega
  have htn : ((i : Int) + (m : Int)).toNat = i + m := by omega
  have hb2 : ¬ (c = i + m) := by omega
  have hb3 : (i : Int) ≤ (n : Int) + (m : Int) := by omega
  have hb4 : ¬ (c = i) := by omega
  have mn1 : Nat.min (n + m - i) (n + m - (i + m)) = n - i := by simp only [Nat.min_def]; split <;> omega
  have mn2 : Nat.min m (n + m - i) = m := by simp only [Nat.min_def]; split <;> omega
  have hcp1 : ∀ ty dc sc, (Builtin.copy_ #[23, 23] ty #[.slice (some ⟨b, off + (i + m) * 4, none⟩) (n + m - (i + m)) dc, .slice (some ⟨b, off + i * 4, none⟩) (n + m - i) sc]).run Tryz.prog w.drew = .ok (goInt (n - i : Nat)) (w.drew.setCells b (off + (i + m) * 4) (cs.drop (i * 4))) := fun ty dc sc => by
    have := run_copy_cellsK (P := Tryz.prog) w.drew 23 23 ty 46 4 b (off + (i + m) * 4) (n + m - (i + m)) dc ⟨b, off + i * 4, none⟩ (n + m - i) sc (cs.drop (i * 4)) tSL hsz (by rw [hdl, mn1])
      (fun j v hj => by rw [Addr.add_lit, Nat.add_assoc]; exact hcs (i * 4 + j) v (by rwa [List.getElem?_drop] at hj))
      (fun j hj => by rw [Nat.add_assoc]; exact hsp _ (by omega)) (fun j hj => by rw [Nat.add_assoc]; exact hfz _ (by omega)) (fun v hv => h1c v (List.mem_of_mem_drop hv))
    rw [mn1] at this
    exact this
  obtain ⟨W1, hW1⟩ : ∃ W1, W1 = w.drew.setCells b (off + (i + m) * 4) (cs.drop (i * 4)) := ⟨_, rfl⟩
  have hsp1 : ∀ k, k < (n + m) * 4 → (W1.cell? ⟨b, off + k, none⟩).isSome = true := fun k hk => by
    rw [hW1]
    exact isSome_setCells b _ _ _ (fun j hj => by rw [Nat.add_assoc]; exact hsp _ (by omega)) _ (hsp k hk)
  have hcp2 : ∀ (W : World), (∀ x, W.cell? x = W1.cell? x) → (∀ x, W.frozen? x = W1.frozen? x) → ∀ ty dc, (Builtin.copy_ #[23, 23] ty #[.slice (some ⟨b, off + i * 4, none⟩) (n + m - i) dc, .slice (some ⟨vb, voff, none⟩) m vc]).run Tryz.prog W = .ok (goInt m) (W.setCells b (off + i * 4) vs) := fun W hWc hWf ty dc => by
    have := run_copy_cellsK (P := Tryz.prog) W 23 23 ty 46 4 b (off + i * 4) (n + m - i) dc ⟨vb, voff, none⟩ m vc vs tSL hsz (by rw [hvl, mn2])
      (fun j v hj => by
        rw [Addr.add_lit, hWc, hW1, World.cell?_setCells_out b _ _ _ _ (fun h _ => absurd h hvb)]
        exact hvs j v hj)
      (fun j hj => by rw [hWc, Nat.add_assoc]; exact hsp1 _ (by omega)) (fun j hj => by rw [hWf, hW1, World.frozen?_setCells, Nat.add_assoc]; exact hfz _ (by omega)) h1v
    rw [mn2] at this
    exact this
  rw [← hW1] at hcp1
  go_enter Tryz.func88, Tryz.ntmps88
  go_wp2_with (simp only [hov])
  go_region_law_o (refine step_copy_runI rfl _ _ 23 23 rfl _ _ (by simp [Act.eval, Act.put]) (by simp [Act.eval, Act.put]) (hcp1 _ _ _) ?_)
  go_wp2_with (at_builtin; refine wpList_copy_runI _ rfl _ _ 23 23 rfl _ _ rfl rfl (hcp2 _ (fun _ => rfl) (fun _ => rfl) _ _) ?_)
  go_ret
  first | exact ⟨rfl, rfl⟩ | exact ⟨rfl, by rw [hW1]⟩
set_option maxHeartbeats 4000000 in
set_option maxRecDepth 100000 in
theorem end_room (b off n c vb voff m vc : Nat) (vs : List Value) (w : World) (hm : 0 < m) (hroom : n + m ≤ c) (hbig : (n + m) * 64 ≤ 140737488355328)
    (hvl : vs.length = m * 4) (hsp : ∀ j, j < m * 4 → (w.cell? ⟨b, off + n * 4 + j, none⟩).isSome = true) (hfz : ∀ j, j < m * 4 → w.frozen? ⟨b, off + n * 4 + j, none⟩ = false)
    (hvs : ∀ j v, vs[j]? = some v → w.cell? ⟨vb, voff + j, none⟩ = some v) (h1v : ∀ v ∈ vs, v.oneCell' = true) :
    Calls Tryz.prog 88 #[.slice (some ⟨b, off, none⟩) n c, .int .i64 n, .slice (some ⟨vb, voff, none⟩) m vc] w fun e w' =>
      e = .returned (.slice (some ⟨b, off, none⟩) (n + m) c) ∧ w' = w.setCells b (off + n * 4) vs := by
  have tSL := tSL; have zEL := zEL; have t3 := t3
  have uSL := run_underlying tSL; have u3 := run_underlying t3
  have mixed := mixed
  obtain ⟨i0, hi0, hz0, hzs, hzb⟩ := iEL
  have hz1 : ¬ ((m : Int) = 0) := by omega
  have hsrc : Src Tryz.prog i0.size 23 (.slice (some ⟨vb, voff, none⟩) m vc) m vs w := by
    rw [hzs]
    exact Src.ofSlice w tSL ⟨vb, voff, none⟩ m vc vs (by omega) (fun j u hj => by rw [Addr.add_lit]; exact hvs j u hj) h1v
  have hrun : ∀ ty, (Builtin.append_ #[23, 23] ty #[.slice (some ⟨b, off, none⟩) n c, .slice (some ⟨vb, voff, none⟩) m vc]).run Tryz.prog w = _ := fun ty =>
    run_append_room_src w 23 23 ty 46 i0 tSL hi0 b off n c _ m vs hsrc hroom (by rw [hzs, hvl]; exact hsp) (by rw [hzs, hvl]; exact hfz)
  rw [hzs] at hrun
  go_enter Tryz.func88, Tryz.ntmps88
  go_wp2_with (at_builtin; refine Lib.wpList_append_run _ rfl _ _ _ _ rfl _ _ rfl rfl _ _ (hrun _) ?_)
  go_ret
  exact ⟨rfl, rfl⟩
set_option maxHeartbeats 4000000 in
set_option maxRecDepth 100000 in
theorem end_grow (base : Option Addr) (n c vb voff m vc : Nat) (cs vs : List Value) (w : World) (hm : 0 < m) (hnc : n ≤ c) (hroom : c < n + m) (hbig : (n + m) * 64 ≤ 140737488355328)
    (hcl : cs.length = n * 4) (hvl : vs.length = m * 4) (hnil : base = none → n = 0)
    (hcs : ∀ a, base = some a → ∀ j v, cs[j]? = some v → w.cell? (a.add j) = some v)
    (hvs : ∀ j v, vs[j]? = some v → w.cell? ⟨vb, voff + j, none⟩ = some v) (h1v : ∀ v ∈ vs, v.oneCell' = true) :
    Calls Tryz.prog 88 #[.slice base n c, .int .i64 n, .slice (some ⟨vb, voff, none⟩) m vc] w fun e w' => ∃ Z : Array Value, Z.size = 4 ∧
      e = .returned (.slice (some ⟨w.heap.size, 0, none⟩) (n + m) (grownCap w (n + m) c 46)) ∧
      w' = w.drew.alloc (.cells ((cs ++ vs).toArray ++ Builtin.zeroCells Z (grownCap w (n + m) c 46 - (n + m))) 46) := by
  have tSL := tSL; have zEL := zEL; have t3 := t3
  have uSL := run_underlying tSL; have u3 := run_underlying t3
  have mixed := mixed
  obtain ⟨i0, hi0, hz0, hzs, hzb⟩ := iEL
  obtain ⟨z, hzz, hzc0⟩ : ∃ z, i0.zero = some z ∧ z.cells.size = 4 := by
    cases q : i0.zero with
    | none => rw [q] at hz0; cases hz0
    | some z =>
      rw [q] at hz0
      simp only [Option.map_some, Option.some.injEq] at hz0
      exact ⟨z, rfl, by rw [hz0]; rfl⟩
  have hz1 : ¬ ((m : Int) = 0) := by omega
  have hsrc : Src Tryz.prog i0.size 23 (.slice (some ⟨vb, voff, none⟩) m vc) m vs w := by
    rw [hzs]
    exact Src.ofSlice w tSL ⟨vb, voff, none⟩ m vc vs (by omega) (fun j u hj => by rw [Addr.add_lit]; exact hvs j u hj) h1v
  have hold : (Builtin.firstCells i0.size n (.slice base n c)).run Tryz.prog w.drew = .ok cs.toArray w.drew := by
    rw [hzs]
    cases base with
    | none =>
      have h0 := hnil rfl
      subst h0
      rw [show cs = [] from List.length_eq_zero_iff.1 (by omega)]
      exact run_firstCells_none w.drew 4 0 0 c
    | some a => exact run_firstCells_some w.drew 4 n a n c cs (by omega) (fun j v hj => hcs a rfl j v hj)
  have hrun0 : ∀ ty, (Builtin.append_ #[23, 23] ty #[.slice base n c, .slice (some ⟨vb, voff, none⟩) m vc]).run Tryz.prog w = _ := fun ty =>
    run_append_grow_src w 23 23 ty 46 i0 _ tSL hi0 hzz base n c cs hold _ m vs hsrc hroom (by omega) (by rw [hzb]; exact growslice_fits hroom hbig)
  obtain ⟨ZC, hzc, hrun⟩ : ∃ ZC : Array Value, ZC.size = 4 ∧ ∀ ty, (Builtin.append_ #[23, 23] ty #[.slice base n c, .slice (some ⟨vb, voff, none⟩) m vc]).run Tryz.prog w = .ok (.slice (some ⟨w.heap.size, 0, none⟩) (n + m) (grownCap w (n + m) c 46))
        (w.drew.alloc (.cells ((cs ++ vs).toArray ++ Builtin.zeroCells ZC (grownCap w (n + m) c 46 - (n + m))) 46)) := ⟨_, hzc0, hrun0⟩
  clear hrun0 hzz hzc0 z
  go_enter Tryz.func88, Tryz.ntmps88
  cases base with
  | none =>
    have h0 := hnil rfl
    subst h0
    go_wp2_with (at_builtin; refine Lib.wpList_append_run _ rfl _ _ _ _ rfl _ _ rfl rfl _ _ (hrun _) ?_)
    go_ret
    exact ⟨ZC, hzc, rfl, rfl⟩
  | some a =>
    obtain ⟨ab, ao, asp⟩ := a
    go_wp2_with (at_builtin; refine Lib.wpList_append_run _ rfl _ _ _ _ rfl _ _ rfl rfl _ _ (hrun _) ?_)
    all_goals (go_ret; exact ⟨ZC, hzc, rfl, rfl⟩)
set_option maxHeartbeats 4000000 in
set_option maxRecDepth 100000 in
theorem grow (b off n c i vb voff m vc : Nat) (cs vs : List Value) (w : World) (hi : i < n) (hm : 0 < m) (hnc : n ≤ c) (hroom : c < n + m) (hbig : (n + m) * 64 ≤ 140737488355328)
    (hcl : cs.length = n * 4) (hvl : vs.length = m * 4)
    (hcs : ∀ j v, cs[j]? = some v → w.cell? ⟨b, off + j, none⟩ = some v)
    (hvs : ∀ j v, vs[j]? = some v → w.cell? ⟨vb, voff + j, none⟩ = some v) (h1c : ∀ v ∈ cs, v.oneCell' = true) (h1v : ∀ v ∈ vs, v.oneCell' = true) :
    Calls Tryz.prog 88 #[.slice (some ⟨b, off, none⟩) n c, .int .i64 i, .slice (some ⟨vb, voff, none⟩) m vc] w fun e w' => ∃ Z : Array Value, Z.size = 4 ∧
      e = .returned (.slice (some ⟨w.heap.size, 0, none⟩) (n + m) (grownCap w (n + m) c 46)) ∧
      w' = (((w.alloc (.cells ((cs.take (i * 4)).toArray ++ Builtin.zeroCells Z (n + m - i) ++ Builtin.zeroCells Z (grownCap w (n + m) c 46 - (n + m))) 46)).drew.setCells w.heap.size (i * 4) vs).drew).setCells w.heap.size ((i + m) * 4) (cs.drop (i * 4)) := by
  have tSL := tSL; have zEL := zEL; have t3 := t3
  have uSL := run_underlying tSL; have u3 := run_underlying t3
  have mixed := mixed
  obtain ⟨i0, hi0, hz0, hzs, hzb⟩ := iEL
  obtain ⟨z, hzz, hzc0⟩ : ∃ z, i0.zero = some z ∧ z.cells.size = 4 := by
    cases q : i0.zero with
    | none => rw [q] at hz0; cases hz0
    | some z =>
      rw [q] at hz0
      simp only [Option.map_some, Option.some.injEq] at hz0
      exact ⟨z, rfl, by rw [hz0]; rfl⟩
  have hz1 : ¬ ((m : Int) = 0) := by omega
  have hz2 : ¬ ((i : Int) = (n : Int)) := by omega
  have hz3 : (c : Int) < (n : Int) + (m : Int) := by omega
  have hbw : b < w.heap.size := block_lt_of_cell (hcs 0 _ (List.getElem?_eq_getElem (by omega)))
  have hvw : vb < w.heap.size := block_lt_of_cell (hvs 0 _ (List.getElem?_eq_getElem (by omega)))
  have hkk : (n : Int) + (m : Int) - (i : Int) = ((n + m - i : Nat) : Int) := by omega
  have hik : i + (n + m - i) = n + m := by omega
  have hold : (Builtin.firstCells i0.size i (.slice (some ⟨b, off, none⟩) i c)).run Tryz.prog w.drew = .ok (cs.take (i * 4)).toArray w.drew := by
    rw [hzs]
    exact run_firstCells_some w.drew 4 i ⟨b, off, none⟩ i c (cs.take (i * 4)) (by rw [List.length_take]; omega) (fun j v hj => by
      rw [Addr.add_lit]
      rw [List.getElem?_take] at hj
      split at hj
      · exact hcs j v hj
      · cases hj)
  have hrz0 : ∀ ty, (Builtin.append_ #[23, 3] ty #[.slice (some ⟨b, off, none⟩) i c, .int .i64 ((n : Int) + (m : Int) - (i : Int))]).run Tryz.prog w =
      .ok (.slice (some ⟨w.heap.size, 0, none⟩) (n + m) (grownCap w (n + m) c 46)) (w.drew.alloc (.cells ((cs.take (i * 4)).toArray ++ Builtin.zeroCells z.cells (n + m - i) ++ Builtin.zeroCells z.cells (grownCap w (n + m) c 46 - (n + m))) 46)) := fun ty => by
    have h := Lib.run_append_grow_zeros w 23 3 ty 46 i0 _ .i64 .i64 tSL t3 hi0 hzz (some ⟨b, off, none⟩) i c (cs.take (i * 4)) hold (n + m - i) (by omega) (by omega) (by omega) (by omega) (by rw [hzb]; omega) (by rw [hzb, hik]; exact growslice_fits hroom hbig)
    rw [hik] at h
    rw [hkk]
    exact h
  obtain ⟨ZC, hzc, hrz⟩ : ∃ ZC : Array Value, ZC.size = 4 ∧ ∀ ty, (Builtin.append_ #[23, 3] ty #[.slice (some ⟨b, off, none⟩) i c, .int .i64 ((n : Int) + (m : Int) - (i : Int))]).run Tryz.prog w =
      .ok (.slice (some ⟨w.heap.size, 0, none⟩) (n + m) (grownCap w (n + m) c 46)) (w.drew.alloc (.cells ((cs.take (i * 4)).toArray ++ Builtin.zeroCells ZC (n + m - i) ++ Builtin.zeroCells ZC (grownCap w (n + m) c 46 - (n + m))) 46)) := ⟨_, hzc0, hrz0⟩
  clear hrz0 hzz hzc0 z
  refine Calls.mono (R := fun e w' => e = .returned (.slice (some ⟨w.heap.size, 0, none⟩) (n + m) (grownCap w (n + m) c 46)) ∧
      w' = (((w.alloc (.cells ((cs.take (i * 4)).toArray ++ Builtin.zeroCells ZC (n + m - i) ++ Builtin.zeroCells ZC (grownCap w (n + m) c 46 - (n + m))) 46)).drew.setCells w.heap.size (i * 4) vs).drew).setCells w.heap.size ((i + m) * 4) (cs.drop (i * 4))) ?_ fun e w' h => ⟨ZC, hzc, h⟩
  obtain ⟨G, hG⟩ : ∃ G, G = grownCap w (n + m) c 46 := ⟨_, rfl⟩
  obtain ⟨ROW, hROW⟩ : ∃ ROW : Array Value, ROW = (cs.take (i * 4)).toArray ++ Builtin.zeroCells ZC (n + m - i) ++ Builtin.zeroCells ZC (G - (n + m)) := ⟨_, rfl⟩
  rw [← hG] at hrz ⊢
  rw [← hROW] at hrz ⊢
  have hRl : (n + m) * 4 ≤ ROW.size := by
    rw [hROW]
    simp [Builtin.zeroCells, hzc]
    omega
  obtain ⟨W1, hW1⟩ : ∃ W1, W1 = w.drew.alloc (.cells ROW 46) := ⟨_, rfl⟩
  rw [← hW1] at hrz
  have hN : ∀ j, j < (n + m) * 4 → (W1.cell? ⟨w.heap.size, j, none⟩).isSome = true := fun j hj => by
    rw [hW1, World.cell?_alloc_at (w := w.drew) ROW _ w.heap.size j rfl, Array.getElem?_eq_getElem (by omega)]; rfl
  have hNf : ∀ j, W1.frozen? ⟨w.heap.size, j, none⟩ = false := fun j => by rw [hW1]; exact World.frozen?_alloc_at (w := w.drew) ROW _ w.heap.size j rfl
  have hOb : ∀ j v, w.cell? ⟨b, j, none⟩ = some v → W1.cell? ⟨b, j, none⟩ = some v := fun j v h => by rw [hW1, World.cell?_alloc_past (w := w.drew) _ b j hbw]; exact h
  have hOv : ∀ j v, w.cell? ⟨vb, j, none⟩ = some v → W1.cell? ⟨vb, j, none⟩ = some v := fun j v h => by rw [hW1, World.cell?_alloc_past (w := w.drew) _ vb j hvw]; exact h
  have mn1 : Nat.min m (n + m - i) = m := by simp only [Nat.min_def]; split <;> omega
  have mn2 : Nat.min (n - i) (n + m - (i + m)) = n - i := by simp only [Nat.min_def]; split <;> omega
  have hcpA : ∀ (W : World), (∀ x, W.cell? x = W1.cell? x) → (∀ x, W.frozen? x = W1.frozen? x) → ∀ ty dc, (Builtin.copy_ #[23, 23] ty #[.slice (some ⟨w.heap.size, i * 4, none⟩) (n + m - i) dc, .slice (some ⟨vb, voff, none⟩) m vc]).run Tryz.prog W = .ok (goInt m) (W.setCells w.heap.size (i * 4) vs) := fun W hWc hWf ty dc => by
    have := run_copy_cellsK (P := Tryz.prog) W 23 23 ty 46 4 w.heap.size (i * 4) (n + m - i) dc ⟨vb, voff, none⟩ m vc vs tSL hsz (by rw [hvl, mn1])
      (fun j v hj => by rw [Addr.add_lit, hWc]; exact hOv _ v (hvs j v hj))
      (fun j hj => by rw [hWc]; exact hN _ (by omega)) (fun j hj => by rw [hWf]; exact hNf _) h1v
    rw [mn1] at this
    exact this
  have hGn : n + m ≤ G := by rw [hG]; exact grownCap_ge w _ _ _
  have hG63 : G ≤ 9223372036854775807 := by
    have := grownCap_le_maxLen w (n + m) c 46 (by unfold maxLen; omega)
    rw [← hG] at this
    unfold maxLen at this
    omega
  have hGi : ¬ (G = i) := by omega
  have hGim : ¬ (G = i + m) := by omega
  have hci : ¬ (c = i) := by omega
  have hbN : b ≠ w.heap.size := by omega
  have hdl : (cs.drop (i * 4)).length = (n - i) * 4 := by rw [List.length_drop, hcl]; omega
  have hcpB : ∀ (W : World), (∀ x, W.cell? x = (W1.setCells w.heap.size (i * 4) vs).cell? x) → (∀ x, W.frozen? x = (W1.setCells w.heap.size (i * 4) vs).frozen? x) → ∀ ty dc sc, (Builtin.copy_ #[23, 23] ty #[.slice (some ⟨w.heap.size, (i + m) * 4, none⟩) (n + m - (i + m)) dc, .slice (some ⟨b, off + i * 4, none⟩) (n - i) sc]).run Tryz.prog W = .ok (goInt (n - i : Nat)) (W.setCells w.heap.size ((i + m) * 4) (cs.drop (i * 4))) := fun W hWc hWf ty dc sc => by
    have := run_copy_cellsK (P := Tryz.prog) W 23 23 ty 46 4 w.heap.size ((i + m) * 4) (n + m - (i + m)) dc ⟨b, off + i * 4, none⟩ (n - i) sc (cs.drop (i * 4)) tSL hsz (by rw [hdl, mn2])
      (fun j v hj => by
        rw [Addr.add_lit, hWc, World.cell?_setCells_out _ _ _ _ _ (fun h _ => absurd h hbN), Nat.add_assoc]
        exact hOb _ v (hcs (i * 4 + j) v (by rwa [List.getElem?_drop] at hj)))
      (fun j hj => by rw [hWc]; exact isSome_setCells _ _ _ _ (fun t ht => hN _ (by omega)) _ (hN _ (by omega)))
      (fun j hj => by rw [hWf, World.frozen?_setCells]; exact hNf _) (fun v hv => h1c v (List.mem_of_mem_drop hv))
    rw [mn2] at this
    exact this
  subst hW1
  have hE1 : ∀ x, ((w.alloc (.cells ROW 46)).drew).cell? x = (w.drew.alloc (.cells ROW 46)).cell? x := fun x => rfl
  have hE2 : ∀ x, ((w.alloc (.cells ROW 46)).drew).frozen? x = (w.drew.alloc (.cells ROW 46)).frozen? x := fun x => rfl
  have hF1 : ∀ x, (((w.alloc (.cells ROW 46)).drew.setCells w.heap.size (i * 4) vs).drew).cell? x = ((w.drew.alloc (.cells ROW 46)).setCells w.heap.size (i * 4) vs).cell? x := fun x => rfl
  have hF2 : ∀ x, (((w.alloc (.cells ROW 46)).drew.setCells w.heap.size (i * 4) vs).drew).frozen? x = ((w.drew.alloc (.cells ROW 46)).setCells w.heap.size (i * 4) vs).frozen? x := fun x => rfl
  have hw1 : IntKind.i64.wrap ((i : Int) + (m : Int)) = (i : Int) + (m : Int) := by rw [IntKind.wrap_i64]; omega
  have hb1 : (0 : Int) ≤ (i : Int) + (m : Int) := by omega
  have hin : i ≤ n := by omega
  have htn : ((i : Int) + (m : Int)).toNat = i + m := by omega
  have hb3 : (i : Int) ≤ (n : Int) := by omega
  clear hkk hik hold hROW hG hRl
  go_enter Tryz.func88, Tryz.ntmps88
  go_wp2_with (first
    | (at_builtin; refine Lib.wpList_append_run _ rfl _ _ _ _ rfl _ _ rfl rfl _ _ (hrz _) ?_)
    | (at_builtin; refine wpList_copy_runI _ rfl _ _ 23 23 rfl _ _ rfl rfl (hcpA _ hE1 hE2 _ _) ?_)
    | (at_builtin; refine wpList_copy_runI _ rfl _ _ 23 23 rfl _ _ rfl rfl (hcpB _ (fun _ => rfl) (fun _ => rfl) _ _ _) ?_))
  go_region_law_o (refine step_copy_runI rfl _ _ 23 23 rfl (.slice (some ⟨w.heap.size, (i + m) * 4, none⟩) (n + m - (i + m)) (G - (i + m))) (.slice (some ⟨b, off + i * 4, none⟩) (n - i) (c - i)) (by simp [Act.eval, Act.put]) (by simp [Act.eval, Act.put]) (hcpB _ hF1 hF2 3 (G - (i + m)) (c - i)) ?_)
  go_wp2
  go_ret
  exact ⟨rfl, rfl⟩
end InsL
end
section
open Go Go.PG Go.Proofs Go.RowKit
namespace InsL
theorem RowRep.takeN {Z : Nat → Prop} {w : World} {e : Ty} {xs : List e.D} {cs : List Value} (h : RowRep Z w e xs cs) (n : Nat) (hn : n ≤ xs.length) : RowRep Z w e (xs.take n) (cs.take (n * e.size)) := by
  have hl := h.1
  have hm := Nat.mul_le_mul_right e.size hn
  refine ⟨by rw [List.length_take, List.length_take, Nat.min_eq_left hn, Nat.min_eq_left (by omega)], fun i x hx => ?_⟩
  rw [List.getElem?_take] at hx
  split at hx
  case isFalse => cases hx
  rename_i hi
  obtain ⟨d, h1, h2⟩ := h.2 i x hx
  refine ⟨d, h1, fun j v hv => ?_⟩
  have hj : j < e.size := by rw [← h1.len]; exact (List.getElem?_eq_some_iff.1 hv).1
  have : (i + 1) * e.size ≤ n * e.size := Nat.mul_le_mul_right _ hi
  rw [Nat.add_mul] at this
  rw [List.getElem?_take, if_pos (by omega)]
  exact h2 j v hv
theorem RowRep.dropN {Z : Nat → Prop} {w : World} {e : Ty} {xs : List e.D} {cs : List Value} (h : RowRep Z w e xs cs) (n : Nat) : RowRep Z w e (xs.drop n) (cs.drop (n * e.size)) := by
  have hl := h.1
  refine ⟨by rw [List.length_drop, List.length_drop, hl, Nat.sub_mul], fun i x hx => ?_⟩
  rw [List.getElem?_drop] at hx
  obtain ⟨d, h1, h2⟩ := h.2 (n + i) x hx
  refine ⟨d, h1, fun j v hv => ?_⟩
  rw [List.getElem?_drop, ← Nat.add_assoc, ← Nat.add_mul]
  exact h2 j v hv
theorem rows_of {Z : Nat → Prop} {w : World} {e : Ty} (hpos : 0 < e.size) {xs : List e.D} {b o : Nat} {cells : Array Value} {el : TypeId} {fz : Nat × Nat} (hh : w.heap[b]? = some (.cells cells el fz)) (hfit : o + xs.length * e.size ≤ cells.size)
    (hx : ∀ i x, xs[i]? = some x → ∃ d, RepD Z w e x d ∧ Mem w b (o + i * e.size) d) :
    RowRep Z w e xs ((cells.toList.drop o).take (xs.length * e.size)) ∧ ∀ j v, ((cells.toList.drop o).take (xs.length * e.size))[j]? = some v → w.cell? ⟨b, o + j, none⟩ = some v := by
  have hcell : ∀ k, w.cell? ⟨b, k, none⟩ = cells[k]? := fun k => by simp [World.cell?, hh]
  have hcl : cells.toList.length = cells.size := Array.length_toList
  refine ⟨⟨by rw [List.length_take, List.length_drop, hcl]; omega, fun i x hi => ?_⟩, fun j v hv => ?_⟩
  · obtain ⟨d, h1, h2⟩ := hx i x hi
    refine ⟨d, h1, fun j v hv => ?_⟩
    have hj : j < e.size := by rw [← h1.len]; exact (List.getElem?_eq_some_iff.1 hv).1
    have hil := (List.getElem?_eq_some_iff.1 hi).1
    have : (i + 1) * e.size ≤ xs.length * e.size := Nat.mul_le_mul_right _ hil
    rw [Nat.add_mul] at this
    have h3 := h2 j v hv
    rw [hcell] at h3
    rw [List.getElem?_take, if_pos (by omega), List.getElem?_drop, Array.getElem?_toList, ← Nat.add_assoc]
    exact h3
  · rw [List.getElem?_take] at hv
    split at hv
    case isFalse => cases hv
    rw [List.getElem?_drop, Array.getElem?_toList] at hv
    rw [hcell]
    exact hv
theorem sets (b : Nat) : ∀ (vs : List Value) (o : Nat) (w : World), (w.setCells b o vs).os = w.os ∧ (w.setCells b o vs).tape = w.tape ∧ (w.setCells b o vs).output = w.output ∧ (w.setCells b o vs).heap.size = w.heap.size ∧
    (∀ k, k ≠ b → (w.setCells b o vs).heap[k]? = w.heap[k]?) ∧ ∀ c el fz, w.heap[b]? = some (.cells c el fz) → ∃ c', (w.setCells b o vs).heap[b]? = some (.cells c' el fz) ∧ c'.size = c.size := by
  intro vs
  induction vs with
  | nil => intro o w; exact ⟨rfl, rfl, rfl, rfl, fun _ _ => rfl, fun c el fz h => ⟨c, h, rfl⟩⟩
  | cons v vs ih =>
    intro o w
    obtain ⟨h1, h2, h3, h4, h5, h6⟩ := ih (o + 1) (w.setCell ⟨b, o, none⟩ v)
    refine ⟨h1, h2, h3, h4.trans (by simp [World.setCell]), fun k hk => (h5 k hk).trans ?_, fun c el fz h => ?_⟩
    · simp [World.setCell, Array.getElem?_modify, Ne.symm hk]
    · obtain ⟨c', q1, q2⟩ := h6 (c.setIfInBounds o v) el fz (by simp [World.setCell, Array.getElem?_modify, h])
      exact ⟨c', q1, by rw [q2]; simp⟩
theorem mem_of_row {Z : Nat → Prop} {w w' : World} {e : Ty} {xs : List e.D} {cs : List Value} (h : RowRep Z w e xs cs) {b o : Nat} (hc : ∀ k v, cs[k]? = some v → w'.cell? ⟨b, o + k, none⟩ = some v) :
    ∀ i x, xs[i]? = some x → ∃ d, RepD Z w e x d ∧ Mem w' b (o + i * e.size) d := by
  intro i x hx
  obtain ⟨d, h1, h2⟩ := h.2 i x hx
  exact ⟨d, h1, fun j v hv => by rw [Nat.add_assoc]; exact hc _ v (h2 j v hv)⟩
theorem ins_ok {G : World → Prop} {e : Ty} (he : e.size = 4) : InsOk Tryz.prog G 88 e 64 := by
  intro Z w A cap xs ys n vb vo vc _ hxc hn0 hnl hyl hbytes hxs hyc hys
  obtain ⟨i, rfl⟩ : ∃ i : Nat, n = i := ⟨n.toNat, by omega⟩
  have hin : i ≤ xs.length := by omega
  have hpos : 0 < e.size := by omega
  have hins : PG.P.insAt xs (i : Int) ys = xs.take i ++ ys ++ xs.drop i := rfl
  have hlen : (PG.P.insAt xs (i : Int) ys).length = xs.length + ys.length := by
    rw [hins]; simp [List.length_take, List.length_drop]; omega
  rw [hlen]
  obtain ⟨vcs, vel, fz, hvb, hvfit⟩ : ∃ vcs vel fz, w.heap[vb]? = some (.cells vcs vel fz) ∧ vo + ys.length * e.size ≤ vcs.size := by
    obtain ⟨d, h1, h2⟩ := hys (ys.length - 1) _ (List.getElem?_eq_getElem (by omega))
    have hd := h1.len
    have hc := h2 (e.size - 1) _ (List.getElem?_eq_getElem (by omega))
    unfold World.cell? at hc
    split at hc
    case h_2 => cases hc
    rename_i vcs vel fz hq
    simp only [Option.isSome_none, Bool.false_eq_true, if_false] at hc
    have hlt := (Array.getElem?_eq_some_iff.1 hc).1
    refine ⟨vcs, vel, fz, hq, ?_⟩
    have hm : ys.length * e.size = (ys.length - 1) * e.size + e.size := by
      obtain ⟨k, hk⟩ : ∃ k, ys.length = k + 1 := ⟨ys.length - 1, by omega⟩
      rw [hk, Nat.add_sub_cancel, Nat.add_mul, Nat.one_mul]
    omega
  obtain ⟨rv, cv⟩ := rows_of hpos hvb (by omega) hys
  generalize hVS : (vcs.toList.drop vo).take (ys.length * e.size) = VS at rv cv
  have hVl : VS.length = ys.length * 4 := by rw [rv.1, he]
  have h1v : ∀ v ∈ VS, v.oneCell' = true := rowrep_one hpos rv
  have hbig : (xs.length + ys.length) * 64 ≤ 140737488355328 := by omega
  have hvsz : 0 < vcs.size := by
    have : 1 * e.size ≤ ys.length * e.size := Nat.mul_le_mul_right _ hyl
    omega
  have hVc : RowRep Z w e ys VS := rv
  -- a new row
  have newrow : ∀ (w' : World) (G0 : Nat) (cs' : Array Value) (el' : TypeId), xs.length + ys.length ≤ G0 → w'.heap[w.heap.size]? = some (.cells cs' el' (0, 0)) → G0 * e.size ≤ cs'.size →
      (∀ j x, (xs.take i ++ ys ++ xs.drop i)[j]? = some x → ∃ d, RepD Z w e x d ∧ Mem w' w.heap.size (0 + j * e.size) d) → (∀ k, k < w.heap.size → w'.heap[k]? = w.heap[k]?) → w'.os = w.os ∧ w'.tape = w.tape ∧ w'.output = w.output ∧ w.heap.size ≤ w'.heap.size →
      ∃ b' o' cap' cs' el', Ending.returned (.slice (some ⟨w.heap.size, 0, none⟩) (xs.length + ys.length) G0) = .returned (.slice (some ⟨b', o', none⟩) (xs.length + ys.length) cap') ∧ xs.length + ys.length ≤ cap' ∧
        w'.heap[b']? = some (.cells cs' el' (0, 0)) ∧ o' + cap' * e.size ≤ cs'.size ∧ (∀ i_1 x, (PG.P.insAt xs (i : Int) ys)[i_1]? = some x → ∃ d, RepD Z w e x d ∧ Mem w' b' (o' + i_1 * e.size) d) ∧
        (w.heap.size ≤ b' ∨ cap ≠ 0 ∧ ∃ o, A = some ⟨b', o, none⟩) ∧ (∀ k, k < w.heap.size → (cap ≠ 0 → ∀ o, A ≠ some ⟨k, o, none⟩) → w'.heap[k]? = w.heap[k]?) ∧
        w'.os = w.os ∧ w'.tape = w.tape ∧ w'.output = w.output ∧ w.heap.size ≤ w'.heap.size := by
    intro w' G0 cs' el' h1 h2 h3 h4 h5 h6
    exact ⟨w.heap.size, 0, G0, cs', el', rfl, h1, h2, by omega, h4, .inl (Nat.le_refl _), fun k hk _ => h5 k hk, h6⟩
  -- at the end, no room
  have endGrow : ∀ (base : Option Addr) (CS : List Value), A = base → i = xs.length → cap < xs.length + ys.length → RowRep Z w e xs CS → (base = none → xs.length = 0) → (∀ a, base = some a → ∀ j v, CS[j]? = some v → w.cell? (a.add j) = some v) →
      Calls Tryz.prog 88 #[.slice A xs.length cap, .int .i64 i, .slice (some ⟨vb, vo, none⟩) ys.length vc] w fun e' w' => ∃ b' o' cap' cs' el', e' = .returned (.slice (some ⟨b', o', none⟩) (xs.length + ys.length) cap') ∧ xs.length + ys.length ≤ cap' ∧
        w'.heap[b']? = some (.cells cs' el' (0, 0)) ∧ o' + cap' * e.size ≤ cs'.size ∧ (∀ i_1 x, (PG.P.insAt xs (i : Int) ys)[i_1]? = some x → ∃ d, RepD Z w e x d ∧ Mem w' b' (o' + i_1 * e.size) d) ∧
        (w.heap.size ≤ b' ∨ cap ≠ 0 ∧ ∃ o, A = some ⟨b', o, none⟩) ∧ (∀ k, k < w.heap.size → (cap ≠ 0 → ∀ o, A ≠ some ⟨k, o, none⟩) → w'.heap[k]? = w.heap[k]?) ∧
        w'.os = w.os ∧ w'.tape = w.tape ∧ w'.output = w.output ∧ w.heap.size ≤ w'.heap.size := by
    intro base CS hA hi hroom hrow hnil hcs
    subst hA
    subst hi
    refine (end_grow A xs.length cap vb vo ys.length vc CS VS w hyl hxc hroom hbig (by rw [hrow.1, he]) hVl hnil hcs cv h1v).mono fun e' w' ⟨ZZ, hZ, h1, h2⟩ => ?_
    subst h1; subst h2
    refine newrow _ _ ((CS ++ VS).toArray ++ Builtin.zeroCells ZZ (grownCap w (xs.length + ys.length) cap 46 - (xs.length + ys.length))) 46 (grownCap_ge _ _ _ _) (alloc_get w.drew _) ?_ ?_ (fun k hk => alloc_old w.drew _ k hk) ⟨rfl, rfl, rfl, by rw [alloc_size]; exact Nat.le_succ _⟩
    · have hge := grownCap_ge w (xs.length + ys.length) cap 46
      simp only [Array.size_append, List.size_toArray, List.length_append, hrow.1, hVl, zeroCells_len, hZ, he]
      omega
    · rw [List.take_length, List.drop_length, List.append_nil]
      refine mem_of_row (hrow.append hVc) fun k v hv => ?_
      have hg : (w.drew.alloc (.cells ((CS ++ VS).toArray ++ Builtin.zeroCells ZZ (grownCap w (xs.length + ys.length) cap 46 - (xs.length + ys.length))) 46 (0, 0))).heap[w.heap.size]? = _ := alloc_get w.drew _
      have hk := (List.getElem?_eq_some_iff.1 hv).1
      simp only [World.cell?, hg, Option.isSome_none, Bool.false_eq_true, if_false, Nat.zero_add]
      rw [Array.getElem?_append_left (by simpa using hk)]
      simpa using hv
  rcases hxs with rfl | ⟨b, o, cells, el, rfl, hbv, hb, hfit, hxs⟩
  · have hx0 : xs = [] := List.length_eq_zero_iff.1 (by omega)
    have hi0 : i = 0 := by rw [hx0] at hin; simpa using hin
    subst hx0; subst hi0
    exact endGrow A [] rfl rfl (by simpa using hyl) ⟨by simp, fun i x hx => by simp at hx⟩ (fun _ => rfl) (fun a _ j v hj => by simp at hj)
  have hmulx : xs.length * e.size ≤ cap * e.size := Nat.mul_le_mul_right _ hxc
  obtain ⟨rx, cx'⟩ := rows_of hpos hb (by omega) hxs
  generalize hCS : (cells.toList.drop o).take (xs.length * e.size) = CS at rx cx'
  have hCl : CS.length = xs.length * 4 := by rw [rx.1, he]
  have h1c : ∀ v ∈ CS, v.oneCell' = true := rowrep_one hpos rx
  have hcell : ∀ k, w.cell? ⟨b, k, none⟩ = cells[k]? := fun k => by simp [World.cell?, hb]
  have fzb : ∀ k, w.frozen? ⟨b, k, none⟩ = false := fun k => by simp [World.frozen?, hb]
  have rtake : RowRep Z w e (xs.take i) (CS.take (i * 4)) := by have := RowRep.takeN rx i hin; rwa [he] at this
  have rdrop : RowRep Z w e (xs.drop i) (CS.drop (i * 4)) := by have := RowRep.dropN rx i; rwa [he] at this
  have rall := (rtake.append hVc).append rdrop
  have hdrop : (CS.drop (i * 4)).length = (xs.length - i) * 4 := by rw [List.length_drop, hCl]; omega
  have htake : (CS.take (i * 4)).length = i * 4 := by rw [List.length_take, hCl]; omega
  by_cases hroom : xs.length + ys.length ≤ cap
  · have hmr : (xs.length + ys.length) * e.size ≤ cap * e.size := Nat.mul_le_mul_right _ hroom
    rw [he] at hmr hfit
    have some_ : ∀ k, k < (xs.length + ys.length) * 4 → (w.cell? ⟨b, o + k, none⟩).isSome = true := fun k hk => by
      rw [hcell, Array.getElem?_eq_getElem (by omega)]; rfl
    have hc0 : cap ≠ 0 := by omega
    rcases Nat.lt_or_ge i xs.length with hi | hi
    · refine (shift b o xs.length cap i vb vo ys.length vc CS VS w hi hyl hroom hbig (Ne.symm hbv) hCl hVl cx' some_ (fun k _ => fzb _) cv h1c h1v vel el vcs.size cells.size (by simp [World.shape?, hvb]) (by simp [World.shape?, hb]) (by omega) (fun k => fzb k)).mono fun e' w' ⟨h1, h2⟩ => ?_
      subst h1; subst h2
      obtain ⟨p1, p2, p3, p4, p5, p6⟩ := sets b (CS.drop (i * 4)) (o + (i + ys.length) * 4) w.drew
      obtain ⟨q1, q2, q3, q4, q5, q6⟩ := sets b VS (o + i * 4) (w.drew.setCells b (o + (i + ys.length) * 4) (CS.drop (i * 4)))
      obtain ⟨c1, r1, r2⟩ := p6 cells el (0, 0) hb
      obtain ⟨c2, r3, r4⟩ := q6 c1 el (0, 0) r1
      have s1 : ∀ k, k < (xs.length + ys.length) * 4 → ((w.drew.setCells b (o + (i + ys.length) * 4) (CS.drop (i * 4))).cell? ⟨b, o + k, none⟩).isSome = true := fun k hk => by
        simp only [World.cell?, r1, Option.isSome_none, Bool.false_eq_true, if_false]
        rw [Array.getElem?_eq_getElem (by omega)]; rfl
      refine ⟨b, o, cap, c2, el, rfl, hroom, r3, by rw [r4, r2, he]; omega, ?_, .inr ⟨hc0, o, rfl⟩, fun k hk hA => (q5 k fun z => hA hc0 o (by rw [z])).trans (p5 k fun z => hA hc0 o (by rw [z])), q1.trans p1, q2.trans p2, q3.trans p3, by rw [q4, p4]; exact Nat.le_refl _⟩
      refine mem_of_row rall fun k v hv => ?_
      rcases Nat.lt_or_ge k (i * 4) with z1 | z1
      · rw [List.append_assoc, List.getElem?_append_left (by omega), List.getElem?_take, if_pos z1] at hv
        rw [World.cell?_setCells_out _ _ _ _ _ (fun _ _ => .inl (by show o + k < o + i * 4; omega)), World.cell?_setCells_out _ _ _ _ _ (fun _ _ => .inl (by show o + k < o + (i + ys.length) * 4; omega))]
        exact cx' k v hv
      · rw [List.append_assoc, List.getElem?_append_right (by omega), htake] at hv
        rcases Nat.lt_or_ge k ((i + ys.length) * 4) with z2 | z2
        · rw [List.getElem?_append_left (by omega)] at hv
          obtain ⟨hlt, hv⟩ := List.getElem?_eq_some_iff.1 hv
          have := World.cell?_setCells_in b VS (o + i * 4) (w.drew.setCells b (o + (i + ys.length) * 4) (CS.drop (i * 4))) (fun j hj => by rw [Nat.add_assoc]; exact s1 _ (by omega)) (k - i * 4) hlt
          rw [show o + i * 4 + (k - i * 4) = o + k by omega, hv] at this
          exact this
        · rw [List.getElem?_append_right (by omega), hVl] at hv
          obtain ⟨hlt, hv⟩ := List.getElem?_eq_some_iff.1 hv
          rw [World.cell?_setCells_out _ _ _ _ _ (fun _ _ => .inr (by show o + i * 4 + VS.length ≤ o + k; omega))]
          have := World.cell?_setCells_in b (CS.drop (i * 4)) (o + (i + ys.length) * 4) w.drew (fun j hj => by rw [Nat.add_assoc]; exact some_ _ (by omega)) (k - i * 4 - ys.length * 4) hlt
          rw [show o + (i + ys.length) * 4 + (k - i * 4 - ys.length * 4) = o + k by omega, hv] at this
          exact this
    · have hi : i = xs.length := by omega
      subst hi
      refine (end_room b o xs.length cap vb vo ys.length vc VS w hyl hroom hbig hVl (fun j hj => by rw [Nat.add_assoc]; exact some_ _ (by omega)) (fun k _ => fzb _) cv h1v).mono fun e' w' ⟨h1, h2⟩ => ?_
      subst h1; subst h2
      obtain ⟨q1, q2, q3, q4, q5, q6⟩ := sets b VS (o + xs.length * 4) w
      obtain ⟨c2, r3, r4⟩ := q6 cells el (0, 0) hb
      refine ⟨b, o, cap, c2, el, rfl, hroom, r3, by rw [r4, he]; omega, ?_, .inr ⟨hc0, o, rfl⟩, fun k hk hA => q5 k fun z => hA hc0 o (by rw [z]), q1, q2, q3, by rw [q4]; exact Nat.le_refl _⟩
      refine mem_of_row rall fun k v hv => ?_
      rcases Nat.lt_or_ge k (xs.length * 4) with z1 | z1
      · rw [List.append_assoc, List.getElem?_append_left (by omega), List.getElem?_take, if_pos z1] at hv
        rw [World.cell?_setCells_out _ _ _ _ _ (fun _ _ => .inl (by show o + k < o + xs.length * 4; omega))]
        exact cx' k v hv
      · rw [List.append_assoc, List.getElem?_append_right (by omega), htake] at hv
        have hlt := (List.getElem?_eq_some_iff.1 hv).1
        rw [List.length_append, hdrop, Nat.sub_self, Nat.zero_mul, Nat.add_zero] at hlt
        rw [List.getElem?_append_left hlt] at hv
        obtain ⟨hlt, hv⟩ := List.getElem?_eq_some_iff.1 hv
        have := World.cell?_setCells_in b VS (o + xs.length * 4) w (fun j hj => by rw [Nat.add_assoc]; exact some_ _ (by omega)) (k - xs.length * 4) hlt
        rw [show o + xs.length * 4 + (k - xs.length * 4) = o + k by omega, hv] at this
        exact this
  · have hroom : cap < xs.length + ys.length := by omega
    rcases Nat.lt_or_ge i xs.length with hi | hi
    · refine (grow b o xs.length cap i vb vo ys.length vc CS VS w hi hyl hxc hroom hbig hCl hVl cx' cv h1c h1v).mono fun e' w' ⟨ZZ, hZ, h1, h2⟩ => ?_
      subst h1
      have hge := grownCap_ge w (xs.length + ys.length) cap 46
      generalize grownCap w (xs.length + ys.length) cap 46 = GC at hge h2 ⊢
      obtain ⟨ROW, hROW⟩ : ∃ ROW : Array Value, ROW = (CS.take (i * 4)).toArray ++ Builtin.zeroCells ZZ (xs.length + ys.length - i) ++ Builtin.zeroCells ZZ (GC - (xs.length + ys.length)) := ⟨_, rfl⟩
      rw [← hROW] at h2
      have hRl : ROW.size = GC * 4 := by
        rw [hROW]
        simp only [Array.size_append, List.size_toArray, htake, zeroCells_len, hZ]
        omega
      have hRt : ∀ k, k < i * 4 → ROW[k]? = CS[k]? := fun k hk => by
        rw [hROW, Array.append_assoc, Array.getElem?_append_left (by simpa [htake] using hk)]
        simp [List.getElem?_take, hk]
      generalize hW0 : (w.alloc (.cells ROW 46 (0, 0))).drew = W0 at h2
      have g0 : W0.heap[w.heap.size]? = some (.cells ROW 46 (0, 0)) := by rw [← hW0]; exact alloc_get w _
      have g1 : ∀ k, k < w.heap.size → W0.heap[k]? = w.heap[k]? := fun k hk => by rw [← hW0]; exact alloc_old w _ k hk
      have g2 : W0.os = w.os ∧ W0.tape = w.tape ∧ W0.output = w.output ∧ W0.heap.size = w.heap.size + 1 := by rw [← hW0]; exact ⟨rfl, rfl, rfl, alloc_size w _⟩
      obtain ⟨p1, p2, p3, p4, p5, p6⟩ := sets w.heap.size VS (i * 4) W0
      generalize hW1 : (W0.setCells w.heap.size (i * 4) VS) = W1 at h2 p1 p2 p3 p4 p5 p6
      obtain ⟨q1, q2, q3, q4, q5, q6⟩ := sets w.heap.size (CS.drop (i * 4)) ((i + ys.length) * 4) W1.drew
      obtain ⟨c1, r1, r2⟩ := p6 ROW 46 (0, 0) g0
      obtain ⟨c2, r3, r4⟩ := q6 c1 46 (0, 0) r1
      subst h2
      refine newrow _ GC c2 46 hge r3 (by rw [r4, r2, hRl, he]; exact Nat.le_refl _) ?_ (fun k hk => (q5 k (by omega)).trans ((p5 k (by omega)).trans (g1 k hk)))
        ⟨q1.trans (p1.trans g2.1), q2.trans (p2.trans g2.2.1), q3.trans (p3.trans g2.2.2.1), by rw [q4]; show w.heap.size ≤ W1.heap.size; rw [p4, g2.2.2.2]; exact Nat.le_succ _⟩
      refine mem_of_row rall fun k v hv => ?_
      have s0 : ∀ k, k < GC * 4 → (W0.cell? ⟨w.heap.size, k, none⟩).isSome = true := fun k hk => by
        simp only [World.cell?, g0, Option.isSome_none, Bool.false_eq_true, if_false]
        rw [Array.getElem?_eq_getElem (by omega)]; rfl
      have s1 : ∀ k, k < GC * 4 → (W1.drew.cell? ⟨w.heap.size, k, none⟩).isSome = true := fun k hk => by
        have r1' : W1.drew.heap[w.heap.size]? = some (.cells c1 46 (0, 0)) := r1
        simp only [World.cell?, r1', Option.isSome_none, Bool.false_eq_true, if_false]
        rw [Array.getElem?_eq_getElem (by omega)]; rfl
      rw [Nat.zero_add]
      rcases Nat.lt_or_ge k (i * 4) with z1 | z1
      · rw [List.append_assoc, List.getElem?_append_left (by omega), List.getElem?_take, if_pos z1] at hv
        rw [World.cell?_setCells_out _ _ _ _ _ (fun _ _ => .inl (by show k < (i + ys.length) * 4; omega))]
        show W1.cell? _ = _
        rw [← hW1, World.cell?_setCells_out _ _ _ _ _ (fun _ _ => .inl z1)]
        simp only [World.cell?, g0, Option.isSome_none, Bool.false_eq_true, if_false]
        rw [hRt k z1]
        exact hv
      · rw [List.append_assoc, List.getElem?_append_right (by omega), htake] at hv
        rcases Nat.lt_or_ge k ((i + ys.length) * 4) with z2 | z2
        · rw [List.getElem?_append_left (by omega)] at hv
          obtain ⟨hlt, hv⟩ := List.getElem?_eq_some_iff.1 hv
          rw [World.cell?_setCells_out _ _ _ _ _ (fun _ _ => .inl z2)]
          show W1.cell? _ = _
          have := World.cell?_setCells_in w.heap.size VS (i * 4) W0 (fun j hj => s0 _ (by omega)) (k - i * 4) hlt
          rw [show i * 4 + (k - i * 4) = k by omega, hv, hW1] at this
          exact this
        · rw [List.getElem?_append_right (by omega), hVl] at hv
          obtain ⟨hlt, hv⟩ := List.getElem?_eq_some_iff.1 hv
          have := World.cell?_setCells_in w.heap.size (CS.drop (i * 4)) ((i + ys.length) * 4) W1.drew (fun j hj => s1 _ (by omega)) (k - i * 4 - ys.length * 4) hlt
          rw [show (i + ys.length) * 4 + (k - i * 4 - ys.length * 4) = k by omega, hv] at this
          exact this
    · have hi : i = xs.length := by omega
      exact endGrow _ CS rfl hi hroom rx (fun z => by cases z) (fun a ha j v hj => by injection ha with ha; subst ha; rw [Addr.add_lit]; exact cx' j v hj)
end InsL
end
section
open Go Go.Proofs Go.Lib Go.RowKit
namespace InsT
theorem run_copy_cellsK {P : Program} (w : World) (dT sT ty elem : TypeId) (s b o dLen dCap : Nat) (a : Addr) (sLen sCap : Nat) (cs : List Value)
    (hu : P.underlying dT = some (.slice elem)) (hs : (P.info? elem).map (·.size) = some s) (hn : cs.length = Nat.min sLen dLen * s)
    (hsrc : ∀ j v, cs[j]? = some v → w.cell? (a.add j) = some v) (hc : ∀ j, j < cs.length → (w.cell? ⟨b, o + j, none⟩).isSome = true) (hf : ∀ j, j < cs.length → w.frozen? ⟨b, o + j, none⟩ = false) (h1 : ∀ v ∈ cs, v.oneCell' = true) :
    (Builtin.copy_ #[dT, sT] ty #[.slice (some ⟨b, o, none⟩) dLen dCap, .slice (some a) sLen sCap]).run P w = .ok (goInt (Nat.min sLen dLen)) (w.setCells b o cs) := by
  have hl := run_loadCells_list (P := P) w a cs hsrc
  have hst := run_storeCells_cells (P := P) b o cs 0 w (by simpa using hc) (by simpa using hf) h1
  cases hq : P.info? elem with
  | none => simp [hq] at hs
  | some i =>
    have hi : i.size = s := by simpa [hq] using hs
    simp [Builtin.copy_, run_underlying hu, Builtin.lenOf, Builtin.firstCells, Go.sizeOf, typeInfo, hq, hi, ← hn, hl, hst]
theorem overlaps_rows {P : Program} (w : World) (tS tR e : TypeId) (ht : P.underlying tS = some (.slice e)) (size : Nat) (hz : ∀ w, (Go.sizeOf e).run P w = .ok size w)
    (a b : Addr) (la ca lb cb : Nat) (hne : a.block ≠ b.block) (tA tB : TypeId) (kA kB : Nat)
    (hsa : w.shape? a.block = some (tA, kA)) (hkA : kA ≠ 0) (hsb : w.shape? b.block = some (tB, kB))
    (hfb : w.frozen? b = false) (hfe : w.frozen? { block := b.block, off := kB } = false) :
    (Extern.SlicesOverlaps.overlaps #[tS, tS] #[tR] #[.slice (some a) la ca, .slice (some b) lb cb]).run P w = .ok (.bool false) w := by
  have hnb : (a.block != b.block) = true := by simpa using hne
  have hnb' : (a.block == b.block) = false := by simpa using hne
  change Sem.run P (α := Value) (do
    let some t := (#[tS, tS] : Array TypeId)[0]? | stuck "slices.overlaps: no parameter types"
    let .slice elem ← underlying t | stuck "slices.overlaps: slice type expected"
    let size ← sizeOf elem
    match (some a : Option Addr), (some b : Option Addr) with
    | some a, some b =>
      if la = 0 ∨ lb = 0 ∨ size = 0 then pure (Value.bool false)
      else if a.block != b.block && (← frozen a) && (← frozen b) then unsupported .addressObserved
      else do
        if a.block != b.block then do
          noView a; noView b
          if ← mayBeOne a b then return Value.bool ((← choose (.extern "sameAddr.stringBytes" 2)) == 1)
        pure (Value.bool (a.block == b.block && a.off < b.off + lb * size && b.off < a.off + la * size))
    | _, _ => pure (Value.bool false)) w = _
  by_cases h0 : la = 0 ∨ lb = 0 ∨ size = 0
  · simp [run_underlying ht, hz, h0]
  · cases kA with
    | zero => exact absurd rfl hkA
    | succ kA =>
      cases hfa : w.frozen? a
      · cases hfc : w.frozen? { block := a.block, off := kA + 1 } <;> simp [run_underlying ht, hz, h0, hnb, hnb', frozen, noView, viewAt, mayBeOne, stringish, shape, Sem.run, hsa, hsb, hfb, hfe, hfa, hfc]
      · simp [run_underlying ht, hz, h0, hnb, hnb', frozen, noView, viewAt, mayBeOne, stringish, shape, Sem.run, hsa, hsb, hfb, hfe, hfa]
theorem tSL : Tryz.prog.underlying 32 = some (.slice 58) := by kernel_rfl
theorem t3 : Tryz.prog.underlying 3 = some (.int .i64) := by kernel_rfl
theorem f114 : Tryz.prog.funcs[114]? = some Tryz.f114 := by kernel_rfl
theorem f125 : Tryz.prog.funcs[125]? = some Tryz.f125 := by kernel_rfl
theorem mixed : Tryz.prog.follows .mixedOrders = true := by kernel_rfl
theorem iEL : ∃ i, Tryz.prog.info? 58 = some i ∧ i.zero.map Value.cells = some #[.string ⟨#[]⟩, .bool false, .slice none 0 0] ∧ i.size = 3 ∧ i.bytes = 48 := by
  have h : (Tryz.prog.info? 58).map (fun i => (i.zero.map Value.cells, i.size, i.bytes)) = some (some #[.string ⟨#[]⟩, .bool false, .slice none 0 0], 3, 48) := by kernel_rfl
  cases q : Tryz.prog.info? 58 with
  | none => rw [q] at h; cases h
  | some i =>
    rw [q] at h
    simp only [Option.map_some, Option.some.injEq, Prod.mk.injEq] at h
    exact ⟨i, rfl, h.1, h.2.1, h.2.2⟩
theorem zEL : ∀ w, (Go.sizeOf 58).run Tryz.prog w = .ok 3 w := by
  obtain ⟨i, h1, h2, h3, h4⟩ := iEL
  intro w
  simp [Go.sizeOf, typeInfo, h1, h3]
theorem hsz : (Tryz.prog.info? 58).map (·.size) = some 3 := by
  obtain ⟨i, h1, h2, h3, h4⟩ := iEL
  simp [h1, h3]
set_option maxHeartbeats 4000000 in
set_option maxRecDepth 100000 in
theorem shift (b off n c i vb voff m vc : Nat) (cs vs : List Value) (w : World) (hi : i < n) (hm : 0 < m) (hroom : n + m ≤ c) (hbig : (n + m) * 48 ≤ 140737488355328) (hvb : vb ≠ b)
    (hcl : cs.length = n * 3) (hvl : vs.length = m * 3)
    (hcs : ∀ j v, cs[j]? = some v → w.cell? ⟨b, off + j, none⟩ = some v) (hsp : ∀ j, j < (n + m) * 3 → (w.cell? ⟨b, off + j, none⟩).isSome = true) (hfz : ∀ j, j < (n + m) * 3 → w.frozen? ⟨b, off + j, none⟩ = false)
    (hvs : ∀ j v, vs[j]? = some v → w.cell? ⟨vb, voff + j, none⟩ = some v) (h1c : ∀ v ∈ cs, v.oneCell' = true) (h1v : ∀ v ∈ vs, v.oneCell' = true)
    (tA tB : TypeId) (kA kB : Nat) (hsa : w.shape? vb = some (tA, kA)) (hsb : w.shape? b = some (tB, kB)) (hkA : kA ≠ 0) (hfb : ∀ k, w.frozen? ⟨b, k, none⟩ = false) :
    Calls Tryz.prog 114 #[.slice (some ⟨b, off, none⟩) n c, .int .i64 i, .slice (some ⟨vb, voff, none⟩) m vc] w fun e w' =>
      e = .returned (.slice (some ⟨b, off, none⟩) (n + m) c) ∧ w' = (w.drew.setCells b (off + (i + m) * 3) (cs.drop (i * 3))).setCells b (off + i * 3) vs := by
  have tSL := tSL; have zEL := zEL; have t3 := t3
  have uSL := run_underlying tSL; have u3 := run_underlying t3
  have hz1 : ¬ ((m : Int) = 0) := by omega
  have hz2 : ¬ ((i : Int) = (n : Int)) := by omega
  have hov : ∀ lb cb, (callFunc 125 #[.slice (some ⟨vb, voff, none⟩) m vc, .slice (some ⟨b, off + (i + m) * 3, none⟩) lb cb]).run Tryz.prog w = .ok (.value (.bool false)) w := fun lb cb => by
    rw [run_callFunc_extern f125 (by kernel_rfl) (by kernel_rfl) (by kernel_rfl) (e := Extern.SlicesOverlaps.overlaps #[32, 32] #[4]) (by kernel_rfl),
      overlaps_rows w 32 4 58 tSL 3 zEL ⟨vb, voff, none⟩ ⟨b, off + (i + m) * 3, none⟩ m vc lb cb hvb tA tB kA kB hsa hkA hsb (hfb _) (hfb _)]
    rfl
  have hdl : (cs.drop (i * 3)).length = (n - i) * 3 := by rw [List.length_drop, hcl]; omega
  have mixed := mixed
  have hw1 : IntKind.i64.wrap ((i : Int) + (m : Int)) = (i : Int) + (m : Int) := by rw [IntKind.wrap_i64]; omega
  have hb1 : (0 : Int) ≤ (i : Int) + (m : Int) := by omega
  have hin : i ≤ n := by omega
  have htn : ((i : Int) + (m : Int)).toNat = i + m := by omega
  have hb2 : ¬ (c = i + m) := by omega
  have hb3 : (i : Int) ≤ (n : Int) + (m : Int) := by omega
  have hb4 : ¬ (c = i) := by omega
  have mn1 : Nat.min (n + m - i) (n + m - (i + m)) = n - i := by simp only [Nat.min_def]; split <;> omega
  have mn2 : Nat.min m (n + m - i) = m := by simp only [Nat.min_def]; split <;> omega
  have hcp1 : ∀ ty dc sc, (Builtin.copy_ #[32, 32] ty #[.slice (some ⟨b, off + (i + m) * 3, none⟩) (n + m - (i + m)) dc, .slice (some ⟨b, off + i * 3, none⟩) (n + m - i) sc]).run Tryz.prog w.drew = .ok (goInt (n - i : Nat)) (w.drew.setCells b (off + (i + m) * 3) (cs.drop (i * 3))) := fun ty dc sc => by
    have := run_copy_cellsK (P := Tryz.prog) w.drew 32 32 ty 58 3 b (off + (i + m) * 3) (n + m - (i + m)) dc ⟨b, off + i * 3, none⟩ (n + m - i) sc (cs.drop (i * 3)) tSL hsz (by rw [hdl, mn1])
      (fun j v hj => by rw [Addr.add_lit, Nat.add_assoc]; exact hcs (i * 3 + j) v (by rwa [List.getElem?_drop] at hj))
      (fun j hj => by rw [Nat.add_assoc]; exact hsp _ (by omega)) (fun j hj => by rw [Nat.add_assoc]; exact hfz _ (by omega)) (fun v hv => h1c v (List.mem_of_mem_drop hv))
    rw [mn1] at this
    exact this
  obtain ⟨W1, hW1⟩ : ∃ W1, W1 = w.drew.setCells b (off + (i + m) * 3) (cs.drop (i * 3)) := ⟨_, rfl⟩
  have hsp1 : ∀ k, k < (n + m) * 3 → (W1.cell? ⟨b, off + k, none⟩).isSome = true := fun k hk => by
    rw [hW1]
    exact isSome_setCells b _ _ _ (fun j hj => by rw [Nat.add_assoc]; exact hsp _ (by omega)) _ (hsp k hk)
  have hcp2 : ∀ (W : World), (∀ x, W.cell? x = W1.cell? x) → (∀ x, W.frozen? x = W1.frozen? x) → ∀ ty dc, (Builtin.copy_ #[32, 32] ty #[.slice (some ⟨b, off + i * 3, none⟩) (n + m - i) dc, .slice (some ⟨vb, voff, none⟩) m vc]).run Tryz.prog W = .ok (goInt m) (W.setCells b (off + i * 3) vs) := fun W hWc hWf ty dc => by
    have := run_copy_cellsK (P := Tryz.prog) W 32 32 ty 58 3 b (off + i * 3) (n + m - i) dc ⟨vb, voff, none⟩ m vc vs tSL hsz (by rw [hvl, mn2])
      (fun j v hj => by
        rw [Addr.add_lit, hWc, hW1, World.cell?_setCells_out b _ _ _ _ (fun h _ => absurd h hvb)]
        exact hvs j v hj)
      (fun j hj => by rw [hWc, Nat.add_assoc]; exact hsp1 _ (by omega)) (fun j hj => by rw [hWf, hW1, World.frozen?_setCells, Nat.add_assoc]; exact hfz _ (by omega)) h1v
    rw [mn2] at this
    exact this
  rw [← hW1] at hcp1
  go_enter Tryz.func114, Tryz.ntmps114
  go_wp2_with (simp only [hov])
  go_region_law_o (refine step_copy_runI rfl _ _ 32 32 rfl _ _ (by simp [Act.eval, Act.put]) (by simp [Act.eval, Act.put]) (hcp1 _ _ _) ?_)
  go_wp2_with (at_builtin; refine wpList_copy_runI _ rfl _ _ 32 32 rfl _ _ rfl rfl (hcp2 _ (fun _ => rfl) (fun _ => rfl) _ _) ?_)
  go_ret
  first | exact ⟨rfl, rfl⟩ | exact ⟨rfl, by rw [hW1]⟩
set_option maxHeartbeats 4000000 in
set_option maxRecDepth 100000 in
theorem end_room (b off n c vb voff m vc : Nat) (vs : List Value) (w : World) (hm : 0 < m) (hroom : n + m ≤ c) (hbig : (n + m) * 48 ≤ 140737488355328)
    (hvl : vs.length = m * 3) (hsp : ∀ j, j < m * 3 → (w.cell? ⟨b, off + n * 3 + j, none⟩).isSome = true) (hfz : ∀ j, j < m * 3 → w.frozen? ⟨b, off + n * 3 + j, none⟩ = false)
    (hvs : ∀ j v, vs[j]? = some v → w.cell? ⟨vb, voff + j, none⟩ = some v) (h1v : ∀ v ∈ vs, v.oneCell' = true) :
    Calls Tryz.prog 114 #[.slice (some ⟨b, off, none⟩) n c, .int .i64 n, .slice (some ⟨vb, voff, none⟩) m vc] w fun e w' =>
      e = .returned (.slice (some ⟨b, off, none⟩) (n + m) c) ∧ w' = w.setCells b (off + n * 3) vs := by
  have tSL := tSL; have zEL := zEL; have t3 := t3
  have uSL := run_underlying tSL; have u3 := run_underlying t3
  have mixed := mixed
  obtain ⟨i0, hi0, hz0, hzs, hzb⟩ := iEL
  have hz1 : ¬ ((m : Int) = 0) := by omega
  have hsrc : Src Tryz.prog i0.size 32 (.slice (some ⟨vb, voff, none⟩) m vc) m vs w := by
    rw [hzs]
    exact Src.ofSlice w tSL ⟨vb, voff, none⟩ m vc vs (by omega) (fun j u hj => by rw [Addr.add_lit]; exact hvs j u hj) h1v
  have hrun : ∀ ty, (Builtin.append_ #[32, 32] ty #[.slice (some ⟨b, off, none⟩) n c, .slice (some ⟨vb, voff, none⟩) m vc]).run Tryz.prog w = _ := fun ty =>
    run_append_room_src w 32 32 ty 58 i0 tSL hi0 b off n c _ m vs hsrc hroom (by rw [hzs, hvl]; exact hsp) (by rw [hzs, hvl]; exact hfz)
  rw [hzs] at hrun
  go_enter Tryz.func114, Tryz.ntmps114
  go_wp2_with (at_builtin; refine Lib.wpList_append_run _ rfl _ _ _ _ rfl _ _ rfl rfl _ _ (hrun _) ?_)
  go_ret
  exact ⟨rfl, rfl⟩
set_option maxHeartbeats 4000000 in
set_option maxRecDepth 100000 in
theorem end_grow (base : Option Addr) (n c vb voff m vc : Nat) (cs vs : List Value) (w : World) (hm : 0 < m) (hnc : n ≤ c) (hroom : c < n + m) (hbig : (n + m) * 48 ≤ 140737488355328)
    (hcl : cs.length = n * 3) (hvl : vs.length = m * 3) (hnil : base = none → n = 0)
    (hcs : ∀ a, base = some a → ∀ j v, cs[j]? = some v → w.cell? (a.add j) = some v)
    (hvs : ∀ j v, vs[j]? = some v → w.cell? ⟨vb, voff + j, none⟩ = some v) (h1v : ∀ v ∈ vs, v.oneCell' = true) :
    Calls Tryz.prog 114 #[.slice base n c, .int .i64 n, .slice (some ⟨vb, voff, none⟩) m vc] w fun e w' => ∃ Z : Array Value, Z.size = 3 ∧
      e = .returned (.slice (some ⟨w.heap.size, 0, none⟩) (n + m) (grownCap w (n + m) c 58)) ∧
      w' = w.drew.alloc (.cells ((cs ++ vs).toArray ++ Builtin.zeroCells Z (grownCap w (n + m) c 58 - (n + m))) 58) := by
  have tSL := tSL; have zEL := zEL; have t3 := t3
  have uSL := run_underlying tSL; have u3 := run_underlying t3
  have mixed := mixed
  obtain ⟨i0, hi0, hz0, hzs, hzb⟩ := iEL
  obtain ⟨z, hzz, hzc0⟩ : ∃ z, i0.zero = some z ∧ z.cells.size = 3 := by
    cases q : i0.zero with
    | none => rw [q] at hz0; cases hz0
    | some z =>
      rw [q] at hz0
      simp only [Option.map_some, Option.some.injEq] at hz0
      exact ⟨z, rfl, by rw [hz0]; rfl⟩
  have hz1 : ¬ ((m : Int) = 0) := by omega
  have hsrc : Src Tryz.prog i0.size 32 (.slice (some ⟨vb, voff, none⟩) m vc) m vs w := by
    rw [hzs]
    exact Src.ofSlice w tSL ⟨vb, voff, none⟩ m vc vs (by omega) (fun j u hj => by rw [Addr.add_lit]; exact hvs j u hj) h1v
  have hold : (Builtin.firstCells i0.size n (.slice base n c)).run Tryz.prog w.drew = .ok cs.toArray w.drew := by
    rw [hzs]
    cases base with
    | none =>
      have h0 := hnil rfl
      subst h0
      rw [show cs = [] from List.length_eq_zero_iff.1 (by omega)]
      exact run_firstCells_none w.drew 3 0 0 c
    | some a => exact run_firstCells_some w.drew 3 n a n c cs (by omega) (fun j v hj => hcs a rfl j v hj)
  have hrun0 : ∀ ty, (Builtin.append_ #[32, 32] ty #[.slice base n c, .slice (some ⟨vb, voff, none⟩) m vc]).run Tryz.prog w = _ := fun ty =>
    run_append_grow_src w 32 32 ty 58 i0 _ tSL hi0 hzz base n c cs hold _ m vs hsrc hroom (by omega) (by rw [hzb]; exact growslice_fits hroom hbig)
  obtain ⟨ZC, hzc, hrun⟩ : ∃ ZC : Array Value, ZC.size = 3 ∧ ∀ ty, (Builtin.append_ #[32, 32] ty #[.slice base n c, .slice (some ⟨vb, voff, none⟩) m vc]).run Tryz.prog w = .ok (.slice (some ⟨w.heap.size, 0, none⟩) (n + m) (grownCap w (n + m) c 58))
        (w.drew.alloc (.cells ((cs ++ vs).toArray ++ Builtin.zeroCells ZC (grownCap w (n + m) c 58 - (n + m))) 58)) := ⟨_, hzc0, hrun0⟩
  clear hrun0 hzz hzc0 z
  go_enter Tryz.func114, Tryz.ntmps114
  cases base with
  | none =>
    have h0 := hnil rfl
    subst h0
    go_wp2_with (at_builtin; refine Lib.wpList_append_run _ rfl _ _ _ _ rfl _ _ rfl rfl _ _ (hrun _) ?_)
    go_ret
    exact ⟨ZC, hzc, rfl, rfl⟩
  | some a =>
    obtain ⟨ab, ao, asp⟩ := a
    go_wp2_with (at_builtin; refine Lib.wpList_append_run _ rfl _ _ _ _ rfl _ _ rfl rfl _ _ (hrun _) ?_)
    all_goals (go_ret; exact ⟨ZC, hzc, rfl, rfl⟩)
set_option maxHeartbeats 4000000 in
set_option maxRecDepth 100000 in
theorem grow (b off n c i vb voff m vc : Nat) (cs vs : List Value) (w : World) (hi : i < n) (hm : 0 < m) (hnc : n ≤ c) (hroom : c < n + m) (hbig : (n + m) * 48 ≤ 140737488355328)
    (hcl : cs.length = n * 3) (hvl : vs.length = m * 3)
    (hcs : ∀ j v, cs[j]? = some v → w.cell? ⟨b, off + j, none⟩ = some v)
    (hvs : ∀ j v, vs[j]? = some v → w.cell? ⟨vb, voff + j, none⟩ = some v) (h1c : ∀ v ∈ cs, v.oneCell' = true) (h1v : ∀ v ∈ vs, v.oneCell' = true) :
    Calls Tryz.prog 114 #[.slice (some ⟨b, off, none⟩) n c, .int .i64 i, .slice (some ⟨vb, voff, none⟩) m vc] w fun e w' => ∃ Z : Array Value, Z.size = 3 ∧
      e = .returned (.slice (some ⟨w.heap.size, 0, none⟩) (n + m) (grownCap w (n + m) c 58)) ∧
      w' = (((w.alloc (.cells ((cs.take (i * 3)).toArray ++ Builtin.zeroCells Z (n + m - i) ++ Builtin.zeroCells Z (grownCap w (n + m) c 58 - (n + m))) 58)).drew.setCells w.heap.size (i * 3) vs).drew).setCells w.heap.size ((i + m) * 3) (cs.drop (i * 3)) := by
  have tSL := tSL; have zEL := zEL; have t3 := t3
  have uSL := run_underlying tSL; have u3 := run_underlying t3
  have mixed := mixed
  obtain ⟨i0, hi0, hz0, hzs, hzb⟩ := iEL
  obtain ⟨z, hzz, hzc0⟩ : ∃ z, i0.zero = some z ∧ z.cells.size = 3 := by
    cases q : i0.zero with
    | none => rw [q] at hz0; cases hz0
    | some z =>
      rw [q] at hz0
      simp only [Option.map_some, Option.some.injEq] at hz0
      exact ⟨z, rfl, by rw [hz0]; rfl⟩
  have hz1 : ¬ ((m : Int) = 0) := by omega
  have hz2 : ¬ ((i : Int) = (n : Int)) := by omega
  have hz3 : (c : Int) < (n : Int) + (m : Int) := by omega
  have hbw : b < w.heap.size := block_lt_of_cell (hcs 0 _ (List.getElem?_eq_getElem (by omega)))
  have hvw : vb < w.heap.size := block_lt_of_cell (hvs 0 _ (List.getElem?_eq_getElem (by omega)))
  have hkk : (n : Int) + (m : Int) - (i : Int) = ((n + m - i : Nat) : Int) := by omega
  have hik : i + (n + m - i) = n + m := by omega
  have hold : (Builtin.firstCells i0.size i (.slice (some ⟨b, off, none⟩) i c)).run Tryz.prog w.drew = .ok (cs.take (i * 3)).toArray w.drew := by
    rw [hzs]
    exact run_firstCells_some w.drew 3 i ⟨b, off, none⟩ i c (cs.take (i * 3)) (by rw [List.length_take]; omega) (fun j v hj => by
      rw [Addr.add_lit]
      rw [List.getElem?_take] at hj
      split at hj
      · exact hcs j v hj
      · cases hj)
  have hrz0 : ∀ ty, (Builtin.append_ #[32, 3] ty #[.slice (some ⟨b, off, none⟩) i c, .int .i64 ((n : Int) + (m : Int) - (i : Int))]).run Tryz.prog w =
      .ok (.slice (some ⟨w.heap.size, 0, none⟩) (n + m) (grownCap w (n + m) c 58)) (w.drew.alloc (.cells ((cs.take (i * 3)).toArray ++ Builtin.zeroCells z.cells (n + m - i) ++ Builtin.zeroCells z.cells (grownCap w (n + m) c 58 - (n + m))) 58)) := fun ty => by
    have h := Lib.run_append_grow_zeros w 32 3 ty 58 i0 _ .i64 .i64 tSL t3 hi0 hzz (some ⟨b, off, none⟩) i c (cs.take (i * 3)) hold (n + m - i) (by omega) (by omega) (by omega) (by omega) (by rw [hzb]; omega) (by rw [hzb, hik]; exact growslice_fits hroom hbig)
    rw [hik] at h
    rw [hkk]
    exact h
  obtain ⟨ZC, hzc, hrz⟩ : ∃ ZC : Array Value, ZC.size = 3 ∧ ∀ ty, (Builtin.append_ #[32, 3] ty #[.slice (some ⟨b, off, none⟩) i c, .int .i64 ((n : Int) + (m : Int) - (i : Int))]).run Tryz.prog w =
      .ok (.slice (some ⟨w.heap.size, 0, none⟩) (n + m) (grownCap w (n + m) c 58)) (w.drew.alloc (.cells ((cs.take (i * 3)).toArray ++ Builtin.zeroCells ZC (n + m - i) ++ Builtin.zeroCells ZC (grownCap w (n + m) c 58 - (n + m))) 58)) := ⟨_, hzc0, hrz0⟩
  clear hrz0 hzz hzc0 z
  refine Calls.mono (R := fun e w' => e = .returned (.slice (some ⟨w.heap.size, 0, none⟩) (n + m) (grownCap w (n + m) c 58)) ∧
      w' = (((w.alloc (.cells ((cs.take (i * 3)).toArray ++ Builtin.zeroCells ZC (n + m - i) ++ Builtin.zeroCells ZC (grownCap w (n + m) c 58 - (n + m))) 58)).drew.setCells w.heap.size (i * 3) vs).drew).setCells w.heap.size ((i + m) * 3) (cs.drop (i * 3))) ?_ fun e w' h => ⟨ZC, hzc, h⟩
  obtain ⟨G, hG⟩ : ∃ G, G = grownCap w (n + m) c 58 := ⟨_, rfl⟩
  obtain ⟨ROW, hROW⟩ : ∃ ROW : Array Value, ROW = (cs.take (i * 3)).toArray ++ Builtin.zeroCells ZC (n + m - i) ++ Builtin.zeroCells ZC (G - (n + m)) := ⟨_, rfl⟩
  rw [← hG] at hrz ⊢
  rw [← hROW] at hrz ⊢
  have hRl : (n + m) * 3 ≤ ROW.size := by
    rw [hROW]
    simp [Builtin.zeroCells, hzc]
    omega
  obtain ⟨W1, hW1⟩ : ∃ W1, W1 = w.drew.alloc (.cells ROW 58) := ⟨_, rfl⟩
  rw [← hW1] at hrz
  have hN : ∀ j, j < (n + m) * 3 → (W1.cell? ⟨w.heap.size, j, none⟩).isSome = true := fun j hj => by
    rw [hW1, World.cell?_alloc_at (w := w.drew) ROW _ w.heap.size j rfl, Array.getElem?_eq_getElem (by omega)]; rfl
  have hNf : ∀ j, W1.frozen? ⟨w.heap.size, j, none⟩ = false := fun j => by rw [hW1]; exact World.frozen?_alloc_at (w := w.drew) ROW _ w.heap.size j rfl
  have hOb : ∀ j v, w.cell? ⟨b, j, none⟩ = some v → W1.cell? ⟨b, j, none⟩ = some v := fun j v h => by rw [hW1, World.cell?_alloc_past (w := w.drew) _ b j hbw]; exact h
  have hOv : ∀ j v, w.cell? ⟨vb, j, none⟩ = some v → W1.cell? ⟨vb, j, none⟩ = some v := fun j v h => by rw [hW1, World.cell?_alloc_past (w := w.drew) _ vb j hvw]; exact h
  have mn1 : Nat.min m (n + m - i) = m := by simp only [Nat.min_def]; split <;> omega
  have mn2 : Nat.min (n - i) (n + m - (i + m)) = n - i := by simp only [Nat.min_def]; split <;> omega
  have hcpA : ∀ (W : World), (∀ x, W.cell? x = W1.cell? x) → (∀ x, W.frozen? x = W1.frozen? x) → ∀ ty dc, (Builtin.copy_ #[32, 32] ty #[.slice (some ⟨w.heap.size, i * 3, none⟩) (n + m - i) dc, .slice (some ⟨vb, voff, none⟩) m vc]).run Tryz.prog W = .ok (goInt m) (W.setCells w.heap.size (i * 3) vs) := fun W hWc hWf ty dc => by
    have := run_copy_cellsK (P := Tryz.prog) W 32 32 ty 58 3 w.heap.size (i * 3) (n + m - i) dc ⟨vb, voff, none⟩ m vc vs tSL hsz (by rw [hvl, mn1])
      (fun j v hj => by rw [Addr.add_lit, hWc]; exact hOv _ v (hvs j v hj))
      (fun j hj => by rw [hWc]; exact hN _ (by omega)) (fun j hj => by rw [hWf]; exact hNf _) h1v
    rw [mn1] at this
    exact this
  have hGn : n + m ≤ G := by rw [hG]; exact grownCap_ge w _ _ _
  have hG63 : G ≤ 9223372036854775807 := by
    have := grownCap_le_maxLen w (n + m) c 58 (by unfold maxLen; omega)
    rw [← hG] at this
    unfold maxLen at this
    omega
  have hGi : ¬ (G = i) := by omega
  have hGim : ¬ (G = i + m) := by omega
  have hci : ¬ (c = i) := by omega
  have hbN : b ≠ w.heap.size := by omega
  have hdl : (cs.drop (i * 3)).length = (n - i) * 3 := by rw [List.length_drop, hcl]; omega
  have hcpB : ∀ (W : World), (∀ x, W.cell? x = (W1.setCells w.heap.size (i * 3) vs).cell? x) → (∀ x, W.frozen? x = (W1.setCells w.heap.size (i * 3) vs).frozen? x) → ∀ ty dc sc, (Builtin.copy_ #[32, 32] ty #[.slice (some ⟨w.heap.size, (i + m) * 3, none⟩) (n + m - (i + m)) dc, .slice (some ⟨b, off + i * 3, none⟩) (n - i) sc]).run Tryz.prog W = .ok (goInt (n - i : Nat)) (W.setCells w.heap.size ((i + m) * 3) (cs.drop (i * 3))) := fun W hWc hWf ty dc sc => by
    have := run_copy_cellsK (P := Tryz.prog) W 32 32 ty 58 3 w.heap.size ((i + m) * 3) (n + m - (i + m)) dc ⟨b, off + i * 3, none⟩ (n - i) sc (cs.drop (i * 3)) tSL hsz (by rw [hdl, mn2])
      (fun j v hj => by
        rw [Addr.add_lit, hWc, World.cell?_setCells_out _ _ _ _ _ (fun h _ => absurd h hbN), Nat.add_assoc]
        exact hOb _ v (hcs (i * 3 + j) v (by rwa [List.getElem?_drop] at hj)))
      (fun j hj => by rw [hWc]; exact isSome_setCells _ _ _ _ (fun t ht => hN _ (by omega)) _ (hN _ (by omega)))
      (fun j hj => by rw [hWf, World.frozen?_setCells]; exact hNf _) (fun v hv => h1c v (List.mem_of_mem_drop hv))
    rw [mn2] at this
    exact this
  subst hW1
  have hE1 : ∀ x, ((w.alloc (.cells ROW 58)).drew).cell? x = (w.drew.alloc (.cells ROW 58)).cell? x := fun x => rfl
  have hE2 : ∀ x, ((w.alloc (.cells ROW 58)).drew).frozen? x = (w.drew.alloc (.cells ROW 58)).frozen? x := fun x => rfl
  have hF1 : ∀ x, (((w.alloc (.cells ROW 58)).drew.setCells w.heap.size (i * 3) vs).drew).cell? x = ((w.drew.alloc (.cells ROW 58)).setCells w.heap.size (i * 3) vs).cell? x := fun x => rfl
  have hF2 : ∀ x, (((w.alloc (.cells ROW 58)).drew.setCells w.heap.size (i * 3) vs).drew).frozen? x = ((w.drew.alloc (.cells ROW 58)).setCells w.heap.size (i * 3) vs).frozen? x := fun x => rfl
  have hw1 : IntKind.i64.wrap ((i : Int) + (m : Int)) = (i : Int) + (m : Int) := by rw [IntKind.wrap_i64]; omega
  have hb1 : (0 : Int) ≤ (i : Int) + (m : Int) := by omega
  have hin : i ≤ n := by omega
  have htn : ((i : Int) + (m : Int)).toNat = i + m := by omega
  have hb3 : (i : Int) ≤ (n : Int) := by omega
  clear hkk hik hold hROW hG hRl
  go_enter Tryz.func114, Tryz.ntmps114
  go_wp2_with (first
    | (at_builtin; refine Lib.wpList_append_run _ rfl _ _ _ _ rfl _ _ rfl rfl _ _ (hrz _) ?_)
    | (at_builtin; refine wpList_copy_runI _ rfl _ _ 32 32 rfl _ _ rfl rfl (hcpA _ hE1 hE2 _ _) ?_)
    | (at_builtin; refine wpList_copy_runI _ rfl _ _ 32 32 rfl _ _ rfl rfl (hcpB _ (fun _ => rfl) (fun _ => rfl) _ _ _) ?_))
  go_region_law_o (refine step_copy_runI rfl _ _ 32 32 rfl (.slice (some ⟨w.heap.size, (i + m) * 3, none⟩) (n + m - (i + m)) (G - (i + m))) (.slice (some ⟨b, off + i * 3, none⟩) (n - i) (c - i)) (by simp [Act.eval, Act.put]) (by simp [Act.eval, Act.put]) (hcpB _ hF1 hF2 3 (G - (i + m)) (c - i)) ?_)
  go_wp2
  go_ret
  exact ⟨rfl, rfl⟩
end InsT
end
section
open Go Go.PG Go.Proofs Go.RowKit
namespace InsT
theorem RowRep.takeN {Z : Nat → Prop} {w : World} {e : Ty} {xs : List e.D} {cs : List Value} (h : RowRep Z w e xs cs) (n : Nat) (hn : n ≤ xs.length) : RowRep Z w e (xs.take n) (cs.take (n * e.size)) := by
  have hl := h.1
  have hm := Nat.mul_le_mul_right e.size hn
  refine ⟨by rw [List.length_take, List.length_take, Nat.min_eq_left hn, Nat.min_eq_left (by omega)], fun i x hx => ?_⟩
  rw [List.getElem?_take] at hx
  split at hx
  case isFalse => cases hx
  rename_i hi
  obtain ⟨d, h1, h2⟩ := h.2 i x hx
  refine ⟨d, h1, fun j v hv => ?_⟩
  have hj : j < e.size := by rw [← h1.len]; exact (List.getElem?_eq_some_iff.1 hv).1
  have : (i + 1) * e.size ≤ n * e.size := Nat.mul_le_mul_right _ hi
  rw [Nat.add_mul] at this
  rw [List.getElem?_take, if_pos (by omega)]
  exact h2 j v hv
theorem RowRep.dropN {Z : Nat → Prop} {w : World} {e : Ty} {xs : List e.D} {cs : List Value} (h : RowRep Z w e xs cs) (n : Nat) : RowRep Z w e (xs.drop n) (cs.drop (n * e.size)) := by
  have hl := h.1
  refine ⟨by rw [List.length_drop, List.length_drop, hl, Nat.sub_mul], fun i x hx => ?_⟩
  rw [List.getElem?_drop] at hx
  obtain ⟨d, h1, h2⟩ := h.2 (n + i) x hx
  refine ⟨d, h1, fun j v hv => ?_⟩
  rw [List.getElem?_drop, ← Nat.add_assoc, ← Nat.add_mul]
  exact h2 j v hv
theorem rows_of {Z : Nat → Prop} {w : World} {e : Ty} (hpos : 0 < e.size) {xs : List e.D} {b o : Nat} {cells : Array Value} {el : TypeId} {fz : Nat × Nat} (hh : w.heap[b]? = some (.cells cells el fz)) (hfit : o + xs.length * e.size ≤ cells.size)
    (hx : ∀ i x, xs[i]? = some x → ∃ d, RepD Z w e x d ∧ Mem w b (o + i * e.size) d) :
    RowRep Z w e xs ((cells.toList.drop o).take (xs.length * e.size)) ∧ ∀ j v, ((cells.toList.drop o).take (xs.length * e.size))[j]? = some v → w.cell? ⟨b, o + j, none⟩ = some v := by
  have hcell : ∀ k, w.cell? ⟨b, k, none⟩ = cells[k]? := fun k => by simp [World.cell?, hh]
  have hcl : cells.toList.length = cells.size := Array.length_toList
  refine ⟨⟨by rw [List.length_take, List.length_drop, hcl]; omega, fun i x hi => ?_⟩, fun j v hv => ?_⟩
  · obtain ⟨d, h1, h2⟩ := hx i x hi
    refine ⟨d, h1, fun j v hv => ?_⟩
    have hj : j < e.size := by rw [← h1.len]; exact (List.getElem?_eq_some_iff.1 hv).1
    have hil := (List.getElem?_eq_some_iff.1 hi).1
    have : (i + 1) * e.size ≤ xs.length * e.size := Nat.mul_le_mul_right _ hil
    rw [Nat.add_mul] at this
    have h3 := h2 j v hv
    rw [hcell] at h3
    rw [List.getElem?_take, if_pos (by omega), List.getElem?_drop, Array.getElem?_toList, ← Nat.add_assoc]
    exact h3
  · rw [List.getElem?_take] at hv
    split at hv
    case isFalse => cases hv
    rw [List.getElem?_drop, Array.getElem?_toList] at hv
    rw [hcell]
    exact hv
theorem sets (b : Nat) : ∀ (vs : List Value) (o : Nat) (w : World), (w.setCells b o vs).os = w.os ∧ (w.setCells b o vs).tape = w.tape ∧ (w.setCells b o vs).output = w.output ∧ (w.setCells b o vs).heap.size = w.heap.size ∧
    (∀ k, k ≠ b → (w.setCells b o vs).heap[k]? = w.heap[k]?) ∧ ∀ c el fz, w.heap[b]? = some (.cells c el fz) → ∃ c', (w.setCells b o vs).heap[b]? = some (.cells c' el fz) ∧ c'.size = c.size := by
  intro vs
  induction vs with
  | nil => intro o w; exact ⟨rfl, rfl, rfl, rfl, fun _ _ => rfl, fun c el fz h => ⟨c, h, rfl⟩⟩
  | cons v vs ih =>
    intro o w
    obtain ⟨h1, h2, h3, h4, h5, h6⟩ := ih (o + 1) (w.setCell ⟨b, o, none⟩ v)
    refine ⟨h1, h2, h3, h4.trans (by simp [World.setCell]), fun k hk => (h5 k hk).trans ?_, fun c el fz h => ?_⟩
    · simp [World.setCell, Array.getElem?_modify, Ne.symm hk]
    · obtain ⟨c', q1, q2⟩ := h6 (c.setIfInBounds o v) el fz (by simp [World.setCell, Array.getElem?_modify, h])
      exact ⟨c', q1, by rw [q2]; simp⟩
theorem mem_of_row {Z : Nat → Prop} {w w' : World} {e : Ty} {xs : List e.D} {cs : List Value} (h : RowRep Z w e xs cs) {b o : Nat} (hc : ∀ k v, cs[k]? = some v → w'.cell? ⟨b, o + k, none⟩ = some v) :
    ∀ i x, xs[i]? = some x → ∃ d, RepD Z w e x d ∧ Mem w' b (o + i * e.size) d := by
  intro i x hx
  obtain ⟨d, h1, h2⟩ := h.2 i x hx
  exact ⟨d, h1, fun j v hv => by rw [Nat.add_assoc]; exact hc _ v (h2 j v hv)⟩
theorem ins_ok {G : World → Prop} {e : Ty} (he : e.size = 3) : InsOk Tryz.prog G 114 e 48 := by
  intro Z w A cap xs ys n vb vo vc _ hxc hn0 hnl hyl hbytes hxs hyc hys
  obtain ⟨i, rfl⟩ : ∃ i : Nat, n = i := ⟨n.toNat, by omega⟩
  have hin : i ≤ xs.length := by omega
  have hpos : 0 < e.size := by omega
  have hins : PG.P.insAt xs (i : Int) ys = xs.take i ++ ys ++ xs.drop i := rfl
  have hlen : (PG.P.insAt xs (i : Int) ys).length = xs.length + ys.length := by
    rw [hins]; simp [List.length_take, List.length_drop]; omega
  rw [hlen]
  obtain ⟨vcs, vel, fz, hvb, hvfit⟩ : ∃ vcs vel fz, w.heap[vb]? = some (.cells vcs vel fz) ∧ vo + ys.length * e.size ≤ vcs.size := by
    obtain ⟨d, h1, h2⟩ := hys (ys.length - 1) _ (List.getElem?_eq_getElem (by omega))
    have hd := h1.len
    have hc := h2 (e.size - 1) _ (List.getElem?_eq_getElem (by omega))
    unfold World.cell? at hc
    split at hc
    case h_2 => cases hc
    rename_i vcs vel fz hq
    simp only [Option.isSome_none, Bool.false_eq_true, if_false] at hc
    have hlt := (Array.getElem?_eq_some_iff.1 hc).1
    refine ⟨vcs, vel, fz, hq, ?_⟩
    have hm : ys.length * e.size = (ys.length - 1) * e.size + e.size := by
      obtain ⟨k, hk⟩ : ∃ k, ys.length = k + 1 := ⟨ys.length - 1, by omega⟩
      rw [hk, Nat.add_sub_cancel, Nat.add_mul, Nat.one_mul]
    omega
  obtain ⟨rv, cv⟩ := rows_of hpos hvb (by omega) hys
  generalize hVS : (vcs.toList.drop vo).take (ys.length * e.size) = VS at rv cv
  have hVl : VS.length = ys.length * 3 := by rw [rv.1, he]
  have h1v : ∀ v ∈ VS, v.oneCell' = true := rowrep_one hpos rv
  have hbig : (xs.length + ys.length) * 48 ≤ 140737488355328 := by omega
  have hvsz : 0 < vcs.size := by
    have : 1 * e.size ≤ ys.length * e.size := Nat.mul_le_mul_right _ hyl
    omega
  have hVc : RowRep Z w e ys VS := rv
  -- a new row
  have newrow : ∀ (w' : World) (G0 : Nat) (cs' : Array Value) (el' : TypeId), xs.length + ys.length ≤ G0 → w'.heap[w.heap.size]? = some (.cells cs' el' (0, 0)) → G0 * e.size ≤ cs'.size →
      (∀ j x, (xs.take i ++ ys ++ xs.drop i)[j]? = some x → ∃ d, RepD Z w e x d ∧ Mem w' w.heap.size (0 + j * e.size) d) → (∀ k, k < w.heap.size → w'.heap[k]? = w.heap[k]?) → w'.os = w.os ∧ w'.tape = w.tape ∧ w'.output = w.output ∧ w.heap.size ≤ w'.heap.size →
      ∃ b' o' cap' cs' el', Ending.returned (.slice (some ⟨w.heap.size, 0, none⟩) (xs.length + ys.length) G0) = .returned (.slice (some ⟨b', o', none⟩) (xs.length + ys.length) cap') ∧ xs.length + ys.length ≤ cap' ∧
        w'.heap[b']? = some (.cells cs' el' (0, 0)) ∧ o' + cap' * e.size ≤ cs'.size ∧ (∀ i_1 x, (PG.P.insAt xs (i : Int) ys)[i_1]? = some x → ∃ d, RepD Z w e x d ∧ Mem w' b' (o' + i_1 * e.size) d) ∧
        (w.heap.size ≤ b' ∨ cap ≠ 0 ∧ ∃ o, A = some ⟨b', o, none⟩) ∧ (∀ k, k < w.heap.size → (cap ≠ 0 → ∀ o, A ≠ some ⟨k, o, none⟩) → w'.heap[k]? = w.heap[k]?) ∧
        w'.os = w.os ∧ w'.tape = w.tape ∧ w'.output = w.output ∧ w.heap.size ≤ w'.heap.size := by
    intro w' G0 cs' el' h1 h2 h3 h4 h5 h6
    exact ⟨w.heap.size, 0, G0, cs', el', rfl, h1, h2, by omega, h4, .inl (Nat.le_refl _), fun k hk _ => h5 k hk, h6⟩
  -- at the end, no room
  have endGrow : ∀ (base : Option Addr) (CS : List Value), A = base → i = xs.length → cap < xs.length + ys.length → RowRep Z w e xs CS → (base = none → xs.length = 0) → (∀ a, base = some a → ∀ j v, CS[j]? = some v → w.cell? (a.add j) = some v) →
      Calls Tryz.prog 114 #[.slice A xs.length cap, .int .i64 i, .slice (some ⟨vb, vo, none⟩) ys.length vc] w fun e' w' => ∃ b' o' cap' cs' el', e' = .returned (.slice (some ⟨b', o', none⟩) (xs.length + ys.length) cap') ∧ xs.length + ys.length ≤ cap' ∧
        w'.heap[b']? = some (.cells cs' el' (0, 0)) ∧ o' + cap' * e.size ≤ cs'.size ∧ (∀ i_1 x, (PG.P.insAt xs (i : Int) ys)[i_1]? = some x → ∃ d, RepD Z w e x d ∧ Mem w' b' (o' + i_1 * e.size) d) ∧
        (w.heap.size ≤ b' ∨ cap ≠ 0 ∧ ∃ o, A = some ⟨b', o, none⟩) ∧ (∀ k, k < w.heap.size → (cap ≠ 0 → ∀ o, A ≠ some ⟨k, o, none⟩) → w'.heap[k]? = w.heap[k]?) ∧
        w'.os = w.os ∧ w'.tape = w.tape ∧ w'.output = w.output ∧ w.heap.size ≤ w'.heap.size := by
    intro base CS hA hi hroom hrow hnil hcs
    subst hA
    subst hi
    refine (end_grow A xs.length cap vb vo ys.length vc CS VS w hyl hxc hroom hbig (by rw [hrow.1, he]) hVl hnil hcs cv h1v).mono fun e' w' ⟨ZZ, hZ, h1, h2⟩ => ?_
    subst h1; subst h2
    refine newrow _ _ ((CS ++ VS).toArray ++ Builtin.zeroCells ZZ (grownCap w (xs.length + ys.length) cap 58 - (xs.length + ys.length))) 58 (grownCap_ge _ _ _ _) (alloc_get w.drew _) ?_ ?_ (fun k hk => alloc_old w.drew _ k hk) ⟨rfl, rfl, rfl, by rw [alloc_size]; exact Nat.le_succ _⟩
    · have hge := grownCap_ge w (xs.length + ys.length) cap 58
      simp only [Array.size_append, List.size_toArray, List.length_append, hrow.1, hVl, zeroCells_len, hZ, he]
      omega
    · rw [List.take_length, List.drop_length, List.append_nil]
      refine mem_of_row (hrow.append hVc) fun k v hv => ?_
      have hg : (w.drew.alloc (.cells ((CS ++ VS).toArray ++ Builtin.zeroCells ZZ (grownCap w (xs.length + ys.length) cap 58 - (xs.length + ys.length))) 58 (0, 0))).heap[w.heap.size]? = _ := alloc_get w.drew _
      have hk := (List.getElem?_eq_some_iff.1 hv).1
      simp only [World.cell?, hg, Option.isSome_none, Bool.false_eq_true, if_false, Nat.zero_add]
      rw [Array.getElem?_append_left (by simpa using hk)]
      simpa using hv
  rcases hxs with rfl | ⟨b, o, cells, el, rfl, hbv, hb, hfit, hxs⟩
  · have hx0 : xs = [] := List.length_eq_zero_iff.1 (by omega)
    have hi0 : i = 0 := by rw [hx0] at hin; simpa using hin
    subst hx0; subst hi0
    exact endGrow A [] rfl rfl (by simpa using hyl) ⟨by simp, fun i x hx => by simp at hx⟩ (fun _ => rfl) (fun a _ j v hj => by simp at hj)
  have hmulx : xs.length * e.size ≤ cap * e.size := Nat.mul_le_mul_right _ hxc
  obtain ⟨rx, cx'⟩ := rows_of hpos hb (by omega) hxs
  generalize hCS : (cells.toList.drop o).take (xs.length * e.size) = CS at rx cx'
  have hCl : CS.length = xs.length * 3 := by rw [rx.1, he]
  have h1c : ∀ v ∈ CS, v.oneCell' = true := rowrep_one hpos rx
  have hcell : ∀ k, w.cell? ⟨b, k, none⟩ = cells[k]? := fun k => by simp [World.cell?, hb]
  have fzb : ∀ k, w.frozen? ⟨b, k, none⟩ = false := fun k => by simp [World.frozen?, hb]
  have rtake : RowRep Z w e (xs.take i) (CS.take (i * 3)) := by have := RowRep.takeN rx i hin; rwa [he] at this
  have rdrop : RowRep Z w e (xs.drop i) (CS.drop (i * 3)) := by have := RowRep.dropN rx i; rwa [he] at this
  have rall := (rtake.append hVc).append rdrop
  have hdrop : (CS.drop (i * 3)).length = (xs.length - i) * 3 := by rw [List.length_drop, hCl]; omega
  have htake : (CS.take (i * 3)).length = i * 3 := by rw [List.length_take, hCl]; omega
  by_cases hroom : xs.length + ys.length ≤ cap
  · have hmr : (xs.length + ys.length) * e.size ≤ cap * e.size := Nat.mul_le_mul_right _ hroom
    rw [he] at hmr hfit
    have some_ : ∀ k, k < (xs.length + ys.length) * 3 → (w.cell? ⟨b, o + k, none⟩).isSome = true := fun k hk => by
      rw [hcell, Array.getElem?_eq_getElem (by omega)]; rfl
    have hc0 : cap ≠ 0 := by omega
    rcases Nat.lt_or_ge i xs.length with hi | hi
    · refine (shift b o xs.length cap i vb vo ys.length vc CS VS w hi hyl hroom hbig (Ne.symm hbv) hCl hVl cx' some_ (fun k _ => fzb _) cv h1c h1v vel el vcs.size cells.size (by simp [World.shape?, hvb]) (by simp [World.shape?, hb]) (by omega) (fun k => fzb k)).mono fun e' w' ⟨h1, h2⟩ => ?_
      subst h1; subst h2
      obtain ⟨p1, p2, p3, p4, p5, p6⟩ := sets b (CS.drop (i * 3)) (o + (i + ys.length) * 3) w.drew
      obtain ⟨q1, q2, q3, q4, q5, q6⟩ := sets b VS (o + i * 3) (w.drew.setCells b (o + (i + ys.length) * 3) (CS.drop (i * 3)))
      obtain ⟨c1, r1, r2⟩ := p6 cells el (0, 0) hb
      obtain ⟨c2, r3, r4⟩ := q6 c1 el (0, 0) r1
      have s1 : ∀ k, k < (xs.length + ys.length) * 3 → ((w.drew.setCells b (o + (i + ys.length) * 3) (CS.drop (i * 3))).cell? ⟨b, o + k, none⟩).isSome = true := fun k hk => by
        simp only [World.cell?, r1, Option.isSome_none, Bool.false_eq_true, if_false]
        rw [Array.getElem?_eq_getElem (by omega)]; rfl
      refine ⟨b, o, cap, c2, el, rfl, hroom, r3, by rw [r4, r2, he]; omega, ?_, .inr ⟨hc0, o, rfl⟩, fun k hk hA => (q5 k fun z => hA hc0 o (by rw [z])).trans (p5 k fun z => hA hc0 o (by rw [z])), q1.trans p1, q2.trans p2, q3.trans p3, by rw [q4, p4]; exact Nat.le_refl _⟩
      refine mem_of_row rall fun k v hv => ?_
      rcases Nat.lt_or_ge k (i * 3) with z1 | z1
      · rw [List.append_assoc, List.getElem?_append_left (by omega), List.getElem?_take, if_pos z1] at hv
        rw [World.cell?_setCells_out _ _ _ _ _ (fun _ _ => .inl (by show o + k < o + i * 3; omega)), World.cell?_setCells_out _ _ _ _ _ (fun _ _ => .inl (by show o + k < o + (i + ys.length) * 3; omega))]
        exact cx' k v hv
      · rw [List.append_assoc, List.getElem?_append_right (by omega), htake] at hv
        rcases Nat.lt_or_ge k ((i + ys.length) * 3) with z2 | z2
        · rw [List.getElem?_append_left (by omega)] at hv
          obtain ⟨hlt, hv⟩ := List.getElem?_eq_some_iff.1 hv
          have := World.cell?_setCells_in b VS (o + i * 3) (w.drew.setCells b (o + (i + ys.length) * 3) (CS.drop (i * 3))) (fun j hj => by rw [Nat.add_assoc]; exact s1 _ (by omega)) (k - i * 3) hlt
          rw [show o + i * 3 + (k - i * 3) = o + k by omega, hv] at this
          exact this
        · rw [List.getElem?_append_right (by omega), hVl] at hv
          obtain ⟨hlt, hv⟩ := List.getElem?_eq_some_iff.1 hv
          rw [World.cell?_setCells_out _ _ _ _ _ (fun _ _ => .inr (by show o + i * 3 + VS.length ≤ o + k; omega))]
          have := World.cell?_setCells_in b (CS.drop (i * 3)) (o + (i + ys.length) * 3) w.drew (fun j hj => by rw [Nat.add_assoc]; exact some_ _ (by omega)) (k - i * 3 - ys.length * 3) hlt
          rw [show o + (i + ys.length) * 3 + (k - i * 3 - ys.length * 3) = o + k by omega, hv] at this
          exact this
    · have hi : i = xs.length := by omega
      subst hi
      refine (end_room b o xs.length cap vb vo ys.length vc VS w hyl hroom hbig hVl (fun j hj => by rw [Nat.add_assoc]; exact some_ _ (by omega)) (fun k _ => fzb _) cv h1v).mono fun e' w' ⟨h1, h2⟩ => ?_
      subst h1; subst h2
      obtain ⟨q1, q2, q3, q4, q5, q6⟩ := sets b VS (o + xs.length * 3) w
      obtain ⟨c2, r3, r4⟩ := q6 cells el (0, 0) hb
      refine ⟨b, o, cap, c2, el, rfl, hroom, r3, by rw [r4, he]; omega, ?_, .inr ⟨hc0, o, rfl⟩, fun k hk hA => q5 k fun z => hA hc0 o (by rw [z]), q1, q2, q3, by rw [q4]; exact Nat.le_refl _⟩
      refine mem_of_row rall fun k v hv => ?_
      rcases Nat.lt_or_ge k (xs.length * 3) with z1 | z1
      · rw [List.append_assoc, List.getElem?_append_left (by omega), List.getElem?_take, if_pos z1] at hv
        rw [World.cell?_setCells_out _ _ _ _ _ (fun _ _ => .inl (by show o + k < o + xs.length * 3; omega))]
        exact cx' k v hv
      · rw [List.append_assoc, List.getElem?_append_right (by omega), htake] at hv
        have hlt := (List.getElem?_eq_some_iff.1 hv).1
        rw [List.length_append, hdrop, Nat.sub_self, Nat.zero_mul, Nat.add_zero] at hlt
        rw [List.getElem?_append_left hlt] at hv
        obtain ⟨hlt, hv⟩ := List.getElem?_eq_some_iff.1 hv
        have := World.cell?_setCells_in b VS (o + xs.length * 3) w (fun j hj => by rw [Nat.add_assoc]; exact some_ _ (by omega)) (k - xs.length * 3) hlt
        rw [show o + xs.length * 3 + (k - xs.length * 3) = o + k by omega, hv] at this
        exact this
  · have hroom : cap < xs.length + ys.length := by omega
    rcases Nat.lt_or_ge i xs.length with hi | hi
    · refine (grow b o xs.length cap i vb vo ys.length vc CS VS w hi hyl hxc hroom hbig hCl hVl cx' cv h1c h1v).mono fun e' w' ⟨ZZ, hZ, h1, h2⟩ => ?_
      subst h1
      have hge := grownCap_ge w (xs.length + ys.length) cap 58
      generalize grownCap w (xs.length + ys.length) cap 58 = GC at hge h2 ⊢
      obtain ⟨ROW, hROW⟩ : ∃ ROW : Array Value, ROW = (CS.take (i * 3)).toArray ++ Builtin.zeroCells ZZ (xs.length + ys.length - i) ++ Builtin.zeroCells ZZ (GC - (xs.length + ys.length)) := ⟨_, rfl⟩
      rw [← hROW] at h2
      have hRl : ROW.size = GC * 3 := by
        rw [hROW]
        simp only [Array.size_append, List.size_toArray, htake, zeroCells_len, hZ]
        omega
      have hRt : ∀ k, k < i * 3 → ROW[k]? = CS[k]? := fun k hk => by
        rw [hROW, Array.append_assoc, Array.getElem?_append_left (by simpa [htake] using hk)]
        simp [List.getElem?_take, hk]
      generalize hW0 : (w.alloc (.cells ROW 58 (0, 0))).drew = W0 at h2
      have g0 : W0.heap[w.heap.size]? = some (.cells ROW 58 (0, 0)) := by rw [← hW0]; exact alloc_get w _
      have g1 : ∀ k, k < w.heap.size → W0.heap[k]? = w.heap[k]? := fun k hk => by rw [← hW0]; exact alloc_old w _ k hk
      have g2 : W0.os = w.os ∧ W0.tape = w.tape ∧ W0.output = w.output ∧ W0.heap.size = w.heap.size + 1 := by rw [← hW0]; exact ⟨rfl, rfl, rfl, alloc_size w _⟩
      obtain ⟨p1, p2, p3, p4, p5, p6⟩ := sets w.heap.size VS (i * 3) W0
      generalize hW1 : (W0.setCells w.heap.size (i * 3) VS) = W1 at h2 p1 p2 p3 p4 p5 p6
      obtain ⟨q1, q2, q3, q4, q5, q6⟩ := sets w.heap.size (CS.drop (i * 3)) ((i + ys.length) * 3) W1.drew
      obtain ⟨c1, r1, r2⟩ := p6 ROW 58 (0, 0) g0
      obtain ⟨c2, r3, r4⟩ := q6 c1 58 (0, 0) r1
      subst h2
      refine newrow _ GC c2 58 hge r3 (by rw [r4, r2, hRl, he]; exact Nat.le_refl _) ?_ (fun k hk => (q5 k (by omega)).trans ((p5 k (by omega)).trans (g1 k hk)))
        ⟨q1.trans (p1.trans g2.1), q2.trans (p2.trans g2.2.1), q3.trans (p3.trans g2.2.2.1), by rw [q4]; show w.heap.size ≤ W1.heap.size; rw [p4, g2.2.2.2]; exact Nat.le_succ _⟩
      refine mem_of_row rall fun k v hv => ?_
      have s0 : ∀ k, k < GC * 3 → (W0.cell? ⟨w.heap.size, k, none⟩).isSome = true := fun k hk => by
        simp only [World.cell?, g0, Option.isSome_none, Bool.false_eq_true, if_false]
        rw [Array.getElem?_eq_getElem (by omega)]; rfl
      have s1 : ∀ k, k < GC * 3 → (W1.drew.cell? ⟨w.heap.size, k, none⟩).isSome = true := fun k hk => by
        have r1' : W1.drew.heap[w.heap.size]? = some (.cells c1 58 (0, 0)) := r1
        simp only [World.cell?, r1', Option.isSome_none, Bool.false_eq_true, if_false]
        rw [Array.getElem?_eq_getElem (by omega)]; rfl
      rw [Nat.zero_add]
      rcases Nat.lt_or_ge k (i * 3) with z1 | z1
      · rw [List.append_assoc, List.getElem?_append_left (by omega), List.getElem?_take, if_pos z1] at hv
        rw [World.cell?_setCells_out _ _ _ _ _ (fun _ _ => .inl (by show k < (i + ys.length) * 3; omega))]
        show W1.cell? _ = _
        rw [← hW1, World.cell?_setCells_out _ _ _ _ _ (fun _ _ => .inl z1)]
        simp only [World.cell?, g0, Option.isSome_none, Bool.false_eq_true, if_false]
        rw [hRt k z1]
        exact hv
      · rw [List.append_assoc, List.getElem?_append_right (by omega), htake] at hv
        rcases Nat.lt_or_ge k ((i + ys.length) * 3) with z2 | z2
        · rw [List.getElem?_append_left (by omega)] at hv
          obtain ⟨hlt, hv⟩ := List.getElem?_eq_some_iff.1 hv
          rw [World.cell?_setCells_out _ _ _ _ _ (fun _ _ => .inl z2)]
          show W1.cell? _ = _
          have := World.cell?_setCells_in w.heap.size VS (i * 3) W0 (fun j hj => s0 _ (by omega)) (k - i * 3) hlt
          rw [show i * 3 + (k - i * 3) = k by omega, hv, hW1] at this
          exact this
        · rw [List.getElem?_append_right (by omega), hVl] at hv
          obtain ⟨hlt, hv⟩ := List.getElem?_eq_some_iff.1 hv
          have := World.cell?_setCells_in w.heap.size (CS.drop (i * 3)) ((i + ys.length) * 3) W1.drew (fun j hj => s1 _ (by omega)) (k - i * 3 - ys.length * 3) hlt
          rw [show (i + ys.length) * 3 + (k - i * 3 - ys.length * 3) = k by omega, hv] at this
          exact this
    · have hi : i = xs.length := by omega
      exact endGrow _ CS rfl hi hroom rx (fun z => by cases z) (fun a ha j v hj => by injection ha with ha; subst ha; rw [Addr.add_lit]; exact cx' j v hj)
end InsT
end
section
open Go Go.PG Go.Proofs Go.RowKit Go.Lib
namespace DelB
open InsB (tSL zEL t3 mixed iEL hsz rows_of RowRep.takeN RowRep.dropN sets mem_of_row)
theorem f79 : Tryz.prog.funcs[79]? = some Tryz.f79 := by kernel_rfl
theorem run_clear_cellsK {P : Program} (w : World) (t e ty : TypeId) (z : Value) (ht : P.underlying t = some (.slice e)) (hv : ∀ w, (zeroValue e).run P w = .ok z w) (b o n c : Nat) (hn : 0 < n)
    (hc : ∀ j, j < (Builtin.zeroCells z.cells n).toList.length → (w.cell? ⟨b, o + j, none⟩).isSome = true) (hf : ∀ j, j < (Builtin.zeroCells z.cells n).toList.length → w.frozen? ⟨b, o + j, none⟩ = false) (h1 : ∀ v ∈ (Builtin.zeroCells z.cells n).toList, v.oneCell' = true) :
    (Builtin.clear_ #[t] ty #[.slice (some ⟨b, o, none⟩) n c]).run P w = .ok (.tuple #[]) (w.setCells b o (Builtin.zeroCells z.cells n).toList) := by
  have hst := run_storeCells_cells (P := P) b o (Builtin.zeroCells z.cells n).toList 0 w hc hf h1
  simp only [Nat.add_zero] at hst
  obtain ⟨m, rfl⟩ : ∃ m, n = m + 1 := ⟨n - 1, by omega⟩
  simp [Builtin.clear_, run_underlying ht, hv, hst]
set_option maxHeartbeats 4000000 in
set_option maxRecDepth 100000 in
theorem same (b off n c i : Nat) (w : World) (hi : i ≤ n) (hnc : n ≤ c) :
    Calls Tryz.prog 79 #[.slice (some ⟨b, off, none⟩) n c, .int .i64 i, .int .i64 i] w fun e w' => e = .returned (.slice (some ⟨b, off, none⟩) n c) ∧ w' = w := by
  have tSL := tSL; have zEL := zEL; have t3 := t3
  have uSL := run_underlying tSL; have u3 := run_underlying t3
  have mixed := mixed
  go_enter Tryz.func79, Tryz.ntmps79
  go_wp2
  all_goals (go_ret; exact ⟨rfl, rfl⟩)
set_option maxHeartbeats 4000000 in
set_option maxRecDepth 100000 in
theorem same0 (A : Option Addr) (w : World) :
    Calls Tryz.prog 79 #[.slice A 0 0, .int .i64 0, .int .i64 0] w fun e w' => e = .returned (.slice A 0 0) ∧ w' = w := by
  have tSL := tSL; have zEL := zEL; have t3 := t3
  have uSL := run_underlying tSL; have u3 := run_underlying t3
  have mixed := mixed
  cases A with
  | none =>
    go_enter Tryz.func79, Tryz.ntmps79
    go_wp2
    all_goals (go_ret; exact ⟨rfl, rfl⟩)
  | some a =>
    obtain ⟨ab, ao, asp⟩ := a
    go_enter Tryz.func79, Tryz.ntmps79
    go_wp2
    all_goals (go_ret; exact ⟨rfl, rfl⟩)
set_option maxHeartbeats 4000000 in
set_option maxRecDepth 100000 in
theorem del (b off n c i j : Nat) (cs : List Value) (w : World) (hij : i < j) (hjn : j ≤ n) (hnc : n ≤ c)
    (hcl : cs.length = n * 2) (hcs : ∀ t v, cs[t]? = some v → w.cell? ⟨b, off + t, none⟩ = some v) (hfz : ∀ t, t < n * 2 → w.frozen? ⟨b, off + t, none⟩ = false) (h1c : ∀ v ∈ cs, v.oneCell' = true) :
    Calls Tryz.prog 79 #[.slice (some ⟨b, off, none⟩) n c, .int .i64 i, .int .i64 j] w fun e w' => ∃ ZS : List Value,
      e = .returned (.slice (some ⟨b, off, none⟩) (i + (n - j)) c) ∧ w' = (w.drew.setCells b (off + i * 2) (cs.drop (j * 2))).setCells b (off + (i + (n - j)) * 2) ZS := by
  have tSL := tSL; have zEL := zEL; have t3 := t3
  have uSL := run_underlying tSL; have u3 := run_underlying t3
  have mixed := mixed
  obtain ⟨i0, hi0, hz0, hzs, hzb⟩ := iEL
  obtain ⟨z, hzz, hzc⟩ : ∃ z, i0.zero = some z ∧ z.cells = #[.string ⟨#[]⟩, .slice none 0 0] := by
    cases q : i0.zero with
    | none => rw [q] at hz0; cases hz0
    | some z =>
      rw [q] at hz0
      simp only [Option.map_some, Option.some.injEq] at hz0
      exact ⟨z, rfl, hz0⟩
  have hzv : ∀ w, (zeroValue 54).run Tryz.prog w = .ok z w := fun w => by simp [zeroValue, typeInfo, hi0, hzz]
  obtain ⟨news, hnews⟩ : ∃ news, news = cs.drop (j * 2) := ⟨_, rfl⟩
  have hlen : news.length = (n - j) * 2 := by rw [hnews, List.length_drop, hcl]; omega
  have hcell : ∀ t, t < n * 2 → (w.cell? ⟨b, off + t, none⟩).isSome = true := fun t ht => by
    rw [hcs t _ (List.getElem?_eq_getElem (by omega))]; rfl
  obtain ⟨A, hA, hsrc⟩ : ∃ A : Addr, (if c = j then some (⟨b, off, none⟩ : Addr) else some ⟨b, off + j * 2, none⟩) = some A ∧ Hid (∀ t u, news[t]? = some u → w.drew.cell? (A.add t) = some u) := by
    by_cases h : c = j
    · refine ⟨⟨b, off, none⟩, by simp [h], fun t u hu => ?_⟩
      have h0 : news.length = 0 := by rw [hlen]; omega
      rw [List.length_eq_zero_iff.1 h0] at hu
      simp at hu
    · refine ⟨⟨b, off + j * 2, none⟩, by simp [h], fun t u hu => ?_⟩
      rw [hnews, List.getElem?_drop] at hu
      rw [Addr.add_lit, Nat.add_assoc]
      exact hcs _ u hu
  have s1 : Hid (news.length = (n - j) * 2) := hlen
  have s2 : Hid (∀ u ∈ news, u.oneCell' = true) := by
    intro u hu
    rw [hnews] at hu
    exact h1c u (List.mem_of_mem_drop hu)
  have s3 : Hid (∀ t, t < news.length → (w.drew.cell? ⟨b, off + i * 2 + t, none⟩).isSome = true ∧ w.drew.frozen? ⟨b, off + i * 2 + t, none⟩ = false) := by
    intro t ht
    rw [hlen] at ht
    rw [Nat.add_assoc]
    exact ⟨hcell _ (by omega), hfz _ (by omega)⟩
  obtain ⟨W1, hW1⟩ : ∃ W1, W1 = w.drew.setCells b (off + i * 2) news := ⟨_, rfl⟩
  have hsp1 : ∀ k, k < n * 2 → (W1.cell? ⟨b, off + k, none⟩).isSome = true := fun k hk => by
    rw [hW1]
    exact isSome_setCells b _ _ _ (fun t ht => by rw [Nat.add_assoc]; exact hcell _ (by omega)) _ (hcell k hk)
  have hfz1 : ∀ k, k < n * 2 → W1.frozen? ⟨b, off + k, none⟩ = false := fun k hk => by
    rw [hW1, World.frozen?_setCells]; exact hfz k hk
  obtain ⟨ZS, hZS⟩ : ∃ ZS, ZS = (Builtin.zeroCells z.cells (n - (i + (n - j)))).toList := ⟨_, rfl⟩
  have hZl : ZS.length = (n - (i + (n - j))) * 2 := by rw [hZS, Array.length_toList, zeroCells_len, hzc]; rfl
  have hZ1 : ∀ v ∈ ZS, v.oneCell' = true := fun v hv => by
    rw [hZS, Array.mem_toList_iff, Builtin.zeroCells, Array.mem_map] at hv
    obtain ⟨k, hk0, rfl⟩ := hv
    have hall : ∀ u ∈ z.cells.toList, u.oneCell' = true := by rw [hzc]; decide
    have hpos : 0 < z.cells.size := by rw [hzc]; decide
    have : k % z.cells.size < z.cells.size := Nat.mod_lt _ hpos
    rw [getElem!_pos z.cells _ this]
    exact hall _ (Array.getElem_mem_toList this)
  have hcl : ∀ ty, (Builtin.clear_ #[22] ty #[.slice (some ⟨b, off + (i + (n - j)) * 2, none⟩) (n - (i + (n - j))) (c - (i + (n - j)))]).run Tryz.prog W1 = .ok (.tuple #[]) (W1.setCells b (off + (i + (n - j)) * 2) ZS) := fun ty => by
    rw [hZS]
    rw [hZS] at hZl hZ1
    exact run_clear_cellsK W1 22 54 ty z tSL hzv b _ _ _ (by omega) (fun t ht => by rw [hZl] at ht; rw [Nat.add_assoc]; exact hsp1 _ (by omega)) (fun t ht => by rw [hZl] at ht; rw [Nat.add_assoc]; exact hfz1 _ (by omega)) hZ1
  have hW : Hid (W1 = w.drew.setCells b (off + i * 2) news) := hW1
  have X : Hid (W1 = w.drew.setCells b (off + i * 2) (cs.drop (j * 2))) := by rw [← hnews]; exact hW1
  have hic : i ≤ c := by omega
  have hjc : j ≤ c := by omega
  have hin : i ≤ n := by omega
  have hz2 : ¬ ((i : Int) = (j : Int)) := by omega
  have hlc : ¬ (c = i + (n - j)) := by omega
  have hle : i + (n - j) ≤ n := by omega
  have hlec : i + (n - j) ≤ c := by omega
  refine Calls.mono (R := fun e w' => e = .returned (.slice (some ⟨b, off, none⟩) (i + (n - j)) c) ∧ w' = W1.setCells b (off + (i + (n - j)) * 2) ZS) ?_ fun e w' h => ⟨ZS, h.1, by rw [h.2, X.out]⟩
  clear hW1 hsp1 hfz1 hcell hnews hlen X hZS hZl hZ1 hzc hcs hfz h1c
  go_enter Tryz.func79, Tryz.ntmps79
  go_wp2_with fail
  go_region_law_o (refine step_append_room rfl (.tmp 22) (.tmp 25) 22 rfl 54 i0 2 tSL hi0 hzs b off i c (by simp [Act.eval, Act.put]) A (n - j) (c - j) news (by simp [Act.eval, Act.put]) s1.out hsrc.out s2.out (by omega) s3.out ?_; rw [← hW.out])
  go_wp2
  go_ret
  exact ⟨rfl, rfl⟩
end DelB
end
section
open Go Go.PG Go.Proofs Go.RowKit
namespace DelB
open InsB (rows_of RowRep.takeN RowRep.dropN sets mem_of_row)
set_option maxHeartbeats 1000000 in
theorem del_ok {G : World → Prop} {e : Ty} (he : e.size = 2) : DelOk Tryz.prog G 79 e := by
  intro Z w A cap xs i j _ hxc hi0 hij hjl hxs
  obtain ⟨i, rfl⟩ : ∃ n : Nat, i = n := ⟨i.toNat, by omega⟩
  obtain ⟨j, rfl⟩ : ∃ n : Nat, j = n := ⟨j.toNat, by omega⟩
  have hij : i ≤ j := by omega
  have hjl : j ≤ xs.length := by omega
  have hpos : 0 < e.size := by omega
  have hdel : PG.P.delAt xs (i : Int) (j : Int) = xs.take i ++ xs.drop j := rfl
  have hlen : (PG.P.delAt xs (i : Int) (j : Int)).length = i + (xs.length - j) := by
    rw [hdel]; simp [List.length_take, List.length_drop]; omega
  rw [hlen]
  by_cases hc0 : cap = 0
  · have hx0 : xs = [] := List.length_eq_zero_iff.1 (by omega)
    subst hx0
    simp only [List.length_nil, Nat.le_zero_eq] at hjl
    subst hjl
    have hi : i = 0 := by omega
    subst hi; subst hc0
    refine (same0 A w).mono fun e' w' ⟨h1, h2⟩ => ?_
    subst h1; subst h2
    exact ⟨rfl, fun _ _ _ => rfl, fun b o cs el z => absurd rfl z, rfl, rfl, rfl, Nat.le_refl _⟩
  · obtain ⟨b, o, cells, el, rfl, hb, hfit, hxs⟩ := hxs.resolve_left hc0
    have hmulx : xs.length * e.size ≤ cap * e.size := Nat.mul_le_mul_right _ hxc
    obtain ⟨rx, cx'⟩ := rows_of hpos hb (by omega) hxs
    generalize hCS : (cells.toList.drop o).take (xs.length * e.size) = CS at rx cx'
    have hCl : CS.length = xs.length * 2 := by rw [rx.1, he]
    have fzb : ∀ k, w.frozen? ⟨b, k, none⟩ = false := fun k => by simp [World.frozen?, hb]
    rcases Nat.lt_or_ge i j with hlt | hge
    · refine (del b o xs.length cap i j CS w hlt hjl hxc hCl cx' (fun k _ => fzb _) (rowrep_one hpos rx)).mono fun e' w' ⟨ZS, h1, h2⟩ => ?_
      subst h1; subst h2
      obtain ⟨p1, p2, p3, p4, p5, p6⟩ := sets b (CS.drop (j * 2)) (o + i * 2) w.drew
      obtain ⟨q1, q2, q3, q4, q5, q6⟩ := sets b ZS (o + (i + (xs.length - j)) * 2) (w.drew.setCells b (o + i * 2) (CS.drop (j * 2)))
      refine ⟨rfl, fun k hk hA => (q5 k fun z => hA hc0 o (by rw [z])).trans (p5 k fun z => hA hc0 o (by rw [z])), ?_, q1.trans p1, q2.trans p2, q3.trans p3, by rw [q4, p4]; exact Nat.le_refl _⟩
      intro b' o' cs' el' _ hA hb'
      injection hA with hA
      injection hA with hA1 hA2
      subst hA1; subst hA2
      rw [hb] at hb'
      injection hb' with hb'
      injection hb' with e1 e2 e3
      subst e1; subst e2
      obtain ⟨c1, r1, r2⟩ := p6 cells el (0, 0) hb
      obtain ⟨c2, r3, r4⟩ := q6 c1 el (0, 0) r1
      refine ⟨c2, r3, r4.trans r2, ?_⟩
      have rtake : RowRep Z w e (xs.take i) (CS.take (i * 2)) := by have := RowRep.takeN rx i (by omega); rwa [he] at this
      have rdrop : RowRep Z w e (xs.drop j) (CS.drop (j * 2)) := by have := RowRep.dropN rx j; rwa [he] at this
      have htake : (CS.take (i * 2)).length = i * 2 := by rw [List.length_take, hCl]; omega
      have hdrop : (CS.drop (j * 2)).length = (xs.length - j) * 2 := by rw [List.length_drop, hCl, ← Nat.sub_mul]
      rw [hdel]
      refine mem_of_row (rtake.append rdrop) fun k v hv => ?_
      have hkl := (List.getElem?_eq_some_iff.1 hv).1
      rw [List.length_append, htake, hdrop] at hkl
      rw [World.cell?_setCells_out _ _ _ _ _ (fun _ _ => .inl (by show o + k < o + (i + (xs.length - j)) * 2; omega))]
      rcases Nat.lt_or_ge k (i * 2) with z1 | z1
      · rw [List.getElem?_append_left (by omega), List.getElem?_take, if_pos z1] at hv
        rw [World.cell?_setCells_out _ _ _ _ _ (fun _ _ => .inl (by show o + k < o + i * 2; omega))]
        exact cx' k v hv
      · rw [List.getElem?_append_right (by omega), htake] at hv
        obtain ⟨hl, hv⟩ := List.getElem?_eq_some_iff.1 hv
        have := World.cell?_setCells_in b (CS.drop (j * 2)) (o + i * 2) w.drew (fun t ht => by
          rw [hdrop] at ht
          have : w.cell? ⟨b, o + (i * 2 + t), none⟩ = some _ := cx' (i * 2 + t) _ (List.getElem?_eq_getElem (by omega))
          rw [Nat.add_assoc]
          show (w.cell? _).isSome = true
          rw [this]; rfl) (k - i * 2) hl
        rw [show o + i * 2 + (k - i * 2) = o + k by omega, hv] at this
        exact this
    · have hi : i = j := by omega
      subst hi
      have hsame : i + (xs.length - i) = xs.length := by omega
      refine (same b o xs.length cap i w hjl hxc).mono fun e' w' ⟨h1, h2⟩ => ?_
      subst h1; subst h2
      rw [hsame]
      refine ⟨rfl, fun _ _ _ => rfl, fun b' o' cs' el' _ hA hb' => ?_, rfl, rfl, rfl, Nat.le_refl _⟩
      injection hA with hA
      injection hA with hA1 hA2
      subst hA1; subst hA2
      rw [hb] at hb'
      injection hb' with hb'
      injection hb' with e1 e2 e3
      subst e1; subst e2
      exact ⟨cells, hb, rfl, by rw [hdel, List.take_append_drop]; exact hxs⟩
end DelB
end
section
open Go Go.PG Go.Proofs Go.RowKit Go.Lib
namespace DelL
open InsL (tSL zEL t3 mixed iEL hsz rows_of RowRep.takeN RowRep.dropN sets mem_of_row)
theorem f87 : Tryz.prog.funcs[87]? = some Tryz.f87 := by kernel_rfl
theorem run_clear_cellsK {P : Program} (w : World) (t e ty : TypeId) (z : Value) (ht : P.underlying t = some (.slice e)) (hv : ∀ w, (zeroValue e).run P w = .ok z w) (b o n c : Nat) (hn : 0 < n)
    (hc : ∀ j, j < (Builtin.zeroCells z.cells n).toList.length → (w.cell? ⟨b, o + j, none⟩).isSome = true) (hf : ∀ j, j < (Builtin.zeroCells z.cells n).toList.length → w.frozen? ⟨b, o + j, none⟩ = false) (h1 : ∀ v ∈ (Builtin.zeroCells z.cells n).toList, v.oneCell' = true) :
    (Builtin.clear_ #[t] ty #[.slice (some ⟨b, o, none⟩) n c]).run P w = .ok (.tuple #[]) (w.setCells b o (Builtin.zeroCells z.cells n).toList) := by
  have hst := run_storeCells_cells (P := P) b o (Builtin.zeroCells z.cells n).toList 0 w hc hf h1
  simp only [Nat.add_zero] at hst
  obtain ⟨m, rfl⟩ : ∃ m, n = m + 1 := ⟨n - 1, by omega⟩
  simp [Builtin.clear_, run_underlying ht, hv, hst]
set_option maxHeartbeats 4000000 in
set_option maxRecDepth 100000 in
theorem same (b off n c i : Nat) (w : World) (hi : i ≤ n) (hnc : n ≤ c) :
    Calls Tryz.prog 87 #[.slice (some ⟨b, off, none⟩) n c, .int .i64 i, .int .i64 i] w fun e w' => e = .returned (.slice (some ⟨b, off, none⟩) n c) ∧ w' = w := by
  have tSL := tSL; have zEL := zEL; have t3 := t3
  have uSL := run_underlying tSL; have u3 := run_underlying t3
  have mixed := mixed
  go_enter Tryz.func87, Tryz.ntmps87
  go_wp2
  all_goals (go_ret; exact ⟨rfl, rfl⟩)
set_option maxHeartbeats 4000000 in
set_option maxRecDepth 100000 in
theorem same0 (A : Option Addr) (w : World) :
    Calls Tryz.prog 87 #[.slice A 0 0, .int .i64 0, .int .i64 0] w fun e w' => e = .returned (.slice A 0 0) ∧ w' = w := by
  have tSL := tSL; have zEL := zEL; have t3 := t3
  have uSL := run_underlying tSL; have u3 := run_underlying t3
  have mixed := mixed
  cases A with
  | none =>
    go_enter Tryz.func87, Tryz.ntmps87
    go_wp2
    all_goals (go_ret; exact ⟨rfl, rfl⟩)
  | some a =>
    obtain ⟨ab, ao, asp⟩ := a
    go_enter Tryz.func87, Tryz.ntmps87
    go_wp2
    all_goals (go_ret; exact ⟨rfl, rfl⟩)
set_option maxHeartbeats 4000000 in
set_option maxRecDepth 100000 in
theorem del (b off n c i j : Nat) (cs : List Value) (w : World) (hij : i < j) (hjn : j ≤ n) (hnc : n ≤ c)
    (hcl : cs.length = n * 4) (hcs : ∀ t v, cs[t]? = some v → w.cell? ⟨b, off + t, none⟩ = some v) (hfz : ∀ t, t < n * 4 → w.frozen? ⟨b, off + t, none⟩ = false) (h1c : ∀ v ∈ cs, v.oneCell' = true) :
    Calls Tryz.prog 87 #[.slice (some ⟨b, off, none⟩) n c, .int .i64 i, .int .i64 j] w fun e w' => ∃ ZS : List Value,
      e = .returned (.slice (some ⟨b, off, none⟩) (i + (n - j)) c) ∧ w' = (w.drew.setCells b (off + i * 4) (cs.drop (j * 4))).setCells b (off + (i + (n - j)) * 4) ZS := by
  have tSL := tSL; have zEL := zEL; have t3 := t3
  have uSL := run_underlying tSL; have u3 := run_underlying t3
  have mixed := mixed
  obtain ⟨i0, hi0, hz0, hzs, hzb⟩ := iEL
  obtain ⟨z, hzz, hzc⟩ : ∃ z, i0.zero = some z ∧ z.cells = #[.int .i64 0, .int .i64 0, .slice none 0 0, .slice none 0 0] := by
    cases q : i0.zero with
    | none => rw [q] at hz0; cases hz0
    | some z =>
      rw [q] at hz0
      simp only [Option.map_some, Option.some.injEq] at hz0
      exact ⟨z, rfl, hz0⟩
  have hzv : ∀ w, (zeroValue 46).run Tryz.prog w = .ok z w := fun w => by simp [zeroValue, typeInfo, hi0, hzz]
  obtain ⟨news, hnews⟩ : ∃ news, news = cs.drop (j * 4) := ⟨_, rfl⟩
  have hlen : news.length = (n - j) * 4 := by rw [hnews, List.length_drop, hcl]; omega
  have hcell : ∀ t, t < n * 4 → (w.cell? ⟨b, off + t, none⟩).isSome = true := fun t ht => by
    rw [hcs t _ (List.getElem?_eq_getElem (by omega))]; rfl
  obtain ⟨A, hA, hsrc⟩ : ∃ A : Addr, (if c = j then some (⟨b, off, none⟩ : Addr) else some ⟨b, off + j * 4, none⟩) = some A ∧ Hid (∀ t u, news[t]? = some u → w.drew.cell? (A.add t) = some u) := by
    by_cases h : c = j
    · refine ⟨⟨b, off, none⟩, by simp [h], fun t u hu => ?_⟩
      have h0 : news.length = 0 := by rw [hlen]; omega
      rw [List.length_eq_zero_iff.1 h0] at hu
      simp at hu
    · refine ⟨⟨b, off + j * 4, none⟩, by simp [h], fun t u hu => ?_⟩
      rw [hnews, List.getElem?_drop] at hu
      rw [Addr.add_lit, Nat.add_assoc]
      exact hcs _ u hu
  have s1 : Hid (news.length = (n - j) * 4) := hlen
  have s2 : Hid (∀ u ∈ news, u.oneCell' = true) := by
    intro u hu
    rw [hnews] at hu
    exact h1c u (List.mem_of_mem_drop hu)
  have s3 : Hid (∀ t, t < news.length → (w.drew.cell? ⟨b, off + i * 4 + t, none⟩).isSome = true ∧ w.drew.frozen? ⟨b, off + i * 4 + t, none⟩ = false) := by
    intro t ht
    rw [hlen] at ht
    rw [Nat.add_assoc]
    exact ⟨hcell _ (by omega), hfz _ (by omega)⟩
  obtain ⟨W1, hW1⟩ : ∃ W1, W1 = w.drew.setCells b (off + i * 4) news := ⟨_, rfl⟩
  have hsp1 : ∀ k, k < n * 4 → (W1.cell? ⟨b, off + k, none⟩).isSome = true := fun k hk => by
    rw [hW1]
    exact isSome_setCells b _ _ _ (fun t ht => by rw [Nat.add_assoc]; exact hcell _ (by omega)) _ (hcell k hk)
  have hfz1 : ∀ k, k < n * 4 → W1.frozen? ⟨b, off + k, none⟩ = false := fun k hk => by
    rw [hW1, World.frozen?_setCells]; exact hfz k hk
  obtain ⟨ZS, hZS⟩ : ∃ ZS, ZS = (Builtin.zeroCells z.cells (n - (i + (n - j)))).toList := ⟨_, rfl⟩
  have hZl : ZS.length = (n - (i + (n - j))) * 4 := by rw [hZS, Array.length_toList, zeroCells_len, hzc]; rfl
  have hZ1 : ∀ v ∈ ZS, v.oneCell' = true := fun v hv => by
    rw [hZS, Array.mem_toList_iff, Builtin.zeroCells, Array.mem_map] at hv
    obtain ⟨k, hk0, rfl⟩ := hv
    have hall : ∀ u ∈ z.cells.toList, u.oneCell' = true := by rw [hzc]; decide
    have hpos : 0 < z.cells.size := by rw [hzc]; decide
    have : k % z.cells.size < z.cells.size := Nat.mod_lt _ hpos
    rw [getElem!_pos z.cells _ this]
    exact hall _ (Array.getElem_mem_toList this)
  have hcl : ∀ ty, (Builtin.clear_ #[23] ty #[.slice (some ⟨b, off + (i + (n - j)) * 4, none⟩) (n - (i + (n - j))) (c - (i + (n - j)))]).run Tryz.prog W1 = .ok (.tuple #[]) (W1.setCells b (off + (i + (n - j)) * 4) ZS) := fun ty => by
    rw [hZS]
    rw [hZS] at hZl hZ1
    exact run_clear_cellsK W1 23 46 ty z tSL hzv b _ _ _ (by omega) (fun t ht => by rw [hZl] at ht; rw [Nat.add_assoc]; exact hsp1 _ (by omega)) (fun t ht => by rw [hZl] at ht; rw [Nat.add_assoc]; exact hfz1 _ (by omega)) hZ1
  have hW : Hid (W1 = w.drew.setCells b (off + i * 4) news) := hW1
  have X : Hid (W1 = w.drew.setCells b (off + i * 4) (cs.drop (j * 4))) := by rw [← hnews]; exact hW1
  have hic : i ≤ c := by omega
  have hjc : j ≤ c := by omega
  have hin : i ≤ n := by omega
  have hz2 : ¬ ((i : Int) = (j : Int)) := by omega
  have hlc : ¬ (c = i + (n - j)) := by omega
  have hle : i + (n - j) ≤ n := by omega
  have hlec : i + (n - j) ≤ c := by omega
  refine Calls.mono (R := fun e w' => e = .returned (.slice (some ⟨b, off, none⟩) (i + (n - j)) c) ∧ w' = W1.setCells b (off + (i + (n - j)) * 4) ZS) ?_ fun e w' h => ⟨ZS, h.1, by rw [h.2, X.out]⟩
  clear hW1 hsp1 hfz1 hcell hnews hlen X hZS hZl hZ1 hzc hcs hfz h1c
  go_enter Tryz.func87, Tryz.ntmps87
  go_wp2_with fail
  go_region_law_o (refine step_append_room rfl (.tmp 22) (.tmp 25) 23 rfl 46 i0 4 tSL hi0 hzs b off i c (by simp [Act.eval, Act.put]) A (n - j) (c - j) news (by simp [Act.eval, Act.put]) s1.out hsrc.out s2.out (by omega) s3.out ?_; rw [← hW.out])
  go_wp2
  go_ret
  exact ⟨rfl, rfl⟩
end DelL
end
section
open Go Go.PG Go.Proofs Go.RowKit
namespace DelL
open InsL (rows_of RowRep.takeN RowRep.dropN sets mem_of_row)
set_option maxHeartbeats 1000000 in
theorem del_ok {G : World → Prop} {e : Ty} (he : e.size = 4) : DelOk Tryz.prog G 87 e := by
  intro Z w A cap xs i j _ hxc hi0 hij hjl hxs
  obtain ⟨i, rfl⟩ : ∃ n : Nat, i = n := ⟨i.toNat, by omega⟩
  obtain ⟨j, rfl⟩ : ∃ n : Nat, j = n := ⟨j.toNat, by omega⟩
  have hij : i ≤ j := by omega
  have hjl : j ≤ xs.length := by omega
  have hpos : 0 < e.size := by omega
  have hdel : PG.P.delAt xs (i : Int) (j : Int) = xs.take i ++ xs.drop j := rfl
  have hlen : (PG.P.delAt xs (i : Int) (j : Int)).length = i + (xs.length - j) := by
    rw [hdel]; simp [List.length_take, List.length_drop]; omega
  rw [hlen]
  by_cases hc0 : cap = 0
  · have hx0 : xs = [] := List.length_eq_zero_iff.1 (by omega)
    subst hx0
    simp only [List.length_nil, Nat.le_zero_eq] at hjl
    subst hjl
    have hi : i = 0 := by omega
    subst hi; subst hc0
    refine (same0 A w).mono fun e' w' ⟨h1, h2⟩ => ?_
    subst h1; subst h2
    exact ⟨rfl, fun _ _ _ => rfl, fun b o cs el z => absurd rfl z, rfl, rfl, rfl, Nat.le_refl _⟩
  · obtain ⟨b, o, cells, el, rfl, hb, hfit, hxs⟩ := hxs.resolve_left hc0
    have hmulx : xs.length * e.size ≤ cap * e.size := Nat.mul_le_mul_right _ hxc
    obtain ⟨rx, cx'⟩ := rows_of hpos hb (by omega) hxs
    generalize hCS : (cells.toList.drop o).take (xs.length * e.size) = CS at rx cx'
    have hCl : CS.length = xs.length * 4 := by rw [rx.1, he]
    have fzb : ∀ k, w.frozen? ⟨b, k, none⟩ = false := fun k => by simp [World.frozen?, hb]
    rcases Nat.lt_or_ge i j with hlt | hge
    · refine (del b o xs.length cap i j CS w hlt hjl hxc hCl cx' (fun k _ => fzb _) (rowrep_one hpos rx)).mono fun e' w' ⟨ZS, h1, h2⟩ => ?_
      subst h1; subst h2
      obtain ⟨p1, p2, p3, p4, p5, p6⟩ := sets b (CS.drop (j * 4)) (o + i * 4) w.drew
      obtain ⟨q1, q2, q3, q4, q5, q6⟩ := sets b ZS (o + (i + (xs.length - j)) * 4) (w.drew.setCells b (o + i * 4) (CS.drop (j * 4)))
      refine ⟨rfl, fun k hk hA => (q5 k fun z => hA hc0 o (by rw [z])).trans (p5 k fun z => hA hc0 o (by rw [z])), ?_, q1.trans p1, q2.trans p2, q3.trans p3, by rw [q4, p4]; exact Nat.le_refl _⟩
      intro b' o' cs' el' _ hA hb'
      injection hA with hA
      injection hA with hA1 hA2
      subst hA1; subst hA2
      rw [hb] at hb'
      injection hb' with hb'
      injection hb' with e1 e2 e3
      subst e1; subst e2
      obtain ⟨c1, r1, r2⟩ := p6 cells el (0, 0) hb
      obtain ⟨c2, r3, r4⟩ := q6 c1 el (0, 0) r1
      refine ⟨c2, r3, r4.trans r2, ?_⟩
      have rtake : RowRep Z w e (xs.take i) (CS.take (i * 4)) := by have := RowRep.takeN rx i (by omega); rwa [he] at this
      have rdrop : RowRep Z w e (xs.drop j) (CS.drop (j * 4)) := by have := RowRep.dropN rx j; rwa [he] at this
      have htake : (CS.take (i * 4)).length = i * 4 := by rw [List.length_take, hCl]; omega
      have hdrop : (CS.drop (j * 4)).length = (xs.length - j) * 4 := by rw [List.length_drop, hCl, ← Nat.sub_mul]
      rw [hdel]
      refine mem_of_row (rtake.append rdrop) fun k v hv => ?_
      have hkl := (List.getElem?_eq_some_iff.1 hv).1
      rw [List.length_append, htake, hdrop] at hkl
      rw [World.cell?_setCells_out _ _ _ _ _ (fun _ _ => .inl (by show o + k < o + (i + (xs.length - j)) * 4; omega))]
      rcases Nat.lt_or_ge k (i * 4) with z1 | z1
      · rw [List.getElem?_append_left (by omega), List.getElem?_take, if_pos z1] at hv
        rw [World.cell?_setCells_out _ _ _ _ _ (fun _ _ => .inl (by show o + k < o + i * 4; omega))]
        exact cx' k v hv
      · rw [List.getElem?_append_right (by omega), htake] at hv
        obtain ⟨hl, hv⟩ := List.getElem?_eq_some_iff.1 hv
        have := World.cell?_setCells_in b (CS.drop (j * 4)) (o + i * 4) w.drew (fun t ht => by
          rw [hdrop] at ht
          have : w.cell? ⟨b, o + (i * 4 + t), none⟩ = some _ := cx' (i * 4 + t) _ (List.getElem?_eq_getElem (by omega))
          rw [Nat.add_assoc]
          show (w.cell? _).isSome = true
          rw [this]; rfl) (k - i * 4) hl
        rw [show o + i * 4 + (k - i * 4) = o + k by omega, hv] at this
        exact this
    · have hi : i = j := by omega
      subst hi
      have hsame : i + (xs.length - i) = xs.length := by omega
      refine (same b o xs.length cap i w hjl hxc).mono fun e' w' ⟨h1, h2⟩ => ?_
      subst h1; subst h2
      rw [hsame]
      refine ⟨rfl, fun _ _ _ => rfl, fun b' o' cs' el' _ hA hb' => ?_, rfl, rfl, rfl, Nat.le_refl _⟩
      injection hA with hA
      injection hA with hA1 hA2
      subst hA1; subst hA2
      rw [hb] at hb'
      injection hb' with hb'
      injection hb' with e1 e2 e3
      subst e1; subst e2
      exact ⟨cells, hb, rfl, by rw [hdel, List.take_append_drop]; exact hxs⟩
end DelL
end
section
open Go Go.Proofs Go.Lib Go.RowKit
namespace Go.Proofs
open Go.Shelf
def Tryz.sortL_ren : Go.Shelf.Ren := ⟨fun | 6 => 99 | 15 => 120 | 14 => 119 | 28 => 137 | 29 => 138 | 20 => 129 | 21 => 130 | 22 => 131 | 23 => 132 | 24 => 133 | 25 => 134 | 26 => 135 | 27 => 136 | 46 => 145 | 47 => 146 | 48 => 147 | 49 => 148 | 50 => 149 | 57 => 155 | n => n, fun | 22 => 33 | 24 => 27 | 25 => 63 | 3 => 3 | 39 => 130 | 0 => 0 | 53 => 142 | 55 => 115 | 4 => 4 | 46 => 136 | 45 => 135 | 50 => 97 | 5 => 5 | 9 => 9 | 66 => 148 | 70 => 152 | 76 => 159 | 77 => 160 | n => n, fun | n => n⟩
theorem Tryz.sortL : Go.Proofs.SlLaysF0.n6 Tryz.prog Tryz.sortL_ren := {
  mixed := by kernel_rfl
  f6 := ⟨Tryz.f99.name, by decide, Tryz.func99.trans (congrArg some (by kernel_rfl))⟩
  f14 := ⟨Tryz.f119.name, by decide, Tryz.func119.trans (congrArg some (by kernel_rfl))⟩
  f15 := Tryz.func120.trans (congrArg some (by kernel_rfl))
  f20 := ⟨Tryz.f129.name, by decide, Tryz.func129.trans (congrArg some (by kernel_rfl))⟩
  f21 := ⟨Tryz.f130.name, by decide, Tryz.func130.trans (congrArg some (by kernel_rfl))⟩
  f22 := ⟨Tryz.f131.name, by decide, Tryz.func131.trans (congrArg some (by kernel_rfl))⟩
  f23 := ⟨Tryz.f132.name, by decide, Tryz.func132.trans (congrArg some (by kernel_rfl))⟩
  f24 := ⟨Tryz.f133.name, by decide, Tryz.func133.trans (congrArg some (by kernel_rfl))⟩
  f25 := ⟨Tryz.f134.name, by decide, Tryz.func134.trans (congrArg some (by kernel_rfl))⟩
  f26 := ⟨Tryz.f135.name, by decide, Tryz.func135.trans (congrArg some (by kernel_rfl))⟩
  f27 := ⟨Tryz.f136.name, by decide, Tryz.func136.trans (congrArg some (by kernel_rfl))⟩
  f28 := Tryz.func137.trans (congrArg some (by kernel_rfl))
  f29 := Tryz.func138.trans (congrArg some (by kernel_rfl))
  f46 := ⟨Tryz.f145.name, by decide, Tryz.func145.trans (congrArg some (by kernel_rfl))⟩
  f47 := Tryz.func146.trans (congrArg some (by kernel_rfl))
  f48 := Tryz.func147.trans (congrArg some (by kernel_rfl))
  f49 := ⟨Tryz.f148.name, by decide, Tryz.func148.trans (congrArg some (by kernel_rfl))⟩
  f50 := ⟨Tryz.f149.name, by decide, Tryz.func149.trans (congrArg some (by kernel_rfl))⟩
  f57 := ⟨Tryz.f155.name, by decide, Tryz.func155.trans (congrArg some (by kernel_rfl))⟩
  t0 := Tryz.underlying0
  a0 := Tryz.isAgg0
  z0 := Tryz.sizeOf0
  v0 := Tryz.zeroValue0
  t3 := Tryz.underlying3
  a3 := Tryz.isAgg3
  z3 := Tryz.sizeOf3
  v3 := Tryz.zeroValue3
  t4 := Tryz.underlying4
  a4 := Tryz.isAgg4
  z4 := Tryz.sizeOf4
  v4 := Tryz.zeroValue4
  t5 := Tryz.underlying5
  a5 := Tryz.isAgg5
  z5 := Tryz.sizeOf5
  v5 := Tryz.zeroValue5
  t9 := Tryz.underlying9
  a9 := Tryz.isAgg9
  z9 := Tryz.sizeOf9
  v9 := Tryz.zeroValue9
  t22 := Tryz.underlying33
  a22 := Tryz.isAgg33
  z22 := Tryz.sizeOf33
  v22 := Tryz.zeroValue33
  t25 := Tryz.underlying63
  a25 := Tryz.isAgg63
  z25 := Tryz.sizeOf63
  v25 := Tryz.zeroValue63
  t39 := Tryz.underlying130
  a39 := Tryz.isAgg130
  z39 := Tryz.sizeOf130
  v39 := Tryz.zeroValue130
  t45 := Tryz.underlying135
  a45 := Tryz.isAgg135
  z45 := Tryz.sizeOf135
  v45 := Tryz.zeroValue135
  t46 := Tryz.underlying136
  a46 := Tryz.isAgg136
  z46 := Tryz.sizeOf136
  v46 := Tryz.zeroValue136
  t50 := Tryz.underlying97
  a50 := Tryz.isAgg97
  z50 := Tryz.sizeOf97
  v50 := Tryz.zeroValue97
  t53 := Tryz.underlying142
  a53 := Tryz.isAgg142
  z53 := Tryz.sizeOf142
  v53 := Tryz.zeroValue142
  t55 := Tryz.underlying115
  a55 := Tryz.isAgg115
  z55 := Tryz.sizeOf115
  v55 := Tryz.zeroValue115
  t66 := Tryz.underlying148
  a66 := Tryz.isAgg148
  z66 := Tryz.sizeOf148
  v66 := Tryz.zeroValue148
  t70 := Tryz.underlying152
  a70 := Tryz.isAgg152
  z70 := Tryz.sizeOf152
  v70 := Tryz.zeroValue152
  t76 := Tryz.underlying159
  a76 := Tryz.isAgg159
  z76 := Tryz.sizeOf159
  v76 := Tryz.zeroValue159
  t77 := Tryz.underlying160
  a77 := Tryz.isAgg160
  z77 := Tryz.sizeOf160
  v77 := Tryz.zeroValue160 }
end Go.Proofs
namespace SortW
theorem nan_c (x : Int) (w : World) : Calls Tryz.prog 101 #[.int .i64 x] w fun e w' => e = .returned (.bool false) ∧ w' = w := by
  go_enter Tryz.func101, Tryz.ntmps101
  go_wp2
  go_ret
  exact ⟨by simp, rfl⟩
theorem cmp_c (x y : Int) (w : World) : Calls Tryz.prog 69 #[.int .i64 x, .int .i64 y] w fun e w' => e = .returned (.int .i64 (Lib.compareInt x y)) ∧ w' = w := by
  go_enter Tryz.func69, Tryz.ntmps69
  go_wp2_with (go_at_call 101; refine (nan_c _ _).mono ?_; rintro e w' ⟨rfl, hw⟩; rw [hw])
  all_goals (go_ret; refine ⟨?_, rfl⟩; unfold Lib.compareInt; (repeat' split) <;> first | rfl | (exfalso; omega))
def orI (x y : Int) : Int := if x = 0 then y else x
theorem or_c (b cap : Nat) (x y : Int) (w : World) (h0 : w.cell? ⟨b, 0, none⟩ = some (.int .i64 x)) (h1 : w.cell? ⟨b, 1, none⟩ = some (.int .i64 y)) :
    Calls Tryz.prog 68 #[.slice (some ⟨b, 0, none⟩) 2 cap] w fun e w' => e = .returned (.int .i64 (orI x y)) ∧ w' = w := by
  unfold orI
  go_enter Tryz.func68, Tryz.ntmps68
  go_wp2
  refine wp_loop_rounds 3 ?_
  rw [rounds_succ]
  go_wp2
  · exact absurd ‹x = 0› (by simpa using ‹(x != 0) = true›)
  · go_ret
    exact ⟨rfl, rfl⟩
  have hx : x = 0 := by simpa using ‹(x != 0) = false›
  subst hx
  rw [rounds_succ]
  go_wp2
  · go_ret
    exact ⟨rfl, rfl⟩
  have hy : y = 0 := by simpa using ‹(y != 0) = false›
  subst hy
  rw [rounds_succ]
  go_wp2
  go_ret
  exact ⟨rfl, rfl⟩
theorem cell_new (W : World) (x y : Value) (T : TypeId) (n : Nat) (hn : n = W.heap.size) : (W.alloc (.cells #[x, y] T)).drew.cell? ⟨n, 0, none⟩ = some x ∧ (W.alloc (.cells #[x, y] T)).drew.cell? ⟨n, 1, none⟩ = some y := by
  subst hn
  constructor <;> simp
theorem three (w : World) (o1 o2 o3 : Obj) : ∃ q os', (((w.alloc o1).alloc o2).alloc o3).drew = Sort.grow (w.drewN q) os' := by
  refine ⟨1, #[o1] ++ #[o2] ++ #[o3], ?_⟩
  rw [Sort.alloc_eq_grow, Sort.alloc_eq_grow, Sort.alloc_eq_grow, Sort.grow_grow, Sort.grow_grow]
  rfl
def cf (a b : Int × Int) : Int := orI (Lib.compareInt a.1 b.1) (Lib.compareInt a.2 b.2)
def enc (a : Int × Int) : List Value := [.int .i64 a.1, .int .i64 a.2]
theorem at_c (a b : Int × Int) (w : World) : Calls Tryz.prog 42 #[.agg #[.int .i64 a.1, .int .i64 a.2], .agg #[.int .i64 b.1, .int .i64 b.2]] w fun e w' => e = .returned (.int .i64 (cf a b)) ∧ ∃ q os', w' = Sort.grow (w.drewN q) os' := by
  go_enter Tryz.func42, Tryz.ntmps42
  go_wp2
  go_region_held3 (fun w' => w'.cell? ⟨w.heap.size, 0, none⟩ = some (.int .i64 a.1) ∧ w'.cell? ⟨w.heap.size, 1, none⟩ = some (.int .i64 a.2) ∧ w'.cell? ⟨w.heap.size + 1, 0, none⟩ = some (.int .i64 b.1) ∧ w'.cell? ⟨w.heap.size + 1, 1, none⟩ = some (.int .i64 b.2)) (go_keep)
    (first | (go_at_call 69; refine (cmp_c _ _ _).mono ?_; rintro e w' ⟨rfl, rfl⟩) | (go_at_call 68; go_must (refine (or_c _ _ (compareInt a.1 b.1) (compareInt a.2 b.2) _ (cell_new _ _ _ _ _ (by simp)).1 (cell_new _ _ _ _ _ (by simp)).2).mono ?_); rintro e w' ⟨rfl, rfl⟩))
  all_goals go_wp2
  go_ret
  exact ⟨rfl, three _ _ _ _⟩
theorem ins_nil (p : Option Addr) (cap : Nat) (w : World) : Calls Tryz.prog 129 #[.slice p 0 cap, .int .i64 0, .int .i64 0, .func (.func 42) #[] #[]] w fun e w' => e = .returned (.tuple #[]) ∧ w' = w := by
  go_enter Tryz.func129, Tryz.ntmps129
  go_wp2
  refine wp_loop_rounds 1 ?_
  rw [rounds_succ]
  go_wp2
  go_end0
  exact ⟨rfl, rfl⟩
set_option maxRecDepth 100000 in
theorem pdq_nil (p : Option Addr) (cap : Nat) (w : World) : Calls Tryz.prog 119 #[.slice p 0 cap, .int .i64 0, .int .i64 0, .int .i64 0, .func (.func 42) #[] #[]] w fun e w' => e = .returned (.tuple #[]) ∧ w' = w := by
  go_enter Tryz.func119, Tryz.ntmps119
  go_wp2
  refine wp_loop_rounds 1 ?_
  rw [rounds_succ]
  go_wp2_with (first | (go_at_call 129; refine (ins_nil p cap _).mono ?_; rintro e w' ⟨rfl, rfl⟩))
  refine bodyPost_ret (results_none rfl _ _ _) rfl ?_
  exact ⟨rfl, rfl⟩
theorem sort_nil (p : Option Addr) (cap : Nat) (w : World) : Calls Tryz.prog 99 #[.slice p 0 cap, .func (.func 42) #[] #[]] w fun e w' => e = .returned (.tuple #[]) ∧ w' = w := by
  have hLen : ∀ w, Calls Tryz.prog 120 #[.int .u64 0] w fun e w' => e = .returned (.int .i64 0) ∧ w' = w := fun w => Any.bits_Len (SlLaysF0.n15.bits (P := Tryz.prog) (ρ := Tryz.sortL_ren) { Tryz.sortL with }) 0 w (by omega) (by omega)
  go_enter Tryz.func99, Tryz.ntmps99
  go_wp2_with (first
    | (go_at_call 120; refine (hLen _).mono ?_; rintro e w' ⟨rfl, rfl⟩)
    | (go_at_call 119; refine (pdq_nil p cap _).mono ?_; rintro e w' ⟨rfl, rfl⟩))
  go_end0
  exact ⟨rfl, rfl⟩
end SortW
end
section
open Go Go.PG Go.Proofs Go.RowKit Go.Sort
namespace SortW
def sortF (l : List (Int × Int)) : Option (List (Int × Int)) := if l.length < 4611686018427387904 then some (l.mergeSort fun a b => decide (a.1 < b.1 ∨ (a.1 = b.1 ∧ a.2 ≤ b.2))) else none
theorem cf_lt (a b : Int × Int) : ltOf cf a b = decide (a.1 < b.1 ∨ (a.1 = b.1 ∧ a.2 < b.2)) := by
  unfold ltOf cf orI Lib.compareInt
  rw [decide_eq_decide]
  repeat' split
  all_goals omega
theorem swo : SWO (ltOf cf) := by
  refine ⟨fun x => ?_, fun x y z => ?_, fun x y z => ?_⟩
  · rw [cf_lt]; simp
  · rw [cf_lt, cf_lt, cf_lt]; simp only [decide_eq_true_eq]; omega
  · rw [cf_lt, cf_lt, cf_lt]; simp only [decide_eq_false_iff_not]; omega
theorem uniq (x y : Int × Int) (h1 : ltOf cf x y = false) (h2 : ltOf cf y x = false) : x = y := by
  rw [cf_lt] at h1 h2
  simp only [decide_eq_false_iff_not] at h1 h2
  exact Prod.ext (by omega) (by omega)
theorem leb_eq : (fun x y : Int × Int => !ltOf cf y x) = fun a b => decide (a.1 < b.1 ∨ (a.1 = b.1 ∧ a.2 ≤ b.2)) := by
  funext a b
  rw [cf_lt, Bool.eq_iff_iff]
  simp only [Bool.not_eq_true', decide_eq_false_iff_not, decide_eq_true_eq]
  omega
abbrev TA : Ty := .st (.pair (.int .i64) (.int .i64))
theorem rep_enc {Z : Nat → Prop} {w : World} {x : TA.D} {cs : List Value} : RepD Z w TA x cs ↔ cs = enc x := by
  simp only [RepD]
  constructor
  · rintro ⟨c1, c2, rfl, rfl, rfl⟩; rfl
  · intro h; exact ⟨_, _, h, rfl, rfl⟩
theorem enc_len (x : Int × Int) : (enc x).length = 2 := rfl
theorem sort_ok (G : World → Prop) : InplOk Tryz.prog G 99 ⟨TA, 42, sortF⟩ := by
  refine ⟨rfl, ?_⟩
  intro w A cap xs ys _ hF hcap hrow
  have hlen : xs.length < 4611686018427387904 := by
    apply Classical.byContradiction
    intro q
    simp only [sortF] at hF
    rw [if_neg q] at hF
    cases hF
  have hF : xs.mergeSort (fun a b => decide (a.1 < b.1 ∨ (a.1 = b.1 ∧ a.2 ≤ b.2))) = ys := by
    simp only [sortF] at hF
    rw [if_pos hlen] at hF
    exact Option.some.inj hF
  by_cases hx : xs = []
  · subst hx
    have hy : ys = [] := by rw [← hF]; exact List.mergeSort_nil
    subst hy
    refine (sort_nil A cap w).mono ?_
    rintro e w' ⟨rfl, rfl⟩
    exact ⟨rfl, rfl, rfl, rfl, rfl, Nat.le_refl _, fun _ k _ => rfl, fun b o cs el h => absurd rfl h⟩
  · obtain ⟨b, o, cs, el, rfl, hb, hfit, hel⟩ := hrow.resolve_left hx
    have hsz : ∀ l : List TA.D, l.toArray.size = l.length := fun l => rfl
    have hfr : ∀ a : Addr, a.block = b → w.frozen? a = false := by
      intro a ha
      unfold World.frozen?
      rw [ha, hb]
      simp
    have hbs : b < w.heap.size := (Array.getElem?_eq_some_iff.1 hb).1
    have hget : ∀ (l : List TA.D) (i : Nat) (x : TA.D), l[i]? = some x → l.toArray[i]! = x := by
      intro l i x h
      obtain ⟨h1, h2⟩ := List.getElem?_eq_some_iff.1 h
      simp [h1, h2]
    have hH : HoldsK enc 2 w b o xs.toArray := by
      intro j hj
      rw [size_flatK, hsz] at hj
      refine ⟨?_, hfr _ rfl⟩
      rw [get_flatK _ _ _ _ hj]
      have hi : j / 2 < xs.length := by omega
      obtain ⟨d, h1, h2⟩ := hel (j / 2) xs[j / 2] (List.getElem?_eq_getElem hi)
      rw [rep_enc] at h1
      subst h1
      rw [hget xs (j / 2) xs[j / 2] (List.getElem?_eq_getElem hi)]
      have hv : (enc xs[j / 2])[j % 2]? = some (enc xs[j / 2])[j % 2]! := by
        have : j % 2 < (enc xs[j / 2]).length := by rw [enc_len]; omega
        rw [List.getElem?_eq_getElem this]; simp [this]
      have := h2 (j % 2) _ hv
      rw [show o + j = o + j / 2 * TA.size + j % 2 from by show o + j = o + j / 2 * 2 + j % 2; omega]
      exact this
    have hcmp : CmpLays Tryz.prog 42 #[] enc 2 cf b o xs.toArray.size w := fun m os dk _ x y => at_c x y _
    have main := AnyQ.slices_SortFunc (P := Tryz.prog) (ρ := Tryz.sortL_ren) Tryz.sortL 2 Tryz.isAgg27 Tryz.sizeOf27 enc enc_len (fun x v hv => by
      simp only [enc, List.mem_cons, List.not_mem_nil, or_false] at hv
      rcases hv with rfl | rfl <;> rfl) cf swo 42 #[] b o cap xs.toArray w (enters_of Tryz.func42 (by kernel_rfl) rfl) hcmp hH hbs hlen
    refine main.mono ?_
    rintro e w' ⟨rfl, d', n, os, hperm, hsort, rfl⟩
    have hys : d'.toList = ys := by
      have := sorted_unique_holds (lt := ltOf cf) swo uniq xs.toArray d' hperm hsort
      rw [leb_eq] at this
      rw [this, ← hF]
    have hd : d' = ys.toArray := by rw [← hys]
    subst hd
    have hl : ys.length = xs.length := by rw [← hF, List.length_mergeSort]
    have hb' : (sortWorldK enc 2 w b o n ys.toArray os).heap[b]? = some (.cells (putCells id o (flatK enc 2 ys.toArray) cs) el (0, 0)) := by
      unfold sortWorldK grow putRowK putRow mapBlock
      show (w.heap.modify b _ ++ os)[b]? = _
      rw [Array.getElem?_append_left (by simpa using hbs), Array.getElem?_modify, if_pos rfl, hb]
      rfl
    refine ⟨rfl, hl, rfl, rfl, rfl, size_sortWorldK_c enc 2 w b o n _ os, fun q => absurd q hx, ?_⟩
    intro b1 o1 cs1 el1 _ hA hb1
    obtain ⟨rfl, rfl⟩ : b = b1 ∧ o = o1 := by
      have := Option.some.inj hA
      exact ⟨congrArg Addr.block this, congrArg Addr.off this⟩
    rw [hb] at hb1
    obtain ⟨rfl, rfl⟩ : cs = cs1 ∧ el = el1 := by
      have := Option.some.inj hb1
      injection this with h1 h2
      exact ⟨h1, h2⟩
    refine ⟨fun k hk hne => ?_, putCells id o (flatK enc 2 ys.toArray) cs, hb', by simp [putCells], fun i y hy => ⟨enc y, rep_enc.2 rfl, fun j v hv => ?_⟩⟩
    · unfold sortWorldK grow putRowK putRow mapBlock
      show (w.heap.modify b _ ++ os)[k]? = _
      rw [Array.getElem?_append_left (by simpa using hk), Array.getElem?_modify, if_neg (fun q => hne q.symm)]
    · have hi : i < ys.length := (List.getElem?_eq_some_iff.1 hy).1
      have hj : j < 2 := by have := (List.getElem?_eq_some_iff.1 hv).1; rw [enc_len] at this; exact this
      have ht : i * 2 + j < (flatK enc 2 ys.toArray).size := by rw [size_flatK, hsz]; omega
      rw [show o + i * TA.size + j = o + (i * 2 + j) from by show o + i * 2 + j = _; omega]
      unfold World.cell?
      rw [show (Addr.mk b (o + (i * 2 + j)) none).block = b from rfl, hb']
      have hc : o + (i * 2 + j) < cs.size := by
        have : xs.length * 2 = xs.length * TA.size := rfl
        rw [← this] at hfit
        rw [size_flatK, hsz] at ht
        omega
      simp only [putCells, Option.isSome_none, Bool.false_eq_true, if_false, Array.getElem?_mapIdx, Array.getElem?_eq_getElem hc, Option.map_some]
      rw [if_pos ⟨by omega, by omega⟩, show o + (i * 2 + j) - o = i * 2 + j by omega, get_flatK _ _ _ _ (by simpa using ht), show (i * 2 + j) / 2 = i by omega, show (i * 2 + j) % 2 = j by omega, hget ys i y hy]
      obtain ⟨h1, h2⟩ := List.getElem?_eq_some_iff.1 hv
      simp [h1, h2]
end SortW
end
section
namespace Go.Proofs
open Go.Shelf
def Tryz.lays156_ren : Go.Shelf.Ren := ⟨fun | 156 => 74 | 165 => 104 | 166 => 47 | 169 => 49 | 240 => 72 | 241 => 122 | 276 => 102 | 277 => 140 | n => n, fun | 31 => 87 | 9 => 9 | 3 => 3 | 4 => 4 | 0 => 0 | 20 => 20 | 72 => 70 | 76 => 73 | 70 => 67 | 37 => 68 | 75 => 72 | 127 => 90 | 164 => 111 | 5 => 5 | 80 => 76 | n => n, fun | n => n⟩
theorem Tryz.lays156 : Go.Proofs.Lays.n156 Tryz.prog Tryz.lays156_ren := {
  mixed := by kernel_rfl
  f156 := Tryz.func74.trans (congrArg some (by kernel_rfl))
  f165 := Tryz.func104.trans (congrArg some (by kernel_rfl))
  f166 := Tryz.func47.trans (congrArg some (by kernel_rfl))
  f169 := Tryz.func49.trans (congrArg some (by kernel_rfl))
  f240 := Tryz.func72.trans (congrArg some (by kernel_rfl))
  f241 := Tryz.func122.trans (congrArg some (by kernel_rfl))
  f276 := Tryz.func102.trans (congrArg some (by kernel_rfl))
  f277 := Tryz.func140.trans (congrArg some (by kernel_rfl))
  t0 := Tryz.underlying0
  a0 := Tryz.isAgg0
  z0 := Tryz.sizeOf0
  v0 := Tryz.zeroValue0
  t3 := Tryz.underlying3
  a3 := Tryz.isAgg3
  z3 := Tryz.sizeOf3
  v3 := Tryz.zeroValue3
  t4 := Tryz.underlying4
  a4 := Tryz.isAgg4
  z4 := Tryz.sizeOf4
  v4 := Tryz.zeroValue4
  t9 := Tryz.underlying9
  a9 := Tryz.isAgg9
  z9 := Tryz.sizeOf9
  v9 := Tryz.zeroValue9
  t20 := Tryz.underlying20
  a20 := Tryz.isAgg20
  z20 := Tryz.sizeOf20
  v20 := Tryz.zeroValue20
  t31 := Tryz.underlying87
  a31 := Tryz.isAgg87
  z31 := Tryz.sizeOf87
  v31 := Tryz.zeroValue87
  t37 := Tryz.underlying68
  a37 := Tryz.isAgg68
  z37 := Tryz.sizeOf68
  v37 := Tryz.zeroValue68
  t70 := Tryz.underlying67
  a70 := Tryz.isAgg67
  z70 := Tryz.sizeOf67
  v70 := Tryz.zeroValue67
  t72 := Tryz.underlying70
  a72 := Tryz.isAgg70
  z72 := Tryz.sizeOf70
  v72 := Tryz.zeroValue70
  t75 := Tryz.underlying72
  a75 := Tryz.isAgg72
  z75 := Tryz.sizeOf72
  v75 := Tryz.zeroValue72
  t76 := Tryz.underlying73
  a76 := Tryz.isAgg73
  z76 := Tryz.sizeOf73
  v76 := Tryz.zeroValue73
  t127 := Tryz.underlying90
  a127 := Tryz.isAgg90
  z127 := Tryz.sizeOf90
  v127 := Tryz.zeroValue90
  t164 := Tryz.underlying111
  a164 := Tryz.isAgg111
  z164 := Tryz.sizeOf111
  v164 := Tryz.zeroValue111 }
theorem Tryz.Builder_Extra_156 : Builder.Extra Tryz.prog Tryz.lays156_ren := {
  sizeBuilder := by kernel_rfl
  liesBuilder := by kernel_rfl
  t5 := Tryz.underlying5
  a5 := Tryz.isAgg5
  z5 := Tryz.sizeOf5
  v5 := Tryz.zeroValue5
  infoByte := by kernel_rfl
  cellsByte := by kernel_rfl
  sizeByte := by kernel_rfl
  neB5 := by decide }
open Go.RowKit in
theorem Tryz.strings_Join_none (a : Option Addr) (c : Nat) (sep : ByteArray) (w : World) :
    Calls Tryz.prog 74 #[.slice a 0 c, .string sep] w fun e w' => e = .returned (.string ⟨#[]⟩) ∧ w' = w := Any.strings_Join_none Tryz.lays156 Tryz.Builder_Extra_156 a c sep w
open Go.RowKit in
theorem Tryz.strings_Join (bk o c : Nat) (xs : List ByteArray) (sep : ByteArray) (w : World) (hcells : ∀ (j : Nat) x, xs[j]? = some x → w.cell? ⟨bk, o + j, none⟩ = some (.string x)) (hbk : bk < w.heap.size) (hN : xs.length ≤ 140737488355328) (hcap : xs.length ≤ c) (hlen : (Lib.join (xs.map (·.data.toList)) sep.data.toList).length ≤ 140737488355328) :
    Calls Tryz.prog 74 #[.slice (some ⟨bk, o, none⟩) xs.length c, .string sep] w fun e w' => e = .returned (.string ⟨(Lib.join (xs.map (·.data.toList)) sep.data.toList).toArray⟩) ∧ Below w.heap.size w w' := Any.strings_Join Tryz.lays156 Tryz.Builder_Extra_156 bk o c xs sep w hcells hbk hN hcap hlen
def Tryz.laysM171_ren : Go.Shelf.Ren := ⟨fun | 171 => 103 | 243 => 121 | 246 => 139 | 283 => 150 | 284 => 151 | 285 => 152 | 286 => 153 | 129 => 138 | 317 => 156 | 318 => 157 | 319 => 158 | 320 => 159 | 337 => 160 | 338 => 161 | n => n, fun | 3 => 3 | 9 => 9 | 2 => 2 | 4 => 4 | 171 => 154 | 0 => 0 | 53 => 115 | 37 => 68 | 5 => 5 | 173 => 156 | 212 => 164 | 51 => 142 | 20 => 20 | 213 => 165 | 46 => 130 | 232 => 166 | 233 => 167 | n => n, fun | 17 => 1 | 18 => 2 | 19 => 3 | n => n⟩
theorem Tryz.laysM171 : Go.Proofs.LaysM.n171 Tryz.prog Tryz.laysM171_ren := {
  mixed := by kernel_rfl
  f129 := Tryz.func138.trans (congrArg some (by kernel_rfl))
  f171 := Tryz.func103.trans (congrArg some (by kernel_rfl))
  f243 := Tryz.func121.trans (congrArg some (by kernel_rfl))
  f246 := Tryz.func139.trans (congrArg some (by kernel_rfl))
  f283 := Tryz.func150.trans (congrArg some (by kernel_rfl))
  f284 := Tryz.func151.trans (congrArg some (by kernel_rfl))
  f285 := Tryz.func152.trans (congrArg some (by kernel_rfl))
  f286 := Tryz.func153.trans (congrArg some (by kernel_rfl))
  f317 := Tryz.func156.trans (congrArg some (by kernel_rfl))
  f318 := Tryz.func157.trans (congrArg some (by kernel_rfl))
  f319 := Tryz.func158.trans (congrArg some (by kernel_rfl))
  f320 := Tryz.func159.trans (congrArg some (by kernel_rfl))
  f337 := Tryz.func160.trans (congrArg some (by kernel_rfl))
  f338 := Tryz.func161.trans (congrArg some (by kernel_rfl))
  t0 := Tryz.underlying0
  a0 := Tryz.isAgg0
  z0 := Tryz.sizeOf0
  v0 := Tryz.zeroValue0
  t2 := Tryz.underlying2
  a2 := Tryz.isAgg2
  z2 := Tryz.sizeOf2
  v2 := Tryz.zeroValue2
  t3 := Tryz.underlying3
  a3 := Tryz.isAgg3
  z3 := Tryz.sizeOf3
  v3 := Tryz.zeroValue3
  t4 := Tryz.underlying4
  a4 := Tryz.isAgg4
  z4 := Tryz.sizeOf4
  v4 := Tryz.zeroValue4
  t5 := Tryz.underlying5
  a5 := Tryz.isAgg5
  z5 := Tryz.sizeOf5
  v5 := Tryz.zeroValue5
  t9 := Tryz.underlying9
  a9 := Tryz.isAgg9
  z9 := Tryz.sizeOf9
  v9 := Tryz.zeroValue9
  t20 := Tryz.underlying20
  a20 := Tryz.isAgg20
  z20 := Tryz.sizeOf20
  v20 := Tryz.zeroValue20
  t37 := Tryz.underlying68
  a37 := Tryz.isAgg68
  z37 := Tryz.sizeOf68
  v37 := Tryz.zeroValue68
  t46 := Tryz.underlying130
  a46 := Tryz.isAgg130
  z46 := Tryz.sizeOf130
  v46 := Tryz.zeroValue130
  t51 := Tryz.underlying142
  a51 := Tryz.isAgg142
  z51 := Tryz.sizeOf142
  v51 := Tryz.zeroValue142
  t53 := Tryz.underlying115
  a53 := Tryz.isAgg115
  z53 := Tryz.sizeOf115
  v53 := Tryz.zeroValue115
  t171 := Tryz.underlying154
  a171 := Tryz.isAgg154
  z171 := Tryz.sizeOf154
  v171 := Tryz.zeroValue154
  t173 := Tryz.underlying156
  a173 := Tryz.isAgg156
  z173 := Tryz.sizeOf156
  v173 := Tryz.zeroValue156
  t212 := Tryz.underlying164
  a212 := Tryz.isAgg164
  z212 := Tryz.sizeOf164
  v212 := Tryz.zeroValue164
  t213 := Tryz.underlying165
  a213 := Tryz.isAgg165
  z213 := Tryz.sizeOf165
  t232 := Tryz.underlying166
  a232 := Tryz.isAgg166
  z232 := Tryz.sizeOf166
  v232 := Tryz.zeroValue166
  t233 := Tryz.underlying167
  a233 := Tryz.isAgg167
  z233 := Tryz.sizeOf167
  v233 := Tryz.zeroValue167
  g17 := by kernel_rfl
  g18 := by kernel_rfl
  g19 := by kernel_rfl
  i0 := by kernel_rfl
  i2 := by kernel_rfl
  i3 := by kernel_rfl
  i4 := by kernel_rfl
  i5 := by kernel_rfl
  i9 := by kernel_rfl
  i20 := by kernel_rfl
  i37 := by kernel_rfl
  i46 := by kernel_rfl
  i51 := by kernel_rfl
  i53 := by kernel_rfl
  i171 := by kernel_rfl
  i173 := by kernel_rfl
  i212 := by kernel_rfl
  i232 := by kernel_rfl
  i233 := by kernel_rfl
  m17 := by kernel_rfl
  m18 := by kernel_rfl
  m19 := by kernel_rfl }
open Go.RowKit Go.Sort Go.Lib in
theorem Tryz.strconv_Itoa (n : Int) (h0 : -9223372036854775808 ≤ n) (h1 : n ≤ 9223372036854775807) (w : World) (htab : Lib.TabIs Tryz.prog w "internal/strconv.uint64pow10" .u64 Lib.pow10Tab) :
    Calls Tryz.prog 103 #[.int .i64 n] w fun e w' => e = .returned (.string ⟨(Lib.itoa n).toArray⟩) ∧ ∃ k os, w' = grow (w.drewN k) os := Any.strconv_Itoa Tryz.laysM171 n h0 h1 w htab
end Go.Proofs
end
section
open Go Go.Proofs Go.Lib Go.RowKit Go.PG
set_option linter.all false
namespace BldW
theorem t67 : Tryz.prog.underlying 67 = some (.pointer 70) := by kernel_rfl
theorem t111 : Tryz.prog.underlying 111 = some .unsafePointer := by kernel_rfl
theorem t68 : Tryz.prog.underlying 68 = some (.slice 5) := by kernel_rfl
theorem t9 : Tryz.prog.underlying 9 = some .string := by kernel_rfl
theorem t90 : Tryz.prog.underlying 90 = some (.pointer 5) := by kernel_rfl
theorem sizeBuilder : (Tryz.prog.info? 70).map (·.size) = some 2 := by kernel_rfl
theorem liesBuilder : liesAt Tryz.prog Tryz.prog.depth 70 (2 / Tryz.prog.cellsOf 70) 0 70 1 = true := by kernel_rfl
theorem infoByte : (Tryz.prog.info? 5).map (fun i => (i.zero, i.size, i.bytes)) = some (some (.int .u8 0), 1, 1) := by kernel_rfl
theorem cellsByte : Tryz.prog.cellsOf 5 = 1 := by kernel_rfl
set_option maxHeartbeats 1000000 in
set_option maxRecDepth 100000 in
theorem cc_used (b : Nat) (w : World) (h0 : w.cell? ⟨b, 0, none⟩ = some (.pointer (some ⟨b, 0, none⟩))) :
    Calls Tryz.prog 72 #[.pointer (some ⟨b, 0, none⟩)] w fun e w' => e = .returned (.tuple #[]) ∧ w' = w := by
  obtain ⟨j, hj, _⟩ := Option.map_eq_some_iff.1 sizeBuilder
  go_enter Tryz.func72, Tryz.ntmps72
  go_wp2
  rw [Lib.run_neq_ptr_same w _ t67 hj]
  go_wp2
  go_end0
  exact ⟨rfl, rfl⟩
set_option maxHeartbeats 1000000 in
set_option maxRecDepth 100000 in
theorem cc_fresh (b : Nat) (w : World) (h0 : w.cell? ⟨b, 0, none⟩ = some (.pointer none)) (hsh : w.shape? b = some (70, 2)) (hfz : w.frozen? ⟨b, 0, none⟩ = false) :
    Calls Tryz.prog 72 #[.pointer (some ⟨b, 0, none⟩)] w fun e w' => e = .returned (.tuple #[]) ∧ w' = w.setCell ⟨b, 0, none⟩ (.pointer (some ⟨b, 0, none⟩)) := by
  obtain ⟨j, hj, hjs⟩ := Option.map_eq_some_iff.1 sizeBuilder
  go_enter Tryz.func72, Tryz.ntmps72
  go_wp2
  rw [Lib.run_to_unsafe w ⟨b, 0, none⟩ t67 t111 hj (by rw [hjs]; decide) hsh (Nat.zero_lt_succ 1)]
  simp only [Result.andThen]
  rw [Oper.upon_value]
  go_wp2
  rw [run_callFunc_extern Tryz.func102 (by kernel_rfl) (by kernel_rfl) (by kernel_rfl) (e := Extern.AbiNoEscape.same) (by kernel_rfl)]
  rw [Lib.run_noEscape]
  simp only [Result.andThen]
  rw [Oper.upon_value]
  go_wp2
  rw [Lib.run_from_unsafe w ⟨b, 0, none⟩ t111 t67 hj hsh liesBuilder]
  simp only [Result.andThen]
  rw [Oper.upon_value]
  go_wp2
  go_end0
  exact ⟨rfl, rfl⟩
theorem cc (b : Nat) (w : World) (p v : Value) (hp : p = .pointer none ∨ p = .pointer (some ⟨b, 0, none⟩)) (hb : w.heap[b]? = some (.cells #[p, v] 70 (0, 0))) :
    Calls Tryz.prog 72 #[.pointer (some ⟨b, 0, none⟩)] w fun e w' => e = .returned (.tuple #[]) ∧ w'.heap[b]? = some (.cells #[.pointer (some ⟨b, 0, none⟩), v] 70 (0, 0)) ∧ w.grownBy w' (some b) ∧ w'.heap.size = w.heap.size := by
  rcases hp with rfl | rfl
  · refine (cc_fresh b w (by simp [World.cell?, hb]) (by simp [World.shape?, hb]) (by simp [World.frozen?, hb])).mono ?_
    rintro e w' ⟨rfl, rfl⟩
    refine ⟨rfl, by simp [World.setCell, Array.getElem?_modify, hb], ⟨rfl, rfl, rfl, by simp [World.setCell], fun k _ hk => Below.heap_setCell _ _ _ _ (fun e => hk (by simp [e]))⟩, by simp [World.setCell]⟩
  · refine (cc_used b w (by simp [World.cell?, hb])).mono ?_
    rintro e w' ⟨rfl, rfl⟩
    exact ⟨rfl, hb, ⟨rfl, rfl, rfl, Nat.le_refl _, fun _ _ _ => rfl⟩, rfl⟩
theorem wp_app {P : Program} {ops : Array Oper} {rest : List Oper} {o : Oper} {a : Act} {Q : Exit → Act → World → Prop} (hgd : o.guard = none) (sl x : Operand) (t u : TypeId)
    (ho : o.op = .call { callee := .builtin .append, args := #[sl, x], argTypes := #[t, u] })
    (e : TypeId) (i : TypeInfo) (ht : P.underlying t = some (.slice e)) (hu : P.underlying u = some .string) (hi : P.info? e = some i) (hz : i.zero = some (.int .u8 0))
    (hsize : i.size = 1) (hby : i.bytes = 1)
    (v : Value) (n : Nat) (xs : List Value) (w : World) (hs : a.eval sl = v) (hown : w.ownsRowF 0 e 1 v n xs) (s : ByteArray) (hx : a.eval x = .string s)
    (h63 : n + s.size ≤ maxLen) (hbytes : n + s.size ≤ 140737488355328)
    (h : ∀ v' w', w'.ownsRowF 0 e 1 v' (n + s.size) (xs ++ strCells s) → w.grownBy w' v.ownBlock → (∀ g, v'.ownBlock = some g → v.ownBlock = some g ∨ w.heap.size ≤ g) → wpList P ops Q rest (a.put o.dst v') w') : wpList P ops Q (o :: rest) a w := by
  refine wpList_plain hgd fun K hK => ?_
  obtain ⟨v', w', hr, h2, h3, h4⟩ := run_append_own_stringF (P := P) w 0 t u o.type e i ht hu hi hz hsize hby v n xs hown s h63 hbytes (Nat.zero_le _)
  have h5 : ∀ g, v'.ownBlock = some g → v.ownBlock = some g ∨ w.heap.size ≤ g := by
    rcases hown.2 with ⟨rfl, rfl⟩ | ⟨g, cap, cur, fz, rfl, _, hg, hfz, hnc, hcm, hcs, htake⟩
    · obtain ⟨v2, w2, hr2, k2, _, _⟩ := run_append_own_stringF (P := P) w w.heap.size t u o.type e i ht hu hi hz hsize hby (.slice none 0 0) 0 xs ⟨hown.1, .inl ⟨rfl, rfl⟩⟩ s h63 hbytes (Nat.le_refl _)
      rw [hr] at hr2
      injection hr2 with q1 q2
      subst q1; subst q2
      exact fun g hg => .inr (k2.lt g hg).1
    · have hxl : xs.length = n := by simpa using hown.1
      by_cases hroom : n + s.size ≤ cap
      · have hcs' : cur.size = cap := by simpa using hcs
        have hr2 := run_append_room_stringF (P := P) w t u o.type e i ht hu hi hsize g n cap cur fz hg (by simpa using hfz) s hroom (by omega)
        rw [hr] at hr2
        injection hr2 with q1 q2
        subst q1
        exact fun g' hg' => .inl (by simpa [Value.ownBlock] using hg')
      · have holds : ∀ j u, xs[j]? = some u → w.cell? ((⟨g, 0, none⟩ : Addr).add j) = some u := hown.cells (g := g) rfl
        have h63' := h63
        simp only [maxLen] at h63'
        have hr2 := run_append_grow_string (P := P) w t u o.type e i (.int .u8 0) ht hu hi hz ⟨g, 0, none⟩ n cap xs (by rw [hsize]; simpa using hxl) holds s (by omega) (by omega) (by rw [hby]; exact growslice_fits (by omega) (by omega))
        rw [hr] at hr2
        injection hr2 with q1 q2
        subst q1
        intro g' hg'
        simp only [Value.ownBlock, Option.some.injEq] at hg'
        exact .inr (by omega)
  unfold Oper.wp execOp
  simp only [ho, resolve, invoke, builtin, Sem.run_bind, Sem.run_pure, Result.andThen_ok, List.map_toArray, List.map_cons, List.map_nil, hs, hx, hr]
  exact hK _ _ (h v' w' h2 h3 h5)
theorem str_app (x s : ByteArray) : strCells (x ++ s) = strCells x ++ strCells s := by
  unfold strCells
  rw [ByteArray.data_append, Array.toList_append, List.map_append]
theorem info_at : ∃ i, Tryz.prog.info? 5 = some i ∧ i.zero = some (.int .u8 0) ∧ i.size = 1 ∧ i.bytes = 1 := by
  obtain ⟨i, hi, h⟩ := Option.map_eq_some_iff.1 infoByte
  injection h with h1 h2
  injection h2 with h2 h3
  exact ⟨i, hi, h1, h2, h3⟩
set_option maxHeartbeats 1000000 in
set_option maxRecDepth 100000 in
theorem write_ok (G : World → Prop) : WsOk Tryz.prog G 47 70 5 := by
  intro w b x s ex _ ⟨p, v, hp, hbk, hown, hne, hex⟩ hlen
  obtain ⟨i0, hi, hz0, hz1, hz2⟩ := info_at
  go_enter Tryz.func47, Tryz.ntmps47
  go_wp2_with (go_at_call 72; refine (cc b w p v hp hbk).mono ?_)
  rintro e w1 ⟨rfl, hb1, hg1, hs1⟩
  have hown1 : w1.ownsRowF 0 5 1 v x.size (strCells x) := hown.kept hg1 (.inr hne)
  have c0 : w1.cell? ⟨b, 0, none⟩ = some (.pointer (some ⟨b, 0, none⟩)) := by rw [Lib.cell_of_heap hb1]; rfl
  have c1 : w1.cell? ⟨b, 1, none⟩ = some v := by rw [Lib.cell_of_heap hb1]; rfl
  go_wp2_with (at_builtin; go_loud (refine wp_app rfl _ _ 68 9 rfl 5 i0 t68 t9 hi hz0 hz1 hz2 v x.size (strCells x) w1 rfl hown1 s rfl ?c3 ?c4 ?_))
  case c3 => unfold maxLen; omega
  case c4 => omega
  intro v' w2 hown' hgrow hnew
  have hlt : b < w1.heap.size := by
    rcases Nat.lt_or_ge b w1.heap.size with h' | h'
    · exact h'
    · simp [Array.getElem?_eq_none h'] at hb1
  have hb2 : w2.heap[b]? = some (.cells #[.pointer (some ⟨b, 0, none⟩), v] 70 (0, 0)) := by
    rw [hgrow.block b hlt (fun e => hne e.symm)]
    exact hb1
  have d0 : w2.cell? ⟨b, 0, none⟩ = some (.pointer (some ⟨b, 0, none⟩)) := by rw [Lib.cell_of_heap hb2]; rfl
  have d1 : w2.cell? ⟨b, 1, none⟩ = some v := by rw [Lib.cell_of_heap hb2]; rfl
  have f1 : w2.frozen? ⟨b, 1, none⟩ = false := Lib.frozen_of_heap hb2 1
  obtain ⟨ao, n', cap, rfl⟩ : ∃ ao n' cap, v' = .slice ao n' cap := by
    rcases hown'.2 with ⟨hv, _⟩ | ⟨g, cap, cur, fz, hv, _⟩
    · exact ⟨_, _, _, hv⟩
    · exact ⟨_, _, _, hv⟩
  go_wp2
  go_ret2
  have hA := Lib.BuilderAtF.put (T := 70) (e := 5) (B := 0) (bs' := strCells (x ++ s)) (Nat.zero_le b) hb2 (by rw [str_app]; simpa [Lib.strCells_length] using hown') (by decide)
  obtain ⟨_, v3, hb3, hown3, hne3⟩ := hA
  have hv3 : v3 = .slice ao n' cap := by
    simp [World.setCell, Array.getElem?_modify, hb2] at hb3
    exact hb3.symm
  subst hv3
  refine ⟨rfl, ⟨fun g => (Value.slice ao n' cap).ownBlock = some g, ⟨_, _, .inr rfl, hb3, by simpa [strCells_length] using hown3, hne3, fun g => Iff.rfl⟩, fun g hg => ?_⟩, fun k hk hkb hke => ?_, ?_, ?_, ?_, ?_⟩
  · rcases hnew g hg with q | q
    · exact .inl ((hex g).2 q)
    · exact .inr (by omega)
  · have e1 : w1.heap[k]? = w.heap[k]? := hg1.block k hk (by simpa using hkb)
    have e2 : w2.heap[k]? = w1.heap[k]? := hgrow.block k (by omega) (fun e => hke ((hex k).2 e.symm))
    rw [← e1, ← e2]
    exact Below.heap_setCell _ _ _ _ (fun e => hkb e)
  · exact hgrow.os.trans hg1.os
  · exact hgrow.tape.trans hg1.tape
  · exact hgrow.output.trans hg1.output
  · have := hgrow.size
    simp [World.setCell]; omega
theorem usNone (W : World) (q : Option Addr) : (Builtin.unsafeString_ #[90, 3] 9 #[.pointer q, .int .i64 0]).run Tryz.prog W = .ok (.string .empty) W :=
  Lib.run_unsafeString_none W _ _ _ q
theorem size_zero {x : ByteArray} (h : x.size = 0) : x = .empty := by
  cases x with
  | mk d =>
    have : d.size = 0 := h
    rw [show d = #[] from Array.eq_empty_of_size_eq_zero this]
    rfl
set_option maxHeartbeats 2000000 in
set_option maxRecDepth 100000 in
theorem readA (b : Nat) (p : Value) (w : World) (hbk : w.heap[b]? = some (.cells #[p, .slice none 0 0] 70 (0, 0))) :
    Calls Tryz.prog 49 #[.pointer (some ⟨b, 0, none⟩)] w fun e w' => e = .returned (.string .empty) ∧ w' = w.drew := by
  have hUS := usNone
  have c1 : w.drew.cell? ⟨b, 1, none⟩ = some (.slice none 0 0) := by
    have : w.drew.heap[b]? = some (.cells #[p, .slice none 0 0] 70 (0, 0)) := hbk
    rw [Lib.cell_of_heap this]; rfl
  have hSD : (Builtin.unsafeSliceData_ #[68] 90 #[.slice none 0 0]).run Tryz.prog w.drew = .ok (.pointer none) w.drew := rfl
  have mixed : Tryz.prog.follows .mixedOrders = true := by kernel_rfl
  go_enter Tryz.func49, Tryz.ntmps49
  go_wp2
  go_region_o
  all_goals (go_wp2; go_ret; exact ⟨rfl, rfl⟩)
set_option maxHeartbeats 2000000 in
set_option maxRecDepth 100000 in
theorem readC (b g cap : Nat) (p : Value) (w : World) (hc0 : cap ≠ 0) (hbk : w.heap[b]? = some (.cells #[p, .slice (some ⟨g, 0, none⟩) 0 cap] 70 (0, 0))) :
    Calls Tryz.prog 49 #[.pointer (some ⟨b, 0, none⟩)] w fun e w' => e = .returned (.string .empty) ∧ w' = w.drew := by
  have hUS := usNone
  have c1 : w.drew.cell? ⟨b, 1, none⟩ = some (.slice (some ⟨g, 0, none⟩) 0 cap) := by
    have : w.drew.heap[b]? = some (.cells #[p, .slice (some ⟨g, 0, none⟩) 0 cap] 70 (0, 0)) := hbk
    rw [Lib.cell_of_heap this]; rfl
  have hSD : (Builtin.unsafeSliceData_ #[68] 90 #[.slice (some ⟨g, 0, none⟩) 0 cap]).run Tryz.prog w.drew = .ok (.pointer (some ⟨g, 0, none⟩)) w.drew :=
    Lib.run_unsafeSliceData_row _ _ _ _ _ _ hc0
  clear hc0
  have mixed : Tryz.prog.follows .mixedOrders = true := by kernel_rfl
  go_enter Tryz.func49, Tryz.ntmps49
  go_wp2
  go_region_o
  all_goals (go_wp2; go_ret; exact ⟨rfl, rfl⟩)
set_option maxHeartbeats 2000000 in
set_option maxRecDepth 100000 in
theorem readB (b g : Nat) (p : Value) (cur : Array Value) (w : World) (hbk : w.heap[b]? = some (.cells #[p, .slice (some ⟨g, 0, none⟩) 0 0] 70 (0, 0))) (fz : Nat × Nat) (hg : w.heap[g]? = some (.cells cur 5 fz)) :
    Calls Tryz.prog 49 #[.pointer (some ⟨b, 0, none⟩)] w fun e w' => e = .returned (.string .empty) ∧ w' = w.drew.alloc (.view ⟨g, 0, none⟩ 5) := by
  have hUS := usNone
  have hlt : b < w.heap.size := by
    rcases Nat.lt_or_ge b w.heap.size with h' | h'
    · exact h'
    · simp [Array.getElem?_eq_none h'] at hbk
  have c1 : w.drew.cell? ⟨b, 1, none⟩ = some (.slice (some ⟨g, 0, none⟩) 0 0) := by
    have : w.drew.heap[b]? = some (.cells #[p, .slice (some ⟨g, 0, none⟩) 0 0] 70 (0, 0)) := hbk
    rw [Lib.cell_of_heap this]; rfl
  have hSD : (Builtin.unsafeSliceData_ #[68] 90 #[.slice (some ⟨g, 0, none⟩) 0 0]).run Tryz.prog w.drew = .ok (.pointer (some ⟨w.drew.heap.size, 0, none⟩)) (w.drew.alloc (.view ⟨g, 0, none⟩ 5)) :=
    Lib.run_unsafeSliceData_zero w.drew _ _ 5 t90 ⟨g, 0, none⟩ 0 (5, cur.size) (by have hg' : w.drew.heap[g]? = some (.cells cur 5 fz) := hg; simp [World.shape?, hg'])
  have c2 : (w.drew.alloc (.view ⟨g, 0, none⟩ 5)).cell? ⟨b, 1, none⟩ = some (.slice (some ⟨g, 0, none⟩) 0 0) := by
    have : (w.drew.alloc (.view ⟨g, 0, none⟩ 5)).heap[b]? = _ := (Lib.alloc_old w.drew _ b hlt).trans hbk
    rw [Lib.cell_of_heap this]; rfl
  have c3 : (w.alloc (.view ⟨g, 0, none⟩ 5)).drew.cell? ⟨b, 1, none⟩ = some (.slice (some ⟨g, 0, none⟩) 0 0) := c2
  have c0 : w.cell? ⟨b, 1, none⟩ = some (.slice (some ⟨g, 0, none⟩) 0 0) := c1
  have mixed : Tryz.prog.follows .mixedOrders = true := by kernel_rfl
  go_enter Tryz.func49, Tryz.ntmps49
  go_wp2
  go_region_o
  all_goals (go_wp2; go_ret; exact ⟨rfl, rfl⟩)
set_option maxHeartbeats 2000000 in
set_option maxRecDepth 100000 in
theorem readD (b g cap : Nat) (p : Value) (cur : Array Value) (fz : Nat × Nat) (l : List UInt8) (w : World) (h0 : l ≠ []) (hnc : l.length ≤ cap) (hcm : cap ≤ maxLen) (hcs : cur.size = cap)
    (hbk : w.heap[b]? = some (.cells #[p, .slice (some ⟨g, 0, none⟩) l.length cap] 70 (0, 0))) (hg : w.heap[g]? = some (.cells cur 5 fz)) (htake : cur.toList.take l.length = Lib.byteCells l) :
    Calls Tryz.prog 49 #[.pointer (some ⟨b, 0, none⟩)] w fun e w' => e = .returned (.string ⟨l.toArray⟩) ∧ w' = w.drew.freeze ⟨g, 0, none⟩ l.length := by
  have hl0 : l.length ≠ 0 := by simpa using h0
  have c1 : w.drew.cell? ⟨b, 1, none⟩ = some (.slice (some ⟨g, 0, none⟩) l.length cap) := by
    have : w.drew.heap[b]? = some (.cells #[p, .slice (some ⟨g, 0, none⟩) l.length cap] 70 (0, 0)) := hbk
    rw [Lib.cell_of_heap this]; rfl
  have hSD : (Builtin.unsafeSliceData_ #[68] 90 #[.slice (some ⟨g, 0, none⟩) l.length cap]).run Tryz.prog w.drew = .ok (.pointer (some ⟨g, 0, none⟩)) w.drew :=
    Lib.run_unsafeSliceData_row _ _ _ _ _ _ (by omega)
  have hUS : (Builtin.unsafeString_ #[90, 3] 9 #[.pointer (some ⟨g, 0, none⟩), .int .i64 l.length]).run Tryz.prog w.drew = .ok (.string ⟨l.toArray⟩) (w.drew.freeze ⟨g, 0, none⟩ l.length) := by
    refine Lib.run_unsafeString_row w.drew 90 3 9 5 t90 cellsByte g cur.size (by have hg' : w.drew.heap[g]? = some (.cells cur 5 fz) := hg; simp [World.shape?, hg']) l h0 (by omega) (by unfold maxLen at hcm; omega) ?_
    intro j x hx
    have hj : (Lib.byteCells l)[j]? = some (.int .u8 x.toNat) := by simp [Lib.byteCells, hx]
    rw [← htake] at hj
    have hj2 : cur.toList[j]? = some (.int .u8 x.toNat) := by
      rw [List.getElem?_take] at hj
      split at hj
      · exact hj
      · cases hj
    have hg' : w.drew.heap[g]? = some (.cells cur 5 fz) := hg
    rw [show ((⟨g, 0, none⟩ : Addr).add j) = ⟨g, j, none⟩ from by simp [Addr.add]; omega]
    rw [Lib.cell_of_heap hg']
    simpa using hj2
  have mixed : Tryz.prog.follows .mixedOrders = true := by kernel_rfl
  go_enter Tryz.func49, Tryz.ntmps49
  go_wp2
  go_region_o
  all_goals (go_wp2; go_ret; exact ⟨rfl, rfl⟩)
theorem read_ok (G : World → Prop) : BsOk Tryz.prog G 49 70 5 := by
  intro w b x ex _ ⟨p, v, hp, hbk, hown, hne, hex⟩
  have hlt : b < w.heap.size := by
    rcases Nat.lt_or_ge b w.heap.size with h' | h'
    · exact h'
    · simp [Array.getElem?_eq_none h'] at hbk
  rcases hown.2 with ⟨rfl, hn⟩ | ⟨g, cap, cur, fz, rfl, hbg, hg, hfz, hnc, hcm, hcs, htake⟩
  · obtain rfl := size_zero hn
    refine (readA b p w hbk).mono ?_
    rintro e w' ⟨rfl, rfl⟩
    exact ⟨rfl, ⟨ex, ⟨p, _, hp, hbk, hown, hne, hex⟩, fun g h => .inl h⟩, fun _ _ _ _ => rfl, rfl, rfl, rfl, Nat.le_refl _⟩
  by_cases hx : x.size = 0
  · obtain rfl := size_zero hx
    by_cases hc0 : cap = 0
    · subst hc0
      refine (readB b g p cur w hbk fz hg).mono ?_
      rintro e w' ⟨rfl, rfl⟩
      refine ⟨rfl, ⟨ex, ⟨p, _, hp, (Lib.alloc_old w.drew _ b hlt).trans hbk, hown.kept (row := none) (⟨rfl, rfl, rfl, (World.grownBy_alloc w.drew (.view ⟨g, 0, none⟩ 5) none).size, (World.grownBy_alloc w.drew (.view ⟨g, 0, none⟩ 5) none).block⟩ : w.grownBy (w.drew.alloc (.view ⟨g, 0, none⟩ 5)) none) (.inr (by simp [Value.ownBlock])), hne, hex⟩, fun g h => .inl h⟩, fun k hk _ _ => Lib.alloc_old w.drew _ k hk, rfl, rfl, rfl, ?_⟩
      exact (World.grownBy_alloc w.drew (.view ⟨g, 0, none⟩ 5) none).size
    · refine (readC b g cap p w hc0 hbk).mono ?_
      rintro e w' ⟨rfl, rfl⟩
      exact ⟨rfl, ⟨ex, ⟨p, _, hp, hbk, hown, hne, hex⟩, fun g h => .inl h⟩, fun _ _ _ _ => rfl, rfl, rfl, rfl, Nat.le_refl _⟩
  · have hl : x.data.toList.length = x.size := by rw [Array.length_toList]; rfl
    have hlen : (strCells x).length = x.size := strCells_length x
    refine (readD b g cap p cur fz x.data.toList w (fun e => hx (by rw [← hl, e]; rfl)) (by omega) hcm (by omega) (by rw [hl]; exact hbk) hg (by rw [hl]; rw [Nat.mul_one] at htake; exact htake)).mono ?_
    rintro e w' ⟨rfl, rfl⟩
    have hA : Lib.BuilderAtF 70 5 0 b p (strCells x) w.drew := ⟨Nat.zero_le _, _, hbk, by rw [hlen]; exact hown, hne⟩
    have hF := hA.froze (g := g) (cap := cap) (by
      have : w.drew.heap[b]? = _ := hbk
      rw [Lib.cell_of_heap this, hlen]; rfl)
    rw [hlen] at hF
    rw [hl]
    obtain ⟨_, v3, hb3, hown3, hne3⟩ := hF
    rw [hlen] at hown3
    have hgb : g ≠ b := fun e => hne (by simp [Value.ownBlock, e])
    have hb4 : (w.drew.freeze ⟨g, 0, none⟩ x.size).heap[b]? = some (.cells #[p, .slice (some ⟨g, 0, none⟩) x.size cap] 70 (0, 0)) := by
      unfold World.freeze
      rw [if_neg hx]
      simp only [Array.getElem?_modify]
      rw [if_neg hgb]
      exact hbk
    obtain rfl : v3 = .slice (some ⟨g, 0, none⟩) x.size cap := by
      rw [hb4] at hb3
      simp only [Option.some.injEq, Obj.cells.injEq] at hb3
      have := hb3.1
      simp at this
      exact this.symm
    refine ⟨by simp, ⟨ex, ⟨p, _, hp, hb3, hown3, hne3, hex⟩, fun g h => .inl h⟩, fun k hk hkb hke => ?_, ?_, ?_, ?_, ?_⟩
    · unfold World.freeze
      rw [if_neg hx]
      simp only [Array.getElem?_modify]
      rw [if_neg (fun e => hke ((hex k).2 (by simp [Value.ownBlock, e])))]
      rfl
    · unfold World.freeze; rw [if_neg hx]; rfl
    · unfold World.freeze; rw [if_neg hx]; rfl
    · unfold World.freeze; rw [if_neg hx]; rfl
    · unfold World.freeze; rw [if_neg hx]; show w.heap.size ≤ (w.heap.modify _ _).size; rw [Array.size_modify]; exact Nat.le_refl _
theorem bws_ok (G : World → Prop) : BwOk Tryz.prog G 47 70 5 0 ∧ BwOk Tryz.prog G 49 70 5 1 := ⟨write_ok G, read_ok G⟩
end BldW
end

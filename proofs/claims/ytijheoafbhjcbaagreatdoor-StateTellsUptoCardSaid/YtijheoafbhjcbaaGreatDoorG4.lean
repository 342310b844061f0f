/- Lemmas for the claim. -/
import Derived.Test.YtijheoafbhjcbaaGreatDoorG3
import Derived.Ground.SlsfProg
import Derived.Shelf.SlSortCmp.WholeK
import Derived.Test.YtijheoafbhjcbaaGreatDoorProg
import Derived.KernelRfl
import Derived.WalkKit
import Derived.Lib.Walk
import Derived.Lib.Small
import Derived.Sort.Grow
import Derived.LoopN
import Derived.Handy
import Derived.Deep.DeepMust
import Derived.Deep.RegionHeld3
import Derived.Sort.LotA
import Derived.Shelf.Strings.Builder1
import Derived.Shelf.Strings.Builder2
import Derived.Shelf.Strings.OnBuilder
import Derived.Shelf.Small.Bits
import Derived.Shelf.Small.Strs
import Derived.Shelf.Small.Wraps
import Derived.Shelf.Strings.BuilderF
import Derived.Shelf.Strings.BuilderK
import Derived.Shelf.Strings.Builder2Cap
import Derived.Shelf.Strconv.Itoa0
import Derived.Shelf.Strconv.Itoa1
import Derived.Shelf.LaysM
import Derived.Shelf.Strconv.Itoa2
import Derived.Shelf.Strconv.Itoa3
import Derived.Shelf.Strings.BuilderCap
import Derived.Ground.Names2Prog
import Derived.Shelf.Slices.SearchI
import Derived.Test.YtijheoafbhjcbaaGreatDoorG1
import Derived.Shelf.RegionOpenPlain
import Derived.Lib.Strings
import Derived.Lib.Slices
import Derived.Lib.Builder
import Derived.Lib.AppendStr
import Derived.Lib.UnsafeStr
import Derived.Lib.FrozenHead
import Derived.Lib.OthersKept
import Derived.Laws.Externs
import Derived.Laws.IdiomCopy
import Derived.Lib.Bytealg
set_option linter.all false
section
open Go Go.PG Go.Proofs Go.RowKit Go.Lib
namespace DelB
open InsB (tSL zEL t3 mixed iEL hsz rows_of RowRep.takeN RowRep.dropN sets mem_of_row)
theorem f79 : Tryz.prog.funcs[79]? = some Tryz.f79 := by kernel_rfl
theorem run_clear_cellsK {P : Program} (w : World) (t e ty : TypeId) (z : Value) (ht : P.underlying t = some (.slice e)) (hv : ∀ w, (zeroValue e).run P w = .ok z w) (b o n c : Nat) (hn : 0 < n)
  (hc : ∀ j, j < (Builtin.zeroCells z.cells n).toList.length → (w.cell? ⟨b, o + j, none⟩).isSome = true) (hf : ∀ j, j < (Builtin.zeroCells z.cells n).toList.length → w.frozen? ⟨b, o + j, none⟩ = false) (h1 : ∀ v ∈ (Builtin.zeroCells z.cells n).toList, v.oneCell' = true) :
  (Builtin.clear_ #[t] ty #[.slice (some ⟨b, o, none⟩) n c]).run P w = .ok (.tuple #[]) (w.setCells b o (Builtin.zeroCells z.cells n).toList) := by
 have hst := run_storeCells_cells (P := P) b o (Builtin.zeroCells z.cells n).toList 0 w hc hf h1
 simp only [Nat.add_zero] at hst
 obtain ⟨m, rfl⟩ : ∃ m, n = m + 1 := ⟨n - 1, by omega⟩
 simp [Builtin.clear_, run_underlying ht, hv, hst]
set_option maxHeartbeats 4000000 in
set_option maxRecDepth 100000 in
theorem same (b off n c i : Nat) (w : World) (hi : i ≤ n) (hnc : n ≤ c) :
  Calls Tryz.prog 79 #[.slice (some ⟨b, off, none⟩) n c, .int .i64 i, .int .i64 i] w fun e w' => e = .returned (.slice (some ⟨b, off, none⟩) n c) ∧ w' = w := by
 have tSL := tSL; have zEL := zEL; have t3 := t3
 have uSL := run_underlying tSL; have u3 := run_underlying t3
 have mixed := mixed
 go_enter Tryz.func79, Tryz.ntmps79
 go_wp2
 all_goals (go_ret; exact ⟨rfl, rfl⟩)
set_option maxHeartbeats 4000000 in
set_option maxRecDepth 100000 in
theorem same0 (A : Option Addr) (w : World) :
  Calls Tryz.prog 79 #[.slice A 0 0, .int .i64 0, .int .i64 0] w fun e w' => e = .returned (.slice A 0 0) ∧ w' = w := by
 have tSL := tSL; have zEL := zEL; have t3 := t3
 have uSL := run_underlying tSL; have u3 := run_underlying t3
 have mixed := mixed
 cases A with
 | none =>
  go_enter Tryz.func79, Tryz.ntmps79
  go_wp2
  all_goals (go_ret; exact ⟨rfl, rfl⟩)
 | some a =>
  obtain ⟨ab, ao, asp⟩ := a
  go_enter Tryz.func79, Tryz.ntmps79
  go_wp2
  all_goals (go_ret; exact ⟨rfl, rfl⟩)
set_option maxHeartbeats 4000000 in
set_option maxRecDepth 100000 in
theorem del (b off n c i j : Nat) (cs : List Value) (w : World) (hij : i < j) (hjn : j ≤ n) (hnc : n ≤ c)
  (hcl : cs.length = n * 2) (hcs : ∀ t v, cs[t]? = some v → w.cell? ⟨b, off + t, none⟩ = some v) (hfz : ∀ t, t < n * 2 → w.frozen? ⟨b, off + t, none⟩ = false) (h1c : ∀ v ∈ cs, v.oneCell' = true) :
  Calls Tryz.prog 79 #[.slice (some ⟨b, off, none⟩) n c, .int .i64 i, .int .i64 j] w fun e w' => ∃ ZS : List Value,
   e = .returned (.slice (some ⟨b, off, none⟩) (i + (n - j)) c) ∧ w' = (w.drew.setCells b (off + i * 2) (cs.drop (j * 2))).setCells b (off + (i + (n - j)) * 2) ZS := by
 have tSL := tSL; have zEL := zEL; have t3 := t3
 have uSL := run_underlying tSL; have u3 := run_underlying t3
 have mixed := mixed
 obtain ⟨i0, hi0, hz0, hzs, hzb⟩ := iEL
 obtain ⟨z, hzz, hzc⟩ : ∃ z, i0.zero = some z ∧ z.cells = #[.string ⟨#[]⟩, .slice none 0 0] := by
  cases q : i0.zero with
  | none => rw [q] at hz0; cases hz0
  | some z =>
   rw [q] at hz0
   simp only [Option.map_some, Option.some.injEq] at hz0
   exact ⟨z, rfl, hz0⟩
 have hzv : ∀ w, (zeroValue 54).run Tryz.prog w = .ok z w := fun w => by simp [zeroValue, typeInfo, hi0, hzz]
 obtain ⟨news, hnews⟩ : ∃ news, news = cs.drop (j * 2) := ⟨_, rfl⟩
 have hlen : news.length = (n - j) * 2 := by rw [hnews, List.length_drop, hcl]; omega
 have hcell : ∀ t, t < n * 2 → (w.cell? ⟨b, off + t, none⟩).isSome = true := fun t ht => by
  rw [hcs t _ (List.getElem?_eq_getElem (by omega))]; rfl
 obtain ⟨A, hA, hsrc⟩ : ∃ A : Addr, (if c = j then some (⟨b, off, none⟩ : Addr) else some ⟨b, off + j * 2, none⟩) = some A ∧ Hid (∀ t u, news[t]? = some u → w.drew.cell? (A.add t) = some u) := by
  by_cases h : c = j
  ·refine ⟨⟨b, off, none⟩, by simp [h], fun t u hu => ?_⟩
   have h0 : news.length = 0 := by rw [hlen]; omega
   rw [List.length_eq_zero_iff.1 h0] at hu
   simp at hu
  ·refine ⟨⟨b, off + j * 2, none⟩, by simp [h], fun t u hu => ?_⟩
   rw [hnews, List.getElem?_drop] at hu
   rw [Addr.add_lit, Nat.add_assoc]
   exact hcs _ u hu
 have s1 : Hid (news.length = (n - j) * 2) := hlen
 have s2 : Hid (∀ u ∈ news, u.oneCell' = true) := by
  intro u hu
  rw [hnews] at hu
  exact h1c u (List.mem_of_mem_drop hu)
 have s3 : Hid (∀ t, t < news.length → (w.drew.cell? ⟨b, off + i * 2 + t, none⟩).isSome = true ∧ w.drew.frozen? ⟨b, off + i * 2 + t, none⟩ = false) := by
  intro t ht
  rw [hlen] at ht
  rw [Nat.add_assoc]
  exact ⟨hcell _ (by omega), hfz _ (by omega)⟩
 obtain ⟨W1, hW1⟩ : ∃ W1, W1 = w.drew.setCells b (off + i * 2) news := ⟨_, rfl⟩
 have hsp1 : ∀ k, k < n * 2 → (W1.cell? ⟨b, off + k, none⟩).isSome = true := fun k hk => by
  rw [hW1]
  exact isSome_setCells b _ _ _ (fun t ht => by rw [Nat.add_assoc]; exact hcell _ (by omega)) _ (hcell k hk)
 have hfz1 : ∀ k, k < n * 2 → W1.frozen? ⟨b, off + k, none⟩ = false := fun k hk => by
  rw [hW1, World.frozen?_setCells]; exact hfz k hk
 obtain ⟨ZS, hZS⟩ : ∃ ZS, ZS = (Builtin.zeroCells z.cells (n - (i + (n - j)))).toList := ⟨_, rfl⟩
 have hZl : ZS.length = (n - (i + (n - j))) * 2 := by rw [hZS, Array.length_toList, zeroCells_len, hzc]; rfl
 have hZ1 : ∀ v ∈ ZS, v.oneCell' = true := fun v hv => by
  rw [hZS, Array.mem_toList_iff, Builtin.zeroCells, Array.mem_map] at hv
  obtain ⟨k, hk0, rfl⟩ := hv
  have hall : ∀ u ∈ z.cells.toList, u.oneCell' = true := by rw [hzc]; decide
  have hpos : 0 < z.cells.size := by rw [hzc]; decide
  have : k % z.cells.size < z.cells.size := Nat.mod_lt _ hpos
  rw [getElem!_pos z.cells _ this]
  exact hall _ (Array.getElem_mem_toList this)
 have hcl : ∀ ty, (Builtin.clear_ #[22] ty #[.slice (some ⟨b, off + (i + (n - j)) * 2, none⟩) (n - (i + (n - j))) (c - (i + (n - j)))]).run Tryz.prog W1 = .ok (.tuple #[]) (W1.setCells b (off + (i + (n - j)) * 2) ZS) := fun ty => by
  rw [hZS]
  rw [hZS] at hZl hZ1
  exact run_clear_cellsK W1 22 54 ty z tSL hzv b _ _ _ (by omega) (fun t ht => by rw [hZl] at ht; rw [Nat.add_assoc]; exact hsp1 _ (by omega)) (fun t ht => by rw [hZl] at ht; rw [Nat.add_assoc]; exact hfz1 _ (by omega)) hZ1
 have hW : Hid (W1 = w.drew.setCells b (off + i * 2) news) := hW1
 have X : Hid (W1 = w.drew.setCells b (off + i * 2) (cs.drop (j * 2))) := by rw [← hnews]; exact hW1
 have hic : i ≤ c := by omega
 have hjc : j ≤ c := by omega
 have hin : i ≤ n := by omega
 have hz2 : ¬ ((i : Int) = (j : Int)) := by omega
 have hlc : ¬ (c = i + (n - j)) := by omega
 have hle : i + (n - j) ≤ n := by omega
 have hlec : i + (n - j) ≤ c := by omega
 refine Calls.mono (R := fun e w' => e = .returned (.slice (some ⟨b, off, none⟩) (i + (n - j)) c) ∧ w' = W1.setCells b (off + (i + (n - j)) * 2) ZS) ?_ fun e w' h => ⟨ZS, h.1, by rw [h.2, X.out]⟩
 clear hW1 hsp1 hfz1 hcell hnews hlen X hZS hZl hZ1 hzc hcs hfz h1c
 go_enter Tryz.func79, Tryz.ntmps79
 go_wp2_with fail
 go_region_law_o (refine step_append_room rfl (.tmp 22) (.tmp 25) 22 rfl 54 i0 2 tSL hi0 hzs b off i c (by simp [Act.eval, Act.put]) A (n - j) (c - j) news (by simp [Act.eval, Act.put]) s1.out hsrc.out s2.out (by omega) s3.out ?_; rw [← hW.out])
 go_wp2
 go_ret
 exact ⟨rfl, rfl⟩
end DelB
end
section
open Go Go.PG Go.Proofs Go.RowKit
namespace DelB
open InsB (rows_of RowRep.takeN RowRep.dropN sets mem_of_row)
set_option maxHeartbeats 1000000 in
theorem del_ok {G : World → Prop} {e : Ty} (he : e.size = 2) : DelOk Tryz.prog G 79 e := by
 intro Z w A cap xs i j _ hxc hi0 hij hjl hxs
 obtain ⟨i, rfl⟩ : ∃ n : Nat, i = n := ⟨i.toNat, by omega⟩
 obtain ⟨j, rfl⟩ : ∃ n : Nat, j = n := ⟨j.toNat, by omega⟩
 have hij : i ≤ j := by omega
 have hjl : j ≤ xs.length := by omega
 have hpos : 0 < e.size := by omega
 have hdel : PG.P.delAt xs (i : Int) (j : Int) = xs.take i ++ xs.drop j := rfl
 have hlen : (PG.P.delAt xs (i : Int) (j : Int)).length = i + (xs.length - j) := by
  rw [hdel]; simp [List.length_take, List.length_drop]; omega
 rw [hlen]
 by_cases hc0 : cap = 0
 ·have hx0 : xs = [] := List.length_eq_zero_iff.1 (by omega)
  subst hx0
  simp only [List.length_nil, Nat.le_zero_eq] at hjl
  subst hjl
  have hi : i = 0 := by omega
  subst hi; subst hc0
  refine (same0 A w).mono fun e' w' ⟨h1, h2⟩ => ?_
  subst h1; subst h2
  exact ⟨rfl, fun _ _ _ => rfl, fun b o cs el z => absurd rfl z, rfl, rfl, rfl, Nat.le_refl _⟩
 ·obtain ⟨b, o, cells, el, rfl, hb, hfit, hxs⟩ := hxs.resolve_left hc0
  have hmulx : xs.length * e.size ≤ cap * e.size := Nat.mul_le_mul_right _ hxc
  obtain ⟨rx, cx'⟩ := rows_of hpos hb (by omega) hxs
  generalize hCS : (cells.toList.drop o).take (xs.length * e.size) = CS at rx cx'
  have hCl : CS.length = xs.length * 2 := by rw [rx.1, he]
  have fzb : ∀ k, w.frozen? ⟨b, k, none⟩ = false := fun k => by simp [World.frozen?, hb]
  rcases Nat.lt_or_ge i j with hlt | hge
  ·refine (del b o xs.length cap i j CS w hlt hjl hxc hCl cx' (fun k _ => fzb _) (rowrep_one hpos rx)).mono fun e' w' ⟨ZS, h1, h2⟩ => ?_
   subst h1; subst h2
   obtain ⟨p1, p2, p3, p4, p5, p6⟩ := sets b (CS.drop (j * 2)) (o + i * 2) w.drew
   obtain ⟨q1, q2, q3, q4, q5, q6⟩ := sets b ZS (o + (i + (xs.length - j)) * 2) (w.drew.setCells b (o + i * 2) (CS.drop (j * 2)))
   refine ⟨rfl, fun k hk hA => (q5 k fun z => hA hc0 o (by rw [z])).trans (p5 k fun z => hA hc0 o (by rw [z])), ?_, q1.trans p1, q2.trans p2, q3.trans p3, by rw [q4, p4]; exact Nat.le_refl _⟩
   intro b' o' cs' el' _ hA hb'
   injection hA with hA
   injection hA with hA1 hA2
   subst hA1; subst hA2
   rw [hb] at hb'
   injection hb' with hb'
   injection hb' with e1 e2 e3
   subst e1; subst e2
   obtain ⟨c1, r1, r2⟩ := p6 cells el (0, 0) hb
   obtain ⟨c2, r3, r4⟩ := q6 c1 el (0, 0) r1
   refine ⟨c2, r3, r4.trans r2, ?_⟩
   have rtake : RowRep Z w e (xs.take i) (CS.take (i * 2)) := by have := RowRep.takeN rx i (by omega); rwa [he] at this
   have rdrop : RowRep Z w e (xs.drop j) (CS.drop (j * 2)) := by have := RowRep.dropN rx j; rwa [he] at this
   have htake : (CS.take (i * 2)).length = i * 2 := by rw [List.length_take, hCl]; omega
   have hdrop : (CS.drop (j * 2)).length = (xs.length - j) * 2 := by rw [List.length_drop, hCl, ← Nat.sub_mul]
   rw [hdel]
   refine mem_of_row (rtake.append rdrop) fun k v hv => ?_
   have hkl := (List.getElem?_eq_some_iff.1 hv).1
   rw [List.length_append, htake, hdrop] at hkl
   rw [World.cell?_setCells_out _ _ _ _ _ (fun _ _ => .inl (by show o + k < o + (i + (xs.length - j)) * 2; omega))]
   rcases Nat.lt_or_ge k (i * 2) with z1 | z1
   ·rw [List.getElem?_append_left (by omega), List.getElem?_take, if_pos z1] at hv
    rw [World.cell?_setCells_out _ _ _ _ _ (fun _ _ => .inl (by show o + k < o + i * 2; omega))]
    exact cx' k v hv
   ·rw [List.getElem?_append_right (by omega), htake] at hv
    obtain ⟨hl, hv⟩ := List.getElem?_eq_some_iff.1 hv
    have := World.cell?_setCells_in b (CS.drop (j * 2)) (o + i * 2) w.drew (fun t ht => by
     rw [hdrop] at ht
     have : w.cell? ⟨b, o + (i * 2 + t), none⟩ = some _ := cx' (i * 2 + t) _ (List.getElem?_eq_getElem (by omega))
     rw [Nat.add_assoc]
     show (w.cell? _).isSome = true
     rw [this]; rfl) (k - i * 2) hl
    rw [show o + i * 2 + (k - i * 2) = o + k by omega, hv] at this
    exact this
  ·have hi : i = j := by omega
   subst hi
   have hsame : i + (xs.length - i) = xs.length := by omega
   refine (same b o xs.length cap i w hjl hxc).mono fun e' w' ⟨h1, h2⟩ => ?_
   subst h1; subst h2
   rw [hsame]
   refine ⟨rfl, fun _ _ _ => rfl, fun b' o' cs' el' _ hA hb' => ?_, rfl, rfl, rfl, Nat.le_refl _⟩
   injection hA with hA
   injection hA with hA1 hA2
   subst hA1; subst hA2
   rw [hb] at hb'
   injection hb' with hb'
   injection hb' with e1 e2 e3
   subst e1; subst e2
   exact ⟨cells, hb, rfl, by rw [hdel, List.take_append_drop]; exact hxs⟩
end DelB
end
section
open Go Go.PG Go.Proofs Go.RowKit Go.Lib
namespace DelL
open InsL (tSL zEL t3 mixed iEL hsz)
open InsB (rows_of RowRep.takeN RowRep.dropN sets mem_of_row)
theorem f87 : Tryz.prog.funcs[87]? = some Tryz.f87 := by kernel_rfl
theorem run_clear_cellsK {P : Program} (w : World) (t e ty : TypeId) (z : Value) (ht : P.underlying t = some (.slice e)) (hv : ∀ w, (zeroValue e).run P w = .ok z w) (b o n c : Nat) (hn : 0 < n)
  (hc : ∀ j, j < (Builtin.zeroCells z.cells n).toList.length → (w.cell? ⟨b, o + j, none⟩).isSome = true) (hf : ∀ j, j < (Builtin.zeroCells z.cells n).toList.length → w.frozen? ⟨b, o + j, none⟩ = false) (h1 : ∀ v ∈ (Builtin.zeroCells z.cells n).toList, v.oneCell' = true) :
  (Builtin.clear_ #[t] ty #[.slice (some ⟨b, o, none⟩) n c]).run P w = .ok (.tuple #[]) (w.setCells b o (Builtin.zeroCells z.cells n).toList) := by
 have hst := run_storeCells_cells (P := P) b o (Builtin.zeroCells z.cells n).toList 0 w hc hf h1
 simp only [Nat.add_zero] at hst
 obtain ⟨m, rfl⟩ : ∃ m, n = m + 1 := ⟨n - 1, by omega⟩
 simp [Builtin.clear_, run_underlying ht, hv, hst]
set_option maxHeartbeats 4000000 in
set_option maxRecDepth 100000 in
theorem same (b off n c i : Nat) (w : World) (hi : i ≤ n) (hnc : n ≤ c) :
    Calls Tryz.prog 87 #[.slice (some ⟨b, off, none⟩) n c, .int .i64 i, .int .i64 i] w fun e w' => e = .returned (.slice (some ⟨b, off, none⟩) n c) ∧ w' = w := by
  have tSL := tSL; have zEL := zEL; have t3 := t3
  have uSL := run_underlying tSL; have u3 := run_underlying t3
  have mixed := mixed
  go_enter Tryz.func87, Tryz.ntmps87
  go_wp2
  all_goals (go_ret; exact ⟨rfl, rfl⟩)
set_option maxHeartbeats 4000000 in
set_option maxRecDepth 100000 in
theorem same0 (A : Option Addr) (w : World) :
    Calls Tryz.prog 87 #[.slice A 0 0, .int .i64 0, .int .i64 0] w fun e w' => e = .returned (.slice A 0 0) ∧ w' = w := by
  have tSL := tSL; have zEL := zEL; have t3 := t3
  have uSL := run_underlying tSL; have u3 := run_underlying t3
  have mixed := mixed
  cases A with
  | none =>
    go_enter Tryz.func87, Tryz.ntmps87
    go_wp2
    all_goals (go_ret; exact ⟨rfl, rfl⟩)
  | some a =>
    obtain ⟨ab, ao, asp⟩ := a
    go_enter Tryz.func87, Tryz.ntmps87
    go_wp2
    all_goals (go_ret; exact ⟨rfl, rfl⟩)
set_option maxHeartbeats 4000000 in
set_option maxRecDepth 100000 in
theorem del (b off n c i j : Nat) (cs : List Value) (w : World) (hij : i < j) (hjn : j ≤ n) (hnc : n ≤ c)
    (hcl : cs.length = n * 4) (hcs : ∀ t v, cs[t]? = some v → w.cell? ⟨b, off + t, none⟩ = some v) (hfz : ∀ t, t < n * 4 → w.frozen? ⟨b, off + t, none⟩ = false) (h1c : ∀ v ∈ cs, v.oneCell' = true) :
    Calls Tryz.prog 87 #[.slice (some ⟨b, off, none⟩) n c, .int .i64 i, .int .i64 j] w fun e w' => ∃ ZS : List Value,
      e = .returned (.slice (some ⟨b, off, none⟩) (i + (n - j)) c) ∧ w' = (w.drew.setCells b (off + i * 4) (cs.drop (j * 4))).setCells b (off + (i + (n - j)) * 4) ZS := by
  have tSL := tSL; have zEL := zEL; have t3 := t3
  have uSL := run_underlying tSL; have u3 := run_underlying t3
  have mixed := mixed
  obtain ⟨i0, hi0, hz0, hzs, hzb⟩ := iEL
  obtain ⟨z, hzz, hzc⟩ : ∃ z, i0.zero = some z ∧ z.cells = #[.int .i64 0, .int .i64 0, .slice none 0 0, .slice none 0 0] := by
    cases q : i0.zero with
    | none => rw [q] at hz0; cases hz0
    | some z =>
      rw [q] at hz0
      simp only [Option.map_some, Option.some.injEq] at hz0
      exact ⟨z, rfl, hz0⟩
  have hzv : ∀ w, (zeroValue 46).run Tryz.prog w = .ok z w := fun w => by simp [zeroValue, typeInfo, hi0, hzz]
  obtain ⟨news, hnews⟩ : ∃ news, news = cs.drop (j * 4) := ⟨_, rfl⟩
  have hlen : news.length = (n - j) * 4 := by rw [hnews, List.length_drop, hcl]; omega
  have hcell : ∀ t, t < n * 4 → (w.cell? ⟨b, off + t, none⟩).isSome = true := fun t ht => by
    rw [hcs t _ (List.getElem?_eq_getElem (by omega))]; rfl
  obtain ⟨A, hA, hsrc⟩ : ∃ A : Addr, (if c = j then some (⟨b, off, none⟩ : Addr) else some ⟨b, off + j * 4, none⟩) = some A ∧ Hid (∀ t u, news[t]? = some u → w.drew.cell? (A.add t) = some u) := by
    by_cases h : c = j
    · refine ⟨⟨b, off, none⟩, by simp [h], fun t u hu => ?_⟩
      have h0 : news.length = 0 := by rw [hlen]; omega
      rw [List.length_eq_zero_iff.1 h0] at hu
      simp at hu
    · refine ⟨⟨b, off + j * 4, none⟩, by simp [h], fun t u hu => ?_⟩
      rw [hnews, List.getElem?_drop] at hu
      rw [Addr.add_lit, Nat.add_assoc]
      exact hcs _ u hu
  have s1 : Hid (news.length = (n - j) * 4) := hlen
  have s2 : Hid (∀ u ∈ news, u.oneCell' = true) := by
    intro u hu
    rw [hnews] at hu
    exact h1c u (List.mem_of_mem_drop hu)
  have s3 : Hid (∀ t, t < news.length → (w.drew.cell? ⟨b, off + i * 4 + t, none⟩).isSome = true ∧ w.drew.frozen? ⟨b, off + i * 4 + t, none⟩ = false) := by
    intro t ht
    rw [hlen] at ht
    rw [Nat.add_assoc]
    exact ⟨hcell _ (by omega), hfz _ (by omega)⟩
  obtain ⟨W1, hW1⟩ : ∃ W1, W1 = w.drew.setCells b (off + i * 4) news := ⟨_, rfl⟩
  have hsp1 : ∀ k, k < n * 4 → (W1.cell? ⟨b, off + k, none⟩).isSome = true := fun k hk => by
    rw [hW1]
    exact isSome_setCells b _ _ _ (fun t ht => by rw [Nat.add_assoc]; exact hcell _ (by omega)) _ (hcell k hk)
  have hfz1 : ∀ k, k < n * 4 → W1.frozen? ⟨b, off + k, none⟩ = false := fun k hk => by
    rw [hW1, World.frozen?_setCells]; exact hfz k hk
  obtain ⟨ZS, hZS⟩ : ∃ ZS, ZS = (Builtin.zeroCells z.cells (n - (i + (n - j)))).toList := ⟨_, rfl⟩
  have hZl : ZS.length = (n - (i + (n - j))) * 4 := by rw [hZS, Array.length_toList, zeroCells_len, hzc]; rfl
  have hZ1 : ∀ v ∈ ZS, v.oneCell' = true := fun v hv => by
    rw [hZS, Array.mem_toList_iff, Builtin.zeroCells, Array.mem_map] at hv
    obtain ⟨k, hk0, rfl⟩ := hv
    have hall : ∀ u ∈ z.cells.toList, u.oneCell' = true := by rw [hzc]; decide
    have hpos : 0 < z.cells.size := by rw [hzc]; decide
    have : k % z.cells.size < z.cells.size := Nat.mod_lt _ hpos
    rw [getElem!_pos z.cells _ this]
    exact hall _ (Array.getElem_mem_toList this)
  have hcl : ∀ ty, (Builtin.clear_ #[23] ty #[.slice (some ⟨b, off + (i + (n - j)) * 4, none⟩) (n - (i + (n - j))) (c - (i + (n - j)))]).run Tryz.prog W1 = .ok (.tuple #[]) (W1.setCells b (off + (i + (n - j)) * 4) ZS) := fun ty => by
    rw [hZS]
    rw [hZS] at hZl hZ1
    exact run_clear_cellsK W1 23 46 ty z tSL hzv b _ _ _ (by omega) (fun t ht => by rw [hZl] at ht; rw [Nat.add_assoc]; exact hsp1 _ (by omega)) (fun t ht => by rw [hZl] at ht; rw [Nat.add_assoc]; exact hfz1 _ (by omega)) hZ1
  have hW : Hid (W1 = w.drew.setCells b (off + i * 4) news) := hW1
  have X : Hid (W1 = w.drew.setCells b (off + i * 4) (cs.drop (j * 4))) := by rw [← hnews]; exact hW1
  have hic : i ≤ c := by omega
  have hjc : j ≤ c := by omega
  have hin : i ≤ n := by omega
  have hz2 : ¬ ((i : Int) = (j : Int)) := by omega
  have hlc : ¬ (c = i + (n - j)) := by omega
  have hle : i + (n - j) ≤ n := by omega
  have hlec : i + (n - j) ≤ c := by omega
  refine Calls.mono (R := fun e w' => e = .returned (.slice (some ⟨b, off, none⟩) (i + (n - j)) c) ∧ w' = W1.setCells b (off + (i + (n - j)) * 4) ZS) ?_ fun e w' h => ⟨ZS, h.1, by rw [h.2, X.out]⟩
  clear hW1 hsp1 hfz1 hcell hnews hlen X hZS hZl hZ1 hzc hcs hfz h1c
  go_enter Tryz.func87, Tryz.ntmps87
  go_wp2_with fail
  go_region_law_o (refine step_append_room rfl (.tmp 22) (.tmp 25) 23 rfl 46 i0 4 tSL hi0 hzs b off i c (by simp [Act.eval, Act.put]) A (n - j) (c - j) news (by simp [Act.eval, Act.put]) s1.out hsrc.out s2.out (by omega) s3.out ?_; rw [← hW.out])
  go_wp2
  go_ret
  exact ⟨rfl, rfl⟩
end DelL
end
section
open Go Go.PG Go.Proofs Go.RowKit
namespace DelL
open InsB (rows_of RowRep.takeN RowRep.dropN sets mem_of_row)
set_option maxHeartbeats 1000000 in
theorem del_ok {G : World → Prop} {e : Ty} (he : e.size = 4) : DelOk Tryz.prog G 87 e := by
 intro Z w A cap xs i j _ hxc hi0 hij hjl hxs
 obtain ⟨i, rfl⟩ : ∃ n : Nat, i = n := ⟨i.toNat, by omega⟩
 obtain ⟨j, rfl⟩ : ∃ n : Nat, j = n := ⟨j.toNat, by omega⟩
 have hij : i ≤ j := by omega
 have hjl : j ≤ xs.length := by omega
 have hpos : 0 < e.size := by omega
 have hdel : PG.P.delAt xs (i : Int) (j : Int) = xs.take i ++ xs.drop j := rfl
 have hlen : (PG.P.delAt xs (i : Int) (j : Int)).length = i + (xs.length - j) := by
  rw [hdel]; simp [List.length_take, List.length_drop]; omega
 rw [hlen]
 by_cases hc0 : cap = 0
 ·have hx0 : xs = [] := List.length_eq_zero_iff.1 (by omega)
  subst hx0
  simp only [List.length_nil, Nat.le_zero_eq] at hjl
  subst hjl
  have hi : i = 0 := by omega
  subst hi; subst hc0
  refine (same0 A w).mono fun e' w' ⟨h1, h2⟩ => ?_
  subst h1; subst h2
  exact ⟨rfl, fun _ _ _ => rfl, fun b o cs el z => absurd rfl z, rfl, rfl, rfl, Nat.le_refl _⟩
 ·obtain ⟨b, o, cells, el, rfl, hb, hfit, hxs⟩ := hxs.resolve_left hc0
  have hmulx : xs.length * e.size ≤ cap * e.size := Nat.mul_le_mul_right _ hxc
  obtain ⟨rx, cx'⟩ := rows_of hpos hb (by omega) hxs
  generalize hCS : (cells.toList.drop o).take (xs.length * e.size) = CS at rx cx'
  have hCl : CS.length = xs.length * 4 := by rw [rx.1, he]
  have fzb : ∀ k, w.frozen? ⟨b, k, none⟩ = false := fun k => by simp [World.frozen?, hb]
  rcases Nat.lt_or_ge i j with hlt | hge
  ·refine (del b o xs.length cap i j CS w hlt hjl hxc hCl cx' (fun k _ => fzb _) (rowrep_one hpos rx)).mono fun e' w' ⟨ZS, h1, h2⟩ => ?_
   subst h1; subst h2
   obtain ⟨p1, p2, p3, p4, p5, p6⟩ := sets b (CS.drop (j * 4)) (o + i * 4) w.drew
   obtain ⟨q1, q2, q3, q4, q5, q6⟩ := sets b ZS (o + (i + (xs.length - j)) * 4) (w.drew.setCells b (o + i * 4) (CS.drop (j * 4)))
   refine ⟨rfl, fun k hk hA => (q5 k fun z => hA hc0 o (by rw [z])).trans (p5 k fun z => hA hc0 o (by rw [z])), ?_, q1.trans p1, q2.trans p2, q3.trans p3, by rw [q4, p4]; exact Nat.le_refl _⟩
   intro b' o' cs' el' _ hA hb'
   injection hA with hA
   injection hA with hA1 hA2
   subst hA1; subst hA2
   rw [hb] at hb'
   injection hb' with hb'
   injection hb' with e1 e2 e3
   subst e1; subst e2
   obtain ⟨c1, r1, r2⟩ := p6 cells el (0, 0) hb
   obtain ⟨c2, r3, r4⟩ := q6 c1 el (0, 0) r1
   refine ⟨c2, r3, r4.trans r2, ?_⟩
   have rtake : RowRep Z w e (xs.take i) (CS.take (i * 4)) := by have := RowRep.takeN rx i (by omega); rwa [he] at this
   have rdrop : RowRep Z w e (xs.drop j) (CS.drop (j * 4)) := by have := RowRep.dropN rx j; rwa [he] at this
   have htake : (CS.take (i * 4)).length = i * 4 := by rw [List.length_take, hCl]; omega
   have hdrop : (CS.drop (j * 4)).length = (xs.length - j) * 4 := by rw [List.length_drop, hCl, ← Nat.sub_mul]
   rw [hdel]
   refine mem_of_row (rtake.append rdrop) fun k v hv => ?_
   have hkl := (List.getElem?_eq_some_iff.1 hv).1
   rw [List.length_append, htake, hdrop] at hkl
   rw [World.cell?_setCells_out _ _ _ _ _ (fun _ _ => .inl (by show o + k < o + (i + (xs.length - j)) * 4; omega))]
   rcases Nat.lt_or_ge k (i * 4) with z1 | z1
   ·rw [List.getElem?_append_left (by omega), List.getElem?_take, if_pos z1] at hv
    rw [World.cell?_setCells_out _ _ _ _ _ (fun _ _ => .inl (by show o + k < o + i * 4; omega))]
    exact cx' k v hv
   ·rw [List.getElem?_append_right (by omega), htake] at hv
    obtain ⟨hl, hv⟩ := List.getElem?_eq_some_iff.1 hv
    have := World.cell?_setCells_in b (CS.drop (j * 4)) (o + i * 4) w.drew (fun t ht => by
     rw [hdrop] at ht
     have : w.cell? ⟨b, o + (i * 4 + t), none⟩ = some _ := cx' (i * 4 + t) _ (List.getElem?_eq_getElem (by omega))
     rw [Nat.add_assoc]
     show (w.cell? _).isSome = true
     rw [this]; rfl) (k - i * 4) hl
    rw [show o + i * 4 + (k - i * 4) = o + k by omega, hv] at this
    exact this
  ·have hi : i = j := by omega
   subst hi
   have hsame : i + (xs.length - i) = xs.length := by omega
   refine (same b o xs.length cap i w hjl hxc).mono fun e' w' ⟨h1, h2⟩ => ?_
   subst h1; subst h2
   rw [hsame]
   refine ⟨rfl, fun _ _ _ => rfl, fun b' o' cs' el' _ hA hb' => ?_, rfl, rfl, rfl, Nat.le_refl _⟩
   injection hA with hA
   injection hA with hA1 hA2
   subst hA1; subst hA2
   rw [hb] at hb'
   injection hb' with hb'
   injection hb' with e1 e2 e3
   subst e1; subst e2
   exact ⟨cells, hb, rfl, by rw [hdel, List.take_append_drop]; exact hxs⟩
end DelL
end
section
open Go Go.Proofs Go.Lib Go.RowKit
namespace Go.Proofs
open Go.Shelf
def Tryz.sortL_ren : Go.Shelf.Ren := ⟨fun | 6 => 99 | 15 => 120 | 14 => 119 | 28 => 137 | 29 => 138 | 20 => 129 | 21 => 130 | 22 => 131 | 23 => 132 | 24 => 133 | 25 => 134 | 26 => 135 | 27 => 136 | 46 => 145 | 47 => 146 | 48 => 147 | 49 => 148 | 50 => 149 | 57 => 155 | n => n, fun | 22 => 33 | 24 => 27 | 25 => 63 | 3 => 3 | 39 => 130 | 0 => 0 | 53 => 142 | 55 => 115 | 4 => 4 | 46 => 136 | 45 => 135 | 50 => 97 | 5 => 5 | 9 => 9 | 66 => 148 | 70 => 152 | 76 => 159 | 77 => 160 | n => n, fun | n => n⟩
theorem Tryz.sortL : Go.Proofs.SlLaysF0.n6 Tryz.prog Tryz.sortL_ren := {
 mixed := by kernel_rfl
 f6 := ⟨Tryz.f99.name, by decide, Tryz.func99.trans (congrArg some (by kernel_rfl))⟩
 f14 := ⟨Tryz.f119.name, by decide, Tryz.func119.trans (congrArg some (by kernel_rfl))⟩
 f15 := Tryz.func120.trans (congrArg some (by kernel_rfl))
 f20 := ⟨Tryz.f129.name, by decide, Tryz.func129.trans (congrArg some (by kernel_rfl))⟩
 f21 := ⟨Tryz.f130.name, by decide, Tryz.func130.trans (congrArg some (by kernel_rfl))⟩
 f22 := ⟨Tryz.f131.name, by decide, Tryz.func131.trans (congrArg some (by kernel_rfl))⟩
 f23 := ⟨Tryz.f132.name, by decide, Tryz.func132.trans (congrArg some (by kernel_rfl))⟩
 f24 := ⟨Tryz.f133.name, by decide, Tryz.func133.trans (congrArg some (by kernel_rfl))⟩
 f25 := ⟨Tryz.f134.name, by decide, Tryz.func134.trans (congrArg some (by kernel_rfl))⟩
 f26 := ⟨Tryz.f135.name, by decide, Tryz.func135.trans (congrArg some (by kernel_rfl))⟩
 f27 := ⟨Tryz.f136.name, by decide, Tryz.func136.trans (congrArg some (by kernel_rfl))⟩
 f28 := Tryz.func137.trans (congrArg some (by kernel_rfl))
 f29 := Tryz.func138.trans (congrArg some (by kernel_rfl))
 f46 := ⟨Tryz.f145.name, by decide, Tryz.func145.trans (congrArg some (by kernel_rfl))⟩
 f47 := Tryz.func146.trans (congrArg some (by kernel_rfl))
 f48 := Tryz.func147.trans (congrArg some (by kernel_rfl))
 f49 := ⟨Tryz.f148.name, by decide, Tryz.func148.trans (congrArg some (by kernel_rfl))⟩
 f50 := ⟨Tryz.f149.name, by decide, Tryz.func149.trans (congrArg some (by kernel_rfl))⟩
 f57 := ⟨Tryz.f155.name, by decide, Tryz.func155.trans (congrArg some (by kernel_rfl))⟩
 t0 := Tryz.underlying0
 a0 := Tryz.isAgg0
 z0 := Tryz.sizeOf0
 v0 := Tryz.zeroValue0
 t3 := Tryz.underlying3
 a3 := Tryz.isAgg3
 z3 := Tryz.sizeOf3
 v3 := Tryz.zeroValue3
 t4 := Tryz.underlying4
 a4 := Tryz.isAgg4
 z4 := Tryz.sizeOf4
 v4 := Tryz.zeroValue4
 t5 := Tryz.underlying5
 a5 := Tryz.isAgg5
 z5 := Tryz.sizeOf5
 v5 := Tryz.zeroValue5
 t9 := Tryz.underlying9
 a9 := Tryz.isAgg9
 z9 := Tryz.sizeOf9
 v9 := Tryz.zeroValue9
 t22 := Tryz.underlying33
 a22 := Tryz.isAgg33
 z22 := Tryz.sizeOf33
 v22 := Tryz.zeroValue33
 t25 := Tryz.underlying63
 a25 := Tryz.isAgg63
 z25 := Tryz.sizeOf63
 v25 := Tryz.zeroValue63
 t39 := Tryz.underlying130
 a39 := Tryz.isAgg130
 z39 := Tryz.sizeOf130
 v39 := Tryz.zeroValue130
 t45 := Tryz.underlying135
 a45 := Tryz.isAgg135
 z45 := Tryz.sizeOf135
 v45 := Tryz.zeroValue135
 t46 := Tryz.underlying136
 a46 := Tryz.isAgg136
 z46 := Tryz.sizeOf136
 v46 := Tryz.zeroValue136
 t50 := Tryz.underlying97
 a50 := Tryz.isAgg97
 z50 := Tryz.sizeOf97
 v50 := Tryz.zeroValue97
 t53 := Tryz.underlying142
 a53 := Tryz.isAgg142
 z53 := Tryz.sizeOf142
 v53 := Tryz.zeroValue142
 t55 := Tryz.underlying115
 a55 := Tryz.isAgg115
 z55 := Tryz.sizeOf115
 v55 := Tryz.zeroValue115
 t66 := Tryz.underlying148
 a66 := Tryz.isAgg148
 z66 := Tryz.sizeOf148
 v66 := Tryz.zeroValue148
 t70 := Tryz.underlying152
 a70 := Tryz.isAgg152
 z70 := Tryz.sizeOf152
 v70 := Tryz.zeroValue152
 t76 := Tryz.underlying159
 a76 := Tryz.isAgg159
 z76 := Tryz.sizeOf159
 v76 := Tryz.zeroValue159
 t77 := Tryz.underlying160
 a77 := Tryz.isAgg160
 z77 := Tryz.sizeOf160
 v77 := Tryz.zeroValue160 }
end Go.Proofs
namespace SortW
theorem nan_c (x : Int) (w : World) : Calls Tryz.prog 101 #[.int .i64 x] w fun e w' => e = .returned (.bool false) ∧ w' = w := by
 go_enter Tryz.func101, Tryz.ntmps101
 go_wp2
 go_ret
 exact ⟨by simp, rfl⟩
theorem cmp_c (x y : Int) (w : World) : Calls Tryz.prog 69 #[.int .i64 x, .int .i64 y] w fun e w' => e = .returned (.int .i64 (Lib.compareInt x y)) ∧ w' = w := by
 go_enter Tryz.func69, Tryz.ntmps69
 go_wp2_with (go_at_call 101; refine (nan_c _ _).mono ?_; rintro e w' ⟨rfl, hw⟩; rw [hw])
 all_goals (go_ret; refine ⟨?_, rfl⟩; unfold Lib.compareInt; (repeat' split) <;> first | rfl | (exfalso; omega))
def orI (x y : Int) : Int := if x = 0 then y else x
theorem or_c (b cap : Nat) (x y : Int) (w : World) (h0 : w.cell? ⟨b, 0, none⟩ = some (.int .i64 x)) (h1 : w.cell? ⟨b, 1, none⟩ = some (.int .i64 y)) :
  Calls Tryz.prog 68 #[.slice (some ⟨b, 0, none⟩) 2 cap] w fun e w' => e = .returned (.int .i64 (orI x y)) ∧ w' = w := by
 unfold orI
 go_enter Tryz.func68, Tryz.ntmps68
 go_wp2
 refine wp_loop_rounds 3 ?_
 rw [rounds_succ]
 go_wp2
 ·exact absurd ‹x = 0› (by simpa using ‹(x != 0) = true›)
 ·go_ret
  exact ⟨rfl, rfl⟩
 have hx : x = 0 := by simpa using ‹(x != 0) = false›
 subst hx
 rw [rounds_succ]
 go_wp2
 ·go_ret
  exact ⟨rfl, rfl⟩
 have hy : y = 0 := by simpa using ‹(y != 0) = false›
 subst hy
 rw [rounds_succ]
 go_wp2
 go_ret
 exact ⟨rfl, rfl⟩
theorem cell_new (W : World) (x y : Value) (T : TypeId) (n : Nat) (hn : n = W.heap.size) : (W.alloc (.cells #[x, y] T)).drew.cell? ⟨n, 0, none⟩ = some x ∧ (W.alloc (.cells #[x, y] T)).drew.cell? ⟨n, 1, none⟩ = some y := by
 subst hn
 constructor <;> simp
theorem three (w : World) (o1 o2 o3 : Obj) : ∃ q os', (((w.alloc o1).alloc o2).alloc o3).drew = Sort.grow (w.drewN q) os' := by
 refine ⟨1, #[o1] ++ #[o2] ++ #[o3], ?_⟩
 rw [Sort.alloc_eq_grow, Sort.alloc_eq_grow, Sort.alloc_eq_grow, Sort.grow_grow, Sort.grow_grow]
 rfl
def cf (a b : Int × Int) : Int := orI (Lib.compareInt a.1 b.1) (Lib.compareInt a.2 b.2)
def enc (a : Int × Int) : List Value := [.int .i64 a.1, .int .i64 a.2]
theorem at_c (a b : Int × Int) (w : World) : Calls Tryz.prog 42 #[.agg #[.int .i64 a.1, .int .i64 a.2], .agg #[.int .i64 b.1, .int .i64 b.2]] w fun e w' => e = .returned (.int .i64 (cf a b)) ∧ ∃ q os', w' = Sort.grow (w.drewN q) os' := by
 go_enter Tryz.func42, Tryz.ntmps42
 go_wp2
 go_region_held3 (fun w' => w'.cell? ⟨w.heap.size, 0, none⟩ = some (.int .i64 a.1) ∧ w'.cell? ⟨w.heap.size, 1, none⟩ = some (.int .i64 a.2) ∧ w'.cell? ⟨w.heap.size + 1, 0, none⟩ = some (.int .i64 b.1) ∧ w'.cell? ⟨w.heap.size + 1, 1, none⟩ = some (.int .i64 b.2)) (go_keep)
  (first | (go_at_call 69; refine (cmp_c _ _ _).mono ?_; rintro e w' ⟨rfl, rfl⟩) | (go_at_call 68; go_must (refine (or_c _ _ (compareInt a.1 b.1) (compareInt a.2 b.2) _ (cell_new _ _ _ _ _ (by simp)).1 (cell_new _ _ _ _ _ (by simp)).2).mono ?_); rintro e w' ⟨rfl, rfl⟩))
 all_goals go_wp2
 go_ret
 exact ⟨rfl, three _ _ _ _⟩
theorem ins_nil (p : Option Addr) (cap : Nat) (w : World) : Calls Tryz.prog 129 #[.slice p 0 cap, .int .i64 0, .int .i64 0, .func (.func 42) #[] #[]] w fun e w' => e = .returned (.tuple #[]) ∧ w' = w := by
 go_enter Tryz.func129, Tryz.ntmps129
 go_wp2
 refine wp_loop_rounds 1 ?_
 rw [rounds_succ]
 go_wp2
 go_end0
 exact ⟨rfl, rfl⟩
set_option maxRecDepth 100000 in
theorem pdq_nil (p : Option Addr) (cap : Nat) (w : World) : Calls Tryz.prog 119 #[.slice p 0 cap, .int .i64 0, .int .i64 0, .int .i64 0, .func (.func 42) #[] #[]] w fun e w' => e = .returned (.tuple #[]) ∧ w' = w := by
 go_enter Tryz.func119, Tryz.ntmps119
 go_wp2
 refine wp_loop_rounds 1 ?_
 rw [rounds_succ]
 go_wp2_with (first | (go_at_call 129; refine (ins_nil p cap _).mono ?_; rintro e w' ⟨rfl, rfl⟩))
 refine bodyPost_ret (results_none rfl _ _ _) rfl ?_
 exact ⟨rfl, rfl⟩
theorem sort_nil (p : Option Addr) (cap : Nat) (w : World) : Calls Tryz.prog 99 #[.slice p 0 cap, .func (.func 42) #[] #[]] w fun e w' => e = .returned (.tuple #[]) ∧ w' = w := by
 have hLen : ∀ w, Calls Tryz.prog 120 #[.int .u64 0] w fun e w' => e = .returned (.int .i64 0) ∧ w' = w := fun w => Any.bits_Len (SlLaysF0.n15.bits (P := Tryz.prog) (ρ := Tryz.sortL_ren) { Tryz.sortL with }) 0 w (by omega) (by omega)
 go_enter Tryz.func99, Tryz.ntmps99
 go_wp2_with (first
  | (go_at_call 120; refine (hLen _).mono ?_; rintro e w' ⟨rfl, rfl⟩)
  | (go_at_call 119; refine (pdq_nil p cap _).mono ?_; rintro e w' ⟨rfl, rfl⟩))
 go_end0
 exact ⟨rfl, rfl⟩
end SortW
end
section
open Go Go.PG Go.Proofs Go.RowKit Go.Sort
namespace SortW
def sortF (l : List (Int × Int)) : Option (List (Int × Int)) := if l.length < 4611686018427387904 then some (l.mergeSort fun a b => decide (a.1 < b.1 ∨ (a.1 = b.1 ∧ a.2 ≤ b.2))) else none
theorem cf_lt (a b : Int × Int) : ltOf cf a b = decide (a.1 < b.1 ∨ (a.1 = b.1 ∧ a.2 < b.2)) := by
 unfold ltOf cf orI Lib.compareInt
 rw [decide_eq_decide]
 repeat' split
 all_goals omega
theorem swo : SWO (ltOf cf) := by
 refine ⟨fun x => ?_, fun x y z => ?_, fun x y z => ?_⟩
 ·rw [cf_lt]; simp
 ·rw [cf_lt, cf_lt, cf_lt]; simp only [decide_eq_true_eq]; omega
 ·rw [cf_lt, cf_lt, cf_lt]; simp only [decide_eq_false_iff_not]; omega
theorem uniq (x y : Int × Int) (h1 : ltOf cf x y = false) (h2 : ltOf cf y x = false) : x = y := by
 rw [cf_lt] at h1 h2
 simp only [decide_eq_false_iff_not] at h1 h2
 exact Prod.ext (by omega) (by omega)
theorem leb_eq : (fun x y : Int × Int => !ltOf cf y x) = fun a b => decide (a.1 < b.1 ∨ (a.1 = b.1 ∧ a.2 ≤ b.2)) := by
 funext a b
 rw [cf_lt, Bool.eq_iff_iff]
 simp only [Bool.not_eq_true', decide_eq_false_iff_not, decide_eq_true_eq]
 omega
abbrev TA : Ty := .st (.pair (.int .i64) (.int .i64))
theorem rep_enc {Z : Nat → Prop} {w : World} {x : TA.D} {cs : List Value} : RepD Z w TA x cs ↔ cs = enc x := by
 simp only [RepD]
 constructor
 ·rintro ⟨c1, c2, rfl, rfl, rfl⟩; rfl
 ·intro h; exact ⟨_, _, h, rfl, rfl⟩
theorem enc_len (x : Int × Int) : (enc x).length = 2 := rfl
theorem sort_ok (G : World → Prop) : InplOk Tryz.prog G 99 ⟨TA, 42, sortF⟩ := by
 refine ⟨rfl, ?_⟩
 intro w A cap xs ys _ hF hcap hrow
 have hlen : xs.length < 4611686018427387904 := by
  apply Classical.byContradiction
  intro q
  simp only [sortF] at hF
  rw [if_neg q] at hF
  cases hF
 have hF : xs.mergeSort (fun a b => decide (a.1 < b.1 ∨ (a.1 = b.1 ∧ a.2 ≤ b.2))) = ys := by
  simp only [sortF] at hF
  rw [if_pos hlen] at hF
  exact Option.some.inj hF
 by_cases hx : xs = []
 ·subst hx
  have hy : ys = [] := by rw [← hF]; exact List.mergeSort_nil
  subst hy
  refine (sort_nil A cap w).mono ?_
  rintro e w' ⟨rfl, rfl⟩
  exact ⟨rfl, rfl, rfl, rfl, rfl, Nat.le_refl _, fun _ k _ => rfl, fun b o cs el h => absurd rfl h⟩
 ·obtain ⟨b, o, cs, el, rfl, hb, hfit, hel⟩ := hrow.resolve_left hx
  have hsz : ∀ l : List TA.D, l.toArray.size = l.length := fun l => rfl
  have hfr : ∀ a : Addr, a.block = b → w.frozen? a = false := by
   intro a ha
   unfold World.frozen?
   rw [ha, hb]
   simp
  have hbs : b < w.heap.size := (Array.getElem?_eq_some_iff.1 hb).1
  have hget : ∀ (l : List TA.D) (i : Nat) (x : TA.D), l[i]? = some x → l.toArray[i]! = x := by
   intro l i x h
   obtain ⟨h1, h2⟩ := List.getElem?_eq_some_iff.1 h
   simp [h1, h2]
  have hH : HoldsK enc 2 w b o xs.toArray := by
   intro j hj
   rw [size_flatK, hsz] at hj
   refine ⟨?_, hfr _ rfl⟩
   rw [get_flatK _ _ _ _ hj]
   have hi : j / 2 < xs.length := by omega
   obtain ⟨d, h1, h2⟩ := hel (j / 2) xs[j / 2] (List.getElem?_eq_getElem hi)
   rw [rep_enc] at h1
   subst h1
   rw [hget xs (j / 2) xs[j / 2] (List.getElem?_eq_getElem hi)]
   have hv : (enc xs[j / 2])[j % 2]? = some (enc xs[j / 2])[j % 2]! := by
    have : j % 2 < (enc xs[j / 2]).length := by rw [enc_len]; omega
    rw [List.getElem?_eq_getElem this]; simp [this]
   have := h2 (j % 2) _ hv
   rw [show o + j = o + j / 2 * TA.size + j % 2 from by show o + j = o + j / 2 * 2 + j % 2; omega]
   exact this
  have hcmp : CmpLays Tryz.prog 42 #[] enc 2 cf b o xs.toArray.size w := fun m os dk _ x y => at_c x y _
  have main := AnyQ.slices_SortFunc (P := Tryz.prog) (ρ := Tryz.sortL_ren) Tryz.sortL 2 Tryz.isAgg27 Tryz.sizeOf27 enc enc_len (fun x v hv => by
   simp only [enc, List.mem_cons, List.not_mem_nil, or_false] at hv
   rcases hv with rfl | rfl <;> rfl) cf swo 42 #[] b o cap xs.toArray w (enters_of Tryz.func42 (by kernel_rfl) rfl) hcmp hH hbs hlen
  refine main.mono ?_
  rintro e w' ⟨rfl, d', n, os, hperm, hsort, rfl⟩
  have hys : d'.toList = ys := by
   have := sorted_unique_holds (lt := ltOf cf) swo uniq xs.toArray d' hperm hsort
   rw [leb_eq] at this
   rw [this, ← hF]
  have hd : d' = ys.toArray := by rw [← hys]
  subst hd
  have hl : ys.length = xs.length := by rw [← hF, List.length_mergeSort]
  have hb' : (sortWorldK enc 2 w b o n ys.toArray os).heap[b]? = some (.cells (putCells id o (flatK enc 2 ys.toArray) cs) el (0, 0)) := by
   unfold sortWorldK grow putRowK putRow mapBlock
   show (w.heap.modify b _ ++ os)[b]? = _
   rw [Array.getElem?_append_left (by simpa using hbs), Array.getElem?_modify, if_pos rfl, hb]
   rfl
  refine ⟨rfl, hl, rfl, rfl, rfl, size_sortWorldK_c enc 2 w b o n _ os, fun q => absurd q hx, ?_⟩
  intro b1 o1 cs1 el1 _ hA hb1
  obtain ⟨rfl, rfl⟩ : b = b1 ∧ o = o1 := by
   have := Option.some.inj hA
   exact ⟨congrArg Addr.block this, congrArg Addr.off this⟩
  rw [hb] at hb1
  obtain ⟨rfl, rfl⟩ : cs = cs1 ∧ el = el1 := by
   have := Option.some.inj hb1
   injection this with h1 h2
   exact ⟨h1, h2⟩
  refine ⟨fun k hk hne => ?_, putCells id o (flatK enc 2 ys.toArray) cs, hb', by simp [putCells], fun i y hy => ⟨enc y, rep_enc.2 rfl, fun j v hv => ?_⟩⟩
  ·unfold sortWorldK grow putRowK putRow mapBlock
   show (w.heap.modify b _ ++ os)[k]? = _
   rw [Array.getElem?_append_left (by simpa using hk), Array.getElem?_modify, if_neg (fun q => hne q.symm)]
  ·have hi : i < ys.length := (List.getElem?_eq_some_iff.1 hy).1
   have hj : j < 2 := by have := (List.getElem?_eq_some_iff.1 hv).1; rw [enc_len] at this; exact this
   have ht : i * 2 + j < (flatK enc 2 ys.toArray).size := by rw [size_flatK, hsz]; omega
   rw [show o + i * TA.size + j = o + (i * 2 + j) from by show o + i * 2 + j = _; omega]
   unfold World.cell?
   rw [show (Addr.mk b (o + (i * 2 + j)) none).block = b from rfl, hb']
   have hc : o + (i * 2 + j) < cs.size := by
    have : xs.length * 2 = xs.length * TA.size := rfl
    rw [← this] at hfit
    rw [size_flatK, hsz] at ht
    omega
   simp only [putCells, Option.isSome_none, Bool.false_eq_true, if_false, Array.getElem?_mapIdx, Array.getElem?_eq_getElem hc, Option.map_some]
   rw [if_pos ⟨by omega, by omega⟩, show o + (i * 2 + j) - o = i * 2 + j by omega, get_flatK _ _ _ _ (by simpa using ht), show (i * 2 + j) / 2 = i by omega, show (i * 2 + j) % 2 = j by omega, hget ys i y hy]
   obtain ⟨h1, h2⟩ := List.getElem?_eq_some_iff.1 hv
   simp [h1, h2]
end SortW
end
section
namespace Go.Proofs
open Go.Shelf
def Tryz.lays156_ren : Go.Shelf.Ren := ⟨fun | 156 => 74 | 165 => 104 | 166 => 47 | 169 => 49 | 240 => 72 | 241 => 122 | 276 => 102 | 277 => 140 | n => n, fun | 31 => 87 | 9 => 9 | 3 => 3 | 4 => 4 | 0 => 0 | 20 => 20 | 72 => 70 | 76 => 73 | 70 => 67 | 37 => 68 | 75 => 72 | 127 => 90 | 164 => 111 | 5 => 5 | 80 => 76 | n => n, fun | n => n⟩
theorem Tryz.lays156 : Go.Proofs.Lays.n156 Tryz.prog Tryz.lays156_ren := {
 mixed := by kernel_rfl
 f156 := Tryz.func74.trans (congrArg some (by kernel_rfl))
 f165 := Tryz.func104.trans (congrArg some (by kernel_rfl))
 f166 := Tryz.func47.trans (congrArg some (by kernel_rfl))
 f169 := Tryz.func49.trans (congrArg some (by kernel_rfl))
 f240 := Tryz.func72.trans (congrArg some (by kernel_rfl))
 f241 := Tryz.func122.trans (congrArg some (by kernel_rfl))
 f276 := Tryz.func102.trans (congrArg some (by kernel_rfl))
 f277 := Tryz.func140.trans (congrArg some (by kernel_rfl))
 t0 := Tryz.underlying0
 a0 := Tryz.isAgg0
 z0 := Tryz.sizeOf0
 v0 := Tryz.zeroValue0
 t3 := Tryz.underlying3
 a3 := Tryz.isAgg3
 z3 := Tryz.sizeOf3
 v3 := Tryz.zeroValue3
 t4 := Tryz.underlying4
 a4 := Tryz.isAgg4
 z4 := Tryz.sizeOf4
 v4 := Tryz.zeroValue4
 t9 := Tryz.underlying9
 a9 := Tryz.isAgg9
 z9 := Tryz.sizeOf9
 v9 := Tryz.zeroValue9
 t20 := Tryz.underlying20
 a20 := Tryz.isAgg20
 z20 := Tryz.sizeOf20
 v20 := Tryz.zeroValue20
 t31 := Tryz.underlying87
 a31 := Tryz.isAgg87
 z31 := Tryz.sizeOf87
 v31 := Tryz.zeroValue87
 t37 := Tryz.underlying68
 a37 := Tryz.isAgg68
 z37 := Tryz.sizeOf68
 v37 := Tryz.zeroValue68
 t70 := Tryz.underlying67
 a70 := Tryz.isAgg67
 z70 := Tryz.sizeOf67
 v70 := Tryz.zeroValue67
 t72 := Tryz.underlying70
 a72 := Tryz.isAgg70
 z72 := Tryz.sizeOf70
 v72 := Tryz.zeroValue70
 t75 := Tryz.underlying72
 a75 := Tryz.isAgg72
 z75 := Tryz.sizeOf72
 v75 := Tryz.zeroValue72
 t76 := Tryz.underlying73
 a76 := Tryz.isAgg73
 z76 := Tryz.sizeOf73
 v76 := Tryz.zeroValue73
 t127 := Tryz.underlying90
 a127 := Tryz.isAgg90
 z127 := Tryz.sizeOf90
 v127 := Tryz.zeroValue90
 t164 := Tryz.underlying111
 a164 := Tryz.isAgg111
 z164 := Tryz.sizeOf111
 v164 := Tryz.zeroValue111 }
theorem Tryz.Builder_Extra_156 : Builder.Extra Tryz.prog Tryz.lays156_ren := {
 sizeBuilder := by kernel_rfl
 liesBuilder := by kernel_rfl
 t5 := Tryz.underlying5
 a5 := Tryz.isAgg5
 z5 := Tryz.sizeOf5
 v5 := Tryz.zeroValue5
 infoByte := by kernel_rfl
 cellsByte := by kernel_rfl
 sizeByte := by kernel_rfl
 neB5 := by decide }
open Go.RowKit in
theorem Tryz.strings_Join_none (a : Option Addr) (c : Nat) (sep : ByteArray) (w : World) :
  Calls Tryz.prog 74 #[.slice a 0 c, .string sep] w fun e w' => e = .returned (.string ⟨#[]⟩) ∧ w' = w := Any.strings_Join_none Tryz.lays156 Tryz.Builder_Extra_156 a c sep w
open Go.RowKit in
theorem Tryz.strings_Join (bk o c : Nat) (xs : List ByteArray) (sep : ByteArray) (w : World) (hcells : ∀ (j : Nat) x, xs[j]? = some x → w.cell? ⟨bk, o + j, none⟩ = some (.string x)) (hbk : bk < w.heap.size) (hN : xs.length ≤ 140737488355328) (hcap : xs.length ≤ c) (hlen : (Lib.join (xs.map (·.data.toList)) sep.data.toList).length ≤ 140737488355328) :
  Calls Tryz.prog 74 #[.slice (some ⟨bk, o, none⟩) xs.length c, .string sep] w fun e w' => e = .returned (.string ⟨(Lib.join (xs.map (·.data.toList)) sep.data.toList).toArray⟩) ∧ Below w.heap.size w w' := Any.strings_Join Tryz.lays156 Tryz.Builder_Extra_156 bk o c xs sep w hcells hbk hN hcap hlen
def Tryz.laysM171_ren : Go.Shelf.Ren := ⟨fun | 171 => 103 | 243 => 121 | 246 => 139 | 283 => 150 | 284 => 151 | 285 => 152 | 286 => 153 | 129 => 138 | 317 => 156 | 318 => 157 | 319 => 158 | 320 => 159 | 337 => 160 | 338 => 161 | n => n, fun | 3 => 3 | 9 => 9 | 2 => 2 | 4 => 4 | 171 => 154 | 0 => 0 | 53 => 115 | 37 => 68 | 5 => 5 | 173 => 156 | 212 => 164 | 51 => 142 | 20 => 20 | 213 => 165 | 46 => 130 | 232 => 166 | 233 => 167 | n => n, fun | 17 => 1 | 18 => 2 | 19 => 3 | n => n⟩
theorem Tryz.laysM171 : Go.Proofs.LaysM.n171 Tryz.prog Tryz.laysM171_ren := {
 mixed := by kernel_rfl
 f129 := Tryz.func138.trans (congrArg some (by kernel_rfl))
 f171 := Tryz.func103.trans (congrArg some (by kernel_rfl))
 f243 := Tryz.func121.trans (congrArg some (by kernel_rfl))
 f246 := Tryz.func139.trans (congrArg some (by kernel_rfl))
 f283 := Tryz.func150.trans (congrArg some (by kernel_rfl))
 f284 := Tryz.func151.trans (congrArg some (by kernel_rfl))
 f285 := Tryz.func152.trans (congrArg some (by kernel_rfl))
 f286 := Tryz.func153.trans (congrArg some (by kernel_rfl))
 f317 := Tryz.func156.trans (congrArg some (by kernel_rfl))
 f318 := Tryz.func157.trans (congrArg some (by kernel_rfl))
 f319 := Tryz.func158.trans (congrArg some (by kernel_rfl))
 f320 := Tryz.func159.trans (congrArg some (by kernel_rfl))
 f337 := Tryz.func160.trans (congrArg some (by kernel_rfl))
 f338 := Tryz.func161.trans (congrArg some (by kernel_rfl))
 t0 := Tryz.underlying0
 a0 := Tryz.isAgg0
 z0 := Tryz.sizeOf0
 v0 := Tryz.zeroValue0
 t2 := Tryz.underlying2
 a2 := Tryz.isAgg2
 z2 := Tryz.sizeOf2
 v2 := Tryz.zeroValue2
 t3 := Tryz.underlying3
 a3 := Tryz.isAgg3
 z3 := Tryz.sizeOf3
 v3 := Tryz.zeroValue3
 t4 := Tryz.underlying4
 a4 := Tryz.isAgg4
 z4 := Tryz.sizeOf4
 v4 := Tryz.zeroValue4
 t5 := Tryz.underlying5
 a5 := Tryz.isAgg5
 z5 := Tryz.sizeOf5
 v5 := Tryz.zeroValue5
 t9 := Tryz.underlying9
 a9 := Tryz.isAgg9
 z9 := Tryz.sizeOf9
 v9 := Tryz.zeroValue9
 t20 := Tryz.underlying20
 a20 := Tryz.isAgg20
 z20 := Tryz.sizeOf20
 v20 := Tryz.zeroValue20
 t37 := Tryz.underlying68
 a37 := Tryz.isAgg68
 z37 := Tryz.sizeOf68
 v37 := Tryz.zeroValue68
 t46 := Tryz.underlying130
 a46 := Tryz.isAgg130
 z46 := Tryz.sizeOf130
 v46 := Tryz.zeroValue130
 t51 := Tryz.underlying142
 a51 := Tryz.isAgg142
 z51 := Tryz.sizeOf142
 v51 := Tryz.zeroValue142
 t53 := Tryz.underlying115
 a53 := Tryz.isAgg115
 z53 := Tryz.sizeOf115
 v53 := Tryz.zeroValue115
 t171 := Tryz.underlying154
 a171 := Tryz.isAgg154
 z171 := Tryz.sizeOf154
 v171 := Tryz.zeroValue154
 t173 := Tryz.underlying156
 a173 := Tryz.isAgg156
 z173 := Tryz.sizeOf156
 v173 := Tryz.zeroValue156
 t212 := Tryz.underlying164
 a212 := Tryz.isAgg164
 z212 := Tryz.sizeOf164
 v212 := Tryz.zeroValue164
 t213 := Tryz.underlying165
 a213 := Tryz.isAgg165
 z213 := Tryz.sizeOf165
 t232 := Tryz.underlying166
 a232 := Tryz.isAgg166
 z232 := Tryz.sizeOf166
 v232 := Tryz.zeroValue166
 t233 := Tryz.underlying167
 a233 := Tryz.isAgg167
 z233 := Tryz.sizeOf167
 v233 := Tryz.zeroValue167
 g17 := by kernel_rfl
 g18 := by kernel_rfl
 g19 := by kernel_rfl
 i0 := by kernel_rfl
 i2 := by kernel_rfl
 i3 := by kernel_rfl
 i4 := by kernel_rfl
 i5 := by kernel_rfl
 i9 := by kernel_rfl
 i20 := by kernel_rfl
 i37 := by kernel_rfl
 i46 := by kernel_rfl
 i51 := by kernel_rfl
 i53 := by kernel_rfl
 i171 := by kernel_rfl
 i173 := by kernel_rfl
 i212 := by kernel_rfl
 i232 := by kernel_rfl
 i233 := by kernel_rfl
 m17 := by kernel_rfl
 m18 := by kernel_rfl
 m19 := by kernel_rfl }
open Go.RowKit Go.Sort Go.Lib in
theorem Tryz.strconv_Itoa (n : Int) (h0 : -9223372036854775808 ≤ n) (h1 : n ≤ 9223372036854775807) (w : World) (htab : Lib.TabIs Tryz.prog w "internal/strconv.uint64pow10" .u64 Lib.pow10Tab) :
  Calls Tryz.prog 103 #[.int .i64 n] w fun e w' => e = .returned (.string ⟨(Lib.itoa n).toArray⟩) ∧ ∃ k os, w' = grow (w.drewN k) os := Any.strconv_Itoa Tryz.laysM171 n h0 h1 w htab
end Go.Proofs
end
section
open Go Go.Proofs Go.Lib Go.RowKit Go.PG
set_option linter.all false
namespace BldW
theorem t67 : Tryz.prog.underlying 67 = some (.pointer 70) := by kernel_rfl
theorem t111 : Tryz.prog.underlying 111 = some .unsafePointer := by kernel_rfl
theorem t68 : Tryz.prog.underlying 68 = some (.slice 5) := by kernel_rfl
theorem t9 : Tryz.prog.underlying 9 = some .string := by kernel_rfl
theorem t90 : Tryz.prog.underlying 90 = some (.pointer 5) := by kernel_rfl
theorem sizeBuilder : (Tryz.prog.info? 70).map (·.size) = some 2 := by kernel_rfl
theorem liesBuilder : liesAt Tryz.prog Tryz.prog.depth 70 (2 / Tryz.prog.cellsOf 70) 0 70 1 = true := by kernel_rfl
theorem infoByte : (Tryz.prog.info? 5).map (fun i => (i.zero, i.size, i.bytes)) = some (some (.int .u8 0), 1, 1) := by kernel_rfl
theorem cellsByte : Tryz.prog.cellsOf 5 = 1 := by kernel_rfl
set_option maxHeartbeats 1000000 in
set_option maxRecDepth 100000 in
theorem cc_used (b : Nat) (w : World) (h0 : w.cell? ⟨b, 0, none⟩ = some (.pointer (some ⟨b, 0, none⟩))) :
  Calls Tryz.prog 72 #[.pointer (some ⟨b, 0, none⟩)] w fun e w' => e = .returned (.tuple #[]) ∧ w' = w := by
 obtain ⟨j, hj, _⟩ := Option.map_eq_some_iff.1 sizeBuilder
 go_enter Tryz.func72, Tryz.ntmps72
 go_wp2
 rw [Lib.run_neq_ptr_same w _ t67 hj]
 go_wp2
 go_end0
 exact ⟨rfl, rfl⟩
set_option maxHeartbeats 1000000 in
set_option maxRecDepth 100000 in
theorem cc_fresh (b : Nat) (w : World) (h0 : w.cell? ⟨b, 0, none⟩ = some (.pointer none)) (hsh : w.shape? b = some (70, 2)) (hfz : w.frozen? ⟨b, 0, none⟩ = false) :
  Calls Tryz.prog 72 #[.pointer (some ⟨b, 0, none⟩)] w fun e w' => e = .returned (.tuple #[]) ∧ w' = w.setCell ⟨b, 0, none⟩ (.pointer (some ⟨b, 0, none⟩)) := by
 obtain ⟨j, hj, hjs⟩ := Option.map_eq_some_iff.1 sizeBuilder
 go_enter Tryz.func72, Tryz.ntmps72
 go_wp2
 rw [Lib.run_to_unsafe w ⟨b, 0, none⟩ t67 t111 hj (by rw [hjs]; decide) hsh (Nat.zero_lt_succ 1)]
 simp only [Result.andThen]
 rw [Oper.upon_value]
 go_wp2
 rw [run_callFunc_extern Tryz.func102 (by kernel_rfl) (by kernel_rfl) (by kernel_rfl) (e := Extern.AbiNoEscape.same) (by kernel_rfl)]
 rw [Lib.run_noEscape]
 simp only [Result.andThen]
 rw [Oper.upon_value]
 go_wp2
 rw [Lib.run_from_unsafe w ⟨b, 0, none⟩ t111 t67 hj hsh liesBuilder]
 simp only [Result.andThen]
 rw [Oper.upon_value]
 go_wp2
 go_end0
 exact ⟨rfl, rfl⟩
theorem cc (b : Nat) (w : World) (p v : Value) (hp : p = .pointer none ∨ p = .pointer (some ⟨b, 0, none⟩)) (hb : w.heap[b]? = some (.cells #[p, v] 70 (0, 0))) :
  Calls Tryz.prog 72 #[.pointer (some ⟨b, 0, none⟩)] w fun e w' => e = .returned (.tuple #[]) ∧ w'.heap[b]? = some (.cells #[.pointer (some ⟨b, 0, none⟩), v] 70 (0, 0)) ∧ w.grownBy w' (some b) ∧ w'.heap.size = w.heap.size := by
 rcases hp with rfl | rfl
 ·refine (cc_fresh b w (by simp [World.cell?, hb]) (by simp [World.shape?, hb]) (by simp [World.frozen?, hb])).mono ?_
  rintro e w' ⟨rfl, rfl⟩
  refine ⟨rfl, by simp [World.setCell, Array.getElem?_modify, hb], ⟨rfl, rfl, rfl, by simp [World.setCell], fun k _ hk => Below.heap_setCell _ _ _ _ (fun e => hk (by simp [e]))⟩, by simp [World.setCell]⟩
 ·refine (cc_used b w (by simp [World.cell?, hb])).mono ?_
  rintro e w' ⟨rfl, rfl⟩
  exact ⟨rfl, hb, ⟨rfl, rfl, rfl, Nat.le_refl _, fun _ _ _ => rfl⟩, rfl⟩
theorem wp_app {P : Program} {ops : Array Oper} {rest : List Oper} {o : Oper} {a : Act} {Q : Exit → Act → World → Prop} (hgd : o.guard = none) (sl x : Operand) (t u : TypeId)
  (ho : o.op = .call { callee := .builtin .append, args := #[sl, x], argTypes := #[t, u] })
  (e : TypeId) (i : TypeInfo) (ht : P.underlying t = some (.slice e)) (hu : P.underlying u = some .string) (hi : P.info? e = some i) (hz : i.zero = some (.int .u8 0))
  (hsize : i.size = 1) (hby : i.bytes = 1)
  (v : Value) (n : Nat) (xs : List Value) (w : World) (hs : a.eval sl = v) (hown : w.ownsRowF 0 e 1 v n xs) (s : ByteArray) (hx : a.eval x = .string s)
  (h63 : n + s.size ≤ maxLen) (hbytes : n + s.size ≤ 140737488355328)
  (h : ∀ v' w', w'.ownsRowF 0 e 1 v' (n + s.size) (xs ++ strCells s) → w.grownBy w' v.ownBlock → (∀ g, v'.ownBlock = some g → v.ownBlock = some g ∨ w.heap.size ≤ g) → wpList P ops Q rest (a.put o.dst v') w') : wpList P ops Q (o :: rest) a w := by
 refine wpList_plain hgd fun K hK => ?_
 obtain ⟨v', w', hr, h2, h3, h4⟩ := run_append_own_stringF (P := P) w 0 t u o.type e i ht hu hi hz hsize hby v n xs hown s h63 hbytes (Nat.zero_le _)
 have h5 : ∀ g, v'.ownBlock = some g → v.ownBlock = some g ∨ w.heap.size ≤ g := by
  rcases hown.2 with ⟨rfl, rfl⟩ | ⟨g, cap, cur, fz, rfl, _, hg, hfz, hnc, hcm, hcs, htake⟩
  ·obtain ⟨v2, w2, hr2, k2, _, _⟩ := run_append_own_stringF (P := P) w w.heap.size t u o.type e i ht hu hi hz hsize hby (.slice none 0 0) 0 xs ⟨hown.1, .inl ⟨rfl, rfl⟩⟩ s h63 hbytes (Nat.le_refl _)
   rw [hr] at hr2
   injection hr2 with q1 q2
   subst q1; subst q2
   exact fun g hg => .inr (k2.lt g hg).1
  ·have hxl : xs.length = n := by simpa using hown.1
   by_cases hroom : n + s.size ≤ cap
   ·have hcs' : cur.size = cap := by simpa using hcs
    have hr2 := run_append_room_stringF (P := P) w t u o.type e i ht hu hi hsize g n cap cur fz hg (by simpa using hfz) s hroom (by omega)
    rw [hr] at hr2
    injection hr2 with q1 q2
    subst q1
    exact fun g' hg' => .inl (by simpa [Value.ownBlock] using hg')
   ·have holds : ∀ j u, xs[j]? = some u → w.cell? ((⟨g, 0, none⟩ : Addr).add j) = some u := hown.cells (g := g) rfl
    have h63' := h63
    simp only [maxLen] at h63'
    have hr2 := run_append_grow_string (P := P) w t u o.type e i (.int .u8 0) ht hu hi hz ⟨g, 0, none⟩ n cap xs (by rw [hsize]; simpa using hxl) holds s (by omega) (by omega) (by rw [hby]; exact growslice_fits (by omega) (by omega))
    rw [hr] at hr2
    injection hr2 with q1 q2
    subst q1
    intro g' hg'
    simp only [Value.ownBlock, Option.some.injEq] at hg'
    exact .inr (by omega)
 unfold Oper.wp execOp
 simp only [ho, resolve, invoke, builtin, Sem.run_bind, Sem.run_pure, Result.andThen_ok, List.map_toArray, List.map_cons, List.map_nil, hs, hx, hr]
 exact hK _ _ (h v' w' h2 h3 h5)
theorem str_app (x s : ByteArray) : strCells (x ++ s) = strCells x ++ strCells s := by
 unfold strCells
 rw [ByteArray.data_append, Array.toList_append, List.map_append]
theorem info_at : ∃ i, Tryz.prog.info? 5 = some i ∧ i.zero = some (.int .u8 0) ∧ i.size = 1 ∧ i.bytes = 1 := by
 obtain ⟨i, hi, h⟩ := Option.map_eq_some_iff.1 infoByte
 injection h with h1 h2
 injection h2 with h2 h3
 exact ⟨i, hi, h1, h2, h3⟩
set_option maxHeartbeats 1000000 in
set_option maxRecDepth 100000 in
theorem write_ok (G : World → Prop) : WsOk Tryz.prog G 47 70 5 := by
 intro w b x s ex _ ⟨p, v, hp, hbk, hown, hne, hex⟩ hlen
 obtain ⟨i0, hi, hz0, hz1, hz2⟩ := info_at
 go_enter Tryz.func47, Tryz.ntmps47
 go_wp2_with (go_at_call 72; refine (cc b w p v hp hbk).mono ?_)
 rintro e w1 ⟨rfl, hb1, hg1, hs1⟩
 have hown1 : w1.ownsRowF 0 5 1 v x.size (strCells x) := hown.kept hg1 (.inr hne)
 have c0 : w1.cell? ⟨b, 0, none⟩ = some (.pointer (some ⟨b, 0, none⟩)) := by rw [Lib.cell_of_heap hb1]; rfl
 have c1 : w1.cell? ⟨b, 1, none⟩ = some v := by rw [Lib.cell_of_heap hb1]; rfl
 go_wp2_with (at_builtin; go_loud (refine wp_app rfl _ _ 68 9 rfl 5 i0 t68 t9 hi hz0 hz1 hz2 v x.size (strCells x) w1 rfl hown1 s rfl ?c3 ?c4 ?_))
 case c3 => unfold maxLen; omega
 case c4 => omega
 intro v' w2 hown' hgrow hnew
 have hlt : b < w1.heap.size := by
  rcases Nat.lt_or_ge b w1.heap.size with h' | h'
  ·exact h'
  ·simp [Array.getElem?_eq_none h'] at hb1
 have hb2 : w2.heap[b]? = some (.cells #[.pointer (some ⟨b, 0, none⟩), v] 70 (0, 0)) := by
  rw [hgrow.block b hlt (fun e => hne e.symm)]
  exact hb1
 have d0 : w2.cell? ⟨b, 0, none⟩ = some (.pointer (some ⟨b, 0, none⟩)) := by rw [Lib.cell_of_heap hb2]; rfl
 have d1 : w2.cell? ⟨b, 1, none⟩ = some v := by rw [Lib.cell_of_heap hb2]; rfl
 have f1 : w2.frozen? ⟨b, 1, none⟩ = false := Lib.frozen_of_heap hb2 1
 obtain ⟨ao, n', cap, rfl⟩ : ∃ ao n' cap, v' = .slice ao n' cap := by
  rcases hown'.2 with ⟨hv, _⟩ | ⟨g, cap, cur, fz, hv, _⟩
  ·exact ⟨_, _, _, hv⟩
  ·exact ⟨_, _, _, hv⟩
 go_wp2
 go_ret2
 have hA := Lib.BuilderAtF.put (T := 70) (e := 5) (B := 0) (bs' := strCells (x ++ s)) (Nat.zero_le b) hb2 (by rw [str_app]; simpa [Lib.strCells_length] using hown') (by decide)
 obtain ⟨_, v3, hb3, hown3, hne3⟩ := hA
 have hv3 : v3 = .slice ao n' cap := by
  simp [World.setCell, Array.getElem?_modify, hb2] at hb3
  exact hb3.symm
 subst hv3
 refine ⟨rfl, ⟨fun g => (Value.slice ao n' cap).ownBlock = some g, ⟨_, _, .inr rfl, hb3, by simpa [strCells_length] using hown3, hne3, fun g => Iff.rfl⟩, fun g hg => ?_⟩, fun k hk hkb hke => ?_, ?_, ?_, ?_, ?_⟩
 ·rcases hnew g hg with q | q
  ·exact .inl ((hex g).2 q)
  ·exact .inr (by omega)
 ·have e1 : w1.heap[k]? = w.heap[k]? := hg1.block k hk (by simpa using hkb)
  have e2 : w2.heap[k]? = w1.heap[k]? := hgrow.block k (by omega) (fun e => hke ((hex k).2 e.symm))
  rw [← e1, ← e2]
  exact Below.heap_setCell _ _ _ _ (fun e => hkb e)
 ·exact hgrow.os.trans hg1.os
 ·exact hgrow.tape.trans hg1.tape
 ·exact hgrow.output.trans hg1.output
 ·have := hgrow.size
  simp [World.setCell]; omega
theorem usNone (W : World) (q : Option Addr) : (Builtin.unsafeString_ #[90, 3] 9 #[.pointer q, .int .i64 0]).run Tryz.prog W = .ok (.string .empty) W :=
 Lib.run_unsafeString_none W _ _ _ q
theorem size_zero {x : ByteArray} (h : x.size = 0) : x = .empty := by
 cases x with
 | mk d =>
  have : d.size = 0 := h
  rw [show d = #[] from Array.eq_empty_of_size_eq_zero this]
  rfl
set_option maxHeartbeats 2000000 in
set_option maxRecDepth 100000 in
theorem readA (b : Nat) (p : Value) (w : World) (hbk : w.heap[b]? = some (.cells #[p, .slice none 0 0] 70 (0, 0))) :
  Calls Tryz.prog 49 #[.pointer (some ⟨b, 0, none⟩)] w fun e w' => e = .returned (.string .empty) ∧ w' = w.drew := by
 have hUS := usNone
 have c1 : w.drew.cell? ⟨b, 1, none⟩ = some (.slice none 0 0) := by
  have : w.drew.heap[b]? = some (.cells #[p, .slice none 0 0] 70 (0, 0)) := hbk
  rw [Lib.cell_of_heap this]; rfl
 have hSD : (Builtin.unsafeSliceData_ #[68] 90 #[.slice none 0 0]).run Tryz.prog w.drew = .ok (.pointer none) w.drew := rfl
 have mixed : Tryz.prog.follows .mixedOrders = true := by kernel_rfl
 go_enter Tryz.func49, Tryz.ntmps49
 go_wp2
 go_region_o
 all_goals (go_wp2; go_ret; exact ⟨rfl, rfl⟩)
set_option maxHeartbeats 2000000 in
set_option maxRecDepth 100000 in
theorem readC (b g cap : Nat) (p : Value) (w : World) (hc0 : cap ≠ 0) (hbk : w.heap[b]? = some (.cells #[p, .slice (some ⟨g, 0, none⟩) 0 cap] 70 (0, 0))) :
  Calls Tryz.prog 49 #[.pointer (some ⟨b, 0, none⟩)] w fun e w' => e = .returned (.string .empty) ∧ w' = w.drew := by
 have hUS := usNone
 have c1 : w.drew.cell? ⟨b, 1, none⟩ = some (.slice (some ⟨g, 0, none⟩) 0 cap) := by
  have : w.drew.heap[b]? = some (.cells #[p, .slice (some ⟨g, 0, none⟩) 0 cap] 70 (0, 0)) := hbk
  rw [Lib.cell_of_heap this]; rfl
 have hSD : (Builtin.unsafeSliceData_ #[68] 90 #[.slice (some ⟨g, 0, none⟩) 0 cap]).run Tryz.prog w.drew = .ok (.pointer (some ⟨g, 0, none⟩)) w.drew :=
  Lib.run_unsafeSliceData_row _ _ _ _ _ _ hc0
 clear hc0
 have mixed : Tryz.prog.follows .mixedOrders = true := by kernel_rfl
 go_enter Tryz.func49, Tryz.ntmps49
 go_wp2
 go_region_o
 all_goals (go_wp2; go_ret; exact ⟨rfl, rfl⟩)
set_option maxHeartbeats 2000000 in
set_option maxRecDepth 100000 in
theorem readB (b g : Nat) (p : Value) (cur : Array Value) (w : World) (hbk : w.heap[b]? = some (.cells #[p, .slice (some ⟨g, 0, none⟩) 0 0] 70 (0, 0))) (fz : Nat × Nat) (hg : w.heap[g]? = some (.cells cur 5 fz)) :
  Calls Tryz.prog 49 #[.pointer (some ⟨b, 0, none⟩)] w fun e w' => e = .returned (.string .empty) ∧ w' = w.drew.alloc (.view ⟨g, 0, none⟩ 5) := by
 have hUS := usNone
 have hlt : b < w.heap.size := by
  rcases Nat.lt_or_ge b w.heap.size with h' | h'
  ·exact h'
  ·simp [Array.getElem?_eq_none h'] at hbk
 have c1 : w.drew.cell? ⟨b, 1, none⟩ = some (.slice (some ⟨g, 0, none⟩) 0 0) := by
  have : w.drew.heap[b]? = some (.cells #[p, .slice (some ⟨g, 0, none⟩) 0 0] 70 (0, 0)) := hbk
  rw [Lib.cell_of_heap this]; rfl
 have hSD : (Builtin.unsafeSliceData_ #[68] 90 #[.slice (some ⟨g, 0, none⟩) 0 0]).run Tryz.prog w.drew = .ok (.pointer (some ⟨w.drew.heap.size, 0, none⟩)) (w.drew.alloc (.view ⟨g, 0, none⟩ 5)) :=
  Lib.run_unsafeSliceData_zero w.drew _ _ 5 t90 ⟨g, 0, none⟩ 0 (5, cur.size) (by have hg' : w.drew.heap[g]? = some (.cells cur 5 fz) := hg; simp [World.shape?, hg'])
 have c2 : (w.drew.alloc (.view ⟨g, 0, none⟩ 5)).cell? ⟨b, 1, none⟩ = some (.slice (some ⟨g, 0, none⟩) 0 0) := by
  have : (w.drew.alloc (.view ⟨g, 0, none⟩ 5)).heap[b]? = _ := (Lib.alloc_old w.drew _ b hlt).trans hbk
  rw [Lib.cell_of_heap this]; rfl
 have c3 : (w.alloc (.view ⟨g, 0, none⟩ 5)).drew.cell? ⟨b, 1, none⟩ = some (.slice (some ⟨g, 0, none⟩) 0 0) := c2
 have c0 : w.cell? ⟨b, 1, none⟩ = some (.slice (some ⟨g, 0, none⟩) 0 0) := c1
 have mixed : Tryz.prog.follows .mixedOrders = true := by kernel_rfl
 go_enter Tryz.func49, Tryz.ntmps49
 go_wp2
 go_region_o
 all_goals (go_wp2; go_ret; exact ⟨rfl, rfl⟩)
set_option maxHeartbeats 2000000 in
set_option maxRecDepth 100000 in
theorem readD (b g cap : Nat) (p : Value) (cur : Array Value) (fz : Nat × Nat) (l : List UInt8) (w : World) (h0 : l ≠ []) (hnc : l.length ≤ cap) (hcm : cap ≤ maxLen) (hcs : cur.size = cap)
  (hbk : w.heap[b]? = some (.cells #[p, .slice (some ⟨g, 0, none⟩) l.length cap] 70 (0, 0))) (hg : w.heap[g]? = some (.cells cur 5 fz)) (htake : cur.toList.take l.length = Lib.byteCells l) :
  Calls Tryz.prog 49 #[.pointer (some ⟨b, 0, none⟩)] w fun e w' => e = .returned (.string ⟨l.toArray⟩) ∧ w' = w.drew.freeze ⟨g, 0, none⟩ l.length := by
 have hl0 : l.length ≠ 0 := by simpa using h0
 have c1 : w.drew.cell? ⟨b, 1, none⟩ = some (.slice (some ⟨g, 0, none⟩) l.length cap) := by
  have : w.drew.heap[b]? = some (.cells #[p, .slice (some ⟨g, 0, none⟩) l.length cap] 70 (0, 0)) := hbk
  rw [Lib.cell_of_heap this]; rfl
 have hSD : (Builtin.unsafeSliceData_ #[68] 90 #[.slice (some ⟨g, 0, none⟩) l.length cap]).run Tryz.prog w.drew = .ok (.pointer (some ⟨g, 0, none⟩)) w.drew :=
  Lib.run_unsafeSliceData_row _ _ _ _ _ _ (by omega)
 have hUS : (Builtin.unsafeString_ #[90, 3] 9 #[.pointer (some ⟨g, 0, none⟩), .int .i64 l.length]).run Tryz.prog w.drew = .ok (.string ⟨l.toArray⟩) (w.drew.freeze ⟨g, 0, none⟩ l.length) := by
  refine Lib.run_unsafeString_row w.drew 90 3 9 5 t90 cellsByte g cur.size (by have hg' : w.drew.heap[g]? = some (.cells cur 5 fz) := hg; simp [World.shape?, hg']) l h0 (by omega) (by unfold maxLen at hcm; omega) ?_
  intro j x hx
  have hj : (Lib.byteCells l)[j]? = some (.int .u8 x.toNat) := by simp [Lib.byteCells, hx]
  rw [← htake] at hj
  have hj2 : cur.toList[j]? = some (.int .u8 x.toNat) := by
   rw [List.getElem?_take] at hj
   split at hj
   ·exact hj
   ·cases hj
  have hg' : w.drew.heap[g]? = some (.cells cur 5 fz) := hg
  rw [show ((⟨g, 0, none⟩ : Addr).add j) = ⟨g, j, none⟩ from by simp [Addr.add]; omega]
  rw [Lib.cell_of_heap hg']
  simpa using hj2
 have mixed : Tryz.prog.follows .mixedOrders = true := by kernel_rfl
 go_enter Tryz.func49, Tryz.ntmps49
 go_wp2
 go_region_o
 all_goals (go_wp2; go_ret; exact ⟨rfl, rfl⟩)
theorem read_ok (G : World → Prop) : BsOk Tryz.prog G 49 70 5 := by
 intro w b x ex _ ⟨p, v, hp, hbk, hown, hne, hex⟩
 have hlt : b < w.heap.size := by
  rcases Nat.lt_or_ge b w.heap.size with h' | h'
  ·exact h'
  ·simp [Array.getElem?_eq_none h'] at hbk
 rcases hown.2 with ⟨rfl, hn⟩ | ⟨g, cap, cur, fz, rfl, hbg, hg, hfz, hnc, hcm, hcs, htake⟩
 ·obtain rfl := size_zero hn
  refine (readA b p w hbk).mono ?_
  rintro e w' ⟨rfl, rfl⟩
  exact ⟨rfl, ⟨ex, ⟨p, _, hp, hbk, hown, hne, hex⟩, fun g h => .inl h⟩, fun _ _ _ _ => rfl, rfl, rfl, rfl, Nat.le_refl _⟩
 by_cases hx : x.size = 0
 ·obtain rfl := size_zero hx
  by_cases hc0 : cap = 0
  ·subst hc0
   refine (readB b g p cur w hbk fz hg).mono ?_
   rintro e w' ⟨rfl, rfl⟩
   refine ⟨rfl, ⟨ex, ⟨p, _, hp, (Lib.alloc_old w.drew _ b hlt).trans hbk, hown.kept (row := none) (⟨rfl, rfl, rfl, (World.grownBy_alloc w.drew (.view ⟨g, 0, none⟩ 5) none).size, (World.grownBy_alloc w.drew (.view ⟨g, 0, none⟩ 5) none).block⟩ : w.grownBy (w.drew.alloc (.view ⟨g, 0, none⟩ 5)) none) (.inr (by simp [Value.ownBlock])), hne, hex⟩, fun g h => .inl h⟩, fun k hk _ _ => Lib.alloc_old w.drew _ k hk, rfl, rfl, rfl, ?_⟩
   exact (World.grownBy_alloc w.drew (.view ⟨g, 0, none⟩ 5) none).size
  ·refine (readC b g cap p w hc0 hbk).mono ?_
   rintro e w' ⟨rfl, rfl⟩
   exact ⟨rfl, ⟨ex, ⟨p, _, hp, hbk, hown, hne, hex⟩, fun g h => .inl h⟩, fun _ _ _ _ => rfl, rfl, rfl, rfl, Nat.le_refl _⟩
 ·have hl : x.data.toList.length = x.size := by rw [Array.length_toList]; rfl
  have hlen : (strCells x).length = x.size := strCells_length x
  refine (readD b g cap p cur fz x.data.toList w (fun e => hx (by rw [← hl, e]; rfl)) (by omega) hcm (by omega) (by rw [hl]; exact hbk) hg (by rw [hl]; rw [Nat.mul_one] at htake; exact htake)).mono ?_
  rintro e w' ⟨rfl, rfl⟩
  have hA : Lib.BuilderAtF 70 5 0 b p (strCells x) w.drew := ⟨Nat.zero_le _, _, hbk, by rw [hlen]; exact hown, hne⟩
  have hF := hA.froze (g := g) (cap := cap) (by
   have : w.drew.heap[b]? = _ := hbk
   rw [Lib.cell_of_heap this, hlen]; rfl)
  rw [hlen] at hF
  rw [hl]
  obtain ⟨_, v3, hb3, hown3, hne3⟩ := hF
  rw [hlen] at hown3
  have hgb : g ≠ b := fun e => hne (by simp [Value.ownBlock, e])
  have hb4 : (w.drew.freeze ⟨g, 0, none⟩ x.size).heap[b]? = some (.cells #[p, .slice (some ⟨g, 0, none⟩) x.size cap] 70 (0, 0)) := by
   unfold World.freeze
   rw [if_neg hx]
   simp only [Array.getElem?_modify]
   rw [if_neg hgb]
   exact hbk
  obtain rfl : v3 = .slice (some ⟨g, 0, none⟩) x.size cap := by
   rw [hb4] at hb3
   simp only [Option.some.injEq, Obj.cells.injEq] at hb3
   have := hb3.1
   simp at this
   exact this.symm
  refine ⟨by simp, ⟨ex, ⟨p, _, hp, hb3, hown3, hne3, hex⟩, fun g h => .inl h⟩, fun k hk hkb hke => ?_, ?_, ?_, ?_, ?_⟩
  ·unfold World.freeze
   rw [if_neg hx]
   simp only [Array.getElem?_modify]
   rw [if_neg (fun e => hke ((hex k).2 (by simp [Value.ownBlock, e])))]
   rfl
  ·unfold World.freeze; rw [if_neg hx]; rfl
  ·unfold World.freeze; rw [if_neg hx]; rfl
  ·unfold World.freeze; rw [if_neg hx]; rfl
  ·unfold World.freeze; rw [if_neg hx]; show w.heap.size ≤ (w.heap.modify _ _).size; rw [Array.size_modify]; exact Nat.le_refl _
theorem bws_ok (G : World → Prop) : BwOk Tryz.prog G 47 70 5 0 ∧ BwOk Tryz.prog G 49 70 5 1 := ⟨write_ok G, read_ok G⟩
end BldW
end
section
open Go Go.PG Go.Proofs
set_option linter.all false
set_option maxRecDepth 1000000
set_option maxHeartbeats 4000000
abbrev okF (f : Func) : Bool := f.name != "runtime.NumGoroutine" && f.body.isSome
abbrev tA := List (Int × Int)
abbrev tB := List (ByteArray × tA)
abbrev tO := List (ByteArray × Bool × tA) × tA
abbrev tS := Bool × tB × List ((Int × Int) × tO)
abbrev Uat : Ty := .st (.pair (.int .i64) (.int .i64))
abbrev Ubd : Ty := .st (.pair .str (.slice Uat))
abbrev Ufd : Ty := .st (.pair .str (.pair .bool (.slice Uat)))
abbrev Ush : Ty := .st (.pair (.slice Ufd) (.slice Uat))
abbrev Ulc : Ty := .st (.pair Uat Ush)
abbrev Ust : Ty := .st (.pair .bool (.pair (.slice Ubd) (.slice Ulc)))
abbrev Uky : Ty := .st (.pair .str Uat)
noncomputable def T : List (Nat × TyRow) := [(3, ⟨(.int .i64), 0, false, false⟩), (4, ⟨.bool, 0, false, false⟩), (9, ⟨.str, 0, false, false⟩), (20, ⟨.opq, 0, false, false⟩), (22, ⟨(.slice Ubd), 40, false, false⟩), (23, ⟨(.slice Ulc), 64, false, false⟩), (25, ⟨Ust, 0, false, false⟩), (27, ⟨Uat, 0, true, false⟩), (29, ⟨Uky, 0, true, false⟩), (32, ⟨(.slice Ufd), 48, false, false⟩), (33, ⟨(.slice Uat), 16, false, false⟩), (35, ⟨Ush, 0, false, false⟩), (46, ⟨Ulc, 0, false, false⟩), (52, ⟨.opq, 0, false, false⟩), (54, ⟨Ubd, 0, false, false⟩), (58, ⟨Ufd, 0, false, false⟩), (63, ⟨.opq, 0, false, false⟩), (82, ⟨.opq, 0, false, false⟩), (86, ⟨.opq, 0, false, false⟩), (87, ⟨(.slice .str), 16, false, false⟩), (92, ⟨(.slice (.slice Ubd)), 24, false, false⟩), (106, ⟨.opq, 0, false, false⟩), (109, ⟨(.slice (.int .i64)), 8, false, false⟩), (115, ⟨(.int .u64), 0, false, false⟩), (118, ⟨(.slice (.slice Uat)), 24, false, false⟩), (122, ⟨.opq, 0, false, false⟩), (130, ⟨(.int .u64), 0, false, false⟩)]
def sortF (l : tA) : Option (tA) := SortW.sortF l
theorem mixedOk : Tryz.prog.follows .mixedOrders = true := by kernel_rfl
theorem tabOk : tysB Tryz.prog T = true := by kernel_rfl
abbrev GG (w : World) : Prop := Lib.TabIs Tryz.prog w "internal/strconv.uint64pow10" .u64 Lib.pow10Tab
theorem f46_ok : okF Tryz.f46 = true := by kernel_rfl
theorem f38_ok : okF Tryz.f38 = true := by kernel_rfl
theorem f83_ok : okF Tryz.f83 = true := by kernel_rfl
theorem f68_ok : okF Tryz.f68 = true := by kernel_rfl
theorem f101_ok : okF Tryz.f101 = true := by kernel_rfl
theorem f69_ok : okF Tryz.f69 = true := by kernel_rfl
theorem f42_ok : okF Tryz.f42 = true := by kernel_rfl
theorem f98_ok : okF Tryz.f98 = true := by kernel_rfl
theorem f97_ok : okF Tryz.f97 = true := by kernel_rfl
theorem f9_ok : okF Tryz.f9 = true := by kernel_rfl
theorem f11_ok : okF Tryz.f11 = true := by kernel_rfl
theorem f66_ok : okF Tryz.f66 = true := by kernel_rfl
theorem f67_ok : okF Tryz.f67 = true := by kernel_rfl
theorem f39_ok : okF Tryz.f39 = true := by kernel_rfl
theorem f40_ok : okF Tryz.f40 = true := by kernel_rfl
theorem f41_ok : okF Tryz.f41 = true := by kernel_rfl
theorem f13_ok : okF Tryz.f13 = true := by kernel_rfl
theorem f15_ok : okF Tryz.f15 = true := by kernel_rfl
theorem f16_ok : okF Tryz.f16 = true := by kernel_rfl
theorem f73_ok : okF Tryz.f73 = true := by kernel_rfl
theorem f48_ok : okF Tryz.f48 = true := by kernel_rfl
theorem f19_ok : okF Tryz.f19 = true := by kernel_rfl
theorem f52_ok : okF Tryz.f52 = true := by kernel_rfl
theorem f81_ok : okF Tryz.f81 = true := by kernel_rfl
theorem f54_ok : okF Tryz.f54 = true := by kernel_rfl
theorem f82_ok : okF Tryz.f82 = true := by kernel_rfl
theorem f55_ok : okF Tryz.f55 = true := by kernel_rfl
theorem f22_ok : okF Tryz.f22 = true := by kernel_rfl
theorem f128_ok : okF Tryz.f128 = true := by kernel_rfl
theorem f117_ok : okF Tryz.f117 = true := by kernel_rfl
theorem f91_ok : okF Tryz.f91 = true := by kernel_rfl
theorem f58_ok : okF Tryz.f58 = true := by kernel_rfl
theorem f59_ok : okF Tryz.f59 = true := by kernel_rfl
theorem f24_ok : okF Tryz.f24 = true := by kernel_rfl
theorem f26_ok : okF Tryz.f26 = true := by kernel_rfl
theorem f28_ok : okF Tryz.f28 = true := by kernel_rfl
theorem f34_ok : okF Tryz.f34 = true := by kernel_rfl
theorem f35_ok : okF Tryz.f35 = true := by kernel_rfl
theorem f36_ok : okF Tryz.f36 = true := by kernel_rfl
theorem f10_ok : okF Tryz.f10 = true := by kernel_rfl
theorem f12_ok : okF Tryz.f12 = true := by kernel_rfl
theorem f44_ok : okF Tryz.f44 = true := by kernel_rfl
theorem f94_ok : okF Tryz.f94 = true := by kernel_rfl
theorem f95_ok : okF Tryz.f95 = true := by kernel_rfl
theorem f63_ok : okF Tryz.f63 = true := by kernel_rfl
theorem f62_ok : okF Tryz.f62 = true := by kernel_rfl
theorem f43_ok : okF Tryz.f43 = true := by kernel_rfl
theorem f31_ok : okF Tryz.f31 = true := by kernel_rfl
theorem f32_ok : okF Tryz.f32 = true := by kernel_rfl
theorem f14_ok : okF Tryz.f14 = true := by kernel_rfl
theorem f17_ok : okF Tryz.f17 = true := by kernel_rfl
theorem f18_ok : okF Tryz.f18 = true := by kernel_rfl
theorem f105_ok : okF Tryz.f105 = true := by kernel_rfl
theorem f75_ok : okF Tryz.f75 = true := by kernel_rfl
theorem f50_ok : okF Tryz.f50 = true := by kernel_rfl
theorem f20_ok : okF Tryz.f20 = true := by kernel_rfl
theorem f21_ok : okF Tryz.f21 = true := by kernel_rfl
theorem f27_ok : okF Tryz.f27 = true := by kernel_rfl
theorem f29_ok : okF Tryz.f29 = true := by kernel_rfl
theorem f33_ok : okF Tryz.f33 = true := by kernel_rfl
theorem f89_ok : okF Tryz.f89 = true := by kernel_rfl
theorem f90_ok : okF Tryz.f90 = true := by kernel_rfl
theorem f57_ok : okF Tryz.f57 = true := by kernel_rfl
theorem f23_ok : okF Tryz.f23 = true := by kernel_rfl
theorem f60_ok : okF Tryz.f60 = true := by kernel_rfl
theorem f61_ok : okF Tryz.f61 = true := by kernel_rfl
theorem f25_ok : okF Tryz.f25 = true := by kernel_rfl
theorem f112_ok : okF Tryz.f112 = true := by kernel_rfl
theorem f113_ok : okF Tryz.f113 = true := by kernel_rfl
theorem f92_ok : okF Tryz.f92 = true := by kernel_rfl
theorem f93_ok : okF Tryz.f93 = true := by kernel_rfl
theorem f109_ok : okF Tryz.f109 = true := by kernel_rfl
theorem f110_ok : okF Tryz.f110 = true := by kernel_rfl
theorem f108_ok : okF Tryz.f108 = true := by kernel_rfl
theorem f96_ok : okF Tryz.f96 = true := by kernel_rfl
theorem f118_ok : okF Tryz.f118 = true := by kernel_rfl
theorem f100_ok : okF Tryz.f100 = true := by kernel_rfl
theorem f84_ok : okF Tryz.f84 = true := by kernel_rfl
theorem f51_ok : okF Tryz.f51 = true := by kernel_rfl
theorem f53_ok : okF Tryz.f53 = true := by kernel_rfl
theorem f56_ok : okF Tryz.f56 = true := by kernel_rfl
theorem f77_ok : okF Tryz.f77 = true := by kernel_rfl
theorem f85_ok : okF Tryz.f85 = true := by kernel_rfl
theorem f78_ok : okF Tryz.f78 = true := by kernel_rfl
theorem f86_ok : okF Tryz.f86 = true := by kernel_rfl
theorem f70_ok : okF Tryz.f70 = true := by kernel_rfl
theorem f64_ok : okF Tryz.f64 = true := by kernel_rfl
theorem f71_ok : okF Tryz.f71 = true := by kernel_rfl
theorem f65_ok : okF Tryz.f65 = true := by kernel_rfl
theorem f45_ok : okF Tryz.f45 = true := by kernel_rfl
theorem f37_ok : okF Tryz.f37 = true := by kernel_rfl
theorem f76_ok : okF Tryz.f76 = true := by kernel_rfl
theorem f111_ok : okF Tryz.f111 = true := by kernel_rfl
theorem f103_ok : okF Tryz.f103 = true := by kernel_rfl
theorem f74_ok : okF Tryz.f74 = true := by kernel_rfl
noncomputable def codes : List (Nat × Func × List (Nat × Hint)) := [(83, Tryz.f83, []), (112, Tryz.f112, [(2, ⟨[.var 8 (.d (.int .i64))], [], (some (0, []))⟩)]), (113, Tryz.f113, []), (46, Tryz.f46, []), (92, Tryz.f92, []), (93, Tryz.f93, []), (109, Tryz.f109, [(3, ⟨[.var 9 (.d (.int .i64)), .var 10 (.d (.int .i64))], [], (some (0, [.var 9 (.d (.int .i64))]))⟩)]), (110, Tryz.f110, []), (108, Tryz.f108, []), (96, Tryz.f96, [(5, ⟨[.var 5 (.d (.int .i64)), .var 6 (.d (.int .i64)), .cel 0 [] (.st (.pair (.int .i64) (.int .i64)))], [], (some (0, [.var 5 (.d (.int .i64)), .cel 0 [] (.st (.pair (.int .i64) (.int .i64)))]))⟩)]), (118, Tryz.f118, [(2, ⟨[.var 8 (.d (.int .i64))], [], (some (0, []))⟩)]), (100, Tryz.f100, [(4, ⟨[.var 3 (.d (.int .i64)), .cel 0 [] (.st (.pair (.int .i64) (.int .i64)))], [], (some (0, [.cel 0 [] (.st (.pair (.int .i64) (.int .i64)))]))⟩), (9, ⟨[.var 3 (.d (.int .i64)), .var 5 (.d (.int .i64)), .cel 0 [] (.st (.pair (.int .i64) (.int .i64)))], [], (some (2, [.var 3 (.d (.int .i64)), .cel 0 [] (.st (.pair (.int .i64) (.int .i64)))]))⟩)]), (38, Tryz.f38, [(3, ⟨[.var 13 (.d (.int .i64)), .box 3 [] (.s (.p (.o (.st (.pair .str (.pair .bool (.slice (.st (.pair (.int .i64) (.int .i64)))))))) (.d (.slice (.st (.pair (.int .i64) (.int .i64)))))))], [], (some (0, [.box 3 [] (.s (.p (.o (.st (.pair .str (.pair .bool (.slice (.st (.pair (.int .i64) (.int .i64)))))))) (.d (.slice (.st (.pair (.int .i64) (.int .i64)))))))]))⟩)]), (84, Tryz.f84, []), (51, Tryz.f51, [(3, ⟨[.var 14 (.d (.int .i64)), .box 3 [] (.s (.p (.d .bool) (.p (.o (.st (.pair .str (.slice (.st (.pair (.int .i64) (.int .i64))))))) (.o (.st (.pair (.st (.pair (.int .i64) (.int .i64))) (.st (.pair (.slice (.st (.pair .str (.pair .bool (.slice (.st (.pair (.int .i64) (.int .i64)))))))) (.slice (.st (.pair (.int .i64) (.int .i64))))))))))))], [], (some (0, [.box 3 [] (.s (.p (.d .bool) (.p (.o (.st (.pair .str (.slice (.st (.pair (.int .i64) (.int .i64))))))) (.o (.st (.pair (.st (.pair (.int .i64) (.int .i64))) (.st (.pair (.slice (.st (.pair .str (.pair .bool (.slice (.st (.pair (.int .i64) (.int .i64)))))))) (.slice (.st (.pair (.int .i64) (.int .i64))))))))))))]))⟩), (8, ⟨[.var 33 (.d (.int .i64)), .box 3 [] (.s (.p (.d .bool) (.p (.o (.st (.pair .str (.slice (.st (.pair (.int .i64) (.int .i64))))))) (.o (.st (.pair (.st (.pair (.int .i64) (.int .i64))) (.st (.pair (.slice (.st (.pair .str (.pair .bool (.slice (.st (.pair (.int .i64) (.int .i64)))))))) (.slice (.st (.pair (.int .i64) (.int .i64))))))))))))], [], (some (2, [.box 3 [] (.s (.p (.d .bool) (.p (.o (.st (.pair .str (.slice (.st (.pair (.int .i64) (.int .i64))))))) (.o (.st (.pair (.st (.pair (.int .i64) (.int .i64))) (.st (.pair (.slice (.st (.pair .str (.pair .bool (.slice (.st (.pair (.int .i64) (.int .i64)))))))) (.slice (.st (.pair (.int .i64) (.int .i64))))))))))))]))⟩)]), (53, Tryz.f53, []), (56, Tryz.f56, []), (77, Tryz.f77, []), (85, Tryz.f85, []), (78, Tryz.f78, []), (86, Tryz.f86, []), (70, Tryz.f70, [(2, ⟨[.var 8 (.d (.int .i64))], [], (some (0, []))⟩)]), (64, Tryz.f64, [(2, ⟨[.var 8 (.d (.int .i64))], [], (some (0, []))⟩)]), (71, Tryz.f71, []), (65, Tryz.f65, []), (45, Tryz.f45, []), (37, Tryz.f37, []), (76, Tryz.f76, [])]
theorem codesOk : CodesOk Tryz.prog codes := .cons Tryz.func83 f83_ok <| .cons Tryz.func112 f112_ok <| .cons Tryz.func113 f113_ok <| .cons Tryz.func46 f46_ok <| .cons Tryz.func92 f92_ok <| .cons Tryz.func93 f93_ok <| .cons Tryz.func109 f109_ok <| .cons Tryz.func110 f110_ok <| .cons Tryz.func108 f108_ok <| .cons Tryz.func96 f96_ok <| .cons Tryz.func118 f118_ok <| .cons Tryz.func100 f100_ok <| .cons Tryz.func38 f38_ok <| .cons Tryz.func84 f84_ok <| .cons Tryz.func51 f51_ok <| .cons Tryz.func53 f53_ok <| .cons Tryz.func56 f56_ok <| .cons Tryz.func77 f77_ok <| .cons Tryz.func85 f85_ok <| .cons Tryz.func78 f78_ok <| .cons Tryz.func86 f86_ok <| .cons Tryz.func70 f70_ok <| .cons Tryz.func64 f64_ok <| .cons Tryz.func71 f71_ok <| .cons Tryz.func65 f65_ok <| .cons Tryz.func45 f45_ok <| .cons Tryz.func37 f37_ok <| .cons Tryz.func76 f76_ok <| .nil
theorem ggKeep : ∀ w w' : World, GG w → Go.RowKit.Below w.heap.size w w' → GG w' := fun w w' h hb => by
 show World.var? Tryz.prog w' _ = _
 have h : World.var? Tryz.prog w _ = _ := h
 unfold World.var? at h ⊢
 cases hg : Tryz.prog.globalNamed "internal/strconv.uint64pow10" with
 | none => rw [hg] at h; cases h
 | some g =>
  rw [hg] at h
  simp only [Option.bind_some] at h ⊢
  have hlt : g < w.heap.size := by
   rcases Nat.lt_or_ge g w.heap.size with q | q
   ·exact q
   ·rw [Array.getElem?_eq_none q] at h; cases h
  rw [hb.block g hlt]
  exact h
def strconv_Itoa (_k : Nat) (n : Int) : Option ByteArray := if -9223372036854775808 ≤ n ∧ n ≤ 9223372036854775807 then some ⟨(Lib.itoa n).toArray⟩ else none
theorem strconv_Itoa_spec (k : Nat) : SpecOk Tryz.prog GG 103 ⟨(.int .i64), .str, strconv_Itoa k⟩ := by
 intro Z w vals x r hG _ hx ha
 simp only [strconv_Itoa] at hx
 split at hx
 case isFalse => cases hx
 rename_i hb
 injection hx with hx
 simp only [argAV, RepT] at ha
 obtain ⟨v1, e1, h1⟩ := ha
 have h1 := repV_int (k := .i64) (n := x) (by simpa only [RepV] using h1)
 subst h1
 obtain rfl : vals = #[.int .i64 x] := Array.toList_inj.1 (by simpa using e1)
 refine (Tryz.strconv_Itoa x hb.1 hb.2 w hG).mono fun e w' ⟨he, k, os, hw⟩ => ⟨_, he, ?_, ?_⟩
 ·rw [hw]
  refine ⟨rfl, rfl, rfl, ?_, fun j hj => ?_⟩
  ·show w.heap.size ≤ (w.heap ++ os).size
   simp
  ·show (w.heap ++ os)[j]? = w.heap[j]?
   exact Array.getElem?_append_left hj
 ·rw [← hx]; simp [resAV, RepV, RepD, isSt]
def strings_Join (_k : Nat) (x : List ByteArray × ByteArray) : Option ByteArray := if x.1.length ≤ 140737488355328 ∧ (Lib.join (x.1.map fun b => b.data.toList) x.2.data.toList).length ≤ 140737488355328 then some ⟨(Lib.join (x.1.map fun b => b.data.toList) x.2.data.toList).toArray⟩ else none
theorem strings_Join_spec (k : Nat) : SpecOk Tryz.prog GG 74 ⟨(.pair (.slice .str) .str), .str, strings_Join k⟩ := by
 intro Z w vals x r _ _ hx ha
 simp only [strings_Join] at hx
 split at hx
 case isFalse => cases hx
 rename_i hb
 injection hx with hx
 simp only [argAV, RepT] at ha
 obtain ⟨v1, l1, e1, h1, h2⟩ := ha
 obtain ⟨v2, rfl, h2⟩ := h2
 have h2 : v2 = .string x.2 := repV_str (c := cz Z w) (by simpa only [RepV] using h2)
 subst h2
 rcases repV_data h1 with ⟨q, _⟩ | ⟨_, q⟩
 ·cases q
 simp only [RepD] at q
 obtain ⟨A, cap, ev, hle, hel⟩ := q
 obtain rfl : v1 = .slice A x.1.length cap := by simpa using ev
 obtain rfl : vals = #[.slice A x.1.length cap, .string x.2] := Array.toList_inj.1 (by simpa using e1)
 rcases hel with hnil | ⟨b, o, rfl, hbw, _, hel⟩
 ·rw [hnil]
  refine (Tryz.strings_Join_none A cap x.2 w).mono fun e w' ⟨he, hw⟩ => ⟨_, he, ?_, ?_⟩
  ·rw [hw]; exact Go.RowKit.Below.refl _ _
  ·rw [← hx, hnil]; simp [resAV, RepV, RepD, isSt, Lib.join_nil]
 ·refine (Tryz.strings_Join b o cap x.1 x.2 w (fun j y hy => ?_) hbw hb.1 hle hb.2).mono fun e w' ⟨he, hw⟩ => ⟨_, he, hw, ?_⟩
  ·obtain ⟨c, hc, hm⟩ := hel j y hy
   subst hc
   have := hm 0 (.string y) rfl
   have this : w.cell? ⟨b, o + j * 1 + 0, none⟩ = some (.string y) := this
   rw [Nat.mul_one, Nat.add_zero] at this
   exact this
  ·rw [← hx]; simp [resAV, RepV, RepD, isSt]
def strings_Compare (_k : Nat) (x : ByteArray × ByteArray) : Option Int := some (Lib.compareBytes x.1.data.toList x.2.data.toList)
section
open Go.RowKit
theorem cmpIn (a b : ByteArray) (w : World) : Calls Tryz.prog 124 #[.string a, .string b] w fun e w' => e = .returned (.int .i64 (Lib.compareBytes a.data.toList b.data.toList)) ∧ w' = w := by
 go_enter Tryz.func124, Tryz.ntmps124
 go_wp2
 rw [run_callFunc_extern Tryz.func142 (by kernel_rfl) (by kernel_rfl) (by kernel_rfl) (e := Extern.BytealgCompare.compare) (by kernel_rfl), Lib.run_compareString]
 simp only [Result.andThen]
 rw [Oper.upon_value]
 go_wp2
 go_ret
 exact ⟨rfl, rfl⟩
theorem cmpOut (a b : ByteArray) (w : World) : Calls Tryz.prog 111 #[.string a, .string b] w fun e w' => e = .returned (.int .i64 (Lib.compareBytes a.data.toList b.data.toList)) ∧ w' = w := by
 go_enter Tryz.func111, Tryz.ntmps111
 go_wp2_with (go_at_call 124; refine (cmpIn _ _ _).mono ?_; rintro e w' ⟨rfl, rfl⟩)
 go_ret
 exact ⟨rfl, rfl⟩
end
theorem strings_Compare_spec (k : Nat) : SpecOk Tryz.prog GG 111 ⟨(.pair .str .str), (.int .i64), strings_Compare k⟩ := by
 intro Z w vals x r _ _ hx ha
 have hx : Lib.compareBytes x.1.data.toList x.2.data.toList = r := by simpa [strings_Compare] using hx
 simp only [argAV, RepT] at ha
 obtain ⟨v1, l1, e1, h1, h2⟩ := ha
 obtain ⟨v2, rfl, h2⟩ := h2
 have h1 := repV_str h1
 have h2 : v2 = .string x.2 := repV_str (c := cz Z w) (by simpa only [RepV] using h2)
 subst h1; subst h2
 obtain rfl : vals = #[.string x.1, .string x.2] := Array.toList_inj.1 (by simpa using e1)
 refine (cmpOut x.1 x.2 w).mono fun e w' ⟨he, hw⟩ => ⟨_, he, ?_, ?_⟩
 ·rw [hw]; exact Go.RowKit.Below.refl _ _
 ·rw [hx]; simp [resAV, RepV, RepD, isSt]
theorem sort_ok : InplOk Tryz.prog GG 99 ⟨Uat, 42, sortF⟩ := SortW.sort_ok GG
theorem f99_ok : okF Tryz.f99 = true := by kernel_rfl
theorem inplOk : InplsOk Tryz.prog GG [(99, ⟨Uat, 42, sortF⟩)] := .cons sort_ok Tryz.func99 f99_ok .nil
theorem f114_ok : okF Tryz.f114 = true := by kernel_rfl
theorem f80_ok : okF Tryz.f80 = true := by kernel_rfl
theorem f79_ok : okF Tryz.f79 = true := by kernel_rfl
theorem f88_ok : okF Tryz.f88 = true := by kernel_rfl
theorem f87_ok : okF Tryz.f87 = true := by kernel_rfl
theorem insOk : InssOk Tryz.prog GG [(114, Ufd, 48), (80, Ubd, 40), (79, Ubd, 0), (88, Ulc, 64), (87, Ulc, 0)] := .cons (InsT.ins_ok rfl) ⟨58, okB_spec (by kernel_rfl)⟩ Tryz.func114 f114_ok <| .cons (InsB.ins_ok rfl) ⟨54, okB_spec (by kernel_rfl)⟩ Tryz.func80 f80_ok <| .cons (DelB.del_ok rfl) ⟨54, okB_spec (by kernel_rfl)⟩ Tryz.func79 f79_ok <| .cons (InsL.ins_ok rfl) ⟨46, okB_spec (by kernel_rfl)⟩ Tryz.func88 f88_ok <| .cons (DelL.del_ok rfl) ⟨46, okB_spec (by kernel_rfl)⟩ Tryz.func87 f87_ok <| .nil
theorem f47_ok : okF Tryz.f47 = true := by kernel_rfl
theorem f49_ok : okF Tryz.f49 = true := by kernel_rfl
theorem bldOk : bldsB Tryz.prog [(70, 5)] = true := by kernel_rfl
theorem bwOk : BwsOk Tryz.prog GG [(70, 5)] [(47, 0), (49, 1)] := .cons (BldW.bws_ok GG).1 Tryz.func47 f47_ok <| .cons (BldW.bws_ok GG).2 Tryz.func49 f49_ok .nil
noncomputable abbrev EN (k : Nat) (sp : List (Nat × Go.PG.Spec)) : Go.PG.Env := { T := T, specs := sp, codes := codes, k := k, inpl := [(99, ⟨Uat, 42, sortF⟩)], ins := [(114, Ufd, 48), (80, Ubd, 40), (79, Ubd, 0), (88, Ulc, 64), (87, Ulc, 0)], calm := [38, 51, 67, 0], blds := [(70, 5)], bw := [(47, 0), (49, 1)] }
theorem envE {k : Nat} {sp : List (Nat × Go.PG.Spec)} (h : SpecsOk Tryz.prog GG sp) : EnvOk Tryz.prog GG (EN k sp) := envOk (E := EN k sp) tabOk h codesOk mixedOk ggKeep (hi := inplOk) (hj := insOk) (hbl := bldOk) (hbw := bwOk)
noncomputable def slCloneAtom : (k : Nat) → (Ty.D (.slice Uat)) → Option (Ty.D (.slice Uat)) := fun (k : Nat) (x : Uat.slice.D) => P.cond (P.ilt (0 : Int) (P.len x)) (P.cond (P.not true) (some []) (P.cond (P.room (P.add (P.len (P.nil (Int × Int))) (P.len x)) 16) (some (P.app [] x)) none)) (P.amb (some []) (P.cond (P.room (P.add (P.len (P.nil (Int × Int))) (P.len x)) 16) (some (P.app [] x)) none))
theorem slCloneAtom_eq (k : Nat) (x : _) : evFn (EN k []) 6 Tryz.f46 [] (.slice Uat) (.slice Uat) x = slCloneAtom k x := by kernel_rfl
theorem slCloneAtom_spec (k : Nat) : SpecOk Tryz.prog GG 46 ⟨(.slice Uat), (.slice Uat), slCloneAtom k⟩ :=
 fn_spec (envE .nil) Tryz.func46 (fun x => (slCloneAtom_eq k x).symm)
noncomputable def object_Copy : (k : Nat) → (Ty.D Ush) → Option (Ty.D Ush) := fun (k : Nat) (x : Ush.D) => P.bind (slCloneAtom k x.snd) fun (r : tA) => P.bind (P.iter k (fun (y : Int × tO) => P.cond (P.ilt y.fst (P.len x.fst)) (P.cond (P.inb y.fst (P.len x.fst)) (P.bind (slCloneAtom k (P.get x.fst y.fst ((ByteArray.mk #[]), false, [])).snd.snd) fun (r : tA) => P.cond (P.room (P.add (P.len y.snd.fst) (P.len [((P.get x.fst y.fst ((ByteArray.mk #[]), false, [])).fst, (P.get x.fst y.fst ((ByteArray.mk #[]), false, [])).snd.fst, r)])) 48) (some (Sum.inl (P.wrap IntKind.i64 (P.add y.fst (1 : Int)), P.app y.snd.fst [((P.get x.fst y.fst ((ByteArray.mk #[]), false, [])).fst, (P.get x.fst y.fst ((ByteArray.mk #[]), false, [])).snd.fst, r)], y.snd.snd))) none) none) (some (Sum.inr (Sum.inl (y.snd.fst, y.snd.snd))))) ((0 : Int), [], r)) (P.either (fun (z : tO) => some (z.fst, z.snd)) fun (r : tO) => some r)
theorem object_Copy_eq (k : Nat) (x : _) : evFn (EN k [(46, ⟨(.slice Uat), (.slice Uat), slCloneAtom k⟩)]) 6 Tryz.f38 [(3, ⟨[.var 13 (.d (.int .i64)), .box 3 [] (.s (.p (.o (.st (.pair .str (.pair .bool (.slice (.st (.pair (.int .i64) (.int .i64)))))))) (.d (.slice (.st (.pair (.int .i64) (.int .i64)))))))], [], (some (0, [.box 3 [] (.s (.p (.o (.st (.pair .str (.pair .bool (.slice (.st (.pair (.int .i64) (.int .i64)))))))) (.d (.slice (.st (.pair (.int .i64) (.int .i64)))))))]))⟩)] Ush Ush x = object_Copy k x := by kernel_rfl
theorem object_Copy_spec (k : Nat) : SpecOk Tryz.prog GG 38 ⟨Ush, Ush, object_Copy k⟩ :=
 fn_spec (envE (.cons (slCloneAtom_spec k) Tryz.func46 f46_ok <| .nil)) Tryz.func38 (fun x => (object_Copy_eq k x).symm)
noncomputable def cmp_Or_int : (k : Nat) → (Ty.D (.slice (.int .i64))) → Option (Ty.D (.int .i64)) := fun (k : Nat) (x : (Ty.int IntKind.i64).slice.D) => P.bind (P.iter k (fun (y : Int) => P.cond (P.ilt y (P.len x)) (P.cond (P.inb y (P.len x)) (P.cond (P.not (P.ieq (P.get x y (0 : Int)) (0 : Int))) (some (Sum.inr (Sum.inr (P.get x y (0 : Int))))) (some (Sum.inl (P.wrap IntKind.i64 (P.add y (1 : Int)))))) none) (some (Sum.inr (Sum.inl PUnit.unit)))) (0 : Int)) (P.either (fun (z : PUnit) => some (0 : Int)) fun (r : Int) => some r)
theorem cmp_Or_int_eq (k : Nat) (x : _) : evFn (EN k []) 6 Tryz.f68 [(3, ⟨[.var 8 (.d (.int .i64))], [], (some (0, []))⟩)] (.slice (.int .i64)) (.int .i64) x = cmp_Or_int k x := by kernel_rfl
theorem cmp_Or_int_spec (k : Nat) : SpecOk Tryz.prog GG 68 ⟨(.slice (.int .i64)), (.int .i64), cmp_Or_int k⟩ :=
 fn_spec (envE .nil) Tryz.func68 (fun x => (cmp_Or_int_eq k x).symm)
noncomputable def cmp_isNaN_int : (k : Nat) → (Ty.D (.int .i64)) → Option (Ty.D .bool) := fun (k : Nat) (x : (Ty.int IntKind.i64).D) => some (P.not (P.ieq x x))
theorem cmp_isNaN_int_eq (k : Nat) (x : _) : evFn (EN k []) 6 Tryz.f101 [] (.int .i64) .bool x = cmp_isNaN_int k x := by kernel_rfl
theorem cmp_isNaN_int_spec (k : Nat) : SpecOk Tryz.prog GG 101 ⟨(.int .i64), .bool, cmp_isNaN_int k⟩ :=
 fn_spec (envE .nil) Tryz.func101 (fun x => (cmp_isNaN_int_eq k x).symm)
noncomputable def cmp_Compare_int : (k : Nat) → (Ty.D (.pair (.int .i64) (.int .i64))) → Option (Ty.D (.int .i64)) := fun (k : Nat) (x : ((Ty.int IntKind.i64).pair (Ty.int IntKind.i64)).D) => P.bind (cmp_isNaN_int k x.fst) fun (r : Bool) => P.bind (cmp_isNaN_int k x.snd) fun (r_1 : Bool) => P.cond r (P.cond r_1 (some (0 : Int)) (some ((-1 : Int)))) (P.cond r_1 (some (1 : Int)) (P.cond (P.ilt x.fst x.snd) (some ((-1 : Int))) (P.cond (P.ilt x.snd x.fst) (some (1 : Int)) (some (0 : Int)))))
theorem cmp_Compare_int_eq (k : Nat) (x : _) : evFn (EN k [(101, ⟨(.int .i64), .bool, cmp_isNaN_int k⟩)]) 6 Tryz.f69 [] (.pair (.int .i64) (.int .i64)) (.int .i64) x = cmp_Compare_int k x := by kernel_rfl
theorem cmp_Compare_int_spec (k : Nat) : SpecOk Tryz.prog GG 69 ⟨(.pair (.int .i64) (.int .i64)), (.int .i64), cmp_Compare_int k⟩ :=
 fn_spec (envE (.cons (cmp_isNaN_int_spec k) Tryz.func101 f101_ok <| .nil)) Tryz.func69 (fun x => (cmp_Compare_int_eq k x).symm)
noncomputable def atoms_Compare : (k : Nat) → (Ty.D (.pair Uat Uat)) → Option (Ty.D (.int .i64)) := fun (k : Nat) (x : (Uat.pair Uat).D) => P.bind (cmp_Compare_int k (x.fst.fst, x.snd.fst)) fun (r : Int) => P.bind (cmp_Compare_int k (x.fst.snd, x.snd.snd)) fun (r_1 : Int) => P.bind (cmp_Or_int k [r, r_1]) fun (r : Int) => some r
theorem atoms_Compare_eq (k : Nat) (x : _) : evFn (EN k [(68, ⟨(.slice (.int .i64)), (.int .i64), cmp_Or_int k⟩), (69, ⟨(.pair (.int .i64) (.int .i64)), (.int .i64), cmp_Compare_int k⟩)]) 6 Tryz.f42 [] (.pair Uat Uat) (.int .i64) x = atoms_Compare k x := by kernel_rfl
theorem atoms_Compare_spec (k : Nat) : SpecOk Tryz.prog GG 42 ⟨(.pair Uat Uat), (.int .i64), atoms_Compare k⟩ :=
 fn_spec (envE (.cons (cmp_Or_int_spec k) Tryz.func68 f68_ok <| .cons (cmp_Compare_int_spec k) Tryz.func69 f69_ok <| .nil)) Tryz.func42 (fun x => (atoms_Compare_eq k x).symm)
noncomputable def atoms_right : (k : Nat) → (Ty.D Uat) → Option (Ty.D .bool) := fun (k : Nat) (x : Uat.D) => P.cond (P.ieq x.fst ((3 : Int))) (some (P.ile (0 : Int) x.snd)) (P.cond (P.ieq x.fst ((4 : Int))) (some (P.ile (0 : Int) x.snd)) (P.cond (P.ieq x.fst ((5 : Int))) (some (P.ile (0 : Int) x.snd)) (P.cond (P.ieq x.fst (0 : Int)) (some (P.ieq x.snd (0 : Int))) (P.cond (P.ieq x.fst (1 : Int)) (some (P.ieq x.snd (0 : Int))) (P.cond (P.ieq x.fst ((2 : Int))) (some (P.ieq x.snd (0 : Int))) (P.cond (P.ieq x.fst ((6 : Int))) (some (P.ieq x.snd (0 : Int))) (some false)))))))
theorem atoms_right_eq (k : Nat) (x : _) : evFn (EN k []) 6 Tryz.f98 [] Uat .bool x = atoms_right k x := by kernel_rfl
theorem atoms_right_spec (k : Nat) : SpecOk Tryz.prog GG 98 ⟨Uat, .bool, atoms_right k⟩ :=
 fn_spec (envE .nil) Tryz.func98 (fun x => (atoms_right_eq k x).symm)
noncomputable def atoms_Norm_1 : (k : Nat) → (Ty.D Uat) → Option (Ty.D .bool) := fun (k : Nat) (x : Uat.D) => P.bind (atoms_right k x) fun (r : Bool) => some (P.not r)
theorem atoms_Norm_1_eq (k : Nat) (x : _) : evFn (EN k [(98, ⟨Uat, .bool, atoms_right k⟩)]) 6 Tryz.f97 [] Uat .bool x = atoms_Norm_1 k x := by kernel_rfl
theorem atoms_Norm_1_spec (k : Nat) : SpecOk Tryz.prog GG 97 ⟨Uat, .bool, atoms_Norm_1 k⟩ :=
 fn_spec (envE (.cons (atoms_right_spec k) Tryz.func98 f98_ok <| .nil)) Tryz.func97 (fun x => (atoms_Norm_1_eq k x).symm)
noncomputable def ref08_Small : (k : Nat) → (Ty.D Ust) → Option (Ty.D .bool) := fun (k : Nat) (x : Ust.D) => P.cond (P.ilt ((40 : Int)) (P.len x.snd.fst)) (some false) (P.cond (P.ilt ((40 : Int)) (P.len x.snd.snd)) (some false) (P.bind (P.iter k (fun (y : Int) => P.cond (P.ilt y (P.len x.snd.fst)) (P.cond (P.inb y (P.len x.snd.fst)) (P.cond (P.ilt ((40 : Int)) (P.len (P.get x.snd.fst y ((ByteArray.mk #[]), [])).snd)) (some (Sum.inr (Sum.inr false))) (some (Sum.inl (P.wrap IntKind.i64 (P.add y (1 : Int)))))) none) (some (Sum.inr (Sum.inl PUnit.unit)))) (0 : Int)) (P.either (fun (z : PUnit) => P.bind (P.iter k (fun (y : Int) => P.cond (P.ilt y (P.len x.snd.snd)) (P.cond (P.inb y (P.len x.snd.snd)) (P.cond (P.ilt ((40 : Int)) (P.len (P.get x.snd.snd y (((0 : Int), (0 : Int)), [], [])).snd.fst)) (some (Sum.inr (Sum.inr false))) (P.cond (P.inb y (P.len x.snd.snd)) (P.cond (P.ilt ((40 : Int)) (P.len (P.get x.snd.snd y (((0 : Int), (0 : Int)), [], [])).snd.snd)) (some (Sum.inr (Sum.inr false))) (P.bind (P.iter k (fun (y_1 : Int) => P.cond (P.inb y (P.len x.snd.snd)) (P.cond (P.ilt y_1 (P.len (P.get x.snd.snd y (((0 : Int), (0 : Int)), [], [])).snd.fst)) (P.cond (P.inb y (P.len x.snd.snd)) (P.cond (P.inb y_1 (P.len (P.get x.snd.snd y (((0 : Int), (0 : Int)), [], [])).snd.fst)) (P.cond (P.ilt ((40 : Int)) (P.len (P.get (P.get x.snd.snd y (((0 : Int), (0 : Int)), [], [])).snd.fst y_1 ((ByteArray.mk #[]), false, [])).snd.snd)) (some (Sum.inr (Sum.inr (Sum.inr (Sum.inr false))))) (some (Sum.inl (P.wrap IntKind.i64 (P.add y_1 (1 : Int)))))) none) none) (some (Sum.inr (Sum.inl PUnit.unit)))) none) (0 : Int)) (P.either (fun (z : PUnit) => some (Sum.inl (P.wrap IntKind.i64 (P.add y (1 : Int))))) fun (r : Int ⊕ PUnit ⊕ Bool) => some r))) none)) none) (some (Sum.inr (Sum.inl PUnit.unit)))) (0 : Int)) (P.either (fun (z : PUnit) => some true) fun (r : Bool) => some r)) fun (r : Bool) => some r)))
theorem ref08_Small_eq (k : Nat) (x : _) : evFn (EN k []) 6 Tryz.f9 [(4, ⟨[.var 3 (.d (.int .i64))], [], (some (0, []))⟩), (9, ⟨[.var 4 (.d (.int .i64))], [], (some (2, []))⟩), (14, ⟨[.var 5 (.d (.int .i64))], [], (some (4, []))⟩)] Ust .bool x = ref08_Small k x := by kernel_rfl
theorem ref08_Small_spec (k : Nat) : SpecOk Tryz.prog GG 9 ⟨Ust, .bool, ref08_Small k⟩ :=
 fn_spec (envE .nil) Tryz.func9 (fun x => (ref08_Small_eq k x).symm)
noncomputable def state_Loc : (k : Nat) → (Ty.D (.pair Ust Uat)) → Option (Ty.D (.pair Ush .bool)) := fun (k : Nat) (x : (Ust.pair Uat).D) => P.bind (P.iter k (fun (y : Int) => P.cond (P.ilt y (P.len x.fst.snd.snd)) (P.cond (P.inb y (P.len x.fst.snd.snd)) (P.cond (P.and (P.ieq (P.get x.fst.snd.snd y (((0 : Int), (0 : Int)), [], [])).fst.fst x.snd.fst) (P.ieq (P.get x.fst.snd.snd y (((0 : Int), (0 : Int)), [], [])).fst.snd x.snd.snd)) (P.map (fun (r : (tO) × Bool) => Sum.inr (Sum.inr r)) (P.cond (P.ile (0 : Int) y) (P.cond (P.inb y (P.len x.fst.snd.snd)) (P.bind (object_Copy k (P.get x.fst.snd.snd y (((0 : Int), (0 : Int)), [], [])).snd) fun (r : tO) => some (r, true)) none) (some (([], []), false)))) (some (Sum.inl (P.wrap IntKind.i64 (P.add y (1 : Int)))))) none) (some (Sum.inr (Sum.inl PUnit.unit)))) (0 : Int)) (P.either (fun (z : PUnit) => P.cond (P.ile (0 : Int) ((-1 : Int))) (P.cond (P.inb ((-1 : Int)) (P.len x.fst.snd.snd)) (P.bind (object_Copy k (P.get x.fst.snd.snd ((-1 : Int)) (((0 : Int), (0 : Int)), [], [])).snd) fun (r : tO) => some (r, true)) none) (some (([], []), false))) fun (r : (tO) × Bool) => some r)
theorem state_Loc_eq (k : Nat) (x : _) : evFn (EN k [(38, ⟨Ush, Ush, object_Copy k⟩), (46, ⟨(.slice Uat), (.slice Uat), slCloneAtom k⟩)]) 6 Tryz.f11 [] (.pair Ust Uat) (.pair Ush .bool) x = state_Loc k x := by kernel_rfl
theorem state_Loc_spec (k : Nat) : SpecOk Tryz.prog GG 11 ⟨(.pair Ust Uat), (.pair Ush .bool), state_Loc k⟩ :=
 fn_spec (envE (.cons (object_Copy_spec k) Tryz.func38 f38_ok <| .cons (slCloneAtom_spec k) Tryz.func46 f46_ok <| .nil)) Tryz.func11 (fun x => (state_Loc_eq k x).symm)
noncomputable def slEqualAtom : (k : Nat) → (Ty.D (.pair (.slice Uat) (.slice Uat))) → Option (Ty.D .bool) := fun (k : Nat) (x : (Uat.slice.pair Uat.slice).D) => P.cond (P.not (P.ieq (P.len x.fst) (P.len x.snd))) (some false) (P.bind (P.iter k (fun (y : Int) => P.cond (P.ilt y (P.len x.fst)) (P.cond (P.inb y (P.len x.fst)) (P.cond (P.inb y (P.len x.snd)) (P.cond (P.not (P.and (P.ieq (P.get x.fst y ((0 : Int), (0 : Int))).fst (P.get x.snd y ((0 : Int), (0 : Int))).fst) (P.ieq (P.get x.fst y ((0 : Int), (0 : Int))).snd (P.get x.snd y ((0 : Int), (0 : Int))).snd))) (some (Sum.inr (Sum.inr false))) (some (Sum.inl (P.wrap IntKind.i64 (P.add y (1 : Int)))))) none) none) (some (Sum.inr (Sum.inl PUnit.unit)))) (0 : Int)) (P.either (fun (z : PUnit) => some true) fun (r : Bool) => some r))
theorem slEqualAtom_eq (k : Nat) (x : _) : evFn (EN k []) 6 Tryz.f66 [(4, ⟨[.var 13 (.d (.int .i64))], [], (some (0, []))⟩)] (.pair (.slice Uat) (.slice Uat)) .bool x = slEqualAtom k x := by kernel_rfl
theorem slEqualAtom_spec (k : Nat) : SpecOk Tryz.prog GG 66 ⟨(.pair (.slice Uat) (.slice Uat)), .bool, slEqualAtom k⟩ :=
 fn_spec (envE .nil) Tryz.func66 (fun x => (slEqualAtom_eq k x).symm)
noncomputable def atoms_Norm : (k : Nat) → (Ty.D (.slice Uat)) → Option (Ty.D (.slice Uat)) := fun (k : Nat) (x : Uat.slice.D) => P.cond (P.ilt (0 : Int) (P.len x)) (P.cond (P.not true) (P.bind (P.iter k (fun (y : Int) => P.cond (P.ilt y (0 : Int)) none (some (Sum.inr (Sum.inl PUnit.unit)))) (0 : Int)) (P.either (fun (z : PUnit) => P.cond (P.ieq ((-1 : Int)) ((-1 : Int))) (P.bind (sortF []) fun (x : tA) => P.cond (P.ilt (0 : Int) ((2 : Int))) (some []) (P.bind (P.iter k (fun (y : Int × tA) => P.cond (P.ilt y.fst (0 : Int)) none (some (Sum.inr (Sum.inl [])))) ((1 : Int), [])) (P.either (fun (z : tA) => some []) fun (r : tA) => some r))) (P.bind (P.iter k (fun (y : Int × Int × tA) => P.cond (P.ilt y.snd.fst (0 : Int)) none (some (Sum.inr (Sum.inl (y.fst, []))))) ((-1 : Int), P.wrap IntKind.i64 (P.add ((-1 : Int)) (1 : Int)), [])) (P.either (fun (z : Int × tA) => P.cond (P.cut z.fst (0 : Int) (0 : Int)) (P.cond (P.cut (0 : Int) z.fst (0 : Int)) (P.bind (sortF []) fun (x : tA) => P.cond (P.ilt (0 : Int) ((2 : Int))) (some []) (P.bind (P.iter k (fun (y : Int × tA) => P.cond (P.ilt y.fst (0 : Int)) none (some (Sum.inr (Sum.inl [])))) ((1 : Int), [])) (P.either (fun (z : tA) => some []) fun (r : tA) => some r))) none) none) fun (r : tA) => some r))) fun (r : tA) => some r)) (P.cond (P.room (P.add (P.len (P.nil (Int × Int))) (P.len x)) 16) (P.bind (P.iter k (fun (y : Int) => P.cond (P.ilt y (P.len (P.app [] x))) (P.cond (P.inb y (P.len (P.app [] x))) (P.bind (atoms_Norm_1 k (P.get (P.app [] x) y ((0 : Int), (0 : Int)))) fun (r : Bool) => P.cond r (P.map (fun (r : tA) => Sum.inr (Sum.inr r)) (P.cond (P.ieq y ((-1 : Int))) (P.bind (sortF (P.app [] x)) fun (ys : tA) => P.cond (P.ilt (P.len ys) ((2 : Int))) (some ys) (P.bind (P.iter k (fun (y : Int × tA) => P.cond (P.ilt y.fst (P.len y.snd)) (P.cond (P.inb y.fst (P.len y.snd)) (P.cond (P.inb (P.wrap IntKind.i64 (P.sub y.fst (1 : Int))) (P.len y.snd)) (P.cond (P.and (P.ieq (P.get y.snd y.fst ((0 : Int), (0 : Int))).fst (P.get y.snd (P.wrap IntKind.i64 (P.sub y.fst (1 : Int))) ((0 : Int), (0 : Int))).fst) (P.ieq (P.get y.snd y.fst ((0 : Int), (0 : Int))).snd (P.get y.snd (P.wrap IntKind.i64 (P.sub y.fst (1 : Int))) ((0 : Int), (0 : Int))).snd)) (P.cond (P.cut y.fst (P.len y.snd) (P.len y.snd)) (P.bind (P.iter k (fun (y_1 : Int × Int × tA) => P.cond (P.ilt y_1.snd.fst (P.sub (P.len y.snd) y.fst)) (P.cond (P.inb y_1.snd.fst (P.sub (P.len y.snd) y.fst)) (P.cond (P.inb (P.wrap IntKind.i64 (P.sub y_1.snd.fst (1 : Int))) (P.sub (P.len y.snd) y.fst)) (P.cond (P.not (P.and (P.ieq (P.get y_1.snd.snd (P.add y.fst y_1.snd.fst) ((0 : Int), (0 : Int))).fst (P.get y_1.snd.snd (P.add y.fst (P.wrap IntKind.i64 (P.sub y_1.snd.fst (1 : Int)))) ((0 : Int), (0 : Int))).fst) (P.ieq (P.get y_1.snd.snd (P.add y.fst y_1.snd.fst) ((0 : Int), (0 : Int))).snd (P.get y_1.snd.snd (P.add y.fst (P.wrap IntKind.i64 (P.sub y_1.snd.fst (1 : Int)))) ((0 : Int), (0 : Int))).snd))) (P.cond (P.inb y_1.snd.fst (P.sub (P.len y.snd) y.fst)) (P.cond (P.inb y_1.fst (P.len y_1.snd.snd)) (some (Sum.inl (P.wrap IntKind.i64 (P.add y_1.fst (1 : Int)), P.wrap IntKind.i64 (P.add y_1.snd.fst (1 : Int)), P.set y_1.snd.snd y_1.fst (P.get y_1.snd.snd (P.add y.fst y_1.snd.fst) ((0 : Int), (0 : Int)))))) none) none) (some (Sum.inl (y_1.fst, P.wrap IntKind.i64 (P.add y_1.snd.fst (1 : Int)), y_1.snd.snd)))) none) none) (some (Sum.inr (Sum.inl (y_1.fst, y_1.snd.snd))))) (y.fst, (1 : Int), y.snd)) (P.either (fun (z : Int × tA) => P.cond (P.cut z.fst (P.len z.snd) (P.len z.snd)) (P.cond (P.cut (0 : Int) z.fst (P.len (P.fill z.snd z.fst (P.sub (P.len z.snd) z.fst) ((0 : Int), (0 : Int))))) (some (Sum.inr (Sum.inr (P.sub_ (P.fill z.snd z.fst (P.sub (P.len z.snd) z.fst) ((0 : Int), (0 : Int))) (0 : Int) z.fst)))) none) none) fun (r : Int × tA ⊕ tA ⊕ tA) => some r)) none) (some (Sum.inl (P.wrap IntKind.i64 (P.add y.fst (1 : Int)), y.snd)))) none) none) (some (Sum.inr (Sum.inl y.snd)))) ((1 : Int), ys)) (P.either (fun (z : tA) => some z) fun (r : tA) => some r))) (P.bind (P.iter k (fun (y : Int × Int × tA) => P.cond (P.ilt y.snd.fst (P.len y.snd.snd)) (P.cond (P.inb y.snd.fst (P.len y.snd.snd)) (P.bind (atoms_Norm_1 k (P.get y.snd.snd y.snd.fst ((0 : Int), (0 : Int)))) fun (r : Bool) => P.cond (P.not r) (P.cond (P.inb y.fst (P.len y.snd.snd)) (some (Sum.inl (P.wrap IntKind.i64 (P.add y.fst (1 : Int)), P.wrap IntKind.i64 (P.add y.snd.fst (1 : Int)), P.set y.snd.snd y.fst (P.get y.snd.snd y.snd.fst ((0 : Int), (0 : Int)))))) none) (some (Sum.inl (y.fst, P.wrap IntKind.i64 (P.add y.snd.fst (1 : Int)), y.snd.snd)))) none) (some (Sum.inr (Sum.inl (y.fst, y.snd.snd))))) (y, P.wrap IntKind.i64 (P.add y (1 : Int)), P.app [] x)) (P.either (fun (z : Int × tA) => P.cond (P.cut z.fst (P.len z.snd) (P.len z.snd)) (P.cond (P.cut (0 : Int) z.fst (P.len (P.fill z.snd z.fst (P.sub (P.len z.snd) z.fst) ((0 : Int), (0 : Int))))) (P.bind (sortF (P.sub_ (P.fill z.snd z.fst (P.sub (P.len z.snd) z.fst) ((0 : Int), (0 : Int))) (0 : Int) z.fst)) fun (ys : tA) => P.cond (P.ilt (P.len ys) ((2 : Int))) (some ys) (P.bind (P.iter k (fun (y : Int × tA) => P.cond (P.ilt y.fst (P.len y.snd)) (P.cond (P.inb y.fst (P.len y.snd)) (P.cond (P.inb (P.wrap IntKind.i64 (P.sub y.fst (1 : Int))) (P.len y.snd)) (P.cond (P.and (P.ieq (P.get y.snd y.fst ((0 : Int), (0 : Int))).fst (P.get y.snd (P.wrap IntKind.i64 (P.sub y.fst (1 : Int))) ((0 : Int), (0 : Int))).fst) (P.ieq (P.get y.snd y.fst ((0 : Int), (0 : Int))).snd (P.get y.snd (P.wrap IntKind.i64 (P.sub y.fst (1 : Int))) ((0 : Int), (0 : Int))).snd)) (P.cond (P.cut y.fst (P.len y.snd) (P.len y.snd)) (P.bind (P.iter k (fun (y_1 : Int × Int × tA) => P.cond (P.ilt y_1.snd.fst (P.sub (P.len y.snd) y.fst)) (P.cond (P.inb y_1.snd.fst (P.sub (P.len y.snd) y.fst)) (P.cond (P.inb (P.wrap IntKind.i64 (P.sub y_1.snd.fst (1 : Int))) (P.sub (P.len y.snd) y.fst)) (P.cond (P.not (P.and (P.ieq (P.get y_1.snd.snd (P.add y.fst y_1.snd.fst) ((0 : Int), (0 : Int))).fst (P.get y_1.snd.snd (P.add y.fst (P.wrap IntKind.i64 (P.sub y_1.snd.fst (1 : Int)))) ((0 : Int), (0 : Int))).fst) (P.ieq (P.get y_1.snd.snd (P.add y.fst y_1.snd.fst) ((0 : Int), (0 : Int))).snd (P.get y_1.snd.snd (P.add y.fst (P.wrap IntKind.i64 (P.sub y_1.snd.fst (1 : Int)))) ((0 : Int), (0 : Int))).snd))) (P.cond (P.inb y_1.snd.fst (P.sub (P.len y.snd) y.fst)) (P.cond (P.inb y_1.fst (P.len y_1.snd.snd)) (some (Sum.inl (P.wrap IntKind.i64 (P.add y_1.fst (1 : Int)), P.wrap IntKind.i64 (P.add y_1.snd.fst (1 : Int)), P.set y_1.snd.snd y_1.fst (P.get y_1.snd.snd (P.add y.fst y_1.snd.fst) ((0 : Int), (0 : Int)))))) none) none) (some (Sum.inl (y_1.fst, P.wrap IntKind.i64 (P.add y_1.snd.fst (1 : Int)), y_1.snd.snd)))) none) none) (some (Sum.inr (Sum.inl (y_1.fst, y_1.snd.snd))))) (y.fst, (1 : Int), y.snd)) (P.either (fun (z : Int × tA) => P.cond (P.cut z.fst (P.len z.snd) (P.len z.snd)) (P.cond (P.cut (0 : Int) z.fst (P.len (P.fill z.snd z.fst (P.sub (P.len z.snd) z.fst) ((0 : Int), (0 : Int))))) (some (Sum.inr (Sum.inr (P.sub_ (P.fill z.snd z.fst (P.sub (P.len z.snd) z.fst) ((0 : Int), (0 : Int))) (0 : Int) z.fst)))) none) none) fun (r : Int × tA ⊕ tA ⊕ tA) => some r)) none) (some (Sum.inl (P.wrap IntKind.i64 (P.add y.fst (1 : Int)), y.snd)))) none) none) (some (Sum.inr (Sum.inl y.snd)))) ((1 : Int), ys)) (P.either (fun (z : tA) => some z) fun (r : tA) => some r))) none) none) fun (r : tA) => some r)))) (some (Sum.inl (P.wrap IntKind.i64 (P.add y (1 : Int)))))) none) (some (Sum.inr (Sum.inl PUnit.unit)))) (0 : Int)) (P.either (fun (z : PUnit) => P.cond (P.ieq ((-1 : Int)) ((-1 : Int))) (P.bind (sortF (P.app [] x)) fun (ys : tA) => P.cond (P.ilt (P.len ys) ((2 : Int))) (some ys) (P.bind (P.iter k (fun (y : Int × tA) => P.cond (P.ilt y.fst (P.len y.snd)) (P.cond (P.inb y.fst (P.len y.snd)) (P.cond (P.inb (P.wrap IntKind.i64 (P.sub y.fst (1 : Int))) (P.len y.snd)) (P.cond (P.and (P.ieq (P.get y.snd y.fst ((0 : Int), (0 : Int))).fst (P.get y.snd (P.wrap IntKind.i64 (P.sub y.fst (1 : Int))) ((0 : Int), (0 : Int))).fst) (P.ieq (P.get y.snd y.fst ((0 : Int), (0 : Int))).snd (P.get y.snd (P.wrap IntKind.i64 (P.sub y.fst (1 : Int))) ((0 : Int), (0 : Int))).snd)) (P.cond (P.cut y.fst (P.len y.snd) (P.len y.snd)) (P.bind (P.iter k (fun (y_1 : Int × Int × tA) => P.cond (P.ilt y_1.snd.fst (P.sub (P.len y.snd) y.fst)) (P.cond (P.inb y_1.snd.fst (P.sub (P.len y.snd) y.fst)) (P.cond (P.inb (P.wrap IntKind.i64 (P.sub y_1.snd.fst (1 : Int))) (P.sub (P.len y.snd) y.fst)) (P.cond (P.not (P.and (P.ieq (P.get y_1.snd.snd (P.add y.fst y_1.snd.fst) ((0 : Int), (0 : Int))).fst (P.get y_1.snd.snd (P.add y.fst (P.wrap IntKind.i64 (P.sub y_1.snd.fst (1 : Int)))) ((0 : Int), (0 : Int))).fst) (P.ieq (P.get y_1.snd.snd (P.add y.fst y_1.snd.fst) ((0 : Int), (0 : Int))).snd (P.get y_1.snd.snd (P.add y.fst (P.wrap IntKind.i64 (P.sub y_1.snd.fst (1 : Int)))) ((0 : Int), (0 : Int))).snd))) (P.cond (P.inb y_1.snd.fst (P.sub (P.len y.snd) y.fst)) (P.cond (P.inb y_1.fst (P.len y_1.snd.snd)) (some (Sum.inl (P.wrap IntKind.i64 (P.add y_1.fst (1 : Int)), P.wrap IntKind.i64 (P.add y_1.snd.fst (1 : Int)), P.set y_1.snd.snd y_1.fst (P.get y_1.snd.snd (P.add y.fst y_1.snd.fst) ((0 : Int), (0 : Int)))))) none) none) (some (Sum.inl (y_1.fst, P.wrap IntKind.i64 (P.add y_1.snd.fst (1 : Int)), y_1.snd.snd)))) none) none) (some (Sum.inr (Sum.inl (y_1.fst, y_1.snd.snd))))) (y.fst, (1 : Int), y.snd)) (P.either (fun (z : Int × tA) => P.cond (P.cut z.fst (P.len z.snd) (P.len z.snd)) (P.cond (P.cut (0 : Int) z.fst (P.len (P.fill z.snd z.fst (P.sub (P.len z.snd) z.fst) ((0 : Int), (0 : Int))))) (some (Sum.inr (Sum.inr (P.sub_ (P.fill z.snd z.fst (P.sub (P.len z.snd) z.fst) ((0 : Int), (0 : Int))) (0 : Int) z.fst)))) none) none) fun (r : Int × tA ⊕ tA ⊕ tA) => some r)) none) (some (Sum.inl (P.wrap IntKind.i64 (P.add y.fst (1 : Int)), y.snd)))) none) none) (some (Sum.inr (Sum.inl y.snd)))) ((1 : Int), ys)) (P.either (fun (z : tA) => some z) fun (r : tA) => some r))) (P.bind (P.iter k (fun (y : Int × Int × tA) => P.cond (P.ilt y.snd.fst (P.len y.snd.snd)) (P.cond (P.inb y.snd.fst (P.len y.snd.snd)) (P.bind (atoms_Norm_1 k (P.get y.snd.snd y.snd.fst ((0 : Int), (0 : Int)))) fun (r : Bool) => P.cond (P.not r) (P.cond (P.inb y.fst (P.len y.snd.snd)) (some (Sum.inl (P.wrap IntKind.i64 (P.add y.fst (1 : Int)), P.wrap IntKind.i64 (P.add y.snd.fst (1 : Int)), P.set y.snd.snd y.fst (P.get y.snd.snd y.snd.fst ((0 : Int), (0 : Int)))))) none) (some (Sum.inl (y.fst, P.wrap IntKind.i64 (P.add y.snd.fst (1 : Int)), y.snd.snd)))) none) (some (Sum.inr (Sum.inl (y.fst, y.snd.snd))))) ((-1 : Int), P.wrap IntKind.i64 (P.add ((-1 : Int)) (1 : Int)), P.app [] x)) (P.either (fun (z : Int × tA) => P.cond (P.cut z.fst (P.len z.snd) (P.len z.snd)) (P.cond (P.cut (0 : Int) z.fst (P.len (P.fill z.snd z.fst (P.sub (P.len z.snd) z.fst) ((0 : Int), (0 : Int))))) (P.bind (sortF (P.sub_ (P.fill z.snd z.fst (P.sub (P.len z.snd) z.fst) ((0 : Int), (0 : Int))) (0 : Int) z.fst)) fun (ys : tA) => P.cond (P.ilt (P.len ys) ((2 : Int))) (some ys) (P.bind (P.iter k (fun (y : Int × tA) => P.cond (P.ilt y.fst (P.len y.snd)) (P.cond (P.inb y.fst (P.len y.snd)) (P.cond (P.inb (P.wrap IntKind.i64 (P.sub y.fst (1 : Int))) (P.len y.snd)) (P.cond (P.and (P.ieq (P.get y.snd y.fst ((0 : Int), (0 : Int))).fst (P.get y.snd (P.wrap IntKind.i64 (P.sub y.fst (1 : Int))) ((0 : Int), (0 : Int))).fst) (P.ieq (P.get y.snd y.fst ((0 : Int), (0 : Int))).snd (P.get y.snd (P.wrap IntKind.i64 (P.sub y.fst (1 : Int))) ((0 : Int), (0 : Int))).snd)) (P.cond (P.cut y.fst (P.len y.snd) (P.len y.snd)) (P.bind (P.iter k (fun (y_1 : Int × Int × tA) => P.cond (P.ilt y_1.snd.fst (P.sub (P.len y.snd) y.fst)) (P.cond (P.inb y_1.snd.fst (P.sub (P.len y.snd) y.fst)) (P.cond (P.inb (P.wrap IntKind.i64 (P.sub y_1.snd.fst (1 : Int))) (P.sub (P.len y.snd) y.fst)) (P.cond (P.not (P.and (P.ieq (P.get y_1.snd.snd (P.add y.fst y_1.snd.fst) ((0 : Int), (0 : Int))).fst (P.get y_1.snd.snd (P.add y.fst (P.wrap IntKind.i64 (P.sub y_1.snd.fst (1 : Int)))) ((0 : Int), (0 : Int))).fst) (P.ieq (P.get y_1.snd.snd (P.add y.fst y_1.snd.fst) ((0 : Int), (0 : Int))).snd (P.get y_1.snd.snd (P.add y.fst (P.wrap IntKind.i64 (P.sub y_1.snd.fst (1 : Int)))) ((0 : Int), (0 : Int))).snd))) (P.cond (P.inb y_1.snd.fst (P.sub (P.len y.snd) y.fst)) (P.cond (P.inb y_1.fst (P.len y_1.snd.snd)) (some (Sum.inl (P.wrap IntKind.i64 (P.add y_1.fst (1 : Int)), P.wrap IntKind.i64 (P.add y_1.snd.fst (1 : Int)), P.set y_1.snd.snd y_1.fst (P.get y_1.snd.snd (P.add y.fst y_1.snd.fst) ((0 : Int), (0 : Int)))))) none) none) (some (Sum.inl (y_1.fst, P.wrap IntKind.i64 (P.add y_1.snd.fst (1 : Int)), y_1.snd.snd)))) none) none) (some (Sum.inr (Sum.inl (y_1.fst, y_1.snd.snd))))) (y.fst, (1 : Int), y.snd)) (P.either (fun (z : Int × tA) => P.cond (P.cut z.fst (P.len z.snd) (P.len z.snd)) (P.cond (P.cut (0 : Int) z.fst (P.len (P.fill z.snd z.fst (P.sub (P.len z.snd) z.fst) ((0 : Int), (0 : Int))))) (some (Sum.inr (Sum.inr (P.sub_ (P.fill z.snd z.fst (P.sub (P.len z.snd) z.fst) ((0 : Int), (0 : Int))) (0 : Int) z.fst)))) none) none) fun (r : Int × tA ⊕ tA ⊕ tA) => some r)) none) (some (Sum.inl (P.wrap IntKind.i64 (P.add y.fst (1 : Int)), y.snd)))) none) none) (some (Sum.inr (Sum.inl y.snd)))) ((1 : Int), ys)) (P.either (fun (z : tA) => some z) fun (r : tA) => some r))) none) none) fun (r : tA) => some r))) fun (r : tA) => some r)) none)) (P.amb (P.bind (P.iter k (fun (y : Int) => P.cond (P.ilt y (0 : Int)) none (some (Sum.inr (Sum.inl PUnit.unit)))) (0 : Int)) (P.either (fun (z : PUnit) => P.cond (P.ieq ((-1 : Int)) ((-1 : Int))) (P.bind (sortF []) fun (x : tA) => P.cond (P.ilt (0 : Int) ((2 : Int))) (some []) (P.bind (P.iter k (fun (y : Int × tA) => P.cond (P.ilt y.fst (0 : Int)) none (some (Sum.inr (Sum.inl [])))) ((1 : Int), [])) (P.either (fun (z : tA) => some []) fun (r : tA) => some r))) (P.bind (P.iter k (fun (y : Int × Int × tA) => P.cond (P.ilt y.snd.fst (0 : Int)) none (some (Sum.inr (Sum.inl (y.fst, []))))) ((-1 : Int), P.wrap IntKind.i64 (P.add ((-1 : Int)) (1 : Int)), [])) (P.either (fun (z : Int × tA) => P.cond (P.cut z.fst (0 : Int) (0 : Int)) (P.cond (P.cut (0 : Int) z.fst (0 : Int)) (P.bind (sortF []) fun (x : tA) => P.cond (P.ilt (0 : Int) ((2 : Int))) (some []) (P.bind (P.iter k (fun (y : Int × tA) => P.cond (P.ilt y.fst (0 : Int)) none (some (Sum.inr (Sum.inl [])))) ((1 : Int), [])) (P.either (fun (z : tA) => some []) fun (r : tA) => some r))) none) none) fun (r : tA) => some r))) fun (r : tA) => some r)) (P.cond (P.room (P.add (P.len (P.nil (Int × Int))) (P.len x)) 16) (P.bind (P.iter k (fun (y : Int) => P.cond (P.ilt y (P.len (P.app [] x))) (P.cond (P.inb y (P.len (P.app [] x))) (P.bind (atoms_Norm_1 k (P.get (P.app [] x) y ((0 : Int), (0 : Int)))) fun (r : Bool) => P.cond r (P.map (fun (r : tA) => Sum.inr (Sum.inr r)) (P.cond (P.ieq y ((-1 : Int))) (P.bind (sortF (P.app [] x)) fun (ys : tA) => P.cond (P.ilt (P.len ys) ((2 : Int))) (some ys) (P.bind (P.iter k (fun (y : Int × tA) => P.cond (P.ilt y.fst (P.len y.snd)) (P.cond (P.inb y.fst (P.len y.snd)) (P.cond (P.inb (P.wrap IntKind.i64 (P.sub y.fst (1 : Int))) (P.len y.snd)) (P.cond (P.and (P.ieq (P.get y.snd y.fst ((0 : Int), (0 : Int))).fst (P.get y.snd (P.wrap IntKind.i64 (P.sub y.fst (1 : Int))) ((0 : Int), (0 : Int))).fst) (P.ieq (P.get y.snd y.fst ((0 : Int), (0 : Int))).snd (P.get y.snd (P.wrap IntKind.i64 (P.sub y.fst (1 : Int))) ((0 : Int), (0 : Int))).snd)) (P.cond (P.cut y.fst (P.len y.snd) (P.len y.snd)) (P.bind (P.iter k (fun (y_1 : Int × Int × tA) => P.cond (P.ilt y_1.snd.fst (P.sub (P.len y.snd) y.fst)) (P.cond (P.inb y_1.snd.fst (P.sub (P.len y.snd) y.fst)) (P.cond (P.inb (P.wrap IntKind.i64 (P.sub y_1.snd.fst (1 : Int))) (P.sub (P.len y.snd) y.fst)) (P.cond (P.not (P.and (P.ieq (P.get y_1.snd.snd (P.add y.fst y_1.snd.fst) ((0 : Int), (0 : Int))).fst (P.get y_1.snd.snd (P.add y.fst (P.wrap IntKind.i64 (P.sub y_1.snd.fst (1 : Int)))) ((0 : Int), (0 : Int))).fst) (P.ieq (P.get y_1.snd.snd (P.add y.fst y_1.snd.fst) ((0 : Int), (0 : Int))).snd (P.get y_1.snd.snd (P.add y.fst (P.wrap IntKind.i64 (P.sub y_1.snd.fst (1 : Int)))) ((0 : Int), (0 : Int))).snd))) (P.cond (P.inb y_1.snd.fst (P.sub (P.len y.snd) y.fst)) (P.cond (P.inb y_1.fst (P.len y_1.snd.snd)) (some (Sum.inl (P.wrap IntKind.i64 (P.add y_1.fst (1 : Int)), P.wrap IntKind.i64 (P.add y_1.snd.fst (1 : Int)), P.set y_1.snd.snd y_1.fst (P.get y_1.snd.snd (P.add y.fst y_1.snd.fst) ((0 : Int), (0 : Int)))))) none) none) (some (Sum.inl (y_1.fst, P.wrap IntKind.i64 (P.add y_1.snd.fst (1 : Int)), y_1.snd.snd)))) none) none) (some (Sum.inr (Sum.inl (y_1.fst, y_1.snd.snd))))) (y.fst, (1 : Int), y.snd)) (P.either (fun (z : Int × tA) => P.cond (P.cut z.fst (P.len z.snd) (P.len z.snd)) (P.cond (P.cut (0 : Int) z.fst (P.len (P.fill z.snd z.fst (P.sub (P.len z.snd) z.fst) ((0 : Int), (0 : Int))))) (some (Sum.inr (Sum.inr (P.sub_ (P.fill z.snd z.fst (P.sub (P.len z.snd) z.fst) ((0 : Int), (0 : Int))) (0 : Int) z.fst)))) none) none) fun (r : Int × tA ⊕ tA ⊕ tA) => some r)) none) (some (Sum.inl (P.wrap IntKind.i64 (P.add y.fst (1 : Int)), y.snd)))) none) none) (some (Sum.inr (Sum.inl y.snd)))) ((1 : Int), ys)) (P.either (fun (z : tA) => some z) fun (r : tA) => some r))) (P.bind (P.iter k (fun (y : Int × Int × tA) => P.cond (P.ilt y.snd.fst (P.len y.snd.snd)) (P.cond (P.inb y.snd.fst (P.len y.snd.snd)) (P.bind (atoms_Norm_1 k (P.get y.snd.snd y.snd.fst ((0 : Int), (0 : Int)))) fun (r : Bool) => P.cond (P.not r) (P.cond (P.inb y.fst (P.len y.snd.snd)) (some (Sum.inl (P.wrap IntKind.i64 (P.add y.fst (1 : Int)), P.wrap IntKind.i64 (P.add y.snd.fst (1 : Int)), P.set y.snd.snd y.fst (P.get y.snd.snd y.snd.fst ((0 : Int), (0 : Int)))))) none) (some (Sum.inl (y.fst, P.wrap IntKind.i64 (P.add y.snd.fst (1 : Int)), y.snd.snd)))) none) (some (Sum.inr (Sum.inl (y.fst, y.snd.snd))))) (y, P.wrap IntKind.i64 (P.add y (1 : Int)), P.app [] x)) (P.either (fun (z : Int × tA) => P.cond (P.cut z.fst (P.len z.snd) (P.len z.snd)) (P.cond (P.cut (0 : Int) z.fst (P.len (P.fill z.snd z.fst (P.sub (P.len z.snd) z.fst) ((0 : Int), (0 : Int))))) (P.bind (sortF (P.sub_ (P.fill z.snd z.fst (P.sub (P.len z.snd) z.fst) ((0 : Int), (0 : Int))) (0 : Int) z.fst)) fun (ys : tA) => P.cond (P.ilt (P.len ys) ((2 : Int))) (some ys) (P.bind (P.iter k (fun (y : Int × tA) => P.cond (P.ilt y.fst (P.len y.snd)) (P.cond (P.inb y.fst (P.len y.snd)) (P.cond (P.inb (P.wrap IntKind.i64 (P.sub y.fst (1 : Int))) (P.len y.snd)) (P.cond (P.and (P.ieq (P.get y.snd y.fst ((0 : Int), (0 : Int))).fst (P.get y.snd (P.wrap IntKind.i64 (P.sub y.fst (1 : Int))) ((0 : Int), (0 : Int))).fst) (P.ieq (P.get y.snd y.fst ((0 : Int), (0 : Int))).snd (P.get y.snd (P.wrap IntKind.i64 (P.sub y.fst (1 : Int))) ((0 : Int), (0 : Int))).snd)) (P.cond (P.cut y.fst (P.len y.snd) (P.len y.snd)) (P.bind (P.iter k (fun (y_1 : Int × Int × tA) => P.cond (P.ilt y_1.snd.fst (P.sub (P.len y.snd) y.fst)) (P.cond (P.inb y_1.snd.fst (P.sub (P.len y.snd) y.fst)) (P.cond (P.inb (P.wrap IntKind.i64 (P.sub y_1.snd.fst (1 : Int))) (P.sub (P.len y.snd) y.fst)) (P.cond (P.not (P.and (P.ieq (P.get y_1.snd.snd (P.add y.fst y_1.snd.fst) ((0 : Int), (0 : Int))).fst (P.get y_1.snd.snd (P.add y.fst (P.wrap IntKind.i64 (P.sub y_1.snd.fst (1 : Int)))) ((0 : Int), (0 : Int))).fst) (P.ieq (P.get y_1.snd.snd (P.add y.fst y_1.snd.fst) ((0 : Int), (0 : Int))).snd (P.get y_1.snd.snd (P.add y.fst (P.wrap IntKind.i64 (P.sub y_1.snd.fst (1 : Int)))) ((0 : Int), (0 : Int))).snd))) (P.cond (P.inb y_1.snd.fst (P.sub (P.len y.snd) y.fst)) (P.cond (P.inb y_1.fst (P.len y_1.snd.snd)) (some (Sum.inl (P.wrap IntKind.i64 (P.add y_1.fst (1 : Int)), P.wrap IntKind.i64 (P.add y_1.snd.fst (1 : Int)), P.set y_1.snd.snd y_1.fst (P.get y_1.snd.snd (P.add y.fst y_1.snd.fst) ((0 : Int), (0 : Int)))))) none) none) (some (Sum.inl (y_1.fst, P.wrap IntKind.i64 (P.add y_1.snd.fst (1 : Int)), y_1.snd.snd)))) none) none) (some (Sum.inr (Sum.inl (y_1.fst, y_1.snd.snd))))) (y.fst, (1 : Int), y.snd)) (P.either (fun (z : Int × tA) => P.cond (P.cut z.fst (P.len z.snd) (P.len z.snd)) (P.cond (P.cut (0 : Int) z.fst (P.len (P.fill z.snd z.fst (P.sub (P.len z.snd) z.fst) ((0 : Int), (0 : Int))))) (some (Sum.inr (Sum.inr (P.sub_ (P.fill z.snd z.fst (P.sub (P.len z.snd) z.fst) ((0 : Int), (0 : Int))) (0 : Int) z.fst)))) none) none) fun (r : Int × tA ⊕ tA ⊕ tA) => some r)) none) (some (Sum.inl (P.wrap IntKind.i64 (P.add y.fst (1 : Int)), y.snd)))) none) none) (some (Sum.inr (Sum.inl y.snd)))) ((1 : Int), ys)) (P.either (fun (z : tA) => some z) fun (r : tA) => some r))) none) none) fun (r : tA) => some r)))) (some (Sum.inl (P.wrap IntKind.i64 (P.add y (1 : Int)))))) none) (some (Sum.inr (Sum.inl PUnit.unit)))) (0 : Int)) (P.either (fun (z : PUnit) => P.cond (P.ieq ((-1 : Int)) ((-1 : Int))) (P.bind (sortF (P.app [] x)) fun (ys : tA) => P.cond (P.ilt (P.len ys) ((2 : Int))) (some ys) (P.bind (P.iter k (fun (y : Int × tA) => P.cond (P.ilt y.fst (P.len y.snd)) (P.cond (P.inb y.fst (P.len y.snd)) (P.cond (P.inb (P.wrap IntKind.i64 (P.sub y.fst (1 : Int))) (P.len y.snd)) (P.cond (P.and (P.ieq (P.get y.snd y.fst ((0 : Int), (0 : Int))).fst (P.get y.snd (P.wrap IntKind.i64 (P.sub y.fst (1 : Int))) ((0 : Int), (0 : Int))).fst) (P.ieq (P.get y.snd y.fst ((0 : Int), (0 : Int))).snd (P.get y.snd (P.wrap IntKind.i64 (P.sub y.fst (1 : Int))) ((0 : Int), (0 : Int))).snd)) (P.cond (P.cut y.fst (P.len y.snd) (P.len y.snd)) (P.bind (P.iter k (fun (y_1 : Int × Int × tA) => P.cond (P.ilt y_1.snd.fst (P.sub (P.len y.snd) y.fst)) (P.cond (P.inb y_1.snd.fst (P.sub (P.len y.snd) y.fst)) (P.cond (P.inb (P.wrap IntKind.i64 (P.sub y_1.snd.fst (1 : Int))) (P.sub (P.len y.snd) y.fst)) (P.cond (P.not (P.and (P.ieq (P.get y_1.snd.snd (P.add y.fst y_1.snd.fst) ((0 : Int), (0 : Int))).fst (P.get y_1.snd.snd (P.add y.fst (P.wrap IntKind.i64 (P.sub y_1.snd.fst (1 : Int)))) ((0 : Int), (0 : Int))).fst) (P.ieq (P.get y_1.snd.snd (P.add y.fst y_1.snd.fst) ((0 : Int), (0 : Int))).snd (P.get y_1.snd.snd (P.add y.fst (P.wrap IntKind.i64 (P.sub y_1.snd.fst (1 : Int)))) ((0 : Int), (0 : Int))).snd))) (P.cond (P.inb y_1.snd.fst (P.sub (P.len y.snd) y.fst)) (P.cond (P.inb y_1.fst (P.len y_1.snd.snd)) (some (Sum.inl (P.wrap IntKind.i64 (P.add y_1.fst (1 : Int)), P.wrap IntKind.i64 (P.add y_1.snd.fst (1 : Int)), P.set y_1.snd.snd y_1.fst (P.get y_1.snd.snd (P.add y.fst y_1.snd.fst) ((0 : Int), (0 : Int)))))) none) none) (some (Sum.inl (y_1.fst, P.wrap IntKind.i64 (P.add y_1.snd.fst (1 : Int)), y_1.snd.snd)))) none) none) (some (Sum.inr (Sum.inl (y_1.fst, y_1.snd.snd))))) (y.fst, (1 : Int), y.snd)) (P.either (fun (z : Int × tA) => P.cond (P.cut z.fst (P.len z.snd) (P.len z.snd)) (P.cond (P.cut (0 : Int) z.fst (P.len (P.fill z.snd z.fst (P.sub (P.len z.snd) z.fst) ((0 : Int), (0 : Int))))) (some (Sum.inr (Sum.inr (P.sub_ (P.fill z.snd z.fst (P.sub (P.len z.snd) z.fst) ((0 : Int), (0 : Int))) (0 : Int) z.fst)))) none) none) fun (r : Int × tA ⊕ tA ⊕ tA) => some r)) none) (some (Sum.inl (P.wrap IntKind.i64 (P.add y.fst (1 : Int)), y.snd)))) none) none) (some (Sum.inr (Sum.inl y.snd)))) ((1 : Int), ys)) (P.either (fun (z : tA) => some z) fun (r : tA) => some r))) (P.bind (P.iter k (fun (y : Int × Int × tA) => P.cond (P.ilt y.snd.fst (P.len y.snd.snd)) (P.cond (P.inb y.snd.fst (P.len y.snd.snd)) (P.bind (atoms_Norm_1 k (P.get y.snd.snd y.snd.fst ((0 : Int), (0 : Int)))) fun (r : Bool) => P.cond (P.not r) (P.cond (P.inb y.fst (P.len y.snd.snd)) (some (Sum.inl (P.wrap IntKind.i64 (P.add y.fst (1 : Int)), P.wrap IntKind.i64 (P.add y.snd.fst (1 : Int)), P.set y.snd.snd y.fst (P.get y.snd.snd y.snd.fst ((0 : Int), (0 : Int)))))) none) (some (Sum.inl (y.fst, P.wrap IntKind.i64 (P.add y.snd.fst (1 : Int)), y.snd.snd)))) none) (some (Sum.inr (Sum.inl (y.fst, y.snd.snd))))) ((-1 : Int), P.wrap IntKind.i64 (P.add ((-1 : Int)) (1 : Int)), P.app [] x)) (P.either (fun (z : Int × tA) => P.cond (P.cut z.fst (P.len z.snd) (P.len z.snd)) (P.cond (P.cut (0 : Int) z.fst (P.len (P.fill z.snd z.fst (P.sub (P.len z.snd) z.fst) ((0 : Int), (0 : Int))))) (P.bind (sortF (P.sub_ (P.fill z.snd z.fst (P.sub (P.len z.snd) z.fst) ((0 : Int), (0 : Int))) (0 : Int) z.fst)) fun (ys : tA) => P.cond (P.ilt (P.len ys) ((2 : Int))) (some ys) (P.bind (P.iter k (fun (y : Int × tA) => P.cond (P.ilt y.fst (P.len y.snd)) (P.cond (P.inb y.fst (P.len y.snd)) (P.cond (P.inb (P.wrap IntKind.i64 (P.sub y.fst (1 : Int))) (P.len y.snd)) (P.cond (P.and (P.ieq (P.get y.snd y.fst ((0 : Int), (0 : Int))).fst (P.get y.snd (P.wrap IntKind.i64 (P.sub y.fst (1 : Int))) ((0 : Int), (0 : Int))).fst) (P.ieq (P.get y.snd y.fst ((0 : Int), (0 : Int))).snd (P.get y.snd (P.wrap IntKind.i64 (P.sub y.fst (1 : Int))) ((0 : Int), (0 : Int))).snd)) (P.cond (P.cut y.fst (P.len y.snd) (P.len y.snd)) (P.bind (P.iter k (fun (y_1 : Int × Int × tA) => P.cond (P.ilt y_1.snd.fst (P.sub (P.len y.snd) y.fst)) (P.cond (P.inb y_1.snd.fst (P.sub (P.len y.snd) y.fst)) (P.cond (P.inb (P.wrap IntKind.i64 (P.sub y_1.snd.fst (1 : Int))) (P.sub (P.len y.snd) y.fst)) (P.cond (P.not (P.and (P.ieq (P.get y_1.snd.snd (P.add y.fst y_1.snd.fst) ((0 : Int), (0 : Int))).fst (P.get y_1.snd.snd (P.add y.fst (P.wrap IntKind.i64 (P.sub y_1.snd.fst (1 : Int)))) ((0 : Int), (0 : Int))).fst) (P.ieq (P.get y_1.snd.snd (P.add y.fst y_1.snd.fst) ((0 : Int), (0 : Int))).snd (P.get y_1.snd.snd (P.add y.fst (P.wrap IntKind.i64 (P.sub y_1.snd.fst (1 : Int)))) ((0 : Int), (0 : Int))).snd))) (P.cond (P.inb y_1.snd.fst (P.sub (P.len y.snd) y.fst)) (P.cond (P.inb y_1.fst (P.len y_1.snd.snd)) (some (Sum.inl (P.wrap IntKind.i64 (P.add y_1.fst (1 : Int)), P.wrap IntKind.i64 (P.add y_1.snd.fst (1 : Int)), P.set y_1.snd.snd y_1.fst (P.get y_1.snd.snd (P.add y.fst y_1.snd.fst) ((0 : Int), (0 : Int)))))) none) none) (some (Sum.inl (y_1.fst, P.wrap IntKind.i64 (P.add y_1.snd.fst (1 : Int)), y_1.snd.snd)))) none) none) (some (Sum.inr (Sum.inl (y_1.fst, y_1.snd.snd))))) (y.fst, (1 : Int), y.snd)) (P.either (fun (z : Int × tA) => P.cond (P.cut z.fst (P.len z.snd) (P.len z.snd)) (P.cond (P.cut (0 : Int) z.fst (P.len (P.fill z.snd z.fst (P.sub (P.len z.snd) z.fst) ((0 : Int), (0 : Int))))) (some (Sum.inr (Sum.inr (P.sub_ (P.fill z.snd z.fst (P.sub (P.len z.snd) z.fst) ((0 : Int), (0 : Int))) (0 : Int) z.fst)))) none) none) fun (r : Int × tA ⊕ tA ⊕ tA) => some r)) none) (some (Sum.inl (P.wrap IntKind.i64 (P.add y.fst (1 : Int)), y.snd)))) none) none) (some (Sum.inr (Sum.inl y.snd)))) ((1 : Int), ys)) (P.either (fun (z : tA) => some z) fun (r : tA) => some r))) none) none) fun (r : tA) => some r))) fun (r : tA) => some r)) none))
theorem atoms_Norm_eq (k : Nat) (x : _) : evFn (EN k [(42, ⟨(.pair Uat Uat), (.int .i64), atoms_Compare k⟩), (97, ⟨Uat, .bool, atoms_Norm_1 k⟩)]) 6 Tryz.f67 [] (.slice Uat) (.slice Uat) x = atoms_Norm k x := by kernel_rfl
theorem atoms_Norm_spec (k : Nat) : SpecOk Tryz.prog GG 67 ⟨(.slice Uat), (.slice Uat), atoms_Norm k⟩ :=
 fn_spec (envE (.cons (atoms_Compare_spec k) Tryz.func42 f42_ok <| .cons (atoms_Norm_1_spec k) Tryz.func97 f97_ok <| .nil)) Tryz.func67 (fun x => (atoms_Norm_eq k x).symm)
noncomputable def atoms_May : (k : Nat) → (Ty.D (.slice Uat)) → Option (Ty.D .bool) := fun (k : Nat) (x : Uat.slice.D) => P.bind (atoms_Norm k x) fun (r : tA) => P.bind (slEqualAtom k (x, r)) fun (r : Bool) => some r
theorem atoms_May_eq (k : Nat) (x : _) : evFn (EN k [(66, ⟨(.pair (.slice Uat) (.slice Uat)), .bool, slEqualAtom k⟩), (67, ⟨(.slice Uat), (.slice Uat), atoms_Norm k⟩)]) 6 Tryz.f39 [] (.slice Uat) .bool x = atoms_May k x := by kernel_rfl
theorem atoms_May_spec (k : Nat) : SpecOk Tryz.prog GG 39 ⟨(.slice Uat), .bool, atoms_May k⟩ :=
 fn_spec (envE (.cons (slEqualAtom_spec k) Tryz.func66 f66_ok <| .cons (atoms_Norm_spec k) Tryz.func67 f67_ok <| .nil)) Tryz.func39 (fun x => (atoms_May_eq k x).symm)
noncomputable def state_place : (k : Nat) → (Ty.D Uat) → Option (Ty.D .bool) := fun (k : Nat) (x : Uat.D) => P.cond (P.ieq x.fst ((4 : Int))) (P.bind (atoms_May k [x]) fun (r : Bool) => some r) (P.cond (P.ieq x.fst ((5 : Int))) (P.bind (atoms_May k [x]) fun (r : Bool) => some r) (some false))
theorem state_place_eq (k : Nat) (x : _) : evFn (EN k [(39, ⟨(.slice Uat), .bool, atoms_May k⟩)]) 6 Tryz.f40 [] Uat .bool x = state_place k x := by kernel_rfl
theorem state_place_spec (k : Nat) : SpecOk Tryz.prog GG 40 ⟨Uat, .bool, state_place k⟩ :=
 fn_spec (envE (.cons (atoms_May_spec k) Tryz.func39 f39_ok <| .nil)) Tryz.func40 (fun x => (state_place_eq k x).symm)
noncomputable def object_May : (k : Nat) → (Ty.D Ush) → Option (Ty.D .bool) := fun (k : Nat) (x : Ush.D) => P.bind (P.iter k (fun (y : Int) => P.cond (P.ilt y (P.len x.fst)) (P.cond (P.inb y (P.len x.fst)) (P.bind (atoms_May k (P.get x.fst y ((ByteArray.mk #[]), false, [])).snd.snd) fun (r : Bool) => P.cond (P.not r) (some (Sum.inr (Sum.inr false))) (P.cond (P.ilt (0 : Int) y) (P.cond (P.inb (P.wrap IntKind.i64 (P.sub y (1 : Int))) (P.len x.fst)) (P.cond (P.not (P.slt (P.get x.fst (P.wrap IntKind.i64 (P.sub y (1 : Int))) ((ByteArray.mk #[]), false, [])).fst (P.get x.fst y ((ByteArray.mk #[]), false, [])).fst)) (some (Sum.inr (Sum.inr false))) (some (Sum.inl (P.wrap IntKind.i64 (P.add y (1 : Int)))))) none) (some (Sum.inl (P.wrap IntKind.i64 (P.add y (1 : Int))))))) none) (some (Sum.inr (Sum.inl PUnit.unit)))) (0 : Int)) (P.either (fun (z : PUnit) => P.bind (atoms_May k x.snd) fun (r : Bool) => some r) fun (r : Bool) => some r)
theorem object_May_eq (k : Nat) (x : _) : evFn (EN k [(39, ⟨(.slice Uat), .bool, atoms_May k⟩)]) 6 Tryz.f41 [(2, ⟨[.var 8 (.d (.int .i64))], [], (some (0, []))⟩)] Ush .bool x = object_May k x := by kernel_rfl
theorem object_May_spec (k : Nat) : SpecOk Tryz.prog GG 41 ⟨Ush, .bool, object_May k⟩ :=
 fn_spec (envE (.cons (atoms_May_spec k) Tryz.func39 f39_ok <| .nil)) Tryz.func41 (fun x => (object_May_eq k x).symm)
noncomputable def state_May : (k : Nat) → (Ty.D Ust) → Option (Ty.D .bool) := fun (k : Nat) (x : Ust.D) => P.bind (P.iter k (fun (y : Int) => P.cond (P.ilt y (P.len x.snd.fst)) (P.cond (P.inb y (P.len x.snd.fst)) (P.bind (atoms_May k (P.get x.snd.fst y ((ByteArray.mk #[]), [])).snd) fun (r : Bool) => P.cond (P.not r) (some (Sum.inr (Sum.inr false))) (P.cond (P.ilt (0 : Int) y) (P.cond (P.inb (P.wrap IntKind.i64 (P.sub y (1 : Int))) (P.len x.snd.fst)) (P.cond (P.not (P.slt (P.get x.snd.fst (P.wrap IntKind.i64 (P.sub y (1 : Int))) ((ByteArray.mk #[]), [])).fst (P.get x.snd.fst y ((ByteArray.mk #[]), [])).fst)) (some (Sum.inr (Sum.inr false))) (some (Sum.inl (P.wrap IntKind.i64 (P.add y (1 : Int)))))) none) (some (Sum.inl (P.wrap IntKind.i64 (P.add y (1 : Int))))))) none) (some (Sum.inr (Sum.inl PUnit.unit)))) (0 : Int)) (P.either (fun (z : PUnit) => P.bind (P.iter k (fun (y : Int) => P.cond (P.ilt y (P.len x.snd.snd)) (P.cond (P.inb y (P.len x.snd.snd)) (P.bind (state_place k (P.get x.snd.snd y (((0 : Int), (0 : Int)), [], [])).fst) fun (r : Bool) => P.cond (P.not r) (some (Sum.inr (Sum.inr false))) (P.bind (object_May k (P.get x.snd.snd y (((0 : Int), (0 : Int)), [], [])).snd) fun (r : Bool) => P.cond (P.not r) (some (Sum.inr (Sum.inr false))) (P.cond (P.ilt (0 : Int) y) (P.cond (P.inb (P.wrap IntKind.i64 (P.sub y (1 : Int))) (P.len x.snd.snd)) (P.bind (atoms_Compare k ((P.get x.snd.snd (P.wrap IntKind.i64 (P.sub y (1 : Int))) (((0 : Int), (0 : Int)), [], [])).fst, (P.get x.snd.snd y (((0 : Int), (0 : Int)), [], [])).fst)) fun (r : Int) => P.cond (P.ile (0 : Int) r) (some (Sum.inr (Sum.inr false))) (some (Sum.inl (P.wrap IntKind.i64 (P.add y (1 : Int)))))) none) (some (Sum.inl (P.wrap IntKind.i64 (P.add y (1 : Int)))))))) none) (some (Sum.inr (Sum.inl PUnit.unit)))) (0 : Int)) (P.either (fun (z : PUnit) => P.cond (P.not x.fst) (some true) (some (P.ieq (P.wrap IntKind.i64 (P.add (P.len x.snd.fst) (P.len x.snd.snd))) (0 : Int)))) fun (r : Bool) => some r)) fun (r : Bool) => some r)
theorem state_May_eq (k : Nat) (x : _) : evFn (EN k [(39, ⟨(.slice Uat), .bool, atoms_May k⟩), (40, ⟨Uat, .bool, state_place k⟩), (41, ⟨Ush, .bool, object_May k⟩), (42, ⟨(.pair Uat Uat), (.int .i64), atoms_Compare k⟩)]) 6 Tryz.f13 [(2, ⟨[.var 10 (.d (.int .i64))], [], (some (0, []))⟩), (8, ⟨[.var 39 (.d (.int .i64))], [], (some (2, []))⟩)] Ust .bool x = state_May k x := by kernel_rfl
theorem state_May_spec (k : Nat) : SpecOk Tryz.prog GG 13 ⟨Ust, .bool, state_May k⟩ :=
 fn_spec (envE (.cons (atoms_May_spec k) Tryz.func39 f39_ok <| .cons (state_place_spec k) Tryz.func40 f40_ok <| .cons (object_May_spec k) Tryz.func41 f41_ok <| .cons (atoms_Compare_spec k) Tryz.func42 f42_ok <| .nil)) Tryz.func13 (fun x => (state_May_eq k x).symm)
noncomputable def ref06_Same : (k : Nat) → (Ty.D (.pair (.slice Uat) (.slice Uat))) → Option (Ty.D .bool) := fun (k : Nat) (x : (Uat.slice.pair Uat.slice).D) => P.cond (P.not (P.ieq (P.len x.fst) (P.len x.snd))) (some false) (P.bind (P.iter k (fun (y : Int) => P.cond (P.ilt y (P.len x.fst)) (P.cond (P.inb y (P.len x.fst)) (P.cond (P.inb y (P.len x.snd)) (P.cond (P.not (P.and (P.ieq (P.get x.fst y ((0 : Int), (0 : Int))).fst (P.get x.snd y ((0 : Int), (0 : Int))).fst) (P.ieq (P.get x.fst y ((0 : Int), (0 : Int))).snd (P.get x.snd y ((0 : Int), (0 : Int))).snd))) (some (Sum.inr (Sum.inr false))) (some (Sum.inl (P.wrap IntKind.i64 (P.add y (1 : Int)))))) none) none) (some (Sum.inr (Sum.inl PUnit.unit)))) (0 : Int)) (P.either (fun (z : PUnit) => some true) fun (r : Bool) => some r))
theorem ref06_Same_eq (k : Nat) (x : _) : evFn (EN k []) 6 Tryz.f15 [(4, ⟨[.var 5 (.d (.int .i64))], [], (some (0, []))⟩)] (.pair (.slice Uat) (.slice Uat)) .bool x = ref06_Same k x := by kernel_rfl
theorem ref06_Same_spec (k : Nat) : SpecOk Tryz.prog GG 15 ⟨(.pair (.slice Uat) (.slice Uat)), .bool, ref06_Same k⟩ :=
 fn_spec (envE .nil) Tryz.func15 (fun x => (ref06_Same_eq k x).symm)
noncomputable def state_Var : (k : Nat) → (Ty.D (.pair Ust .str)) → Option (Ty.D (.slice Uat)) := fun (k : Nat) (x : (Ust.pair Ty.str).D) => P.bind (P.iter k (fun (y : Int) => P.cond (P.ilt y (P.len x.fst.snd.fst)) (P.cond (P.inb y (P.len x.fst.snd.fst)) (P.cond (P.seq (P.get x.fst.snd.fst y ((ByteArray.mk #[]), [])).fst x.snd) (P.map (fun (r : tA) => Sum.inr (Sum.inr r)) (P.cond (P.ile (0 : Int) y) (P.cond (P.inb y (P.len x.fst.snd.fst)) (P.bind (slCloneAtom k (P.get x.fst.snd.fst y ((ByteArray.mk #[]), [])).snd) fun (r : tA) => some r) none) (some [((0 : Int), (0 : Int))]))) (some (Sum.inl (P.wrap IntKind.i64 (P.add y (1 : Int)))))) none) (some (Sum.inr (Sum.inl PUnit.unit)))) (0 : Int)) (P.either (fun (z : PUnit) => P.cond (P.ile (0 : Int) ((-1 : Int))) (P.cond (P.inb ((-1 : Int)) (P.len x.fst.snd.fst)) (P.bind (slCloneAtom k (P.get x.fst.snd.fst ((-1 : Int)) ((ByteArray.mk #[]), [])).snd) fun (r : tA) => some r) none) (some [((0 : Int), (0 : Int))])) fun (r : tA) => some r)
theorem state_Var_eq (k : Nat) (x : _) : evFn (EN k [(46, ⟨(.slice Uat), (.slice Uat), slCloneAtom k⟩)]) 6 Tryz.f16 [] (.pair Ust .str) (.slice Uat) x = state_Var k x := by kernel_rfl
theorem state_Var_spec (k : Nat) : SpecOk Tryz.prog GG 16 ⟨(.pair Ust .str), (.slice Uat), state_Var k⟩ :=
 fn_spec (envE (.cons (slCloneAtom_spec k) Tryz.func46 f46_ok <| .nil)) Tryz.func16 (fun x => (state_Var_eq k x).symm)
noncomputable def atoms_name : (k : Nat) → (Ty.D Uat) → Option (Ty.D .str) := fun (k : Nat) (x : Uat.D) => P.cond (P.ieq x.fst (0 : Int)) (some (ByteArray.mk #[110, 117, 108, 108])) (P.cond (P.ieq x.fst (1 : Int)) (some (ByteArray.mk #[98, 111, 111, 108])) (P.cond (P.ieq x.fst ((2 : Int))) (some (ByteArray.mk #[110, 117, 109])) (P.cond (P.ieq x.fst ((3 : Int))) (P.bind (strconv_Itoa k x.snd) fun (r : ByteArray) => P.cond (P.sfit (ByteArray.mk #[102, 117, 110]) r) (some (P.scat (ByteArray.mk #[102, 117, 110]) r)) none) (P.cond (P.ieq x.fst ((4 : Int))) (P.bind (strconv_Itoa k x.snd) fun (r : ByteArray) => P.cond (P.sfit (ByteArray.mk #[114, 101, 99]) r) (some (P.scat (ByteArray.mk #[114, 101, 99]) r)) none) (P.cond (P.ieq x.fst ((5 : Int))) (P.bind (strconv_Itoa k x.snd) fun (r : ByteArray) => P.cond (P.sfit (ByteArray.mk #[115, 117, 109]) r) (some (P.scat (ByteArray.mk #[115, 117, 109]) r)) none) (P.cond (P.ieq x.fst ((6 : Int))) (some (ByteArray.mk #[97, 110, 121])) (some (ByteArray.mk #[63]))))))))
theorem atoms_name_eq (k : Nat) (x : _) : evFn (EN k [(103, ⟨(.int .i64), .str, strconv_Itoa k⟩)]) 6 Tryz.f73 [] Uat .str x = atoms_name k x := by kernel_rfl
theorem atoms_name_spec (k : Nat) : SpecOk Tryz.prog GG 73 ⟨Uat, .str, atoms_name k⟩ :=
 fn_spec (envE (.cons (strconv_Itoa_spec k) Tryz.func103 f103_ok <| .nil)) Tryz.func73 (fun x => (atoms_name_eq k x).symm)
noncomputable def atoms_Text : (k : Nat) → (Ty.D (.slice Uat)) → Option (Ty.D .str) := fun (k : Nat) (x : Uat.slice.D) => P.bind (P.iter k (fun (y : List ByteArray × Int) => P.cond (P.ilt y.snd (P.len x)) (P.cond (P.inb y.snd (P.len x)) (P.bind (atoms_name k (P.get x y.snd ((0 : Int), (0 : Int)))) fun (r : ByteArray) => P.cond (P.room (P.add (P.len y.fst) (P.len [r])) 16) (some (Sum.inl (P.app y.fst [r], P.wrap IntKind.i64 (P.add y.snd (1 : Int))))) none) none) (some (Sum.inr (Sum.inl y.fst)))) ([], (0 : Int))) (P.either (fun (z : List ByteArray) => P.bind (strings_Join k (z, (ByteArray.mk #[32]))) fun (r : ByteArray) => some r) fun (r : ByteArray) => some r)
theorem atoms_Text_eq (k : Nat) (x : _) : evFn (EN k [(73, ⟨Uat, .str, atoms_name k⟩), (74, ⟨(.pair (.slice .str) .str), .str, strings_Join k⟩)]) 6 Tryz.f48 [(3, ⟨[.var 3 (.o .str), .var 8 (.d (.int .i64))], [], (some (0, [.var 3 (.o .str)]))⟩)] (.slice Uat) .str x = atoms_Text k x := by kernel_rfl
theorem atoms_Text_spec (k : Nat) : SpecOk Tryz.prog GG 48 ⟨(.slice Uat), .str, atoms_Text k⟩ :=
 fn_spec (envE (.cons (atoms_name_spec k) Tryz.func73 f73_ok <| .cons (strings_Join_spec k) Tryz.func74 f74_ok <| .nil)) Tryz.func48 (fun x => (atoms_Text_eq k x).symm)
noncomputable def state_Text : (k : Nat) → (Ty.D Ust) → Option (Ty.D .str) := fun (k : Nat) (x : Ust.D) => P.cond x.fst (some (ByteArray.mk #[100, 101, 97, 100, 10])) (P.bind (P.iter k (fun (y : Int × ByteArray) => P.cond (P.ilt y.fst (P.len x.snd.fst)) (P.cond (P.inb y.fst (P.len x.snd.fst)) (P.cond (P.sfit (P.get x.snd.fst y.fst ((ByteArray.mk #[]), [])).fst (ByteArray.mk #[58, 32])) (P.bind (atoms_Text k (P.get x.snd.fst y.fst ((ByteArray.mk #[]), [])).snd) fun (r : ByteArray) => P.cond (P.sfit (P.scat (P.get x.snd.fst y.fst ((ByteArray.mk #[]), [])).fst (ByteArray.mk #[58, 32])) r) (P.cond (P.sfit (P.scat (P.scat (P.get x.snd.fst y.fst ((ByteArray.mk #[]), [])).fst (ByteArray.mk #[58, 32])) r) (ByteArray.mk #[10])) (P.cond (P.room (P.add (P.slen y.snd) (P.slen (P.scat (P.scat (P.scat (P.get x.snd.fst y.fst ((ByteArray.mk #[]), [])).fst (ByteArray.mk #[58, 32])) r) (ByteArray.mk #[10])))) 1) (some (Sum.inl (P.wrap IntKind.i64 (P.add y.fst (1 : Int)), P.scat y.snd (P.scat (P.scat (P.scat (P.get x.snd.fst y.fst ((ByteArray.mk #[]), [])).fst (ByteArray.mk #[58, 32])) r) (ByteArray.mk #[10]))))) none) none) none) none) none) (some (Sum.inr (Sum.inl y.snd)))) ((0 : Int), (ByteArray.mk #[]))) (P.either (fun (z : ByteArray) => P.bind (P.iter k (fun (y : Int × ByteArray) => P.cond (P.ilt y.fst (P.len x.snd.snd)) (P.cond (P.inb y.fst (P.len x.snd.snd)) (P.bind (atoms_Text k [(P.get x.snd.snd y.fst (((0 : Int), (0 : Int)), [], [])).fst]) fun (r : ByteArray) => P.cond (P.sfit r (ByteArray.mk #[58])) (P.cond (P.room (P.add (P.slen y.snd) (P.slen (P.scat r (ByteArray.mk #[58])))) 1) (P.bind (P.iter k (fun (y_1 : Int × ByteArray) => P.cond (P.ilt y_1.fst (P.len (P.get x.snd.snd y.fst (((0 : Int), (0 : Int)), [], [])).snd.fst)) (P.cond (P.inb y_1.fst (P.len (P.get x.snd.snd y.fst (((0 : Int), (0 : Int)), [], [])).snd.fst)) (P.cond (P.get (P.get x.snd.snd y.fst (((0 : Int), (0 : Int)), [], [])).snd.fst y_1.fst ((ByteArray.mk #[]), false, [])).snd.fst (P.cond (P.sfit (ByteArray.mk #[32]) (P.get (P.get x.snd.snd y.fst (((0 : Int), (0 : Int)), [], [])).snd.fst y_1.fst ((ByteArray.mk #[]), false, [])).fst) (P.cond (P.sfit (P.scat (ByteArray.mk #[32]) (P.get (P.get x.snd.snd y.fst (((0 : Int), (0 : Int)), [], [])).snd.fst y_1.fst ((ByteArray.mk #[]), false, [])).fst) (ByteArray.mk #[33])) (P.cond (P.sfit (P.scat (P.scat (ByteArray.mk #[32]) (P.get (P.get x.snd.snd y.fst (((0 : Int), (0 : Int)), [], [])).snd.fst y_1.fst ((ByteArray.mk #[]), false, [])).fst) (ByteArray.mk #[33])) (ByteArray.mk #[40])) (P.bind (atoms_Text k (P.get (P.get x.snd.snd y.fst (((0 : Int), (0 : Int)), [], [])).snd.fst y_1.fst ((ByteArray.mk #[]), false, [])).snd.snd) fun (r : ByteArray) => P.cond (P.sfit (P.scat (P.scat (P.scat (ByteArray.mk #[32]) (P.get (P.get x.snd.snd y.fst (((0 : Int), (0 : Int)), [], [])).snd.fst y_1.fst ((ByteArray.mk #[]), false, [])).fst) (ByteArray.mk #[33])) (ByteArray.mk #[40])) r) (P.cond (P.sfit (P.scat (P.scat (P.scat (P.scat (ByteArray.mk #[32]) (P.get (P.get x.snd.snd y.fst (((0 : Int), (0 : Int)), [], [])).snd.fst y_1.fst ((ByteArray.mk #[]), false, [])).fst) (ByteArray.mk #[33])) (ByteArray.mk #[40])) r) (ByteArray.mk #[41])) (P.cond (P.room (P.add (P.slen y_1.snd) (P.slen (P.scat (P.scat (P.scat (P.scat (P.scat (ByteArray.mk #[32]) (P.get (P.get x.snd.snd y.fst (((0 : Int), (0 : Int)), [], [])).snd.fst y_1.fst ((ByteArray.mk #[]), false, [])).fst) (ByteArray.mk #[33])) (ByteArray.mk #[40])) r) (ByteArray.mk #[41])))) 1) (some (Sum.inl (P.wrap IntKind.i64 (P.add y_1.fst (1 : Int)), P.scat y_1.snd (P.scat (P.scat (P.scat (P.scat (P.scat (ByteArray.mk #[32]) (P.get (P.get x.snd.snd y.fst (((0 : Int), (0 : Int)), [], [])).snd.fst y_1.fst ((ByteArray.mk #[]), false, [])).fst) (ByteArray.mk #[33])) (ByteArray.mk #[40])) r) (ByteArray.mk #[41]))))) none) none) none) none) none) none) (P.cond (P.sfit (ByteArray.mk #[32]) (P.get (P.get x.snd.snd y.fst (((0 : Int), (0 : Int)), [], [])).snd.fst y_1.fst ((ByteArray.mk #[]), false, [])).fst) (P.cond (P.sfit (P.scat (ByteArray.mk #[32]) (P.get (P.get x.snd.snd y.fst (((0 : Int), (0 : Int)), [], [])).snd.fst y_1.fst ((ByteArray.mk #[]), false, [])).fst) (ByteArray.mk #[63])) (P.cond (P.sfit (P.scat (P.scat (ByteArray.mk #[32]) (P.get (P.get x.snd.snd y.fst (((0 : Int), (0 : Int)), [], [])).snd.fst y_1.fst ((ByteArray.mk #[]), false, [])).fst) (ByteArray.mk #[63])) (ByteArray.mk #[40])) (P.bind (atoms_Text k (P.get (P.get x.snd.snd y.fst (((0 : Int), (0 : Int)), [], [])).snd.fst y_1.fst ((ByteArray.mk #[]), false, [])).snd.snd) fun (r : ByteArray) => P.cond (P.sfit (P.scat (P.scat (P.scat (ByteArray.mk #[32]) (P.get (P.get x.snd.snd y.fst (((0 : Int), (0 : Int)), [], [])).snd.fst y_1.fst ((ByteArray.mk #[]), false, [])).fst) (ByteArray.mk #[63])) (ByteArray.mk #[40])) r) (P.cond (P.sfit (P.scat (P.scat (P.scat (P.scat (ByteArray.mk #[32]) (P.get (P.get x.snd.snd y.fst (((0 : Int), (0 : Int)), [], [])).snd.fst y_1.fst ((ByteArray.mk #[]), false, [])).fst) (ByteArray.mk #[63])) (ByteArray.mk #[40])) r) (ByteArray.mk #[41])) (P.cond (P.room (P.add (P.slen y_1.snd) (P.slen (P.scat (P.scat (P.scat (P.scat (P.scat (ByteArray.mk #[32]) (P.get (P.get x.snd.snd y.fst (((0 : Int), (0 : Int)), [], [])).snd.fst y_1.fst ((ByteArray.mk #[]), false, [])).fst) (ByteArray.mk #[63])) (ByteArray.mk #[40])) r) (ByteArray.mk #[41])))) 1) (some (Sum.inl (P.wrap IntKind.i64 (P.add y_1.fst (1 : Int)), P.scat y_1.snd (P.scat (P.scat (P.scat (P.scat (P.scat (ByteArray.mk #[32]) (P.get (P.get x.snd.snd y.fst (((0 : Int), (0 : Int)), [], [])).snd.fst y_1.fst ((ByteArray.mk #[]), false, [])).fst) (ByteArray.mk #[63])) (ByteArray.mk #[40])) r) (ByteArray.mk #[41]))))) none) none) none) none) none) none)) none) (some (Sum.inr (Sum.inl y_1.snd)))) ((0 : Int), P.scat y.snd (P.scat r (ByteArray.mk #[58])))) (P.either (fun (z : ByteArray) => P.bind (atoms_Text k (P.get x.snd.snd y.fst (((0 : Int), (0 : Int)), [], [])).snd.snd) fun (r : ByteArray) => P.cond (P.sfit (ByteArray.mk #[32, 112, 114, 111, 116, 111, 32, 40]) r) (P.cond (P.sfit (P.scat (ByteArray.mk #[32, 112, 114, 111, 116, 111, 32, 40]) r) (ByteArray.mk #[41, 10])) (P.cond (P.room (P.add (P.slen z) (P.slen (P.scat (P.scat (ByteArray.mk #[32, 112, 114, 111, 116, 111, 32, 40]) r) (ByteArray.mk #[41, 10])))) 1) (some (Sum.inl (P.wrap IntKind.i64 (P.add y.fst (1 : Int)), P.scat z (P.scat (P.scat (ByteArray.mk #[32, 112, 114, 111, 116, 111, 32, 40]) r) (ByteArray.mk #[41, 10]))))) none) none) none) fun (r : Int × ByteArray ⊕ ByteArray ⊕ ByteArray) => some r)) none) none) none) (some (Sum.inr (Sum.inl y.snd)))) ((0 : Int), z)) (P.either (fun (z : ByteArray) => some z) fun (r : ByteArray) => some r)) fun (r : ByteArray) => some r))
theorem state_Text_eq (k : Nat) (x : _) : evFn (EN k [(48, ⟨(.slice Uat), .str, atoms_Text k⟩)]) 6 Tryz.f19 [(5, ⟨[.var 16 (.d (.int .i64)), .box 3 [] (.d (.bld 70 5))], [], (some (0, [.box 3 [] (.d (.bld 70 5))]))⟩), (10, ⟨[.var 33 (.d (.int .i64)), .box 3 [] (.d (.bld 70 5))], [], (some (2, [.box 3 [] (.d (.bld 70 5))]))⟩), (14, ⟨[.var 47 (.d (.int .i64)), .box 3 [] (.d (.bld 70 5))], [], (some (4, [.box 3 [] (.d (.bld 70 5))]))⟩)] Ust .str x = state_Text k x := by kernel_rfl
theorem state_Text_spec (k : Nat) : SpecOk Tryz.prog GG 19 ⟨Ust, .str, state_Text k⟩ :=
 fn_spec (envE (.cons (atoms_Text_spec k) Tryz.func48 f48_ok <| .nil)) Tryz.func19 (fun x => (state_Text_eq k x).symm)
noncomputable def slConcatBind : (k : Nat) → (Ty.D (.slice (.slice Ubd))) → Option (Ty.D (.slice Ubd)) := fun (k : Nat) (x : Ubd.slice.slice.D) => P.bind (P.iter k (fun (y : Int × Int) => P.cond (P.ilt y.snd (P.len x)) (P.cond (P.inb y.snd (P.len x)) (P.cond (P.ilt (P.wrap IntKind.i64 (P.add y.fst (P.len (P.get x y.snd [])))) (0 : Int)) none (some (Sum.inl (P.wrap IntKind.i64 (P.add y.fst (P.len (P.get x y.snd []))), P.wrap IntKind.i64 (P.add y.snd (1 : Int)))))) none) (some (Sum.inr (Sum.inl y.fst)))) ((0 : Int), (0 : Int))) (P.either (fun (z : Int) => P.cond (P.ilt z (0 : Int)) none (P.cond (P.ilt (0 : Int) (P.wrap IntKind.i64 (P.sub z (P.wrap IntKind.i64 (P.sub (0 : Int) (0 : Int)))))) (P.cond (P.cut (0 : Int) (0 : Int) (0 : Int)) (P.cond (P.ilt (0 : Int) (P.wrap IntKind.i64 (P.sub z (P.wrap IntKind.i64 (P.sub (0 : Int) (0 : Int)))))) (P.cond (P.room (P.wrap IntKind.i64 (P.sub z (P.wrap IntKind.i64 (P.sub (0 : Int) (0 : Int))))) 40) (P.cond (P.cut (0 : Int) (0 : Int) (P.len (P.rep (P.wrap IntKind.i64 (P.sub z (P.wrap IntKind.i64 (P.sub (0 : Int) (0 : Int))))) (((ByteArray.mk #[]), []) : ByteArray × tA)))) (P.bind (P.iter k (fun (y : tB × Int) => P.cond (P.ilt y.snd (P.len x)) (P.cond (P.inb y.snd (P.len x)) (P.cond (P.room (P.add (P.len y.fst) (P.len (P.get x y.snd []))) 40) (some (Sum.inl (P.app y.fst (P.get x y.snd []), P.wrap IntKind.i64 (P.add y.snd (1 : Int))))) none) none) (some (Sum.inr (Sum.inl y.fst)))) (P.sub_ (P.rep (P.wrap IntKind.i64 (P.sub z (P.wrap IntKind.i64 (P.sub (0 : Int) (0 : Int))))) (((ByteArray.mk #[]), []) : ByteArray × tA)) (0 : Int) (0 : Int), (0 : Int))) (P.either (fun (z : tB) => some z) fun (r : tB) => some r)) none) none) none) none) (P.bind (P.iter k (fun (y : tB × Int) => P.cond (P.ilt y.snd (P.len x)) (P.cond (P.inb y.snd (P.len x)) (P.cond (P.room (P.add (P.len y.fst) (P.len (P.get x y.snd []))) 40) (some (Sum.inl (P.app y.fst (P.get x y.snd []), P.wrap IntKind.i64 (P.add y.snd (1 : Int))))) none) none) (some (Sum.inr (Sum.inl y.fst)))) ([], (0 : Int))) (P.either (fun (z : tB) => some z) fun (r : tB) => some r)))) fun (r : tB) => some r)
theorem slConcatBind_eq (k : Nat) (x : _) : evFn (EN k []) 6 Tryz.f52 [(3, ⟨[.var 3 (.d (.int .i64)), .var 11 (.d (.int .i64))], [], (some (0, [.var 3 (.d (.int .i64))]))⟩), (11, ⟨[.var 6 (.o (.st (.pair .str (.slice (.st (.pair (.int .i64) (.int .i64))))))), .var 27 (.d (.int .i64))], [], (some (2, [.var 6 (.o (.st (.pair .str (.slice (.st (.pair (.int .i64) (.int .i64)))))))]))⟩)] (.slice (.slice Ubd)) (.slice Ubd) x = slConcatBind k x := by kernel_rfl
theorem slConcatBind_spec (k : Nat) : SpecOk Tryz.prog GG 52 ⟨(.slice (.slice Ubd)), (.slice Ubd), slConcatBind k⟩ :=
 fn_spec (envE .nil) Tryz.func52 (fun x => (slConcatBind_eq k x).symm)
noncomputable def slConcatAtom : (k : Nat) → (Ty.D (.slice (.slice Uat))) → Option (Ty.D (.slice Uat)) := fun (k : Nat) (x : Uat.slice.slice.D) => P.bind (P.iter k (fun (y : Int × Int) => P.cond (P.ilt y.snd (P.len x)) (P.cond (P.inb y.snd (P.len x)) (P.cond (P.ilt (P.wrap IntKind.i64 (P.add y.fst (P.len (P.get x y.snd [])))) (0 : Int)) none (some (Sum.inl (P.wrap IntKind.i64 (P.add y.fst (P.len (P.get x y.snd []))), P.wrap IntKind.i64 (P.add y.snd (1 : Int)))))) none) (some (Sum.inr (Sum.inl y.fst)))) ((0 : Int), (0 : Int))) (P.either (fun (z : Int) => P.cond (P.ilt z (0 : Int)) none (P.cond (P.ilt (0 : Int) (P.wrap IntKind.i64 (P.sub z (P.wrap IntKind.i64 (P.sub (0 : Int) (0 : Int)))))) (P.cond (P.cut (0 : Int) (0 : Int) (0 : Int)) (P.cond (P.ilt (0 : Int) (P.wrap IntKind.i64 (P.sub z (P.wrap IntKind.i64 (P.sub (0 : Int) (0 : Int)))))) (P.cond (P.room (P.wrap IntKind.i64 (P.sub z (P.wrap IntKind.i64 (P.sub (0 : Int) (0 : Int))))) 16) (P.cond (P.cut (0 : Int) (0 : Int) (P.len (P.rep (P.wrap IntKind.i64 (P.sub z (P.wrap IntKind.i64 (P.sub (0 : Int) (0 : Int))))) ((0 : Int), (0 : Int))))) (P.bind (P.iter k (fun (y : tA × Int) => P.cond (P.ilt y.snd (P.len x)) (P.cond (P.inb y.snd (P.len x)) (P.cond (P.room (P.add (P.len y.fst) (P.len (P.get x y.snd []))) 16) (some (Sum.inl (P.app y.fst (P.get x y.snd []), P.wrap IntKind.i64 (P.add y.snd (1 : Int))))) none) none) (some (Sum.inr (Sum.inl y.fst)))) (P.sub_ (P.rep (P.wrap IntKind.i64 (P.sub z (P.wrap IntKind.i64 (P.sub (0 : Int) (0 : Int))))) ((0 : Int), (0 : Int))) (0 : Int) (0 : Int), (0 : Int))) (P.either (fun (z : tA) => some z) fun (r : tA) => some r)) none) none) none) none) (P.bind (P.iter k (fun (y : tA × Int) => P.cond (P.ilt y.snd (P.len x)) (P.cond (P.inb y.snd (P.len x)) (P.cond (P.room (P.add (P.len y.fst) (P.len (P.get x y.snd []))) 16) (some (Sum.inl (P.app y.fst (P.get x y.snd []), P.wrap IntKind.i64 (P.add y.snd (1 : Int))))) none) none) (some (Sum.inr (Sum.inl y.fst)))) ([], (0 : Int))) (P.either (fun (z : tA) => some z) fun (r : tA) => some r)))) fun (r : tA) => some r)
theorem slConcatAtom_eq (k : Nat) (x : _) : evFn (EN k []) 6 Tryz.f81 [(3, ⟨[.var 3 (.d (.int .i64)), .var 11 (.d (.int .i64))], [], (some (0, [.var 3 (.d (.int .i64))]))⟩), (11, ⟨[.var 6 (.o (.st (.pair (.int .i64) (.int .i64)))), .var 27 (.d (.int .i64))], [], (some (2, [.var 6 (.o (.st (.pair (.int .i64) (.int .i64))))]))⟩)] (.slice (.slice Uat)) (.slice Uat) x = slConcatAtom k x := by kernel_rfl
theorem slConcatAtom_spec (k : Nat) : SpecOk Tryz.prog GG 81 ⟨(.slice (.slice Uat)), (.slice Uat), slConcatAtom k⟩ :=
 fn_spec (envE .nil) Tryz.func81 (fun x => (slConcatAtom_eq k x).symm)
noncomputable def atoms_Union : (k : Nat) → (Ty.D (.pair (.slice Uat) (.slice Uat))) → Option (Ty.D (.slice Uat)) := fun (k : Nat) (x : (Uat.slice.pair Uat.slice).D) => P.bind (slConcatAtom k [x.fst, x.snd]) fun (r : tA) => P.bind (atoms_Norm k r) fun (r : tA) => some r
theorem atoms_Union_eq (k : Nat) (x : _) : evFn (EN k [(67, ⟨(.slice Uat), (.slice Uat), atoms_Norm k⟩), (81, ⟨(.slice (.slice Uat)), (.slice Uat), slConcatAtom k⟩)]) 6 Tryz.f54 [] (.pair (.slice Uat) (.slice Uat)) (.slice Uat) x = atoms_Union k x := by kernel_rfl
theorem atoms_Union_spec (k : Nat) : SpecOk Tryz.prog GG 54 ⟨(.pair (.slice Uat) (.slice Uat)), (.slice Uat), atoms_Union k⟩ :=
 fn_spec (envE (.cons (atoms_Norm_spec k) Tryz.func67 f67_ok <| .cons (slConcatAtom_spec k) Tryz.func81 f81_ok <| .nil)) Tryz.func54 (fun x => (atoms_Union_eq k x).symm)
noncomputable def object_find : (k : Nat) → (Ty.D (.pair (.slice Ufd) .str)) → Option (Ty.D (.pair (.int .i64) .bool)) := fun (k : Nat) (x : (Ufd.slice.pair Ty.str).D) => P.bind (P.iter k (fun (y : Int × Int) => P.cond (P.ilt y.fst y.snd) (P.cond (P.ile (0 : Int) (1 : Int)) (P.cond (P.inb (P.wrap IntKind.i64 (P.shrk IntKind.u64 (P.wrap IntKind.u64 (P.wrap IntKind.i64 (P.add y.fst y.snd))) (1 : Int))) (P.len x.fst)) (P.bind (strings_Compare k ((P.get x.fst (P.wrap IntKind.i64 (P.shrk IntKind.u64 (P.wrap IntKind.u64 (P.wrap IntKind.i64 (P.add y.fst y.snd))) (1 : Int))) ((ByteArray.mk #[]), false, [])).fst, x.snd)) fun (r : Int) => P.cond (P.ilt r (0 : Int)) (some (Sum.inl (P.wrap IntKind.i64 (P.add (P.wrap IntKind.i64 (P.shrk IntKind.u64 (P.wrap IntKind.u64 (P.wrap IntKind.i64 (P.add y.fst y.snd))) (1 : Int))) (1 : Int)), y.snd))) (some (Sum.inl (y.fst, P.wrap IntKind.i64 (P.shrk IntKind.u64 (P.wrap IntKind.u64 (P.wrap IntKind.i64 (P.add y.fst y.snd))) (1 : Int)))))) none) none) (some (Sum.inr (Sum.inl y.fst)))) ((0 : Int), P.len x.fst)) (P.either (fun (z : Int) => P.cond (P.ilt z (P.len x.fst)) (P.cond (P.inb z (P.len x.fst)) (P.bind (strings_Compare k ((P.get x.fst z ((ByteArray.mk #[]), false, [])).fst, x.snd)) fun (r : Int) => some (z, P.ieq r (0 : Int))) none) (some (z, false))) fun (r : Int × Bool) => some r)
theorem object_find_eq (k : Nat) (x : _) : evFn (EN k [(111, ⟨(.pair .str .str), (.int .i64), strings_Compare k⟩)]) 6 Tryz.f82 [] (.pair (.slice Ufd) .str) (.pair (.int .i64) .bool) x = object_find k x := by kernel_rfl
theorem object_find_spec (k : Nat) : SpecOk Tryz.prog GG 82 ⟨(.pair (.slice Ufd) .str), (.pair (.int .i64) .bool), object_find k⟩ :=
 fn_spec (envE (.cons (strings_Compare_spec k) Tryz.func111 f111_ok <| .nil)) Tryz.func82 (fun x => (object_find_eq k x).symm)
noncomputable def object_Join : (k : Nat) → (Ty.D (.pair Ush Ush)) → Option (Ty.D Ush) := fun (k : Nat) (x : (Ush.pair Ush).D) => P.bind (object_May k x.fst) fun (r : Bool) => P.cond (P.not r) (some ([], [])) (P.bind (object_May k x.snd) fun (r : Bool) => P.cond (P.not r) (some ([], [])) (P.bind (slCloneAtom k x.fst.snd) fun (r : tA) => P.bind (P.iter k (fun (y : Int × tO) => P.cond (P.ilt y.fst (P.len x.fst.fst)) (P.cond (P.inb y.fst (P.len x.fst.fst)) (P.bind (slCloneAtom k (P.get x.fst.fst y.fst ((ByteArray.mk #[]), false, [])).snd.snd) fun (r : tA) => P.cond (P.room (P.add (P.len y.snd.fst) (P.len [((P.get x.fst.fst y.fst ((ByteArray.mk #[]), false, [])).fst, (P.get x.fst.fst y.fst ((ByteArray.mk #[]), false, [])).snd.fst, r)])) 48) (some (Sum.inl (P.wrap IntKind.i64 (P.add y.fst (1 : Int)), P.app y.snd.fst [((P.get x.fst.fst y.fst ((ByteArray.mk #[]), false, [])).fst, (P.get x.fst.fst y.fst ((ByteArray.mk #[]), false, [])).snd.fst, r)], y.snd.snd))) none) none) (some (Sum.inr (Sum.inl (y.snd.fst, y.snd.snd))))) ((0 : Int), [], r)) (P.either (fun (z : tO) => P.bind (atoms_Union k (x.fst.snd, x.snd.snd)) fun (r : tA) => P.bind (P.iter k (fun (y : Int × List (ByteArray × Bool × tA)) => P.cond (P.ilt y.fst (P.len z.fst)) (P.cond (P.inb y.fst (P.len y.snd)) (P.bind (object_find k (x.snd.fst, (P.get y.snd y.fst ((ByteArray.mk #[]), false, [])).fst)) fun (r : Int × Bool) => P.cond (P.get y.snd y.fst ((ByteArray.mk #[]), false, [])).snd.fst (P.cond (P.inb y.fst (P.len y.snd)) (some (Sum.inl (P.wrap IntKind.i64 (P.add y.fst (1 : Int)), P.set y.snd y.fst ((P.get y.snd y.fst ((ByteArray.mk #[]), false, [])).fst, r.snd, (P.get y.snd y.fst ((ByteArray.mk #[]), false, [])).snd.snd)))) none) (P.cond (P.inb y.fst (P.len y.snd)) (some (Sum.inl (P.wrap IntKind.i64 (P.add y.fst (1 : Int)), P.set y.snd y.fst ((P.get y.snd y.fst ((ByteArray.mk #[]), false, [])).fst, false, (P.get y.snd y.fst ((ByteArray.mk #[]), false, [])).snd.snd)))) none)) none) (some (Sum.inr (Sum.inl y.snd)))) ((0 : Int), z.fst)) (P.either (fun (z : List (ByteArray × Bool × tA)) => P.bind (P.iter k (fun (y : Int × tO) => P.cond (P.ilt y.fst (P.len x.snd.fst)) (P.cond (P.inb y.fst (P.len x.snd.fst)) (P.bind (P.iter k (fun (y_1 : Int) => P.cond (P.ilt y_1 (P.len y.snd.fst)) (P.cond (P.inb y_1 (P.len y.snd.fst)) (P.cond (P.seq (P.get y.snd.fst y_1 ((ByteArray.mk #[]), false, [])).fst (P.get x.snd.fst y.fst ((ByteArray.mk #[]), false, [])).fst) (P.map (fun (r : Int × tO ⊕ tO ⊕ tO) => Sum.inr (Sum.inr r)) (P.cond (P.ilt y_1 (0 : Int)) (P.bind (atoms_Union k ([], (P.get x.snd.fst y.fst ((ByteArray.mk #[]), false, [])).snd.snd)) fun (r : tA) => P.bind (object_find k (y.snd.fst, (P.get x.snd.fst y.fst ((ByteArray.mk #[]), false, [])).fst)) fun (r_1 : Int × Bool) => P.cond r_1.snd (P.cond (P.inb r_1.fst (P.len y.snd.fst)) (some (Sum.inl (P.wrap IntKind.i64 (P.add y.fst (1 : Int)), P.set y.snd.fst r_1.fst ((P.get x.snd.fst y.fst ((ByteArray.mk #[]), false, [])).fst, false, r), y.snd.snd))) none) (P.cond (P.ilt (0 : Int) (P.len [((P.get x.snd.fst y.fst ((ByteArray.mk #[]), false, [])).fst, false, r)])) (P.cond (P.cut (0 : Int) r_1.fst (P.len y.snd.fst)) (P.cond (P.room (P.add (P.len y.snd.fst) (P.len [((P.get x.snd.fst y.fst ((ByteArray.mk #[]), false, [])).fst, false, r)])) 48) (some (Sum.inl (P.wrap IntKind.i64 (P.add y.fst (1 : Int)), P.insAt y.snd.fst r_1.fst [((P.get x.snd.fst y.fst ((ByteArray.mk #[]), false, [])).fst, false, r)], y.snd.snd))) none) none) none)) (P.cond (P.inb y_1 (P.len y.snd.fst)) (P.bind (slCloneAtom k (P.get y.snd.fst y_1 ((ByteArray.mk #[]), false, [])).snd.snd) fun (r : tA) => P.cond (P.get y.snd.fst y_1 ((ByteArray.mk #[]), false, [])).snd.fst (P.bind (atoms_Union k (r, (P.get x.snd.fst y.fst ((ByteArray.mk #[]), false, [])).snd.snd)) fun (r : tA) => P.bind (object_find k (y.snd.fst, (P.get x.snd.fst y.fst ((ByteArray.mk #[]), false, [])).fst)) fun (r_1 : Int × Bool) => P.cond r_1.snd (P.cond (P.inb r_1.fst (P.len y.snd.fst)) (some (Sum.inl (P.wrap IntKind.i64 (P.add y.fst (1 : Int)), P.set y.snd.fst r_1.fst ((P.get x.snd.fst y.fst ((ByteArray.mk #[]), false, [])).fst, (P.get x.snd.fst y.fst ((ByteArray.mk #[]), false, [])).snd.fst, r), y.snd.snd))) none) (P.cond (P.ilt (0 : Int) (P.len [((P.get x.snd.fst y.fst ((ByteArray.mk #[]), false, [])).fst, (P.get x.snd.fst y.fst ((ByteArray.mk #[]), false, [])).snd.fst, r)])) (P.cond (P.cut (0 : Int) r_1.fst (P.len y.snd.fst)) (P.cond (P.room (P.add (P.len y.snd.fst) (P.len [((P.get x.snd.fst y.fst ((ByteArray.mk #[]), false, [])).fst, (P.get x.snd.fst y.fst ((ByteArray.mk #[]), false, [])).snd.fst, r)])) 48) (some (Sum.inl (P.wrap IntKind.i64 (P.add y.fst (1 : Int)), P.insAt y.snd.fst r_1.fst [((P.get x.snd.fst y.fst ((ByteArray.mk #[]), false, [])).fst, (P.get x.snd.fst y.fst ((ByteArray.mk #[]), false, [])).snd.fst, r)], y.snd.snd))) none) none) none)) (P.bind (atoms_Union k (r, (P.get x.snd.fst y.fst ((ByteArray.mk #[]), false, [])).snd.snd)) fun (r : tA) => P.bind (object_find k (y.snd.fst, (P.get x.snd.fst y.fst ((ByteArray.mk #[]), false, [])).fst)) fun (r_1 : Int × Bool) => P.cond r_1.snd (P.cond (P.inb r_1.fst (P.len y.snd.fst)) (some (Sum.inl (P.wrap IntKind.i64 (P.add y.fst (1 : Int)), P.set y.snd.fst r_1.fst ((P.get x.snd.fst y.fst ((ByteArray.mk #[]), false, [])).fst, false, r), y.snd.snd))) none) (P.cond (P.ilt (0 : Int) (P.len [((P.get x.snd.fst y.fst ((ByteArray.mk #[]), false, [])).fst, false, r)])) (P.cond (P.cut (0 : Int) r_1.fst (P.len y.snd.fst)) (P.cond (P.room (P.add (P.len y.snd.fst) (P.len [((P.get x.snd.fst y.fst ((ByteArray.mk #[]), false, [])).fst, false, r)])) 48) (some (Sum.inl (P.wrap IntKind.i64 (P.add y.fst (1 : Int)), P.insAt y.snd.fst r_1.fst [((P.get x.snd.fst y.fst ((ByteArray.mk #[]), false, [])).fst, false, r)], y.snd.snd))) none) none) none))) none))) (some (Sum.inl (P.wrap IntKind.i64 (P.add y_1 (1 : Int)))))) none) (some (Sum.inr (Sum.inl PUnit.unit)))) (0 : Int)) (P.either (fun (z : PUnit) => P.cond (P.ilt ((-1 : Int)) (0 : Int)) (P.bind (atoms_Union k ([], (P.get x.snd.fst y.fst ((ByteArray.mk #[]), false, [])).snd.snd)) fun (r : tA) => P.bind (object_find k (y.snd.fst, (P.get x.snd.fst y.fst ((ByteArray.mk #[]), false, [])).fst)) fun (r_1 : Int × Bool) => P.cond r_1.snd (P.cond (P.inb r_1.fst (P.len y.snd.fst)) (some (Sum.inl (P.wrap IntKind.i64 (P.add y.fst (1 : Int)), P.set y.snd.fst r_1.fst ((P.get x.snd.fst y.fst ((ByteArray.mk #[]), false, [])).fst, false, r), y.snd.snd))) none) (P.cond (P.ilt (0 : Int) (P.len [((P.get x.snd.fst y.fst ((ByteArray.mk #[]), false, [])).fst, false, r)])) (P.cond (P.cut (0 : Int) r_1.fst (P.len y.snd.fst)) (P.cond (P.room (P.add (P.len y.snd.fst) (P.len [((P.get x.snd.fst y.fst ((ByteArray.mk #[]), false, [])).fst, false, r)])) 48) (some (Sum.inl (P.wrap IntKind.i64 (P.add y.fst (1 : Int)), P.insAt y.snd.fst r_1.fst [((P.get x.snd.fst y.fst ((ByteArray.mk #[]), false, [])).fst, false, r)], y.snd.snd))) none) none) none)) (P.cond (P.inb ((-1 : Int)) (P.len y.snd.fst)) (P.bind (slCloneAtom k (P.get y.snd.fst ((-1 : Int)) ((ByteArray.mk #[]), false, [])).snd.snd) fun (r : tA) => P.cond (P.get y.snd.fst ((-1 : Int)) ((ByteArray.mk #[]), false, [])).snd.fst (P.bind (atoms_Union k (r, (P.get x.snd.fst y.fst ((ByteArray.mk #[]), false, [])).snd.snd)) fun (r : tA) => P.bind (object_find k (y.snd.fst, (P.get x.snd.fst y.fst ((ByteArray.mk #[]), false, [])).fst)) fun (r_1 : Int × Bool) => P.cond r_1.snd (P.cond (P.inb r_1.fst (P.len y.snd.fst)) (some (Sum.inl (P.wrap IntKind.i64 (P.add y.fst (1 : Int)), P.set y.snd.fst r_1.fst ((P.get x.snd.fst y.fst ((ByteArray.mk #[]), false, [])).fst, (P.get x.snd.fst y.fst ((ByteArray.mk #[]), false, [])).snd.fst, r), y.snd.snd))) none) (P.cond (P.ilt (0 : Int) (P.len [((P.get x.snd.fst y.fst ((ByteArray.mk #[]), false, [])).fst, (P.get x.snd.fst y.fst ((ByteArray.mk #[]), false, [])).snd.fst, r)])) (P.cond (P.cut (0 : Int) r_1.fst (P.len y.snd.fst)) (P.cond (P.room (P.add (P.len y.snd.fst) (P.len [((P.get x.snd.fst y.fst ((ByteArray.mk #[]), false, [])).fst, (P.get x.snd.fst y.fst ((ByteArray.mk #[]), false, [])).snd.fst, r)])) 48) (some (Sum.inl (P.wrap IntKind.i64 (P.add y.fst (1 : Int)), P.insAt y.snd.fst r_1.fst [((P.get x.snd.fst y.fst ((ByteArray.mk #[]), false, [])).fst, (P.get x.snd.fst y.fst ((ByteArray.mk #[]), false, [])).snd.fst, r)], y.snd.snd))) none) none) none)) (P.bind (atoms_Union k (r, (P.get x.snd.fst y.fst ((ByteArray.mk #[]), false, [])).snd.snd)) fun (r : tA) => P.bind (object_find k (y.snd.fst, (P.get x.snd.fst y.fst ((ByteArray.mk #[]), false, [])).fst)) fun (r_1 : Int × Bool) => P.cond r_1.snd (P.cond (P.inb r_1.fst (P.len y.snd.fst)) (some (Sum.inl (P.wrap IntKind.i64 (P.add y.fst (1 : Int)), P.set y.snd.fst r_1.fst ((P.get x.snd.fst y.fst ((ByteArray.mk #[]), false, [])).fst, false, r), y.snd.snd))) none) (P.cond (P.ilt (0 : Int) (P.len [((P.get x.snd.fst y.fst ((ByteArray.mk #[]), false, [])).fst, false, r)])) (P.cond (P.cut (0 : Int) r_1.fst (P.len y.snd.fst)) (P.cond (P.room (P.add (P.len y.snd.fst) (P.len [((P.get x.snd.fst y.fst ((ByteArray.mk #[]), false, [])).fst, false, r)])) 48) (some (Sum.inl (P.wrap IntKind.i64 (P.add y.fst (1 : Int)), P.insAt y.snd.fst r_1.fst [((P.get x.snd.fst y.fst ((ByteArray.mk #[]), false, [])).fst, false, r)], y.snd.snd))) none) none) none))) none)) fun (r : Int × tO ⊕ tO ⊕ tO) => some r)) none) (some (Sum.inr (Sum.inl (y.snd.fst, y.snd.snd))))) ((0 : Int), z, r)) (P.either (fun (z : tO) => some (z.fst, z.snd)) fun (r : tO) => some r)) fun (r : tO) => some r)) fun (r : tO) => some r)))
theorem object_Join_eq (k : Nat) (x : _) : evFn (EN k [(41, ⟨Ush, .bool, object_May k⟩), (46, ⟨(.slice Uat), (.slice Uat), slCloneAtom k⟩), (54, ⟨(.pair (.slice Uat) (.slice Uat)), (.slice Uat), atoms_Union k⟩), (82, ⟨(.pair (.slice Ufd) .str), (.pair (.int .i64) .bool), object_find k⟩)]) 6 Tryz.f55 [(6, ⟨[.var 34 (.d (.int .i64)), .cel 32 [] (.st (.pair .str (.pair .bool (.slice (.st (.pair (.int .i64) (.int .i64)))))))], [], (some (0, [.cel 32 [] (.st (.pair .str (.pair .bool (.slice (.st (.pair (.int .i64) (.int .i64)))))))]))⟩), (12, ⟨[.var 61 (.d (.int .i64)), .box 5 [] (.s (.p (.o (.st (.pair .str (.pair .bool (.slice (.st (.pair (.int .i64) (.int .i64)))))))) (.d (.slice (.st (.pair (.int .i64) (.int .i64)))))))], [], (some (2, [.box 5 [] (.s (.p (.o (.st (.pair .str (.pair .bool (.slice (.st (.pair (.int .i64) (.int .i64)))))))) (.d (.slice (.st (.pair (.int .i64) (.int .i64)))))))]))⟩)] (.pair Ush Ush) Ush x = object_Join k x := by kernel_rfl
theorem object_Join_spec (k : Nat) : SpecOk Tryz.prog GG 55 ⟨(.pair Ush Ush), Ush, object_Join k⟩ :=
 fn_spec (envE (.cons (object_May_spec k) Tryz.func41 f41_ok <| .cons (slCloneAtom_spec k) Tryz.func46 f46_ok <| .cons (atoms_Union_spec k) Tryz.func54 f54_ok <| .cons (object_find_spec k) Tryz.func82 f82_ok <| .nil)) Tryz.func55 (fun x => (object_Join_eq k x).symm)
noncomputable def state_Join : (k : Nat) → (Ty.D (.pair Ust Ust)) → Option (Ty.D Ust) := fun (k : Nat) (x : (Ust.pair Ust).D) => P.bind (state_May k x.fst) fun (r : Bool) => P.cond (P.not r) (some (false, [], [])) (P.bind (state_May k x.snd) fun (r : Bool) => P.cond (P.not r) (some (false, [], [])) (P.cond x.fst.fst (P.bind (P.iter k (fun (y : Int × tS) => P.cond (P.ilt y.fst (P.len x.snd.snd.fst)) (P.cond (P.inb y.fst (P.len x.snd.snd.fst)) (P.bind (slCloneAtom k (P.get x.snd.snd.fst y.fst ((ByteArray.mk #[]), [])).snd) fun (r : tA) => P.cond (P.room (P.add (P.len y.snd.snd.fst) (P.len [((P.get x.snd.snd.fst y.fst ((ByteArray.mk #[]), [])).fst, r)])) 40) (some (Sum.inl (P.wrap IntKind.i64 (P.add y.fst (1 : Int)), y.snd.fst, P.app y.snd.snd.fst [((P.get x.snd.snd.fst y.fst ((ByteArray.mk #[]), [])).fst, r)], y.snd.snd.snd))) none) none) (some (Sum.inr (Sum.inl (y.snd.fst, y.snd.snd.fst, y.snd.snd.snd))))) ((0 : Int), x.snd.fst, [], [])) (P.either (fun (z : tS) => P.bind (P.iter k (fun (y : Int × tS) => P.cond (P.ilt y.fst (P.len x.snd.snd.snd)) (P.cond (P.inb y.fst (P.len x.snd.snd.snd)) (P.bind (object_Copy k (P.get x.snd.snd.snd y.fst (((0 : Int), (0 : Int)), [], [])).snd) fun (r : tO) => P.cond (P.room (P.add (P.len y.snd.snd.snd) (P.len [((P.get x.snd.snd.snd y.fst (((0 : Int), (0 : Int)), [], [])).fst, r)])) 64) (some (Sum.inl (P.wrap IntKind.i64 (P.add y.fst (1 : Int)), y.snd.fst, y.snd.snd.fst, P.app y.snd.snd.snd [((P.get x.snd.snd.snd y.fst (((0 : Int), (0 : Int)), [], [])).fst, r)]))) none) none) (some (Sum.inr (Sum.inl (y.snd.fst, y.snd.snd.fst, y.snd.snd.snd))))) ((0 : Int), z.fst, z.snd.fst, z.snd.snd)) (P.either (fun (z : tS) => some (z.fst, z.snd.fst, z.snd.snd)) fun (r : tS) => some r)) fun (r : tS) => some r)) (P.cond x.snd.fst (P.bind (P.iter k (fun (y : Int × tS) => P.cond (P.ilt y.fst (P.len x.fst.snd.fst)) (P.cond (P.inb y.fst (P.len x.fst.snd.fst)) (P.bind (slCloneAtom k (P.get x.fst.snd.fst y.fst ((ByteArray.mk #[]), [])).snd) fun (r : tA) => P.cond (P.room (P.add (P.len y.snd.snd.fst) (P.len [((P.get x.fst.snd.fst y.fst ((ByteArray.mk #[]), [])).fst, r)])) 40) (some (Sum.inl (P.wrap IntKind.i64 (P.add y.fst (1 : Int)), y.snd.fst, P.app y.snd.snd.fst [((P.get x.fst.snd.fst y.fst ((ByteArray.mk #[]), [])).fst, r)], y.snd.snd.snd))) none) none) (some (Sum.inr (Sum.inl (y.snd.fst, y.snd.snd.fst, y.snd.snd.snd))))) ((0 : Int), x.fst.fst, [], [])) (P.either (fun (z : tS) => P.bind (P.iter k (fun (y : Int × tS) => P.cond (P.ilt y.fst (P.len x.fst.snd.snd)) (P.cond (P.inb y.fst (P.len x.fst.snd.snd)) (P.bind (object_Copy k (P.get x.fst.snd.snd y.fst (((0 : Int), (0 : Int)), [], [])).snd) fun (r : tO) => P.cond (P.room (P.add (P.len y.snd.snd.snd) (P.len [((P.get x.fst.snd.snd y.fst (((0 : Int), (0 : Int)), [], [])).fst, r)])) 64) (some (Sum.inl (P.wrap IntKind.i64 (P.add y.fst (1 : Int)), y.snd.fst, y.snd.snd.fst, P.app y.snd.snd.snd [((P.get x.fst.snd.snd y.fst (((0 : Int), (0 : Int)), [], [])).fst, r)]))) none) none) (some (Sum.inr (Sum.inl (y.snd.fst, y.snd.snd.fst, y.snd.snd.snd))))) ((0 : Int), z.fst, z.snd.fst, z.snd.snd)) (P.either (fun (z : tS) => some (z.fst, z.snd.fst, z.snd.snd)) fun (r : tS) => some r)) fun (r : tS) => some r)) (P.bind (P.iter k (fun (y : Int × tS) => P.cond (P.ilt y.fst (P.len x.fst.snd.fst)) (P.cond (P.inb y.fst (P.len x.fst.snd.fst)) (P.bind (slCloneAtom k (P.get x.fst.snd.fst y.fst ((ByteArray.mk #[]), [])).snd) fun (r : tA) => P.cond (P.room (P.add (P.len y.snd.snd.fst) (P.len [((P.get x.fst.snd.fst y.fst ((ByteArray.mk #[]), [])).fst, r)])) 40) (some (Sum.inl (P.wrap IntKind.i64 (P.add y.fst (1 : Int)), y.snd.fst, P.app y.snd.snd.fst [((P.get x.fst.snd.fst y.fst ((ByteArray.mk #[]), [])).fst, r)], y.snd.snd.snd))) none) none) (some (Sum.inr (Sum.inl (y.snd.fst, y.snd.snd.fst, y.snd.snd.snd))))) ((0 : Int), x.fst.fst, [], [])) (P.either (fun (z : tS) => P.bind (P.iter k (fun (y : Int × tS) => P.cond (P.ilt y.fst (P.len x.fst.snd.snd)) (P.cond (P.inb y.fst (P.len x.fst.snd.snd)) (P.bind (object_Copy k (P.get x.fst.snd.snd y.fst (((0 : Int), (0 : Int)), [], [])).snd) fun (r : tO) => P.cond (P.room (P.add (P.len y.snd.snd.snd) (P.len [((P.get x.fst.snd.snd y.fst (((0 : Int), (0 : Int)), [], [])).fst, r)])) 64) (some (Sum.inl (P.wrap IntKind.i64 (P.add y.fst (1 : Int)), y.snd.fst, y.snd.snd.fst, P.app y.snd.snd.snd [((P.get x.fst.snd.snd y.fst (((0 : Int), (0 : Int)), [], [])).fst, r)]))) none) none) (some (Sum.inr (Sum.inl (y.snd.fst, y.snd.snd.fst, y.snd.snd.snd))))) ((0 : Int), z.fst, z.snd.fst, z.snd.snd)) (P.either (fun (z : tS) => P.bind (slConcatBind k [x.fst.snd.fst, x.snd.snd.fst]) fun (r : tB) => P.bind (P.iter k (fun (y : Int × tS) => P.cond (P.ilt y.fst (P.len r)) (P.cond (P.inb y.fst (P.len r)) (P.bind (state_Var k (x.fst, (P.get r y.fst ((ByteArray.mk #[]), [])).fst)) fun (r_1 : tA) => P.bind (state_Var k (x.snd, (P.get r y.fst ((ByteArray.mk #[]), [])).fst)) fun (r_2 : tA) => P.bind (atoms_Union k (r_1, r_2)) fun (r_3 : tA) => P.bind (P.iter k (fun (y_1 : Int) => P.cond (P.ilt y_1 (P.len y.snd.snd.fst)) (P.cond (P.inb y_1 (P.len y.snd.snd.fst)) (P.cond (P.not (P.slt (P.get y.snd.snd.fst y_1 ((ByteArray.mk #[]), [])).fst (P.get r y.fst ((ByteArray.mk #[]), [])).fst)) (P.map (fun (r : Int × tS ⊕ tS ⊕ tS) => Sum.inr (Sum.inr r)) (P.cond (P.ile (0 : Int) y_1) (P.cond (P.ilt y_1 (P.len y.snd.snd.fst)) (P.cond (P.inb y_1 (P.len y.snd.snd.fst)) (P.cond (P.seq (P.get y.snd.snd.fst y_1 ((ByteArray.mk #[]), [])).fst (P.get r y.fst ((ByteArray.mk #[]), [])).fst) (P.cond (P.cut y_1 (P.wrap IntKind.i64 (P.add y_1 (1 : Int))) (P.len y.snd.snd.fst)) (P.bind (atoms_Norm k r_3) fun (r_4 : tA) => P.cond (P.ilt (0 : Int) (P.len [((P.get r y.fst ((ByteArray.mk #[]), [])).fst, r_4)])) (P.cond (P.cut (0 : Int) y_1 (P.len (P.delAt y.snd.snd.fst y_1 (P.wrap IntKind.i64 (P.add y_1 (1 : Int)))))) (P.cond (P.room (P.add (P.len (P.delAt y.snd.snd.fst y_1 (P.wrap IntKind.i64 (P.add y_1 (1 : Int))))) (P.len [((P.get r y.fst ((ByteArray.mk #[]), [])).fst, r_4)])) 40) (some (Sum.inl (P.wrap IntKind.i64 (P.add y.fst (1 : Int)), y.snd.fst, P.insAt (P.delAt y.snd.snd.fst y_1 (P.wrap IntKind.i64 (P.add y_1 (1 : Int)))) y_1 [((P.get r y.fst ((ByteArray.mk #[]), [])).fst, r_4)], y.snd.snd.snd))) none) none) none) none) (P.bind (atoms_Norm k r_3) fun (r_4 : tA) => P.cond (P.ilt (0 : Int) (P.len [((P.get r y.fst ((ByteArray.mk #[]), [])).fst, r_4)])) (P.cond (P.cut (0 : Int) y_1 (P.len y.snd.snd.fst)) (P.cond (P.room (P.add (P.len y.snd.snd.fst) (P.len [((P.get r y.fst ((ByteArray.mk #[]), [])).fst, r_4)])) 40) (some (Sum.inl (P.wrap IntKind.i64 (P.add y.fst (1 : Int)), y.snd.fst, P.insAt y.snd.snd.fst y_1 [((P.get r y.fst ((ByteArray.mk #[]), [])).fst, r_4)], y.snd.snd.snd))) none) none) none)) none) (P.bind (atoms_Norm k r_3) fun (r_4 : tA) => P.cond (P.ilt (0 : Int) (P.len [((P.get r y.fst ((ByteArray.mk #[]), [])).fst, r_4)])) (P.cond (P.cut (0 : Int) y_1 (P.len y.snd.snd.fst)) (P.cond (P.room (P.add (P.len y.snd.snd.fst) (P.len [((P.get r y.fst ((ByteArray.mk #[]), [])).fst, r_4)])) 40) (some (Sum.inl (P.wrap IntKind.i64 (P.add y.fst (1 : Int)), y.snd.fst, P.insAt y.snd.snd.fst y_1 [((P.get r y.fst ((ByteArray.mk #[]), [])).fst, r_4)], y.snd.snd.snd))) none) none) none)) (P.cond (P.ilt (P.len y.snd.snd.fst) (P.len y.snd.snd.fst)) (P.cond (P.inb (P.len y.snd.snd.fst) (P.len y.snd.snd.fst)) (P.cond (P.seq (P.get y.snd.snd.fst (P.len y.snd.snd.fst) ((ByteArray.mk #[]), [])).fst (P.get r y.fst ((ByteArray.mk #[]), [])).fst) (P.cond (P.cut (P.len y.snd.snd.fst) (P.wrap IntKind.i64 (P.add (P.len y.snd.snd.fst) (1 : Int))) (P.len y.snd.snd.fst)) (P.bind (atoms_Norm k r_3) fun (r_4 : tA) => P.cond (P.ilt (0 : Int) (P.len [((P.get r y.fst ((ByteArray.mk #[]), [])).fst, r_4)])) (P.cond (P.cut (0 : Int) (P.len y.snd.snd.fst) (P.len (P.delAt y.snd.snd.fst (P.len y.snd.snd.fst) (P.wrap IntKind.i64 (P.add (P.len y.snd.snd.fst) (1 : Int)))))) (P.cond (P.room (P.add (P.len (P.delAt y.snd.snd.fst (P.len y.snd.snd.fst) (P.wrap IntKind.i64 (P.add (P.len y.snd.snd.fst) (1 : Int))))) (P.len [((P.get r y.fst ((ByteArray.mk #[]), [])).fst, r_4)])) 40) (some (Sum.inl (P.wrap IntKind.i64 (P.add y.fst (1 : Int)), y.snd.fst, P.insAt (P.delAt y.snd.snd.fst (P.len y.snd.snd.fst) (P.wrap IntKind.i64 (P.add (P.len y.snd.snd.fst) (1 : Int)))) (P.len y.snd.snd.fst) [((P.get r y.fst ((ByteArray.mk #[]), [])).fst, r_4)], y.snd.snd.snd))) none) none) none) none) (P.bind (atoms_Norm k r_3) fun (r_4 : tA) => P.cond (P.ilt (0 : Int) (P.len [((P.get r y.fst ((ByteArray.mk #[]), [])).fst, r_4)])) (P.cond (P.cut (0 : Int) (P.len y.snd.snd.fst) (P.len y.snd.snd.fst)) (P.cond (P.room (P.add (P.len y.snd.snd.fst) (P.len [((P.get r y.fst ((ByteArray.mk #[]), [])).fst, r_4)])) 40) (some (Sum.inl (P.wrap IntKind.i64 (P.add y.fst (1 : Int)), y.snd.fst, P.insAt y.snd.snd.fst (P.len y.snd.snd.fst) [((P.get r y.fst ((ByteArray.mk #[]), [])).fst, r_4)], y.snd.snd.snd))) none) none) none)) none) (P.bind (atoms_Norm k r_3) fun (r_4 : tA) => P.cond (P.ilt (0 : Int) (P.len [((P.get r y.fst ((ByteArray.mk #[]), [])).fst, r_4)])) (P.cond (P.cut (0 : Int) (P.len y.snd.snd.fst) (P.len y.snd.snd.fst)) (P.cond (P.room (P.add (P.len y.snd.snd.fst) (P.len [((P.get r y.fst ((ByteArray.mk #[]), [])).fst, r_4)])) 40) (some (Sum.inl (P.wrap IntKind.i64 (P.add y.fst (1 : Int)), y.snd.fst, P.insAt y.snd.snd.fst (P.len y.snd.snd.fst) [((P.get r y.fst ((ByteArray.mk #[]), [])).fst, r_4)], y.snd.snd.snd))) none) none) none)))) (some (Sum.inl (P.wrap IntKind.i64 (P.add y_1 (1 : Int)))))) none) (some (Sum.inr (Sum.inl PUnit.unit)))) (0 : Int)) (P.either (fun (z : PUnit) => P.cond (P.ile (0 : Int) ((-1 : Int))) (P.cond (P.ilt ((-1 : Int)) (P.len y.snd.snd.fst)) (P.cond (P.inb ((-1 : Int)) (P.len y.snd.snd.fst)) (P.cond (P.seq (P.get y.snd.snd.fst ((-1 : Int)) ((ByteArray.mk #[]), [])).fst (P.get r y.fst ((ByteArray.mk #[]), [])).fst) (P.cond (P.cut ((-1 : Int)) (P.wrap IntKind.i64 (P.add ((-1 : Int)) (1 : Int))) (P.len y.snd.snd.fst)) (P.bind (atoms_Norm k r_3) fun (r_4 : tA) => P.cond (P.ilt (0 : Int) (P.len [((P.get r y.fst ((ByteArray.mk #[]), [])).fst, r_4)])) (P.cond (P.cut (0 : Int) ((-1 : Int)) (P.len (P.delAt y.snd.snd.fst ((-1 : Int)) (P.wrap IntKind.i64 (P.add ((-1 : Int)) (1 : Int)))))) (P.cond (P.room (P.add (P.len (P.delAt y.snd.snd.fst ((-1 : Int)) (P.wrap IntKind.i64 (P.add ((-1 : Int)) (1 : Int))))) (P.len [((P.get r y.fst ((ByteArray.mk #[]), [])).fst, r_4)])) 40) (some (Sum.inl (P.wrap IntKind.i64 (P.add y.fst (1 : Int)), y.snd.fst, P.insAt (P.delAt y.snd.snd.fst ((-1 : Int)) (P.wrap IntKind.i64 (P.add ((-1 : Int)) (1 : Int)))) ((-1 : Int)) [((P.get r y.fst ((ByteArray.mk #[]), [])).fst, r_4)], y.snd.snd.snd))) none) none) none) none) (P.bind (atoms_Norm k r_3) fun (r_4 : tA) => P.cond (P.ilt (0 : Int) (P.len [((P.get r y.fst ((ByteArray.mk #[]), [])).fst, r_4)])) (P.cond (P.cut (0 : Int) ((-1 : Int)) (P.len y.snd.snd.fst)) (P.cond (P.room (P.add (P.len y.snd.snd.fst) (P.len [((P.get r y.fst ((ByteArray.mk #[]), [])).fst, r_4)])) 40) (some (Sum.inl (P.wrap IntKind.i64 (P.add y.fst (1 : Int)), y.snd.fst, P.insAt y.snd.snd.fst ((-1 : Int)) [((P.get r y.fst ((ByteArray.mk #[]), [])).fst, r_4)], y.snd.snd.snd))) none) none) none)) none) (P.bind (atoms_Norm k r_3) fun (r_4 : tA) => P.cond (P.ilt (0 : Int) (P.len [((P.get r y.fst ((ByteArray.mk #[]), [])).fst, r_4)])) (P.cond (P.cut (0 : Int) ((-1 : Int)) (P.len y.snd.snd.fst)) (P.cond (P.room (P.add (P.len y.snd.snd.fst) (P.len [((P.get r y.fst ((ByteArray.mk #[]), [])).fst, r_4)])) 40) (some (Sum.inl (P.wrap IntKind.i64 (P.add y.fst (1 : Int)), y.snd.fst, P.insAt y.snd.snd.fst ((-1 : Int)) [((P.get r y.fst ((ByteArray.mk #[]), [])).fst, r_4)], y.snd.snd.snd))) none) none) none)) (P.cond (P.ilt (P.len y.snd.snd.fst) (P.len y.snd.snd.fst)) (P.cond (P.inb (P.len y.snd.snd.fst) (P.len y.snd.snd.fst)) (P.cond (P.seq (P.get y.snd.snd.fst (P.len y.snd.snd.fst) ((ByteArray.mk #[]), [])).fst (P.get r y.fst ((ByteArray.mk #[]), [])).fst) (P.cond (P.cut (P.len y.snd.snd.fst) (P.wrap IntKind.i64 (P.add (P.len y.snd.snd.fst) (1 : Int))) (P.len y.snd.snd.fst)) (P.bind (atoms_Norm k r_3) fun (r_4 : tA) => P.cond (P.ilt (0 : Int) (P.len [((P.get r y.fst ((ByteArray.mk #[]), [])).fst, r_4)])) (P.cond (P.cut (0 : Int) (P.len y.snd.snd.fst) (P.len (P.delAt y.snd.snd.fst (P.len y.snd.snd.fst) (P.wrap IntKind.i64 (P.add (P.len y.snd.snd.fst) (1 : Int)))))) (P.cond (P.room (P.add (P.len (P.delAt y.snd.snd.fst (P.len y.snd.snd.fst) (P.wrap IntKind.i64 (P.add (P.len y.snd.snd.fst) (1 : Int))))) (P.len [((P.get r y.fst ((ByteArray.mk #[]), [])).fst, r_4)])) 40) (some (Sum.inl (P.wrap IntKind.i64 (P.add y.fst (1 : Int)), y.snd.fst, P.insAt (P.delAt y.snd.snd.fst (P.len y.snd.snd.fst) (P.wrap IntKind.i64 (P.add (P.len y.snd.snd.fst) (1 : Int)))) (P.len y.snd.snd.fst) [((P.get r y.fst ((ByteArray.mk #[]), [])).fst, r_4)], y.snd.snd.snd))) none) none) none) none) (P.bind (atoms_Norm k r_3) fun (r_4 : tA) => P.cond (P.ilt (0 : Int) (P.len [((P.get r y.fst ((ByteArray.mk #[]), [])).fst, r_4)])) (P.cond (P.cut (0 : Int) (P.len y.snd.snd.fst) (P.len y.snd.snd.fst)) (P.cond (P.room (P.add (P.len y.snd.snd.fst) (P.len [((P.get r y.fst ((ByteArray.mk #[]), [])).fst, r_4)])) 40) (some (Sum.inl (P.wrap IntKind.i64 (P.add y.fst (1 : Int)), y.snd.fst, P.insAt y.snd.snd.fst (P.len y.snd.snd.fst) [((P.get r y.fst ((ByteArray.mk #[]), [])).fst, r_4)], y.snd.snd.snd))) none) none) none)) none) (P.bind (atoms_Norm k r_3) fun (r_4 : tA) => P.cond (P.ilt (0 : Int) (P.len [((P.get r y.fst ((ByteArray.mk #[]), [])).fst, r_4)])) (P.cond (P.cut (0 : Int) (P.len y.snd.snd.fst) (P.len y.snd.snd.fst)) (P.cond (P.room (P.add (P.len y.snd.snd.fst) (P.len [((P.get r y.fst ((ByteArray.mk #[]), [])).fst, r_4)])) 40) (some (Sum.inl (P.wrap IntKind.i64 (P.add y.fst (1 : Int)), y.snd.fst, P.insAt y.snd.snd.fst (P.len y.snd.snd.fst) [((P.get r y.fst ((ByteArray.mk #[]), [])).fst, r_4)], y.snd.snd.snd))) none) none) none))) fun (r : Int × tS ⊕ tS ⊕ tS) => some r)) none) (some (Sum.inr (Sum.inl (y.snd.fst, y.snd.snd.fst, y.snd.snd.snd))))) ((0 : Int), z.fst, z.snd.fst, z.snd.snd)) (P.either (fun (z : tS) => P.bind (P.iter k (fun (y : Int × tS) => P.cond (P.ilt y.fst (P.len x.snd.snd.snd)) (P.cond (P.inb y.fst (P.len x.snd.snd.snd)) (P.bind (state_Loc k (x.fst, (P.get x.snd.snd.snd y.fst (((0 : Int), (0 : Int)), [], [])).fst)) fun (r : (tO) × Bool) => P.cond r.snd (P.bind (object_Join k (r.fst, (P.get x.snd.snd.snd y.fst (((0 : Int), (0 : Int)), [], [])).snd)) fun (r : tO) => P.bind (P.iter k (fun (y_1 : Int) => P.cond (P.ilt y_1 (P.len y.snd.snd.snd)) (P.cond (P.inb y_1 (P.len y.snd.snd.snd)) (P.bind (atoms_Compare k ((P.get y.snd.snd.snd y_1 (((0 : Int), (0 : Int)), [], [])).fst, (P.get x.snd.snd.snd y.fst (((0 : Int), (0 : Int)), [], [])).fst)) fun (r_1 : Int) => P.cond (P.ile (0 : Int) r_1) (P.map (fun (r : Int × tS ⊕ tS ⊕ tS) => Sum.inr (Sum.inr r)) (P.cond (P.ile (0 : Int) y_1) (P.cond (P.ilt y_1 (P.len y.snd.snd.snd)) (P.cond (P.inb y_1 (P.len y.snd.snd.snd)) (P.cond (P.and (P.ieq (P.get y.snd.snd.snd y_1 (((0 : Int), (0 : Int)), [], [])).fst.fst (P.get x.snd.snd.snd y.fst (((0 : Int), (0 : Int)), [], [])).fst.fst) (P.ieq (P.get y.snd.snd.snd y_1 (((0 : Int), (0 : Int)), [], [])).fst.snd (P.get x.snd.snd.snd y.fst (((0 : Int), (0 : Int)), [], [])).fst.snd)) (P.cond (P.cut y_1 (P.wrap IntKind.i64 (P.add y_1 (1 : Int))) (P.len y.snd.snd.snd)) (P.bind (object_Copy k r) fun (r : tO) => P.cond (P.ilt (0 : Int) (P.len [((P.get x.snd.snd.snd y.fst (((0 : Int), (0 : Int)), [], [])).fst, r)])) (P.cond (P.cut (0 : Int) y_1 (P.len (P.delAt y.snd.snd.snd y_1 (P.wrap IntKind.i64 (P.add y_1 (1 : Int)))))) (P.cond (P.room (P.add (P.len (P.delAt y.snd.snd.snd y_1 (P.wrap IntKind.i64 (P.add y_1 (1 : Int))))) (P.len [((P.get x.snd.snd.snd y.fst (((0 : Int), (0 : Int)), [], [])).fst, r)])) 64) (some (Sum.inl (P.wrap IntKind.i64 (P.add y.fst (1 : Int)), y.snd.fst, y.snd.snd.fst, P.insAt (P.delAt y.snd.snd.snd y_1 (P.wrap IntKind.i64 (P.add y_1 (1 : Int)))) y_1 [((P.get x.snd.snd.snd y.fst (((0 : Int), (0 : Int)), [], [])).fst, r)]))) none) none) none) none) (P.bind (object_Copy k r) fun (r : tO) => P.cond (P.ilt (0 : Int) (P.len [((P.get x.snd.snd.snd y.fst (((0 : Int), (0 : Int)), [], [])).fst, r)])) (P.cond (P.cut (0 : Int) y_1 (P.len y.snd.snd.snd)) (P.cond (P.room (P.add (P.len y.snd.snd.snd) (P.len [((P.get x.snd.snd.snd y.fst (((0 : Int), (0 : Int)), [], [])).fst, r)])) 64) (some (Sum.inl (P.wrap IntKind.i64 (P.add y.fst (1 : Int)), y.snd.fst, y.snd.snd.fst, P.insAt y.snd.snd.snd y_1 [((P.get x.snd.snd.snd y.fst (((0 : Int), (0 : Int)), [], [])).fst, r)]))) none) none) none)) none) (P.bind (object_Copy k r) fun (r : tO) => P.cond (P.ilt (0 : Int) (P.len [((P.get x.snd.snd.snd y.fst (((0 : Int), (0 : Int)), [], [])).fst, r)])) (P.cond (P.cut (0 : Int) y_1 (P.len y.snd.snd.snd)) (P.cond (P.room (P.add (P.len y.snd.snd.snd) (P.len [((P.get x.snd.snd.snd y.fst (((0 : Int), (0 : Int)), [], [])).fst, r)])) 64) (some (Sum.inl (P.wrap IntKind.i64 (P.add y.fst (1 : Int)), y.snd.fst, y.snd.snd.fst, P.insAt y.snd.snd.snd y_1 [((P.get x.snd.snd.snd y.fst (((0 : Int), (0 : Int)), [], [])).fst, r)]))) none) none) none)) (P.cond (P.ilt (P.len y.snd.snd.snd) (P.len y.snd.snd.snd)) (P.cond (P.inb (P.len y.snd.snd.snd) (P.len y.snd.snd.snd)) (P.cond (P.and (P.ieq (P.get y.snd.snd.snd (P.len y.snd.snd.snd) (((0 : Int), (0 : Int)), [], [])).fst.fst (P.get x.snd.snd.snd y.fst (((0 : Int), (0 : Int)), [], [])).fst.fst) (P.ieq (P.get y.snd.snd.snd (P.len y.snd.snd.snd) (((0 : Int), (0 : Int)), [], [])).fst.snd (P.get x.snd.snd.snd y.fst (((0 : Int), (0 : Int)), [], [])).fst.snd)) (P.cond (P.cut (P.len y.snd.snd.snd) (P.wrap IntKind.i64 (P.add (P.len y.snd.snd.snd) (1 : Int))) (P.len y.snd.snd.snd)) (P.bind (object_Copy k r) fun (r : tO) => P.cond (P.ilt (0 : Int) (P.len [((P.get x.snd.snd.snd y.fst (((0 : Int), (0 : Int)), [], [])).fst, r)])) (P.cond (P.cut (0 : Int) (P.len y.snd.snd.snd) (P.len (P.delAt y.snd.snd.snd (P.len y.snd.snd.snd) (P.wrap IntKind.i64 (P.add (P.len y.snd.snd.snd) (1 : Int)))))) (P.cond (P.room (P.add (P.len (P.delAt y.snd.snd.snd (P.len y.snd.snd.snd) (P.wrap IntKind.i64 (P.add (P.len y.snd.snd.snd) (1 : Int))))) (P.len [((P.get x.snd.snd.snd y.fst (((0 : Int), (0 : Int)), [], [])).fst, r)])) 64) (some (Sum.inl (P.wrap IntKind.i64 (P.add y.fst (1 : Int)), y.snd.fst, y.snd.snd.fst, P.insAt (P.delAt y.snd.snd.snd (P.len y.snd.snd.snd) (P.wrap IntKind.i64 (P.add (P.len y.snd.snd.snd) (1 : Int)))) (P.len y.snd.snd.snd) [((P.get x.snd.snd.snd y.fst (((0 : Int), (0 : Int)), [], [])).fst, r)]))) none) none) none) none) (P.bind (object_Copy k r) fun (r : tO) => P.cond (P.ilt (0 : Int) (P.len [((P.get x.snd.snd.snd y.fst (((0 : Int), (0 : Int)), [], [])).fst, r)])) (P.cond (P.cut (0 : Int) (P.len y.snd.snd.snd) (P.len y.snd.snd.snd)) (P.cond (P.room (P.add (P.len y.snd.snd.snd) (P.len [((P.get x.snd.snd.snd y.fst (((0 : Int), (0 : Int)), [], [])).fst, r)])) 64) (some (Sum.inl (P.wrap IntKind.i64 (P.add y.fst (1 : Int)), y.snd.fst, y.snd.snd.fst, P.insAt y.snd.snd.snd (P.len y.snd.snd.snd) [((P.get x.snd.snd.snd y.fst (((0 : Int), (0 : Int)), [], [])).fst, r)]))) none) none) none)) none) (P.bind (object_Copy k r) fun (r : tO) => P.cond (P.ilt (0 : Int) (P.len [((P.get x.snd.snd.snd y.fst (((0 : Int), (0 : Int)), [], [])).fst, r)])) (P.cond (P.cut (0 : Int) (P.len y.snd.snd.snd) (P.len y.snd.snd.snd)) (P.cond (P.room (P.add (P.len y.snd.snd.snd) (P.len [((P.get x.snd.snd.snd y.fst (((0 : Int), (0 : Int)), [], [])).fst, r)])) 64) (some (Sum.inl (P.wrap IntKind.i64 (P.add y.fst (1 : Int)), y.snd.fst, y.snd.snd.fst, P.insAt y.snd.snd.snd (P.len y.snd.snd.snd) [((P.get x.snd.snd.snd y.fst (((0 : Int), (0 : Int)), [], [])).fst, r)]))) none) none) none)))) (some (Sum.inl (P.wrap IntKind.i64 (P.add y_1 (1 : Int)))))) none) (some (Sum.inr (Sum.inl PUnit.unit)))) (0 : Int)) (P.either (fun (z : PUnit) => P.cond (P.ile (0 : Int) ((-1 : Int))) (P.cond (P.ilt ((-1 : Int)) (P.len y.snd.snd.snd)) (P.cond (P.inb ((-1 : Int)) (P.len y.snd.snd.snd)) (P.cond (P.and (P.ieq (P.get y.snd.snd.snd ((-1 : Int)) (((0 : Int), (0 : Int)), [], [])).fst.fst (P.get x.snd.snd.snd y.fst (((0 : Int), (0 : Int)), [], [])).fst.fst) (P.ieq (P.get y.snd.snd.snd ((-1 : Int)) (((0 : Int), (0 : Int)), [], [])).fst.snd (P.get x.snd.snd.snd y.fst (((0 : Int), (0 : Int)), [], [])).fst.snd)) (P.cond (P.cut ((-1 : Int)) (P.wrap IntKind.i64 (P.add ((-1 : Int)) (1 : Int))) (P.len y.snd.snd.snd)) (P.bind (object_Copy k r) fun (r : tO) => P.cond (P.ilt (0 : Int) (P.len [((P.get x.snd.snd.snd y.fst (((0 : Int), (0 : Int)), [], [])).fst, r)])) (P.cond (P.cut (0 : Int) ((-1 : Int)) (P.len (P.delAt y.snd.snd.snd ((-1 : Int)) (P.wrap IntKind.i64 (P.add ((-1 : Int)) (1 : Int)))))) (P.cond (P.room (P.add (P.len (P.delAt y.snd.snd.snd ((-1 : Int)) (P.wrap IntKind.i64 (P.add ((-1 : Int)) (1 : Int))))) (P.len [((P.get x.snd.snd.snd y.fst (((0 : Int), (0 : Int)), [], [])).fst, r)])) 64) (some (Sum.inl (P.wrap IntKind.i64 (P.add y.fst (1 : Int)), y.snd.fst, y.snd.snd.fst, P.insAt (P.delAt y.snd.snd.snd ((-1 : Int)) (P.wrap IntKind.i64 (P.add ((-1 : Int)) (1 : Int)))) ((-1 : Int)) [((P.get x.snd.snd.snd y.fst (((0 : Int), (0 : Int)), [], [])).fst, r)]))) none) none) none) none) (P.bind (object_Copy k r) fun (r : tO) => P.cond (P.ilt (0 : Int) (P.len [((P.get x.snd.snd.snd y.fst (((0 : Int), (0 : Int)), [], [])).fst, r)])) (P.cond (P.cut (0 : Int) ((-1 : Int)) (P.len y.snd.snd.snd)) (P.cond (P.room (P.add (P.len y.snd.snd.snd) (P.len [((P.get x.snd.snd.snd y.fst (((0 : Int), (0 : Int)), [], [])).fst, r)])) 64) (some (Sum.inl (P.wrap IntKind.i64 (P.add y.fst (1 : Int)), y.snd.fst, y.snd.snd.fst, P.insAt y.snd.snd.snd ((-1 : Int)) [((P.get x.snd.snd.snd y.fst (((0 : Int), (0 : Int)), [], [])).fst, r)]))) none) none) none)) none) (P.bind (object_Copy k r) fun (r : tO) => P.cond (P.ilt (0 : Int) (P.len [((P.get x.snd.snd.snd y.fst (((0 : Int), (0 : Int)), [], [])).fst, r)])) (P.cond (P.cut (0 : Int) ((-1 : Int)) (P.len y.snd.snd.snd)) (P.cond (P.room (P.add (P.len y.snd.snd.snd) (P.len [((P.get x.snd.snd.snd y.fst (((0 : Int), (0 : Int)), [], [])).fst, r)])) 64) (some (Sum.inl (P.wrap IntKind.i64 (P.add y.fst (1 : Int)), y.snd.fst, y.snd.snd.fst, P.insAt y.snd.snd.snd ((-1 : Int)) [((P.get x.snd.snd.snd y.fst (((0 : Int), (0 : Int)), [], [])).fst, r)]))) none) none) none)) (P.cond (P.ilt (P.len y.snd.snd.snd) (P.len y.snd.snd.snd)) (P.cond (P.inb (P.len y.snd.snd.snd) (P.len y.snd.snd.snd)) (P.cond (P.and (P.ieq (P.get y.snd.snd.snd (P.len y.snd.snd.snd) (((0 : Int), (0 : Int)), [], [])).fst.fst (P.get x.snd.snd.snd y.fst (((0 : Int), (0 : Int)), [], [])).fst.fst) (P.ieq (P.get y.snd.snd.snd (P.len y.snd.snd.snd) (((0 : Int), (0 : Int)), [], [])).fst.snd (P.get x.snd.snd.snd y.fst (((0 : Int), (0 : Int)), [], [])).fst.snd)) (P.cond (P.cut (P.len y.snd.snd.snd) (P.wrap IntKind.i64 (P.add (P.len y.snd.snd.snd) (1 : Int))) (P.len y.snd.snd.snd)) (P.bind (object_Copy k r) fun (r : tO) => P.cond (P.ilt (0 : Int) (P.len [((P.get x.snd.snd.snd y.fst (((0 : Int), (0 : Int)), [], [])).fst, r)])) (P.cond (P.cut (0 : Int) (P.len y.snd.snd.snd) (P.len (P.delAt y.snd.snd.snd (P.len y.snd.snd.snd) (P.wrap IntKind.i64 (P.add (P.len y.snd.snd.snd) (1 : Int)))))) (P.cond (P.room (P.add (P.len (P.delAt y.snd.snd.snd (P.len y.snd.snd.snd) (P.wrap IntKind.i64 (P.add (P.len y.snd.snd.snd) (1 : Int))))) (P.len [((P.get x.snd.snd.snd y.fst (((0 : Int), (0 : Int)), [], [])).fst, r)])) 64) (some (Sum.inl (P.wrap IntKind.i64 (P.add y.fst (1 : Int)), y.snd.fst, y.snd.snd.fst, P.insAt (P.delAt y.snd.snd.snd (P.len y.snd.snd.snd) (P.wrap IntKind.i64 (P.add (P.len y.snd.snd.snd) (1 : Int)))) (P.len y.snd.snd.snd) [((P.get x.snd.snd.snd y.fst (((0 : Int), (0 : Int)), [], [])).fst, r)]))) none) none) none) none) (P.bind (object_Copy k r) fun (r : tO) => P.cond (P.ilt (0 : Int) (P.len [((P.get x.snd.snd.snd y.fst (((0 : Int), (0 : Int)), [], [])).fst, r)])) (P.cond (P.cut (0 : Int) (P.len y.snd.snd.snd) (P.len y.snd.snd.snd)) (P.cond (P.room (P.add (P.len y.snd.snd.snd) (P.len [((P.get x.snd.snd.snd y.fst (((0 : Int), (0 : Int)), [], [])).fst, r)])) 64) (some (Sum.inl (P.wrap IntKind.i64 (P.add y.fst (1 : Int)), y.snd.fst, y.snd.snd.fst, P.insAt y.snd.snd.snd (P.len y.snd.snd.snd) [((P.get x.snd.snd.snd y.fst (((0 : Int), (0 : Int)), [], [])).fst, r)]))) none) none) none)) none) (P.bind (object_Copy k r) fun (r : tO) => P.cond (P.ilt (0 : Int) (P.len [((P.get x.snd.snd.snd y.fst (((0 : Int), (0 : Int)), [], [])).fst, r)])) (P.cond (P.cut (0 : Int) (P.len y.snd.snd.snd) (P.len y.snd.snd.snd)) (P.cond (P.room (P.add (P.len y.snd.snd.snd) (P.len [((P.get x.snd.snd.snd y.fst (((0 : Int), (0 : Int)), [], [])).fst, r)])) 64) (some (Sum.inl (P.wrap IntKind.i64 (P.add y.fst (1 : Int)), y.snd.fst, y.snd.snd.fst, P.insAt y.snd.snd.snd (P.len y.snd.snd.snd) [((P.get x.snd.snd.snd y.fst (((0 : Int), (0 : Int)), [], [])).fst, r)]))) none) none) none))) fun (r : Int × tS ⊕ tS ⊕ tS) => some r)) (P.bind (P.iter k (fun (y_1 : Int) => P.cond (P.ilt y_1 (P.len y.snd.snd.snd)) (P.cond (P.inb y_1 (P.len y.snd.snd.snd)) (P.bind (atoms_Compare k ((P.get y.snd.snd.snd y_1 (((0 : Int), (0 : Int)), [], [])).fst, (P.get x.snd.snd.snd y.fst (((0 : Int), (0 : Int)), [], [])).fst)) fun (r : Int) => P.cond (P.ile (0 : Int) r) (P.map (fun (r : Int × tS ⊕ tS ⊕ tS) => Sum.inr (Sum.inr r)) (P.cond (P.ile (0 : Int) y_1) (P.cond (P.ilt y_1 (P.len y.snd.snd.snd)) (P.cond (P.inb y_1 (P.len y.snd.snd.snd)) (P.cond (P.and (P.ieq (P.get y.snd.snd.snd y_1 (((0 : Int), (0 : Int)), [], [])).fst.fst (P.get x.snd.snd.snd y.fst (((0 : Int), (0 : Int)), [], [])).fst.fst) (P.ieq (P.get y.snd.snd.snd y_1 (((0 : Int), (0 : Int)), [], [])).fst.snd (P.get x.snd.snd.snd y.fst (((0 : Int), (0 : Int)), [], [])).fst.snd)) (P.cond (P.cut y_1 (P.wrap IntKind.i64 (P.add y_1 (1 : Int))) (P.len y.snd.snd.snd)) (P.bind (object_Copy k (P.get x.snd.snd.snd y.fst (((0 : Int), (0 : Int)), [], [])).snd) fun (r : tO) => P.cond (P.ilt (0 : Int) (P.len [((P.get x.snd.snd.snd y.fst (((0 : Int), (0 : Int)), [], [])).fst, r)])) (P.cond (P.cut (0 : Int) y_1 (P.len (P.delAt y.snd.snd.snd y_1 (P.wrap IntKind.i64 (P.add y_1 (1 : Int)))))) (P.cond (P.room (P.add (P.len (P.delAt y.snd.snd.snd y_1 (P.wrap IntKind.i64 (P.add y_1 (1 : Int))))) (P.len [((P.get x.snd.snd.snd y.fst (((0 : Int), (0 : Int)), [], [])).fst, r)])) 64) (some (Sum.inl (P.wrap IntKind.i64 (P.add y.fst (1 : Int)), y.snd.fst, y.snd.snd.fst, P.insAt (P.delAt y.snd.snd.snd y_1 (P.wrap IntKind.i64 (P.add y_1 (1 : Int)))) y_1 [((P.get x.snd.snd.snd y.fst (((0 : Int), (0 : Int)), [], [])).fst, r)]))) none) none) none) none) (P.bind (object_Copy k (P.get x.snd.snd.snd y.fst (((0 : Int), (0 : Int)), [], [])).snd) fun (r : tO) => P.cond (P.ilt (0 : Int) (P.len [((P.get x.snd.snd.snd y.fst (((0 : Int), (0 : Int)), [], [])).fst, r)])) (P.cond (P.cut (0 : Int) y_1 (P.len y.snd.snd.snd)) (P.cond (P.room (P.add (P.len y.snd.snd.snd) (P.len [((P.get x.snd.snd.snd y.fst (((0 : Int), (0 : Int)), [], [])).fst, r)])) 64) (some (Sum.inl (P.wrap IntKind.i64 (P.add y.fst (1 : Int)), y.snd.fst, y.snd.snd.fst, P.insAt y.snd.snd.snd y_1 [((P.get x.snd.snd.snd y.fst (((0 : Int), (0 : Int)), [], [])).fst, r)]))) none) none) none)) none) (P.bind (object_Copy k (P.get x.snd.snd.snd y.fst (((0 : Int), (0 : Int)), [], [])).snd) fun (r : tO) => P.cond (P.ilt (0 : Int) (P.len [((P.get x.snd.snd.snd y.fst (((0 : Int), (0 : Int)), [], [])).fst, r)])) (P.cond (P.cut (0 : Int) y_1 (P.len y.snd.snd.snd)) (P.cond (P.room (P.add (P.len y.snd.snd.snd) (P.len [((P.get x.snd.snd.snd y.fst (((0 : Int), (0 : Int)), [], [])).fst, r)])) 64) (some (Sum.inl (P.wrap IntKind.i64 (P.add y.fst (1 : Int)), y.snd.fst, y.snd.snd.fst, P.insAt y.snd.snd.snd y_1 [((P.get x.snd.snd.snd y.fst (((0 : Int), (0 : Int)), [], [])).fst, r)]))) none) none) none)) (P.cond (P.ilt (P.len y.snd.snd.snd) (P.len y.snd.snd.snd)) (P.cond (P.inb (P.len y.snd.snd.snd) (P.len y.snd.snd.snd)) (P.cond (P.and (P.ieq (P.get y.snd.snd.snd (P.len y.snd.snd.snd) (((0 : Int), (0 : Int)), [], [])).fst.fst (P.get x.snd.snd.snd y.fst (((0 : Int), (0 : Int)), [], [])).fst.fst) (P.ieq (P.get y.snd.snd.snd (P.len y.snd.snd.snd) (((0 : Int), (0 : Int)), [], [])).fst.snd (P.get x.snd.snd.snd y.fst (((0 : Int), (0 : Int)), [], [])).fst.snd)) (P.cond (P.cut (P.len y.snd.snd.snd) (P.wrap IntKind.i64 (P.add (P.len y.snd.snd.snd) (1 : Int))) (P.len y.snd.snd.snd)) (P.bind (object_Copy k (P.get x.snd.snd.snd y.fst (((0 : Int), (0 : Int)), [], [])).snd) fun (r : tO) => P.cond (P.ilt (0 : Int) (P.len [((P.get x.snd.snd.snd y.fst (((0 : Int), (0 : Int)), [], [])).fst, r)])) (P.cond (P.cut (0 : Int) (P.len y.snd.snd.snd) (P.len (P.delAt y.snd.snd.snd (P.len y.snd.snd.snd) (P.wrap IntKind.i64 (P.add (P.len y.snd.snd.snd) (1 : Int)))))) (P.cond (P.room (P.add (P.len (P.delAt y.snd.snd.snd (P.len y.snd.snd.snd) (P.wrap IntKind.i64 (P.add (P.len y.snd.snd.snd) (1 : Int))))) (P.len [((P.get x.snd.snd.snd y.fst (((0 : Int), (0 : Int)), [], [])).fst, r)])) 64) (some (Sum.inl (P.wrap IntKind.i64 (P.add y.fst (1 : Int)), y.snd.fst, y.snd.snd.fst, P.insAt (P.delAt y.snd.snd.snd (P.len y.snd.snd.snd) (P.wrap IntKind.i64 (P.add (P.len y.snd.snd.snd) (1 : Int)))) (P.len y.snd.snd.snd) [((P.get x.snd.snd.snd y.fst (((0 : Int), (0 : Int)), [], [])).fst, r)]))) none) none) none) none) (P.bind (object_Copy k (P.get x.snd.snd.snd y.fst (((0 : Int), (0 : Int)), [], [])).snd) fun (r : tO) => P.cond (P.ilt (0 : Int) (P.len [((P.get x.snd.snd.snd y.fst (((0 : Int), (0 : Int)), [], [])).fst, r)])) (P.cond (P.cut (0 : Int) (P.len y.snd.snd.snd) (P.len y.snd.snd.snd)) (P.cond (P.room (P.add (P.len y.snd.snd.snd) (P.len [((P.get x.snd.snd.snd y.fst (((0 : Int), (0 : Int)), [], [])).fst, r)])) 64) (some (Sum.inl (P.wrap IntKind.i64 (P.add y.fst (1 : Int)), y.snd.fst, y.snd.snd.fst, P.insAt y.snd.snd.snd (P.len y.snd.snd.snd) [((P.get x.snd.snd.snd y.fst (((0 : Int), (0 : Int)), [], [])).fst, r)]))) none) none) none)) none) (P.bind (object_Copy k (P.get x.snd.snd.snd y.fst (((0 : Int), (0 : Int)), [], [])).snd) fun (r : tO) => P.cond (P.ilt (0 : Int) (P.len [((P.get x.snd.snd.snd y.fst (((0 : Int), (0 : Int)), [], [])).fst, r)])) (P.cond (P.cut (0 : Int) (P.len y.snd.snd.snd) (P.len y.snd.snd.snd)) (P.cond (P.room (P.add (P.len y.snd.snd.snd) (P.len [((P.get x.snd.snd.snd y.fst (((0 : Int), (0 : Int)), [], [])).fst, r)])) 64) (some (Sum.inl (P.wrap IntKind.i64 (P.add y.fst (1 : Int)), y.snd.fst, y.snd.snd.fst, P.insAt y.snd.snd.snd (P.len y.snd.snd.snd) [((P.get x.snd.snd.snd y.fst (((0 : Int), (0 : Int)), [], [])).fst, r)]))) none) none) none)))) (some (Sum.inl (P.wrap IntKind.i64 (P.add y_1 (1 : Int)))))) none) (some (Sum.inr (Sum.inl PUnit.unit)))) (0 : Int)) (P.either (fun (z : PUnit) => P.cond (P.ile (0 : Int) ((-1 : Int))) (P.cond (P.ilt ((-1 : Int)) (P.len y.snd.snd.snd)) (P.cond (P.inb ((-1 : Int)) (P.len y.snd.snd.snd)) (P.cond (P.and (P.ieq (P.get y.snd.snd.snd ((-1 : Int)) (((0 : Int), (0 : Int)), [], [])).fst.fst (P.get x.snd.snd.snd y.fst (((0 : Int), (0 : Int)), [], [])).fst.fst) (P.ieq (P.get y.snd.snd.snd ((-1 : Int)) (((0 : Int), (0 : Int)), [], [])).fst.snd (P.get x.snd.snd.snd y.fst (((0 : Int), (0 : Int)), [], [])).fst.snd)) (P.cond (P.cut ((-1 : Int)) (P.wrap IntKind.i64 (P.add ((-1 : Int)) (1 : Int))) (P.len y.snd.snd.snd)) (P.bind (object_Copy k (P.get x.snd.snd.snd y.fst (((0 : Int), (0 : Int)), [], [])).snd) fun (r : tO) => P.cond (P.ilt (0 : Int) (P.len [((P.get x.snd.snd.snd y.fst (((0 : Int), (0 : Int)), [], [])).fst, r)])) (P.cond (P.cut (0 : Int) ((-1 : Int)) (P.len (P.delAt y.snd.snd.snd ((-1 : Int)) (P.wrap IntKind.i64 (P.add ((-1 : Int)) (1 : Int)))))) (P.cond (P.room (P.add (P.len (P.delAt y.snd.snd.snd ((-1 : Int)) (P.wrap IntKind.i64 (P.add ((-1 : Int)) (1 : Int))))) (P.len [((P.get x.snd.snd.snd y.fst (((0 : Int), (0 : Int)), [], [])).fst, r)])) 64) (some (Sum.inl (P.wrap IntKind.i64 (P.add y.fst (1 : Int)), y.snd.fst, y.snd.snd.fst, P.insAt (P.delAt y.snd.snd.snd ((-1 : Int)) (P.wrap IntKind.i64 (P.add ((-1 : Int)) (1 : Int)))) ((-1 : Int)) [((P.get x.snd.snd.snd y.fst (((0 : Int), (0 : Int)), [], [])).fst, r)]))) none) none) none) none) (P.bind (object_Copy k (P.get x.snd.snd.snd y.fst (((0 : Int), (0 : Int)), [], [])).snd) fun (r : tO) => P.cond (P.ilt (0 : Int) (P.len [((P.get x.snd.snd.snd y.fst (((0 : Int), (0 : Int)), [], [])).fst, r)])) (P.cond (P.cut (0 : Int) ((-1 : Int)) (P.len y.snd.snd.snd)) (P.cond (P.room (P.add (P.len y.snd.snd.snd) (P.len [((P.get x.snd.snd.snd y.fst (((0 : Int), (0 : Int)), [], [])).fst, r)])) 64) (some (Sum.inl (P.wrap IntKind.i64 (P.add y.fst (1 : Int)), y.snd.fst, y.snd.snd.fst, P.insAt y.snd.snd.snd ((-1 : Int)) [((P.get x.snd.snd.snd y.fst (((0 : Int), (0 : Int)), [], [])).fst, r)]))) none) none) none)) none) (P.bind (object_Copy k (P.get x.snd.snd.snd y.fst (((0 : Int), (0 : Int)), [], [])).snd) fun (r : tO) => P.cond (P.ilt (0 : Int) (P.len [((P.get x.snd.snd.snd y.fst (((0 : Int), (0 : Int)), [], [])).fst, r)])) (P.cond (P.cut (0 : Int) ((-1 : Int)) (P.len y.snd.snd.snd)) (P.cond (P.room (P.add (P.len y.snd.snd.snd) (P.len [((P.get x.snd.snd.snd y.fst (((0 : Int), (0 : Int)), [], [])).fst, r)])) 64) (some (Sum.inl (P.wrap IntKind.i64 (P.add y.fst (1 : Int)), y.snd.fst, y.snd.snd.fst, P.insAt y.snd.snd.snd ((-1 : Int)) [((P.get x.snd.snd.snd y.fst (((0 : Int), (0 : Int)), [], [])).fst, r)]))) none) none) none)) (P.cond (P.ilt (P.len y.snd.snd.snd) (P.len y.snd.snd.snd)) (P.cond (P.inb (P.len y.snd.snd.snd) (P.len y.snd.snd.snd)) (P.cond (P.and (P.ieq (P.get y.snd.snd.snd (P.len y.snd.snd.snd) (((0 : Int), (0 : Int)), [], [])).fst.fst (P.get x.snd.snd.snd y.fst (((0 : Int), (0 : Int)), [], [])).fst.fst) (P.ieq (P.get y.snd.snd.snd (P.len y.snd.snd.snd) (((0 : Int), (0 : Int)), [], [])).fst.snd (P.get x.snd.snd.snd y.fst (((0 : Int), (0 : Int)), [], [])).fst.snd)) (P.cond (P.cut (P.len y.snd.snd.snd) (P.wrap IntKind.i64 (P.add (P.len y.snd.snd.snd) (1 : Int))) (P.len y.snd.snd.snd)) (P.bind (object_Copy k (P.get x.snd.snd.snd y.fst (((0 : Int), (0 : Int)), [], [])).snd) fun (r : tO) => P.cond (P.ilt (0 : Int) (P.len [((P.get x.snd.snd.snd y.fst (((0 : Int), (0 : Int)), [], [])).fst, r)])) (P.cond (P.cut (0 : Int) (P.len y.snd.snd.snd) (P.len (P.delAt y.snd.snd.snd (P.len y.snd.snd.snd) (P.wrap IntKind.i64 (P.add (P.len y.snd.snd.snd) (1 : Int)))))) (P.cond (P.room (P.add (P.len (P.delAt y.snd.snd.snd (P.len y.snd.snd.snd) (P.wrap IntKind.i64 (P.add (P.len y.snd.snd.snd) (1 : Int))))) (P.len [((P.get x.snd.snd.snd y.fst (((0 : Int), (0 : Int)), [], [])).fst, r)])) 64) (some (Sum.inl (P.wrap IntKind.i64 (P.add y.fst (1 : Int)), y.snd.fst, y.snd.snd.fst, P.insAt (P.delAt y.snd.snd.snd (P.len y.snd.snd.snd) (P.wrap IntKind.i64 (P.add (P.len y.snd.snd.snd) (1 : Int)))) (P.len y.snd.snd.snd) [((P.get x.snd.snd.snd y.fst (((0 : Int), (0 : Int)), [], [])).fst, r)]))) none) none) none) none) (P.bind (object_Copy k (P.get x.snd.snd.snd y.fst (((0 : Int), (0 : Int)), [], [])).snd) fun (r : tO) => P.cond (P.ilt (0 : Int) (P.len [((P.get x.snd.snd.snd y.fst (((0 : Int), (0 : Int)), [], [])).fst, r)])) (P.cond (P.cut (0 : Int) (P.len y.snd.snd.snd) (P.len y.snd.snd.snd)) (P.cond (P.room (P.add (P.len y.snd.snd.snd) (P.len [((P.get x.snd.snd.snd y.fst (((0 : Int), (0 : Int)), [], [])).fst, r)])) 64) (some (Sum.inl (P.wrap IntKind.i64 (P.add y.fst (1 : Int)), y.snd.fst, y.snd.snd.fst, P.insAt y.snd.snd.snd (P.len y.snd.snd.snd) [((P.get x.snd.snd.snd y.fst (((0 : Int), (0 : Int)), [], [])).fst, r)]))) none) none) none)) none) (P.bind (object_Copy k (P.get x.snd.snd.snd y.fst (((0 : Int), (0 : Int)), [], [])).snd) fun (r : tO) => P.cond (P.ilt (0 : Int) (P.len [((P.get x.snd.snd.snd y.fst (((0 : Int), (0 : Int)), [], [])).fst, r)])) (P.cond (P.cut (0 : Int) (P.len y.snd.snd.snd) (P.len y.snd.snd.snd)) (P.cond (P.room (P.add (P.len y.snd.snd.snd) (P.len [((P.get x.snd.snd.snd y.fst (((0 : Int), (0 : Int)), [], [])).fst, r)])) 64) (some (Sum.inl (P.wrap IntKind.i64 (P.add y.fst (1 : Int)), y.snd.fst, y.snd.snd.fst, P.insAt y.snd.snd.snd (P.len y.snd.snd.snd) [((P.get x.snd.snd.snd y.fst (((0 : Int), (0 : Int)), [], [])).fst, r)]))) none) none) none))) fun (r : Int × tS ⊕ tS ⊕ tS) => some r))) none) (some (Sum.inr (Sum.inl (y.snd.fst, y.snd.snd.fst, y.snd.snd.snd))))) ((0 : Int), z.fst, z.snd.fst, z.snd.snd)) (P.either (fun (z : tS) => some (z.fst, z.snd.fst, z.snd.snd)) fun (r : tS) => some r)) fun (r : tS) => some r)) fun (r : tS) => some r)) fun (r : tS) => some r)))))
theorem state_Join_eq (k : Nat) (x : _) : evFn (EN k [(11, ⟨(.pair Ust Uat), (.pair Ush .bool), state_Loc k⟩), (13, ⟨Ust, .bool, state_May k⟩), (16, ⟨(.pair Ust .str), (.slice Uat), state_Var k⟩), (38, ⟨Ush, Ush, object_Copy k⟩), (42, ⟨(.pair Uat Uat), (.int .i64), atoms_Compare k⟩), (46, ⟨(.slice Uat), (.slice Uat), slCloneAtom k⟩), (52, ⟨(.slice (.slice Ubd)), (.slice Ubd), slConcatBind k⟩), (54, ⟨(.pair (.slice Uat) (.slice Uat)), (.slice Uat), atoms_Union k⟩), (55, ⟨(.pair Ush Ush), Ush, object_Join k⟩), (67, ⟨(.slice Uat), (.slice Uat), atoms_Norm k⟩)]) 6 Tryz.f22 [(9, ⟨[.var 42 (.d (.int .i64)), .box 5 [] (.s (.p (.d .bool) (.p (.o Ubd) (.o Ulc))))], [], (some (1, [.box 5 [] (.s (.p (.d .bool) (.p (.o Ubd) (.o Ulc))))]))⟩), (14, ⟨[.var 63 (.d (.int .i64)), .box 5 [] (.s (.p (.d .bool) (.p (.o Ubd) (.o Ulc))))], [], (some (3, [.box 5 [] (.s (.p (.d .bool) (.p (.o Ubd) (.o Ulc))))]))⟩)] (.pair Ust Ust) Ust x = state_Join k x := by kernel_rfl
theorem state_Join_spec (k : Nat) : SpecOk Tryz.prog GG 22 ⟨(.pair Ust Ust), Ust, state_Join k⟩ :=
 fn_spec (envE (.cons (state_Loc_spec k) Tryz.func11 f11_ok <| .cons (state_May_spec k) Tryz.func13 f13_ok <| .cons (state_Var_spec k) Tryz.func16 f16_ok <| .cons (object_Copy_spec k) Tryz.func38 f38_ok <| .cons (atoms_Compare_spec k) Tryz.func42 f42_ok <| .cons (slCloneAtom_spec k) Tryz.func46 f46_ok <| .cons (slConcatBind_spec k) Tryz.func52 f52_ok <| .cons (atoms_Union_spec k) Tryz.func54 f54_ok <| .cons (object_Join_spec k) Tryz.func55 f55_ok <| .cons (atoms_Norm_spec k) Tryz.func67 f67_ok <| .nil)) Tryz.func22 (fun x => (state_Join_eq k x).symm)
noncomputable def slIndexAtom : (k : Nat) → (Ty.D (.pair (.slice Uat) Uat)) → Option (Ty.D (.int .i64)) := fun (k : Nat) (x : (Uat.slice.pair Uat).D) => P.bind (P.iter k (fun (y : Int) => P.cond (P.ilt y (P.len x.fst)) (P.cond (P.inb y (P.len x.fst)) (P.cond (P.and (P.ieq x.snd.fst (P.get x.fst y ((0 : Int), (0 : Int))).fst) (P.ieq x.snd.snd (P.get x.fst y ((0 : Int), (0 : Int))).snd)) (some (Sum.inr (Sum.inr y))) (some (Sum.inl (P.wrap IntKind.i64 (P.add y (1 : Int)))))) none) (some (Sum.inr (Sum.inl PUnit.unit)))) (0 : Int)) (P.either (fun (z : PUnit) => some ((-1 : Int))) fun (r : Int) => some r)
theorem slIndexAtom_eq (k : Nat) (x : _) : evFn (EN k []) 6 Tryz.f128 [(2, ⟨[.var 8 (.d (.int .i64))], [], (some (0, []))⟩)] (.pair (.slice Uat) Uat) (.int .i64) x = slIndexAtom k x := by kernel_rfl
theorem slIndexAtom_spec (k : Nat) : SpecOk Tryz.prog GG 128 ⟨(.pair (.slice Uat) Uat), (.int .i64), slIndexAtom k⟩ :=
 fn_spec (envE .nil) Tryz.func128 (fun x => (slIndexAtom_eq k x).symm)
noncomputable def slContainsAtom : (k : Nat) → (Ty.D (.pair (.slice Uat) Uat)) → Option (Ty.D .bool) := fun (k : Nat) (x : (Uat.slice.pair Uat).D) => P.bind (slIndexAtom k (x.fst, x.snd)) fun (r : Int) => some (P.ile (0 : Int) r)
theorem slContainsAtom_eq (k : Nat) (x : _) : evFn (EN k [(128, ⟨(.pair (.slice Uat) Uat), (.int .i64), slIndexAtom k⟩)]) 6 Tryz.f117 [] (.pair (.slice Uat) Uat) .bool x = slContainsAtom k x := by kernel_rfl
theorem slContainsAtom_spec (k : Nat) : SpecOk Tryz.prog GG 117 ⟨(.pair (.slice Uat) Uat), .bool, slContainsAtom k⟩ :=
 fn_spec (envE (.cons (slIndexAtom_spec k) Tryz.func128 f128_ok <| .nil)) Tryz.func117 (fun x => (slContainsAtom_eq k x).symm)
noncomputable def atoms_Has : (k : Nat) → (Ty.D (.pair (.slice Uat) Uat)) → Option (Ty.D .bool) := fun (k : Nat) (x : (Uat.slice.pair Uat).D) => P.bind (slContainsAtom k (x.fst, x.snd)) fun (r : Bool) => some r
theorem atoms_Has_eq (k : Nat) (x : _) : evFn (EN k [(117, ⟨(.pair (.slice Uat) Uat), .bool, slContainsAtom k⟩)]) 6 Tryz.f91 [] (.pair (.slice Uat) Uat) .bool x = atoms_Has k x := by kernel_rfl
theorem atoms_Has_spec (k : Nat) : SpecOk Tryz.prog GG 91 ⟨(.pair (.slice Uat) Uat), .bool, atoms_Has k⟩ :=
 fn_spec (envE (.cons (slContainsAtom_spec k) Tryz.func117 f117_ok <| .nil)) Tryz.func91 (fun x => (atoms_Has_eq k x).symm)
noncomputable def atoms_Within : (k : Nat) → (Ty.D (.pair (.slice Uat) (.slice Uat))) → Option (Ty.D .bool) := fun (k : Nat) (x : (Uat.slice.pair Uat.slice).D) => P.bind (P.iter k (fun (y : Int) => P.cond (P.ilt y (P.len x.fst)) (P.cond (P.inb y (P.len x.fst)) (P.bind (atoms_Has k (x.snd, P.get x.fst y ((0 : Int), (0 : Int)))) fun (r : Bool) => P.cond (P.not r) (some (Sum.inr (Sum.inr false))) (some (Sum.inl (P.wrap IntKind.i64 (P.add y (1 : Int)))))) none) (some (Sum.inr (Sum.inl PUnit.unit)))) (0 : Int)) (P.either (fun (z : PUnit) => some true) fun (r : Bool) => some r)
theorem atoms_Within_eq (k : Nat) (x : _) : evFn (EN k [(91, ⟨(.pair (.slice Uat) Uat), .bool, atoms_Has k⟩)]) 6 Tryz.f58 [(2, ⟨[.var 9 (.d (.int .i64))], [], (some (0, []))⟩)] (.pair (.slice Uat) (.slice Uat)) .bool x = atoms_Within k x := by kernel_rfl
theorem atoms_Within_spec (k : Nat) : SpecOk Tryz.prog GG 58 ⟨(.pair (.slice Uat) (.slice Uat)), .bool, atoms_Within k⟩ :=
 fn_spec (envE (.cons (atoms_Has_spec k) Tryz.func91 f91_ok <| .nil)) Tryz.func58 (fun x => (atoms_Within_eq k x).symm)
noncomputable def object_Within : (k : Nat) → (Ty.D (.pair Ush Ush)) → Option (Ty.D .bool) := fun (k : Nat) (x : (Ush.pair Ush).D) => P.bind (object_May k x.fst) fun (r : Bool) => P.cond (P.not r) (some false) (P.bind (object_May k x.snd) fun (r : Bool) => P.cond (P.not r) (some false) (P.bind (atoms_Within k (x.fst.snd, x.snd.snd)) fun (r : Bool) => P.cond (P.not r) (some false) (P.bind (P.iter k (fun (y : Int) => P.cond (P.ilt y (P.len x.fst.fst)) (P.cond (P.inb y (P.len x.fst.fst)) (P.bind (object_find k (x.snd.fst, (P.get x.fst.fst y ((ByteArray.mk #[]), false, [])).fst)) fun (r : Int × Bool) => P.cond (P.not r.snd) (some (Sum.inr (Sum.inr false))) (P.cond (P.inb r.fst (P.len x.snd.fst)) (P.bind (atoms_Within k ((P.get x.fst.fst y ((ByteArray.mk #[]), false, [])).snd.snd, (P.get x.snd.fst r.fst ((ByteArray.mk #[]), false, [])).snd.snd)) fun (r_1 : Bool) => P.cond (P.not r_1) (some (Sum.inr (Sum.inr false))) (P.cond (P.inb r.fst (P.len x.snd.fst)) (P.cond (P.get x.snd.fst r.fst ((ByteArray.mk #[]), false, [])).snd.fst (P.cond (P.not (P.get x.fst.fst y ((ByteArray.mk #[]), false, [])).snd.fst) (some (Sum.inr (Sum.inr false))) (some (Sum.inl (P.wrap IntKind.i64 (P.add y (1 : Int)))))) (some (Sum.inl (P.wrap IntKind.i64 (P.add y (1 : Int)))))) none)) none)) none) (some (Sum.inr (Sum.inl PUnit.unit)))) (0 : Int)) (P.either (fun (z : PUnit) => P.bind (P.iter k (fun (y : Int) => P.cond (P.ilt y (P.len x.snd.fst)) (P.cond (P.inb y (P.len x.snd.fst)) (P.bind (object_find k (x.fst.fst, (P.get x.snd.fst y ((ByteArray.mk #[]), false, [])).fst)) fun (r : Int × Bool) => P.cond (P.get x.snd.fst y ((ByteArray.mk #[]), false, [])).snd.fst (P.cond (P.not r.snd) (some (Sum.inr (Sum.inr (P.not (P.ile (0 : Int) y))))) (some (Sum.inl (P.wrap IntKind.i64 (P.add y (1 : Int)))))) (some (Sum.inl (P.wrap IntKind.i64 (P.add y (1 : Int)))))) none) (some (Sum.inr (Sum.inl PUnit.unit)))) (0 : Int)) (P.either (fun (z : PUnit) => some (P.not (P.ile (0 : Int) ((-1 : Int))))) fun (r : Bool) => some r)) fun (r : Bool) => some r))))
theorem object_Within_eq (k : Nat) (x : _) : evFn (EN k [(41, ⟨Ush, .bool, object_May k⟩), (58, ⟨(.pair (.slice Uat) (.slice Uat)), .bool, atoms_Within k⟩), (82, ⟨(.pair (.slice Ufd) .str), (.pair (.int .i64) .bool), object_find k⟩)]) 6 Tryz.f59 [(4, ⟨[.var 28 (.d (.int .i64))], [], (some (0, []))⟩)] (.pair Ush Ush) .bool x = object_Within k x := by kernel_rfl
theorem object_Within_spec (k : Nat) : SpecOk Tryz.prog GG 59 ⟨(.pair Ush Ush), .bool, object_Within k⟩ :=
 fn_spec (envE (.cons (object_May_spec k) Tryz.func41 f41_ok <| .cons (atoms_Within_spec k) Tryz.func58 f58_ok <| .cons (object_find_spec k) Tryz.func82 f82_ok <| .nil)) Tryz.func59 (fun x => (object_Within_eq k x).symm)
noncomputable def state_Within : (k : Nat) → (Ty.D (.pair Ust Ust)) → Option (Ty.D .bool) := fun (k : Nat) (x : (Ust.pair Ust).D) => P.bind (state_May k x.fst) fun (r : Bool) => P.cond (P.not r) (some false) (P.bind (state_May k x.snd) fun (r : Bool) => P.cond (P.not r) (some false) (P.cond x.fst.fst (some x.fst.fst) (P.cond x.snd.fst (some x.fst.fst) (P.bind (slConcatBind k [x.fst.snd.fst, x.snd.snd.fst]) fun (r : tB) => P.bind (P.iter k (fun (y : Int) => P.cond (P.ilt y (P.len r)) (P.cond (P.inb y (P.len r)) (P.bind (state_Var k (x.fst, (P.get r y ((ByteArray.mk #[]), [])).fst)) fun (r_1 : tA) => P.bind (state_Var k (x.snd, (P.get r y ((ByteArray.mk #[]), [])).fst)) fun (r : tA) => P.bind (atoms_Within k (r_1, r)) fun (r : Bool) => P.cond (P.not r) (some (Sum.inr (Sum.inr false))) (some (Sum.inl (P.wrap IntKind.i64 (P.add y (1 : Int)))))) none) (some (Sum.inr (Sum.inl PUnit.unit)))) (0 : Int)) (P.either (fun (z : PUnit) => P.bind (P.iter k (fun (y : Int) => P.cond (P.ilt y (P.len x.fst.snd.snd)) (P.cond (P.inb y (P.len x.fst.snd.snd)) (P.bind (state_Loc k (x.snd, (P.get x.fst.snd.snd y (((0 : Int), (0 : Int)), [], [])).fst)) fun (r : (tO) × Bool) => P.cond (P.not r.snd) (some (Sum.inr (Sum.inr false))) (P.bind (object_Within k ((P.get x.fst.snd.snd y (((0 : Int), (0 : Int)), [], [])).snd, r.fst)) fun (r : Bool) => P.cond (P.not r) (some (Sum.inr (Sum.inr false))) (some (Sum.inl (P.wrap IntKind.i64 (P.add y (1 : Int))))))) none) (some (Sum.inr (Sum.inl PUnit.unit)))) (0 : Int)) (P.either (fun (z : PUnit) => some true) fun (r : Bool) => some r)) fun (r : Bool) => some r)))))
theorem state_Within_eq (k : Nat) (x : _) : evFn (EN k [(11, ⟨(.pair Ust Uat), (.pair Ush .bool), state_Loc k⟩), (13, ⟨Ust, .bool, state_May k⟩), (16, ⟨(.pair Ust .str), (.slice Uat), state_Var k⟩), (52, ⟨(.slice (.slice Ubd)), (.slice Ubd), slConcatBind k⟩), (58, ⟨(.pair (.slice Uat) (.slice Uat)), .bool, atoms_Within k⟩), (59, ⟨(.pair Ush Ush), .bool, object_Within k⟩)]) 6 Tryz.f24 [(6, ⟨[.var 34 (.d (.int .i64))], [], (some (0, []))⟩), (12, ⟨[.var 52 (.d (.int .i64))], [], (some (2, []))⟩)] (.pair Ust Ust) .bool x = state_Within k x := by kernel_rfl
theorem state_Within_spec (k : Nat) : SpecOk Tryz.prog GG 24 ⟨(.pair Ust Ust), .bool, state_Within k⟩ :=
 fn_spec (envE (.cons (state_Loc_spec k) Tryz.func11 f11_ok <| .cons (state_May_spec k) Tryz.func13 f13_ok <| .cons (state_Var_spec k) Tryz.func16 f16_ok <| .cons (slConcatBind_spec k) Tryz.func52 f52_ok <| .cons (atoms_Within_spec k) Tryz.func58 f58_ok <| .cons (object_Within_spec k) Tryz.func59 f59_ok <| .nil)) Tryz.func24 (fun x => (state_Within_eq k x).symm)
noncomputable def state_Set : (k : Nat) → (Ty.D (.pair Ust (.pair .str (.slice Uat)))) → Option (Ty.D Ust) := fun (k : Nat) (x : (Ust.pair (Ty.str.pair Uat.slice)).D) => P.bind (state_May k x.fst) fun (r : Bool) => P.cond (P.not r) (some (false, [], [])) (P.cond x.fst.fst (some (true, [], [])) (P.bind (P.iter k (fun (y : Int × tS) => P.cond (P.ilt y.fst (P.len x.fst.snd.fst)) (P.cond (P.inb y.fst (P.len x.fst.snd.fst)) (P.bind (slCloneAtom k (P.get x.fst.snd.fst y.fst ((ByteArray.mk #[]), [])).snd) fun (r : tA) => P.cond (P.room (P.add (P.len y.snd.snd.fst) (P.len [((P.get x.fst.snd.fst y.fst ((ByteArray.mk #[]), [])).fst, r)])) 40) (some (Sum.inl (P.wrap IntKind.i64 (P.add y.fst (1 : Int)), y.snd.fst, P.app y.snd.snd.fst [((P.get x.fst.snd.fst y.fst ((ByteArray.mk #[]), [])).fst, r)], y.snd.snd.snd))) none) none) (some (Sum.inr (Sum.inl (y.snd.fst, y.snd.snd.fst, y.snd.snd.snd))))) ((0 : Int), x.fst.fst, [], [])) (P.either (fun (z : tS) => P.bind (P.iter k (fun (y : Int × tS) => P.cond (P.ilt y.fst (P.len x.fst.snd.snd)) (P.cond (P.inb y.fst (P.len x.fst.snd.snd)) (P.bind (object_Copy k (P.get x.fst.snd.snd y.fst (((0 : Int), (0 : Int)), [], [])).snd) fun (r : tO) => P.cond (P.room (P.add (P.len y.snd.snd.snd) (P.len [((P.get x.fst.snd.snd y.fst (((0 : Int), (0 : Int)), [], [])).fst, r)])) 64) (some (Sum.inl (P.wrap IntKind.i64 (P.add y.fst (1 : Int)), y.snd.fst, y.snd.snd.fst, P.app y.snd.snd.snd [((P.get x.fst.snd.snd y.fst (((0 : Int), (0 : Int)), [], [])).fst, r)]))) none) none) (some (Sum.inr (Sum.inl (y.snd.fst, y.snd.snd.fst, y.snd.snd.snd))))) ((0 : Int), z.fst, z.snd.fst, z.snd.snd)) (P.either (fun (z : tS) => P.bind (P.iter k (fun (y : Int) => P.cond (P.ilt y (P.len z.snd.fst)) (P.cond (P.inb y (P.len z.snd.fst)) (P.cond (P.not (P.slt (P.get z.snd.fst y ((ByteArray.mk #[]), [])).fst x.snd.fst)) (P.map (fun (r : tS) => Sum.inr (Sum.inr r)) (P.cond (P.ile (0 : Int) y) (P.cond (P.ilt y (P.len z.snd.fst)) (P.cond (P.inb y (P.len z.snd.fst)) (P.cond (P.seq (P.get z.snd.fst y ((ByteArray.mk #[]), [])).fst x.snd.fst) (P.cond (P.cut y (P.wrap IntKind.i64 (P.add y (1 : Int))) (P.len z.snd.fst)) (P.bind (atoms_Norm k x.snd.snd) fun (r : tA) => P.cond (P.ilt (0 : Int) (P.len [(x.snd.fst, r)])) (P.cond (P.cut (0 : Int) y (P.len (P.delAt z.snd.fst y (P.wrap IntKind.i64 (P.add y (1 : Int)))))) (P.cond (P.room (P.add (P.len (P.delAt z.snd.fst y (P.wrap IntKind.i64 (P.add y (1 : Int))))) (P.len [(x.snd.fst, r)])) 40) (some (z.fst, P.insAt (P.delAt z.snd.fst y (P.wrap IntKind.i64 (P.add y (1 : Int)))) y [(x.snd.fst, r)], z.snd.snd)) none) none) none) none) (P.bind (atoms_Norm k x.snd.snd) fun (r : tA) => P.cond (P.ilt (0 : Int) (P.len [(x.snd.fst, r)])) (P.cond (P.cut (0 : Int) y (P.len z.snd.fst)) (P.cond (P.room (P.add (P.len z.snd.fst) (P.len [(x.snd.fst, r)])) 40) (some (z.fst, P.insAt z.snd.fst y [(x.snd.fst, r)], z.snd.snd)) none) none) none)) none) (P.bind (atoms_Norm k x.snd.snd) fun (r : tA) => P.cond (P.ilt (0 : Int) (P.len [(x.snd.fst, r)])) (P.cond (P.cut (0 : Int) y (P.len z.snd.fst)) (P.cond (P.room (P.add (P.len z.snd.fst) (P.len [(x.snd.fst, r)])) 40) (some (z.fst, P.insAt z.snd.fst y [(x.snd.fst, r)], z.snd.snd)) none) none) none)) (P.cond (P.ilt (P.len z.snd.fst) (P.len z.snd.fst)) (P.cond (P.inb (P.len z.snd.fst) (P.len z.snd.fst)) (P.cond (P.seq (P.get z.snd.fst (P.len z.snd.fst) ((ByteArray.mk #[]), [])).fst x.snd.fst) (P.cond (P.cut (P.len z.snd.fst) (P.wrap IntKind.i64 (P.add (P.len z.snd.fst) (1 : Int))) (P.len z.snd.fst)) (P.bind (atoms_Norm k x.snd.snd) fun (r : tA) => P.cond (P.ilt (0 : Int) (P.len [(x.snd.fst, r)])) (P.cond (P.cut (0 : Int) (P.len z.snd.fst) (P.len (P.delAt z.snd.fst (P.len z.snd.fst) (P.wrap IntKind.i64 (P.add (P.len z.snd.fst) (1 : Int)))))) (P.cond (P.room (P.add (P.len (P.delAt z.snd.fst (P.len z.snd.fst) (P.wrap IntKind.i64 (P.add (P.len z.snd.fst) (1 : Int))))) (P.len [(x.snd.fst, r)])) 40) (some (z.fst, P.insAt (P.delAt z.snd.fst (P.len z.snd.fst) (P.wrap IntKind.i64 (P.add (P.len z.snd.fst) (1 : Int)))) (P.len z.snd.fst) [(x.snd.fst, r)], z.snd.snd)) none) none) none) none) (P.bind (atoms_Norm k x.snd.snd) fun (r : tA) => P.cond (P.ilt (0 : Int) (P.len [(x.snd.fst, r)])) (P.cond (P.cut (0 : Int) (P.len z.snd.fst) (P.len z.snd.fst)) (P.cond (P.room (P.add (P.len z.snd.fst) (P.len [(x.snd.fst, r)])) 40) (some (z.fst, P.insAt z.snd.fst (P.len z.snd.fst) [(x.snd.fst, r)], z.snd.snd)) none) none) none)) none) (P.bind (atoms_Norm k x.snd.snd) fun (r : tA) => P.cond (P.ilt (0 : Int) (P.len [(x.snd.fst, r)])) (P.cond (P.cut (0 : Int) (P.len z.snd.fst) (P.len z.snd.fst)) (P.cond (P.room (P.add (P.len z.snd.fst) (P.len [(x.snd.fst, r)])) 40) (some (z.fst, P.insAt z.snd.fst (P.len z.snd.fst) [(x.snd.fst, r)], z.snd.snd)) none) none) none)))) (some (Sum.inl (P.wrap IntKind.i64 (P.add y (1 : Int)))))) none) (some (Sum.inr (Sum.inl PUnit.unit)))) (0 : Int)) (P.either (fun (z_1 : PUnit) => P.cond (P.ile (0 : Int) ((-1 : Int))) (P.cond (P.ilt ((-1 : Int)) (P.len z.snd.fst)) (P.cond (P.inb ((-1 : Int)) (P.len z.snd.fst)) (P.cond (P.seq (P.get z.snd.fst ((-1 : Int)) ((ByteArray.mk #[]), [])).fst x.snd.fst) (P.cond (P.cut ((-1 : Int)) (P.wrap IntKind.i64 (P.add ((-1 : Int)) (1 : Int))) (P.len z.snd.fst)) (P.bind (atoms_Norm k x.snd.snd) fun (r : tA) => P.cond (P.ilt (0 : Int) (P.len [(x.snd.fst, r)])) (P.cond (P.cut (0 : Int) ((-1 : Int)) (P.len (P.delAt z.snd.fst ((-1 : Int)) (P.wrap IntKind.i64 (P.add ((-1 : Int)) (1 : Int)))))) (P.cond (P.room (P.add (P.len (P.delAt z.snd.fst ((-1 : Int)) (P.wrap IntKind.i64 (P.add ((-1 : Int)) (1 : Int))))) (P.len [(x.snd.fst, r)])) 40) (some (z.fst, P.insAt (P.delAt z.snd.fst ((-1 : Int)) (P.wrap IntKind.i64 (P.add ((-1 : Int)) (1 : Int)))) ((-1 : Int)) [(x.snd.fst, r)], z.snd.snd)) none) none) none) none) (P.bind (atoms_Norm k x.snd.snd) fun (r : tA) => P.cond (P.ilt (0 : Int) (P.len [(x.snd.fst, r)])) (P.cond (P.cut (0 : Int) ((-1 : Int)) (P.len z.snd.fst)) (P.cond (P.room (P.add (P.len z.snd.fst) (P.len [(x.snd.fst, r)])) 40) (some (z.fst, P.insAt z.snd.fst ((-1 : Int)) [(x.snd.fst, r)], z.snd.snd)) none) none) none)) none) (P.bind (atoms_Norm k x.snd.snd) fun (r : tA) => P.cond (P.ilt (0 : Int) (P.len [(x.snd.fst, r)])) (P.cond (P.cut (0 : Int) ((-1 : Int)) (P.len z.snd.fst)) (P.cond (P.room (P.add (P.len z.snd.fst) (P.len [(x.snd.fst, r)])) 40) (some (z.fst, P.insAt z.snd.fst ((-1 : Int)) [(x.snd.fst, r)], z.snd.snd)) none) none) none)) (P.cond (P.ilt (P.len z.snd.fst) (P.len z.snd.fst)) (P.cond (P.inb (P.len z.snd.fst) (P.len z.snd.fst)) (P.cond (P.seq (P.get z.snd.fst (P.len z.snd.fst) ((ByteArray.mk #[]), [])).fst x.snd.fst) (P.cond (P.cut (P.len z.snd.fst) (P.wrap IntKind.i64 (P.add (P.len z.snd.fst) (1 : Int))) (P.len z.snd.fst)) (P.bind (atoms_Norm k x.snd.snd) fun (r : tA) => P.cond (P.ilt (0 : Int) (P.len [(x.snd.fst, r)])) (P.cond (P.cut (0 : Int) (P.len z.snd.fst) (P.len (P.delAt z.snd.fst (P.len z.snd.fst) (P.wrap IntKind.i64 (P.add (P.len z.snd.fst) (1 : Int)))))) (P.cond (P.room (P.add (P.len (P.delAt z.snd.fst (P.len z.snd.fst) (P.wrap IntKind.i64 (P.add (P.len z.snd.fst) (1 : Int))))) (P.len [(x.snd.fst, r)])) 40) (some (z.fst, P.insAt (P.delAt z.snd.fst (P.len z.snd.fst) (P.wrap IntKind.i64 (P.add (P.len z.snd.fst) (1 : Int)))) (P.len z.snd.fst) [(x.snd.fst, r)], z.snd.snd)) none) none) none) none) (P.bind (atoms_Norm k x.snd.snd) fun (r : tA) => P.cond (P.ilt (0 : Int) (P.len [(x.snd.fst, r)])) (P.cond (P.cut (0 : Int) (P.len z.snd.fst) (P.len z.snd.fst)) (P.cond (P.room (P.add (P.len z.snd.fst) (P.len [(x.snd.fst, r)])) 40) (some (z.fst, P.insAt z.snd.fst (P.len z.snd.fst) [(x.snd.fst, r)], z.snd.snd)) none) none) none)) none) (P.bind (atoms_Norm k x.snd.snd) fun (r : tA) => P.cond (P.ilt (0 : Int) (P.len [(x.snd.fst, r)])) (P.cond (P.cut (0 : Int) (P.len z.snd.fst) (P.len z.snd.fst)) (P.cond (P.room (P.add (P.len z.snd.fst) (P.len [(x.snd.fst, r)])) 40) (some (z.fst, P.insAt z.snd.fst (P.len z.snd.fst) [(x.snd.fst, r)], z.snd.snd)) none) none) none))) fun (r : tS) => some r)) fun (r : tS) => some r)) fun (r : tS) => some r)))
theorem state_Set_eq (k : Nat) (x : _) : evFn (EN k [(13, ⟨Ust, .bool, state_May k⟩), (38, ⟨Ush, Ush, object_Copy k⟩), (46, ⟨(.slice Uat), (.slice Uat), slCloneAtom k⟩), (67, ⟨(.slice Uat), (.slice Uat), atoms_Norm k⟩)]) 6 Tryz.f26 [] (.pair Ust (.pair .str (.slice Uat))) Ust x = state_Set k x := by kernel_rfl
theorem state_Set_spec (k : Nat) : SpecOk Tryz.prog GG 26 ⟨(.pair Ust (.pair .str (.slice Uat))), Ust, state_Set k⟩ :=
 fn_spec (envE (.cons (state_May_spec k) Tryz.func13 f13_ok <| .cons (object_Copy_spec k) Tryz.func38 f38_ok <| .cons (slCloneAtom_spec k) Tryz.func46 f46_ok <| .cons (atoms_Norm_spec k) Tryz.func67 f67_ok <| .nil)) Tryz.func26 (fun x => (state_Set_eq k x).symm)
noncomputable def state_Put : (k : Nat) → (Ty.D (.pair Ust (.pair Uat Ush))) → Option (Ty.D Ust) := fun (k : Nat) (x : (Ust.pair (Uat.pair Ush)).D) => P.bind (state_May k x.fst) fun (r : Bool) => P.cond (P.not r) (some (false, [], [])) (P.bind (state_place k x.snd.fst) fun (r : Bool) => P.cond (P.not r) (some (false, [], [])) (P.bind (object_May k x.snd.snd) fun (r : Bool) => P.cond (P.not r) (some (false, [], [])) (P.cond x.fst.fst (some (true, [], [])) (P.bind (P.iter k (fun (y : Int × tS) => P.cond (P.ilt y.fst (P.len x.fst.snd.fst)) (P.cond (P.inb y.fst (P.len x.fst.snd.fst)) (P.bind (slCloneAtom k (P.get x.fst.snd.fst y.fst ((ByteArray.mk #[]), [])).snd) fun (r : tA) => P.cond (P.room (P.add (P.len y.snd.snd.fst) (P.len [((P.get x.fst.snd.fst y.fst ((ByteArray.mk #[]), [])).fst, r)])) 40) (some (Sum.inl (P.wrap IntKind.i64 (P.add y.fst (1 : Int)), y.snd.fst, P.app y.snd.snd.fst [((P.get x.fst.snd.fst y.fst ((ByteArray.mk #[]), [])).fst, r)], y.snd.snd.snd))) none) none) (some (Sum.inr (Sum.inl (y.snd.fst, y.snd.snd.fst, y.snd.snd.snd))))) ((0 : Int), x.fst.fst, [], [])) (P.either (fun (z : tS) => P.bind (P.iter k (fun (y : Int × tS) => P.cond (P.ilt y.fst (P.len x.fst.snd.snd)) (P.cond (P.inb y.fst (P.len x.fst.snd.snd)) (P.bind (object_Copy k (P.get x.fst.snd.snd y.fst (((0 : Int), (0 : Int)), [], [])).snd) fun (r : tO) => P.cond (P.room (P.add (P.len y.snd.snd.snd) (P.len [((P.get x.fst.snd.snd y.fst (((0 : Int), (0 : Int)), [], [])).fst, r)])) 64) (some (Sum.inl (P.wrap IntKind.i64 (P.add y.fst (1 : Int)), y.snd.fst, y.snd.snd.fst, P.app y.snd.snd.snd [((P.get x.fst.snd.snd y.fst (((0 : Int), (0 : Int)), [], [])).fst, r)]))) none) none) (some (Sum.inr (Sum.inl (y.snd.fst, y.snd.snd.fst, y.snd.snd.snd))))) ((0 : Int), z.fst, z.snd.fst, z.snd.snd)) (P.either (fun (z : tS) => P.bind (P.iter k (fun (y : Int) => P.cond (P.ilt y (P.len z.snd.snd)) (P.cond (P.inb y (P.len z.snd.snd)) (P.bind (atoms_Compare k ((P.get z.snd.snd y (((0 : Int), (0 : Int)), [], [])).fst, x.snd.fst)) fun (r : Int) => P.cond (P.ile (0 : Int) r) (P.map (fun (r : tS) => Sum.inr (Sum.inr r)) (P.cond (P.ile (0 : Int) y) (P.cond (P.ilt y (P.len z.snd.snd)) (P.cond (P.inb y (P.len z.snd.snd)) (P.cond (P.and (P.ieq (P.get z.snd.snd y (((0 : Int), (0 : Int)), [], [])).fst.fst x.snd.fst.fst) (P.ieq (P.get z.snd.snd y (((0 : Int), (0 : Int)), [], [])).fst.snd x.snd.fst.snd)) (P.cond (P.cut y (P.wrap IntKind.i64 (P.add y (1 : Int))) (P.len z.snd.snd)) (P.bind (object_Copy k x.snd.snd) fun (r : tO) => P.cond (P.ilt (0 : Int) (P.len [(x.snd.fst, r)])) (P.cond (P.cut (0 : Int) y (P.len (P.delAt z.snd.snd y (P.wrap IntKind.i64 (P.add y (1 : Int)))))) (P.cond (P.room (P.add (P.len (P.delAt z.snd.snd y (P.wrap IntKind.i64 (P.add y (1 : Int))))) (P.len [(x.snd.fst, r)])) 64) (some (z.fst, z.snd.fst, P.insAt (P.delAt z.snd.snd y (P.wrap IntKind.i64 (P.add y (1 : Int)))) y [(x.snd.fst, r)])) none) none) none) none) (P.bind (object_Copy k x.snd.snd) fun (r : tO) => P.cond (P.ilt (0 : Int) (P.len [(x.snd.fst, r)])) (P.cond (P.cut (0 : Int) y (P.len z.snd.snd)) (P.cond (P.room (P.add (P.len z.snd.snd) (P.len [(x.snd.fst, r)])) 64) (some (z.fst, z.snd.fst, P.insAt z.snd.snd y [(x.snd.fst, r)])) none) none) none)) none) (P.bind (object_Copy k x.snd.snd) fun (r : tO) => P.cond (P.ilt (0 : Int) (P.len [(x.snd.fst, r)])) (P.cond (P.cut (0 : Int) y (P.len z.snd.snd)) (P.cond (P.room (P.add (P.len z.snd.snd) (P.len [(x.snd.fst, r)])) 64) (some (z.fst, z.snd.fst, P.insAt z.snd.snd y [(x.snd.fst, r)])) none) none) none)) (P.cond (P.ilt (P.len z.snd.snd) (P.len z.snd.snd)) (P.cond (P.inb (P.len z.snd.snd) (P.len z.snd.snd)) (P.cond (P.and (P.ieq (P.get z.snd.snd (P.len z.snd.snd) (((0 : Int), (0 : Int)), [], [])).fst.fst x.snd.fst.fst) (P.ieq (P.get z.snd.snd (P.len z.snd.snd) (((0 : Int), (0 : Int)), [], [])).fst.snd x.snd.fst.snd)) (P.cond (P.cut (P.len z.snd.snd) (P.wrap IntKind.i64 (P.add (P.len z.snd.snd) (1 : Int))) (P.len z.snd.snd)) (P.bind (object_Copy k x.snd.snd) fun (r : tO) => P.cond (P.ilt (0 : Int) (P.len [(x.snd.fst, r)])) (P.cond (P.cut (0 : Int) (P.len z.snd.snd) (P.len (P.delAt z.snd.snd (P.len z.snd.snd) (P.wrap IntKind.i64 (P.add (P.len z.snd.snd) (1 : Int)))))) (P.cond (P.room (P.add (P.len (P.delAt z.snd.snd (P.len z.snd.snd) (P.wrap IntKind.i64 (P.add (P.len z.snd.snd) (1 : Int))))) (P.len [(x.snd.fst, r)])) 64) (some (z.fst, z.snd.fst, P.insAt (P.delAt z.snd.snd (P.len z.snd.snd) (P.wrap IntKind.i64 (P.add (P.len z.snd.snd) (1 : Int)))) (P.len z.snd.snd) [(x.snd.fst, r)])) none) none) none) none) (P.bind (object_Copy k x.snd.snd) fun (r : tO) => P.cond (P.ilt (0 : Int) (P.len [(x.snd.fst, r)])) (P.cond (P.cut (0 : Int) (P.len z.snd.snd) (P.len z.snd.snd)) (P.cond (P.room (P.add (P.len z.snd.snd) (P.len [(x.snd.fst, r)])) 64) (some (z.fst, z.snd.fst, P.insAt z.snd.snd (P.len z.snd.snd) [(x.snd.fst, r)])) none) none) none)) none) (P.bind (object_Copy k x.snd.snd) fun (r : tO) => P.cond (P.ilt (0 : Int) (P.len [(x.snd.fst, r)])) (P.cond (P.cut (0 : Int) (P.len z.snd.snd) (P.len z.snd.snd)) (P.cond (P.room (P.add (P.len z.snd.snd) (P.len [(x.snd.fst, r)])) 64) (some (z.fst, z.snd.fst, P.insAt z.snd.snd (P.len z.snd.snd) [(x.snd.fst, r)])) none) none) none)))) (some (Sum.inl (P.wrap IntKind.i64 (P.add y (1 : Int)))))) none) (some (Sum.inr (Sum.inl PUnit.unit)))) (0 : Int)) (P.either (fun (z_1 : PUnit) => P.cond (P.ile (0 : Int) ((-1 : Int))) (P.cond (P.ilt ((-1 : Int)) (P.len z.snd.snd)) (P.cond (P.inb ((-1 : Int)) (P.len z.snd.snd)) (P.cond (P.and (P.ieq (P.get z.snd.snd ((-1 : Int)) (((0 : Int), (0 : Int)), [], [])).fst.fst x.snd.fst.fst) (P.ieq (P.get z.snd.snd ((-1 : Int)) (((0 : Int), (0 : Int)), [], [])).fst.snd x.snd.fst.snd)) (P.cond (P.cut ((-1 : Int)) (P.wrap IntKind.i64 (P.add ((-1 : Int)) (1 : Int))) (P.len z.snd.snd)) (P.bind (object_Copy k x.snd.snd) fun (r : tO) => P.cond (P.ilt (0 : Int) (P.len [(x.snd.fst, r)])) (P.cond (P.cut (0 : Int) ((-1 : Int)) (P.len (P.delAt z.snd.snd ((-1 : Int)) (P.wrap IntKind.i64 (P.add ((-1 : Int)) (1 : Int)))))) (P.cond (P.room (P.add (P.len (P.delAt z.snd.snd ((-1 : Int)) (P.wrap IntKind.i64 (P.add ((-1 : Int)) (1 : Int))))) (P.len [(x.snd.fst, r)])) 64) (some (z.fst, z.snd.fst, P.insAt (P.delAt z.snd.snd ((-1 : Int)) (P.wrap IntKind.i64 (P.add ((-1 : Int)) (1 : Int)))) ((-1 : Int)) [(x.snd.fst, r)])) none) none) none) none) (P.bind (object_Copy k x.snd.snd) fun (r : tO) => P.cond (P.ilt (0 : Int) (P.len [(x.snd.fst, r)])) (P.cond (P.cut (0 : Int) ((-1 : Int)) (P.len z.snd.snd)) (P.cond (P.room (P.add (P.len z.snd.snd) (P.len [(x.snd.fst, r)])) 64) (some (z.fst, z.snd.fst, P.insAt z.snd.snd ((-1 : Int)) [(x.snd.fst, r)])) none) none) none)) none) (P.bind (object_Copy k x.snd.snd) fun (r : tO) => P.cond (P.ilt (0 : Int) (P.len [(x.snd.fst, r)])) (P.cond (P.cut (0 : Int) ((-1 : Int)) (P.len z.snd.snd)) (P.cond (P.room (P.add (P.len z.snd.snd) (P.len [(x.snd.fst, r)])) 64) (some (z.fst, z.snd.fst, P.insAt z.snd.snd ((-1 : Int)) [(x.snd.fst, r)])) none) none) none)) (P.cond (P.ilt (P.len z.snd.snd) (P.len z.snd.snd)) (P.cond (P.inb (P.len z.snd.snd) (P.len z.snd.snd)) (P.cond (P.and (P.ieq (P.get z.snd.snd (P.len z.snd.snd) (((0 : Int), (0 : Int)), [], [])).fst.fst x.snd.fst.fst) (P.ieq (P.get z.snd.snd (P.len z.snd.snd) (((0 : Int), (0 : Int)), [], [])).fst.snd x.snd.fst.snd)) (P.cond (P.cut (P.len z.snd.snd) (P.wrap IntKind.i64 (P.add (P.len z.snd.snd) (1 : Int))) (P.len z.snd.snd)) (P.bind (object_Copy k x.snd.snd) fun (r : tO) => P.cond (P.ilt (0 : Int) (P.len [(x.snd.fst, r)])) (P.cond (P.cut (0 : Int) (P.len z.snd.snd) (P.len (P.delAt z.snd.snd (P.len z.snd.snd) (P.wrap IntKind.i64 (P.add (P.len z.snd.snd) (1 : Int)))))) (P.cond (P.room (P.add (P.len (P.delAt z.snd.snd (P.len z.snd.snd) (P.wrap IntKind.i64 (P.add (P.len z.snd.snd) (1 : Int))))) (P.len [(x.snd.fst, r)])) 64) (some (z.fst, z.snd.fst, P.insAt (P.delAt z.snd.snd (P.len z.snd.snd) (P.wrap IntKind.i64 (P.add (P.len z.snd.snd) (1 : Int)))) (P.len z.snd.snd) [(x.snd.fst, r)])) none) none) none) none) (P.bind (object_Copy k x.snd.snd) fun (r : tO) => P.cond (P.ilt (0 : Int) (P.len [(x.snd.fst, r)])) (P.cond (P.cut (0 : Int) (P.len z.snd.snd) (P.len z.snd.snd)) (P.cond (P.room (P.add (P.len z.snd.snd) (P.len [(x.snd.fst, r)])) 64) (some (z.fst, z.snd.fst, P.insAt z.snd.snd (P.len z.snd.snd) [(x.snd.fst, r)])) none) none) none)) none) (P.bind (object_Copy k x.snd.snd) fun (r : tO) => P.cond (P.ilt (0 : Int) (P.len [(x.snd.fst, r)])) (P.cond (P.cut (0 : Int) (P.len z.snd.snd) (P.len z.snd.snd)) (P.cond (P.room (P.add (P.len z.snd.snd) (P.len [(x.snd.fst, r)])) 64) (some (z.fst, z.snd.fst, P.insAt z.snd.snd (P.len z.snd.snd) [(x.snd.fst, r)])) none) none) none))) fun (r : tS) => some r)) fun (r : tS) => some r)) fun (r : tS) => some r)))))
theorem state_Put_eq (k : Nat) (x : _) : evFn (EN k [(13, ⟨Ust, .bool, state_May k⟩), (38, ⟨Ush, Ush, object_Copy k⟩), (40, ⟨Uat, .bool, state_place k⟩), (41, ⟨Ush, .bool, object_May k⟩), (42, ⟨(.pair Uat Uat), (.int .i64), atoms_Compare k⟩), (46, ⟨(.slice Uat), (.slice Uat), slCloneAtom k⟩)]) 6 Tryz.f28 [] (.pair Ust (.pair Uat Ush)) Ust x = state_Put k x := by kernel_rfl
theorem state_Put_spec (k : Nat) : SpecOk Tryz.prog GG 28 ⟨(.pair Ust (.pair Uat Ush)), Ust, state_Put k⟩ :=
 fn_spec (envE (.cons (state_May_spec k) Tryz.func13 f13_ok <| .cons (object_Copy_spec k) Tryz.func38 f38_ok <| .cons (state_place_spec k) Tryz.func40 f40_ok <| .cons (object_May_spec k) Tryz.func41 f41_ok <| .cons (atoms_Compare_spec k) Tryz.func42 f42_ok <| .cons (slCloneAtom_spec k) Tryz.func46 f46_ok <| .nil)) Tryz.func28 (fun x => (state_Put_eq k x).symm)
noncomputable def ref06_Num : (k : Nat) → (Ty.D .unit) → Option (Ty.D (.slice Uat)) := fun (k : Nat) (x : Ty.unit.D) => some [((2 : Int), (0 : Int))]
theorem ref06_Num_eq (k : Nat) (x : _) : evFn (EN k []) 6 Tryz.f34 [] .unit (.slice Uat) x = ref06_Num k x := by kernel_rfl
theorem ref06_Num_spec (k : Nat) : SpecOk Tryz.prog GG 34 ⟨.unit, (.slice Uat), ref06_Num k⟩ :=
 fn_spec (envE .nil) Tryz.func34 (fun x => (ref06_Num_eq k x).symm)
noncomputable def law08_one : (k : Nat) → (Ty.D .unit) → Option (Ty.D Ust) := fun (k : Nat) (x : Ty.unit.D) => P.bind (ref06_Num k PUnit.unit) fun (r : tA) => some (false, [((ByteArray.mk #[120]), r)], [])
noncomputable abbrev EN35 (k : Nat) (sp : List (Nat × Go.PG.Spec)) : Go.PG.Env := { T := T, specs := sp, codes := codes, k := k, inpl := [(99, ⟨Uat, 42, sortF⟩)], ins := [(114, Ufd, 48), (80, Ubd, 40), (79, Ubd, 0), (88, Ulc, 64), (87, Ulc, 0)], calm := [38, 51, 67, 0, 1], blds := [(70, 5)], bw := [(47, 0), (49, 1)] }
theorem law08_one_eq (k : Nat) (x : _) : evFn (EN35 k [(34, ⟨.unit, (.slice Uat), ref06_Num k⟩)]) 6 Tryz.f35 [] .unit Ust x = law08_one k x := by kernel_rfl
theorem law08_one_spec (k : Nat) : SpecOk Tryz.prog GG 35 ⟨.unit, Ust, law08_one k⟩ :=
 fn_spec (envOk (E := EN35 k [(34, ⟨.unit, (.slice Uat), ref06_Num k⟩)]) tabOk (.cons (ref06_Num_spec k) Tryz.func34 f34_ok <| .nil) codesOk mixedOk ggKeep (hi := inplOk) (hj := insOk) (hbl := bldOk) (hbw := bwOk)) Tryz.func35 (fun x => (law08_one_eq k x).symm)
noncomputable def ref06_Null : (k : Nat) → (Ty.D .unit) → Option (Ty.D (.slice Uat)) := fun (k : Nat) (x : Ty.unit.D) => some [((0 : Int), (0 : Int))]
theorem ref06_Null_eq (k : Nat) (x : _) : evFn (EN k []) 6 Tryz.f36 [] .unit (.slice Uat) x = ref06_Null k x := by kernel_rfl
theorem ref06_Null_spec (k : Nat) : SpecOk Tryz.prog GG 36 ⟨.unit, (.slice Uat), ref06_Null k⟩ :=
 fn_spec (envE .nil) Tryz.func36 (fun x => (ref06_Null_eq k x).symm)
noncomputable def law08_fixed : (k : Nat) → (Ty.D .unit) → Option (Ty.D .bool) := fun (k : Nat) (x : Ty.unit.D) => P.bind (law08_one k PUnit.unit) fun (r : tS) => P.bind (state_Join k (r, false, [], [])) fun (r : tS) => P.bind (law08_one k PUnit.unit) fun (r_1 : tS) => P.bind (ref06_Null k PUnit.unit) fun (r_2 : tA) => P.bind (state_Set k (r_1, (ByteArray.mk #[121]), r_2)) fun (r_3 : tS) => P.bind (law08_one k PUnit.unit) fun (r_4 : tS) => P.bind (ref06_Num k PUnit.unit) fun (r_5 : tA) => P.bind (ref06_Null k PUnit.unit) fun (r_6 : tA) => P.bind (state_Put k (r_4, ((4 : Int), (0 : Int)), [((ByteArray.mk #[112]), true, r_5)], r_6)) fun (r_7 : tS) => P.bind (state_Loc k (r_7, (4 : Int), (0 : Int))) fun (r_8 : (tO) × Bool) => P.bind (state_Text k r) fun (r_9 : ByteArray) => P.cond (P.seq r_9 (ByteArray.mk #[120, 58, 32, 110, 117, 108, 108, 32, 110, 117, 109, 10])) (P.bind (state_Text k r_3) fun (r_10 : ByteArray) => P.cond (P.seq r_10 (ByteArray.mk #[120, 58, 32, 110, 117, 109, 10, 121, 58, 32, 110, 117, 108, 108, 10])) (P.bind (state_Text k r_7) fun (r_11 : ByteArray) => P.cond (P.seq r_11 (ByteArray.mk #[120, 58, 32, 110, 117, 109, 10, 114, 101, 99, 48, 58, 32, 112, 33, 40, 110, 117, 109, 41, 32, 112, 114, 111, 116, 111, 32, 40, 110, 117, 108, 108, 41, 10])) (P.cond r_8.snd (P.bind (state_May k r_7) fun (r_12 : Bool) => P.cond r_12 (P.bind (law08_one k PUnit.unit) fun (r_13 : tS) => P.bind (state_Within k (r_13, r)) fun (r_14 : Bool) => P.cond r_14 (P.bind (law08_one k PUnit.unit) fun (r_15 : tS) => P.bind (state_Within k (r, r_15)) fun (r : Bool) => P.cond (P.not r) (P.bind (law08_one k PUnit.unit) fun (r : tS) => P.bind (state_Var k (r, (ByteArray.mk #[122]))) fun (r : tA) => P.bind (ref06_Null k PUnit.unit) fun (r_16 : tA) => P.bind (ref06_Same k (r, r_16)) fun (r : Bool) => P.cond r (P.bind (state_Text k (true, [], [])) fun (r : ByteArray) => some (P.seq r (ByteArray.mk #[100, 101, 97, 100, 10]))) (some false)) (some false)) (some false)) (some false)) (some false)) (some false)) (some false)) (some false)
noncomputable abbrev EN10 (k : Nat) (sp : List (Nat × Go.PG.Spec)) : Go.PG.Env := { T := T, specs := sp, codes := codes, k := k, inpl := [(99, ⟨Uat, 42, sortF⟩)], ins := [(114, Ufd, 48), (80, Ubd, 40), (79, Ubd, 0), (88, Ulc, 64), (87, Ulc, 0)], calm := [38, 51, 67, 0, 1], blds := [(70, 5)], bw := [(47, 0), (49, 1)] }
theorem law08_fixed_eq (k : Nat) (x : _) : evFn (EN10 k [(11, ⟨(.pair Ust Uat), (.pair Ush .bool), state_Loc k⟩), (13, ⟨Ust, .bool, state_May k⟩), (15, ⟨(.pair (.slice Uat) (.slice Uat)), .bool, ref06_Same k⟩), (16, ⟨(.pair Ust .str), (.slice Uat), state_Var k⟩), (19, ⟨Ust, .str, state_Text k⟩), (22, ⟨(.pair Ust Ust), Ust, state_Join k⟩), (24, ⟨(.pair Ust Ust), .bool, state_Within k⟩), (26, ⟨(.pair Ust (.pair .str (.slice Uat))), Ust, state_Set k⟩), (28, ⟨(.pair Ust (.pair Uat Ush)), Ust, state_Put k⟩), (34, ⟨.unit, (.slice Uat), ref06_Num k⟩), (35, ⟨.unit, Ust, law08_one k⟩), (36, ⟨.unit, (.slice Uat), ref06_Null k⟩)]) 6 Tryz.f10 [] .unit .bool x = law08_fixed k x := by kernel_rfl
theorem law08_fixed_spec (k : Nat) : SpecOk Tryz.prog GG 10 ⟨.unit, .bool, law08_fixed k⟩ :=
 fn_spec (envOk (E := EN10 k [(11, ⟨(.pair Ust Uat), (.pair Ush .bool), state_Loc k⟩), (13, ⟨Ust, .bool, state_May k⟩), (15, ⟨(.pair (.slice Uat) (.slice Uat)), .bool, ref06_Same k⟩), (16, ⟨(.pair Ust .str), (.slice Uat), state_Var k⟩), (19, ⟨Ust, .str, state_Text k⟩), (22, ⟨(.pair Ust Ust), Ust, state_Join k⟩), (24, ⟨(.pair Ust Ust), .bool, state_Within k⟩), (26, ⟨(.pair Ust (.pair .str (.slice Uat))), Ust, state_Set k⟩), (28, ⟨(.pair Ust (.pair Uat Ush)), Ust, state_Put k⟩), (34, ⟨.unit, (.slice Uat), ref06_Num k⟩), (35, ⟨.unit, Ust, law08_one k⟩), (36, ⟨.unit, (.slice Uat), ref06_Null k⟩)]) tabOk (.cons (state_Loc_spec k) Tryz.func11 f11_ok <| .cons (state_May_spec k) Tryz.func13 f13_ok <| .cons (ref06_Same_spec k) Tryz.func15 f15_ok <| .cons (state_Var_spec k) Tryz.func16 f16_ok <| .cons (state_Text_spec k) Tryz.func19 f19_ok <| .cons (state_Join_spec k) Tryz.func22 f22_ok <| .cons (state_Within_spec k) Tryz.func24 f24_ok <| .cons (state_Set_spec k) Tryz.func26 f26_ok <| .cons (state_Put_spec k) Tryz.func28 f28_ok <| .cons (ref06_Num_spec k) Tryz.func34 f34_ok <| .cons (law08_one_spec k) Tryz.func35 f35_ok <| .cons (ref06_Null_spec k) Tryz.func36 f36_ok <| .nil) codesOk mixedOk ggKeep (hi := inplOk) (hj := insOk) (hbl := bldOk) (hbw := bwOk)) Tryz.func10 (fun x => (law08_fixed_eq k x).symm)
noncomputable def ref08_Loc : (k : Nat) → (Ty.D (.pair Ust Uat)) → Option (Ty.D (.pair Ush .bool)) := fun (k : Nat) (x : (Ust.pair Uat).D) => P.bind (P.iter k (fun (y : Int) => P.cond (P.ilt y (P.len x.fst.snd.snd)) (P.cond (P.inb y (P.len x.fst.snd.snd)) (P.cond (P.and (P.ieq (P.get x.fst.snd.snd y (((0 : Int), (0 : Int)), [], [])).fst.fst x.snd.fst) (P.ieq (P.get x.fst.snd.snd y (((0 : Int), (0 : Int)), [], [])).fst.snd x.snd.snd)) (P.cond (P.inb y (P.len x.fst.snd.snd)) (some (Sum.inr (Sum.inr ((P.get x.fst.snd.snd y (((0 : Int), (0 : Int)), [], [])).snd, true)))) none) (some (Sum.inl (P.wrap IntKind.i64 (P.add y (1 : Int)))))) none) (some (Sum.inr (Sum.inl PUnit.unit)))) (0 : Int)) (P.either (fun (z : PUnit) => some (([], []), false)) fun (r : (tO) × Bool) => some r)
theorem ref08_Loc_eq (k : Nat) (x : _) : evFn (EN k []) 6 Tryz.f12 [(2, ⟨[.var 6 (.d (.int .i64))], [4], (some (0, []))⟩)] (.pair Ust Uat) (.pair Ush .bool) x = ref08_Loc k x := by kernel_rfl
theorem ref08_Loc_spec (k : Nat) : SpecOk Tryz.prog GG 12 ⟨(.pair Ust Uat), (.pair Ush .bool), ref08_Loc k⟩ :=
 fn_spec (envE .nil) Tryz.func12 (fun x => (ref08_Loc_eq k x).symm)
noncomputable def ref06_Less : (k : Nat) → (Ty.D (.pair Uat Uat)) → Option (Ty.D .bool) := fun (k : Nat) (x : (Uat.pair Uat).D) => P.cond (P.ilt x.fst.fst x.snd.fst) (some true) (P.cond (P.ieq x.fst.fst x.snd.fst) (some (P.ilt x.fst.snd x.snd.snd)) (some false))
theorem ref06_Less_eq (k : Nat) (x : _) : evFn (EN k []) 6 Tryz.f44 [] (.pair Uat Uat) .bool x = ref06_Less k x := by kernel_rfl
theorem ref06_Less_spec (k : Nat) : SpecOk Tryz.prog GG 44 ⟨(.pair Uat Uat), .bool, ref06_Less k⟩ :=
 fn_spec (envE .nil) Tryz.func44 (fun x => (ref06_Less_eq k x).symm)
noncomputable def ref06_Has : (k : Nat) → (Ty.D (.pair (.slice Uat) Uat)) → Option (Ty.D .bool) := fun (k : Nat) (x : (Uat.slice.pair Uat).D) => P.bind (P.iter k (fun (y : Int) => P.cond (P.ilt y (P.len x.fst)) (P.cond (P.inb y (P.len x.fst)) (P.cond (P.and (P.ieq (P.get x.fst y ((0 : Int), (0 : Int))).fst x.snd.fst) (P.ieq (P.get x.fst y ((0 : Int), (0 : Int))).snd x.snd.snd)) (some (Sum.inr (Sum.inr true))) (some (Sum.inl (P.wrap IntKind.i64 (P.add y (1 : Int)))))) none) (some (Sum.inr (Sum.inl PUnit.unit)))) (0 : Int)) (P.either (fun (z : PUnit) => some false) fun (r : Bool) => some r)
theorem ref06_Has_eq (k : Nat) (x : _) : evFn (EN k []) 6 Tryz.f94 [(2, ⟨[.var 5 (.d (.int .i64))], [], (some (0, []))⟩)] (.pair (.slice Uat) Uat) .bool x = ref06_Has k x := by kernel_rfl
theorem ref06_Has_spec (k : Nat) : SpecOk Tryz.prog GG 94 ⟨(.pair (.slice Uat) Uat), .bool, ref06_Has k⟩ :=
 fn_spec (envE .nil) Tryz.func94 (fun x => (ref06_Has_eq k x).symm)
noncomputable def ref06_Right : (k : Nat) → (Ty.D Uat) → Option (Ty.D .bool) := fun (k : Nat) (x : Uat.D) => P.cond (P.ile ((3 : Int)) x.fst) (P.cond (P.ile x.fst ((5 : Int))) (some (P.ile (0 : Int) x.snd)) (P.cond (P.ile (0 : Int) x.fst) (P.cond (P.ile x.fst ((6 : Int))) (some (P.ieq x.snd (0 : Int))) (some false)) (some false))) (P.cond (P.ile (0 : Int) x.fst) (P.cond (P.ile x.fst ((6 : Int))) (some (P.ieq x.snd (0 : Int))) (some false)) (some false))
theorem ref06_Right_eq (k : Nat) (x : _) : evFn (EN k []) 6 Tryz.f95 [] Uat .bool x = ref06_Right k x := by kernel_rfl
theorem ref06_Right_spec (k : Nat) : SpecOk Tryz.prog GG 95 ⟨Uat, .bool, ref06_Right k⟩ :=
 fn_spec (envE .nil) Tryz.func95 (fun x => (ref06_Right_eq k x).symm)
noncomputable def ref06_add : (k : Nat) → (Ty.D (.pair (.slice Uat) Uat)) → Option (Ty.D (.slice Uat)) := fun (k : Nat) (x : (Uat.slice.pair Uat).D) => P.bind (ref06_Right k x.snd) fun (r : Bool) => P.cond (P.not r) (some x.fst) (P.bind (ref06_Has k (x.fst, x.snd)) fun (r : Bool) => P.cond r (some x.fst) (P.bind (P.iter k (fun (y : tA × Bool × Int) => P.cond (P.ilt y.snd.snd (P.len x.fst)) (P.cond (P.not y.snd.fst) (P.cond (P.inb y.snd.snd (P.len x.fst)) (P.bind (ref06_Less k (x.snd, P.get x.fst y.snd.snd ((0 : Int), (0 : Int)))) fun (r : Bool) => P.cond r (P.cond (P.room (P.add (P.len y.fst) (P.len [x.snd])) 16) (P.cond (P.inb y.snd.snd (P.len x.fst)) (P.cond (P.room (P.add (P.len (P.app y.fst [x.snd])) (P.len [P.get x.fst y.snd.snd ((0 : Int), (0 : Int))])) 16) (some (Sum.inl (P.app (P.app y.fst [x.snd]) [P.get x.fst y.snd.snd ((0 : Int), (0 : Int))], true, P.wrap IntKind.i64 (P.add y.snd.snd (1 : Int))))) none) none) none) (P.cond (P.inb y.snd.snd (P.len x.fst)) (P.cond (P.room (P.add (P.len y.fst) (P.len [P.get x.fst y.snd.snd ((0 : Int), (0 : Int))])) 16) (some (Sum.inl (P.app y.fst [P.get x.fst y.snd.snd ((0 : Int), (0 : Int))], y.snd.fst, P.wrap IntKind.i64 (P.add y.snd.snd (1 : Int))))) none) none)) none) (P.cond (P.inb y.snd.snd (P.len x.fst)) (P.cond (P.room (P.add (P.len y.fst) (P.len [P.get x.fst y.snd.snd ((0 : Int), (0 : Int))])) 16) (some (Sum.inl (P.app y.fst [P.get x.fst y.snd.snd ((0 : Int), (0 : Int))], y.snd.fst, P.wrap IntKind.i64 (P.add y.snd.snd (1 : Int))))) none) none)) (some (Sum.inr (Sum.inl (y.fst, y.snd.fst))))) ([], false, (0 : Int))) (P.either (fun (z : tA × Bool) => P.cond (P.not z.snd) (P.cond (P.room (P.add (P.len z.fst) (P.len [x.snd])) 16) (some (P.app z.fst [x.snd])) none) (some z.fst)) fun (r : tA) => some r)))
theorem ref06_add_eq (k : Nat) (x : _) : evFn (EN k [(44, ⟨(.pair Uat Uat), .bool, ref06_Less k⟩), (94, ⟨(.pair (.slice Uat) Uat), .bool, ref06_Has k⟩), (95, ⟨Uat, .bool, ref06_Right k⟩)]) 6 Tryz.f63 [(6, ⟨[.var 5 (.o (.st (.pair (.int .i64) (.int .i64)))), .var 6 (.d .bool), .var 7 (.d (.int .i64))], [], (some (0, [.var 5 (.o (.st (.pair (.int .i64) (.int .i64)))), .var 6 (.d .bool)]))⟩)] (.pair (.slice Uat) Uat) (.slice Uat) x = ref06_add k x := by kernel_rfl
theorem ref06_add_spec (k : Nat) : SpecOk Tryz.prog GG 63 ⟨(.pair (.slice Uat) Uat), (.slice Uat), ref06_add k⟩ :=
 fn_spec (envE (.cons (ref06_Less_spec k) Tryz.func44 f44_ok <| .cons (ref06_Has_spec k) Tryz.func94 f94_ok <| .cons (ref06_Right_spec k) Tryz.func95 f95_ok <| .nil)) Tryz.func63 (fun x => (ref06_add_eq k x).symm)
noncomputable def ref06_Norm : (k : Nat) → (Ty.D (.slice Uat)) → Option (Ty.D (.slice Uat)) := fun (k : Nat) (x : Uat.slice.D) => P.bind (P.iter k (fun (y : tA × Int) => P.cond (P.ilt y.snd (P.len x)) (P.cond (P.inb y.snd (P.len x)) (P.bind (ref06_add k (y.fst, P.get x y.snd ((0 : Int), (0 : Int)))) fun (r : tA) => some (Sum.inl (r, P.wrap IntKind.i64 (P.add y.snd (1 : Int))))) none) (some (Sum.inr (Sum.inl y.fst)))) ([], (0 : Int))) (P.either (fun (z : tA) => some z) fun (r : tA) => some r)
theorem ref06_Norm_eq (k : Nat) (x : _) : evFn (EN k [(63, ⟨(.pair (.slice Uat) Uat), (.slice Uat), ref06_add k⟩)]) 6 Tryz.f62 [(3, ⟨[.var 3 (.d (.slice (.st (.pair (.int .i64) (.int .i64))))), .var 4 (.d (.int .i64))], [], (some (0, [.var 3 (.d (.slice (.st (.pair (.int .i64) (.int .i64)))))]))⟩)] (.slice Uat) (.slice Uat) x = ref06_Norm k x := by kernel_rfl
theorem ref06_Norm_spec (k : Nat) : SpecOk Tryz.prog GG 62 ⟨(.slice Uat), (.slice Uat), ref06_Norm k⟩ :=
 fn_spec (envE (.cons (ref06_add_spec k) Tryz.func63 f63_ok <| .nil)) Tryz.func62 (fun x => (ref06_Norm_eq k x).symm)
noncomputable def ref06_May : (k : Nat) → (Ty.D (.slice Uat)) → Option (Ty.D .bool) := fun (k : Nat) (x : Uat.slice.D) => P.bind (ref06_Norm k x) fun (r : tA) => P.bind (ref06_Same k (x, r)) fun (r : Bool) => some r
theorem ref06_May_eq (k : Nat) (x : _) : evFn (EN k [(15, ⟨(.pair (.slice Uat) (.slice Uat)), .bool, ref06_Same k⟩), (62, ⟨(.slice Uat), (.slice Uat), ref06_Norm k⟩)]) 6 Tryz.f43 [] (.slice Uat) .bool x = ref06_May k x := by kernel_rfl
theorem ref06_May_spec (k : Nat) : SpecOk Tryz.prog GG 43 ⟨(.slice Uat), .bool, ref06_May k⟩ :=
 fn_spec (envE (.cons (ref06_Same_spec k) Tryz.func15 f15_ok <| .cons (ref06_Norm_spec k) Tryz.func62 f62_ok <| .nil)) Tryz.func43 (fun x => (ref06_May_eq k x).symm)
noncomputable def ref07_May : (k : Nat) → (Ty.D Ush) → Option (Ty.D .bool) := fun (k : Nat) (x : Ush.D) => P.bind (P.iter k (fun (y : Int) => P.cond (P.ilt y (P.len x.fst)) (P.cond (P.inb y (P.len x.fst)) (P.bind (ref06_May k (P.get x.fst y ((ByteArray.mk #[]), false, [])).snd.snd) fun (r : Bool) => P.cond (P.not r) (some (Sum.inr (Sum.inr false))) (P.cond (P.ilt (0 : Int) y) (P.cond (P.inb (P.wrap IntKind.i64 (P.sub y (1 : Int))) (P.len x.fst)) (P.cond (P.inb y (P.len x.fst)) (P.cond (P.not (P.slt (P.get x.fst (P.wrap IntKind.i64 (P.sub y (1 : Int))) ((ByteArray.mk #[]), false, [])).fst (P.get x.fst y ((ByteArray.mk #[]), false, [])).fst)) (some (Sum.inr (Sum.inr false))) (some (Sum.inl (P.wrap IntKind.i64 (P.add y (1 : Int)))))) none) none) (some (Sum.inl (P.wrap IntKind.i64 (P.add y (1 : Int))))))) none) (some (Sum.inr (Sum.inl PUnit.unit)))) (0 : Int)) (P.either (fun (z : PUnit) => P.bind (ref06_May k x.snd) fun (r : Bool) => some r) fun (r : Bool) => some r)
theorem ref07_May_eq (k : Nat) (x : _) : evFn (EN k [(43, ⟨(.slice Uat), .bool, ref06_May k⟩)]) 6 Tryz.f31 [(2, ⟨[.var 3 (.d (.int .i64))], [], (some (0, []))⟩)] Ush .bool x = ref07_May k x := by kernel_rfl
theorem ref07_May_spec (k : Nat) : SpecOk Tryz.prog GG 31 ⟨Ush, .bool, ref07_May k⟩ :=
 fn_spec (envE (.cons (ref06_May_spec k) Tryz.func43 f43_ok <| .nil)) Tryz.func31 (fun x => (ref07_May_eq k x).symm)
noncomputable def ref08_Place : (k : Nat) → (Ty.D Uat) → Option (Ty.D .bool) := fun (k : Nat) (x : Uat.D) => P.cond (P.ieq x.fst ((4 : Int))) (some (P.ile (0 : Int) x.snd)) (P.cond (P.ieq x.fst ((5 : Int))) (some (P.ile (0 : Int) x.snd)) (some false))
theorem ref08_Place_eq (k : Nat) (x : _) : evFn (EN k []) 6 Tryz.f32 [] Uat .bool x = ref08_Place k x := by kernel_rfl
theorem ref08_Place_spec (k : Nat) : SpecOk Tryz.prog GG 32 ⟨Uat, .bool, ref08_Place k⟩ :=
 fn_spec (envE .nil) Tryz.func32 (fun x => (ref08_Place_eq k x).symm)
noncomputable def ref08_May : (k : Nat) → (Ty.D Ust) → Option (Ty.D .bool) := fun (k : Nat) (x : Ust.D) => P.bind (P.iter k (fun (y : Int) => P.cond (P.ilt y (P.len x.snd.fst)) (P.cond (P.inb y (P.len x.snd.fst)) (P.bind (ref06_May k (P.get x.snd.fst y ((ByteArray.mk #[]), [])).snd) fun (r : Bool) => P.cond (P.not r) (some (Sum.inr (Sum.inr false))) (P.cond (P.ilt (0 : Int) y) (P.cond (P.inb (P.wrap IntKind.i64 (P.sub y (1 : Int))) (P.len x.snd.fst)) (P.cond (P.inb y (P.len x.snd.fst)) (P.cond (P.not (P.slt (P.get x.snd.fst (P.wrap IntKind.i64 (P.sub y (1 : Int))) ((ByteArray.mk #[]), [])).fst (P.get x.snd.fst y ((ByteArray.mk #[]), [])).fst)) (some (Sum.inr (Sum.inr false))) (some (Sum.inl (P.wrap IntKind.i64 (P.add y (1 : Int)))))) none) none) (some (Sum.inl (P.wrap IntKind.i64 (P.add y (1 : Int))))))) none) (some (Sum.inr (Sum.inl PUnit.unit)))) (0 : Int)) (P.either (fun (z : PUnit) => P.bind (P.iter k (fun (y : Int) => P.cond (P.ilt y (P.len x.snd.snd)) (P.cond (P.inb y (P.len x.snd.snd)) (P.bind (ref08_Place k (P.get x.snd.snd y (((0 : Int), (0 : Int)), [], [])).fst) fun (r : Bool) => P.cond (P.not r) (some (Sum.inr (Sum.inr false))) (P.cond (P.inb y (P.len x.snd.snd)) (P.bind (ref07_May k (P.get x.snd.snd y (((0 : Int), (0 : Int)), [], [])).snd) fun (r : Bool) => P.cond (P.not r) (some (Sum.inr (Sum.inr false))) (P.cond (P.ilt (0 : Int) y) (P.cond (P.inb (P.wrap IntKind.i64 (P.sub y (1 : Int))) (P.len x.snd.snd)) (P.cond (P.inb y (P.len x.snd.snd)) (P.bind (ref06_Less k ((P.get x.snd.snd (P.wrap IntKind.i64 (P.sub y (1 : Int))) (((0 : Int), (0 : Int)), [], [])).fst, (P.get x.snd.snd y (((0 : Int), (0 : Int)), [], [])).fst)) fun (r : Bool) => P.cond (P.not r) (some (Sum.inr (Sum.inr false))) (some (Sum.inl (P.wrap IntKind.i64 (P.add y (1 : Int)))))) none) none) (some (Sum.inl (P.wrap IntKind.i64 (P.add y (1 : Int))))))) none)) none) (some (Sum.inr (Sum.inl PUnit.unit)))) (0 : Int)) (P.either (fun (z : PUnit) => P.cond (P.not x.fst) (some true) (P.cond (P.ieq (P.len x.snd.fst) (0 : Int)) (some (P.ieq (P.len x.snd.snd) (0 : Int))) (some false))) fun (r : Bool) => some r)) fun (r : Bool) => some r)
theorem ref08_May_eq (k : Nat) (x : _) : evFn (EN k [(31, ⟨Ush, .bool, ref07_May k⟩), (32, ⟨Uat, .bool, ref08_Place k⟩), (43, ⟨(.slice Uat), .bool, ref06_May k⟩), (44, ⟨(.pair Uat Uat), .bool, ref06_Less k⟩)]) 6 Tryz.f14 [(2, ⟨[.var 3 (.d (.int .i64))], [], (some (0, []))⟩), (7, ⟨[.var 4 (.d (.int .i64))], [], (some (2, []))⟩)] Ust .bool x = ref08_May k x := by kernel_rfl
theorem ref08_May_spec (k : Nat) : SpecOk Tryz.prog GG 14 ⟨Ust, .bool, ref08_May k⟩ :=
 fn_spec (envE (.cons (ref07_May_spec k) Tryz.func31 f31_ok <| .cons (ref08_Place_spec k) Tryz.func32 f32_ok <| .cons (ref06_May_spec k) Tryz.func43 f43_ok <| .cons (ref06_Less_spec k) Tryz.func44 f44_ok <| .nil)) Tryz.func14 (fun x => (ref08_May_eq k x).symm)
noncomputable def ref08_Var : (k : Nat) → (Ty.D (.pair Ust .str)) → Option (Ty.D (.slice Uat)) := fun (k : Nat) (x : (Ust.pair Ty.str).D) => P.bind (P.iter k (fun (y : Int) => P.cond (P.ilt y (P.len x.fst.snd.fst)) (P.cond (P.inb y (P.len x.fst.snd.fst)) (P.cond (P.seq (P.get x.fst.snd.fst y ((ByteArray.mk #[]), [])).fst x.snd) (P.cond (P.inb y (P.len x.fst.snd.fst)) (some (Sum.inr (Sum.inr (P.get x.fst.snd.fst y ((ByteArray.mk #[]), [])).snd))) none) (some (Sum.inl (P.wrap IntKind.i64 (P.add y (1 : Int)))))) none) (some (Sum.inr (Sum.inl PUnit.unit)))) (0 : Int)) (P.either (fun (z : PUnit) => P.bind (ref06_Null k PUnit.unit) fun (r : tA) => some r) fun (r : tA) => some r)
theorem ref08_Var_eq (k : Nat) (x : _) : evFn (EN k [(36, ⟨.unit, (.slice Uat), ref06_Null k⟩)]) 6 Tryz.f17 [(2, ⟨[.var 5 (.d (.int .i64))], [], (some (0, []))⟩)] (.pair Ust .str) (.slice Uat) x = ref08_Var k x := by kernel_rfl
theorem ref08_Var_spec (k : Nat) : SpecOk Tryz.prog GG 17 ⟨(.pair Ust .str), (.slice Uat), ref08_Var k⟩ :=
 fn_spec (envE (.cons (ref06_Null_spec k) Tryz.func36 f36_ok <| .nil)) Tryz.func17 (fun x => (ref08_Var_eq k x).symm)
noncomputable def ref07_Same : (k : Nat) → (Ty.D (.pair Ush Ush)) → Option (Ty.D .bool) := fun (k : Nat) (x : (Ush.pair Ush).D) => P.cond (P.not (P.ieq (P.len x.fst.fst) (P.len x.snd.fst))) (some false) (P.bind (ref06_Same k (x.fst.snd, x.snd.snd)) fun (r : Bool) => P.cond (P.not r) (some false) (P.bind (P.iter k (fun (y : Int) => P.cond (P.ilt y (P.len x.fst.fst)) (P.cond (P.inb y (P.len x.fst.fst)) (P.cond (P.inb y (P.len x.snd.fst)) (P.cond (P.not (P.seq (P.get x.fst.fst y ((ByteArray.mk #[]), false, [])).fst (P.get x.snd.fst y ((ByteArray.mk #[]), false, [])).fst)) (some (Sum.inr (Sum.inr false))) (P.cond (P.not (P.beq (P.get x.fst.fst y ((ByteArray.mk #[]), false, [])).snd.fst (P.get x.snd.fst y ((ByteArray.mk #[]), false, [])).snd.fst)) (some (Sum.inr (Sum.inr false))) (P.bind (ref06_Same k ((P.get x.fst.fst y ((ByteArray.mk #[]), false, [])).snd.snd, (P.get x.snd.fst y ((ByteArray.mk #[]), false, [])).snd.snd)) fun (r : Bool) => P.cond (P.not r) (some (Sum.inr (Sum.inr false))) (some (Sum.inl (P.wrap IntKind.i64 (P.add y (1 : Int)))))))) none) none) (some (Sum.inr (Sum.inl PUnit.unit)))) (0 : Int)) (P.either (fun (z : PUnit) => some true) fun (r : Bool) => some r)))
theorem ref07_Same_eq (k : Nat) (x : _) : evFn (EN k [(15, ⟨(.pair (.slice Uat) (.slice Uat)), .bool, ref06_Same k⟩)]) 6 Tryz.f18 [(4, ⟨[.var 5 (.d (.int .i64))], [], (some (0, []))⟩)] (.pair Ush Ush) .bool x = ref07_Same k x := by kernel_rfl
theorem ref07_Same_spec (k : Nat) : SpecOk Tryz.prog GG 18 ⟨(.pair Ush Ush), .bool, ref07_Same k⟩ :=
 fn_spec (envE (.cons (ref06_Same_spec k) Tryz.func15 f15_ok <| .nil)) Tryz.func18 (fun x => (ref07_Same_eq k x).symm)
noncomputable def ref03_Digits : (k : Nat) → (Ty.D (.int .u64)) → Option (Ty.D .str) := fun (k : Nat) (x : (Ty.int IntKind.u64).D) => P.bind (P.iter k (fun (y : Int × ByteArray) => P.cond (P.ilt ((9 : Int)) y.fst) (P.cond (P.not (P.ieq ((10 : Int)) (0 : Int))) (P.cond (P.not (P.ieq ((10 : Int)) (0 : Int))) (P.cond (P.cut (P.rem y.fst ((10 : Int))) (P.wrap IntKind.u64 (P.add (P.rem y.fst ((10 : Int))) (1 : Int))) (P.slen (ByteArray.mk #[48, 49, 50, 51, 52, 53, 54, 55, 56, 57]))) (P.cond (P.sfit (P.ssub (ByteArray.mk #[48, 49, 50, 51, 52, 53, 54, 55, 56, 57]) (P.rem y.fst ((10 : Int))) (P.wrap IntKind.u64 (P.add (P.rem y.fst ((10 : Int))) (1 : Int)))) y.snd) (P.cond (P.not (P.ieq ((10 : Int)) (0 : Int))) (some (Sum.inl (P.wrap IntKind.u64 (P.quo y.fst ((10 : Int))), P.scat (P.ssub (ByteArray.mk #[48, 49, 50, 51, 52, 53, 54, 55, 56, 57]) (P.rem y.fst ((10 : Int))) (P.wrap IntKind.u64 (P.add (P.rem y.fst ((10 : Int))) (1 : Int)))) y.snd))) none) none) none) none) none) (some (Sum.inr (Sum.inl (y.fst, y.snd))))) (x, (ByteArray.mk #[]))) (P.either (fun (z : Int × ByteArray) => P.cond (P.cut z.fst (P.wrap IntKind.u64 (P.add z.fst (1 : Int))) (P.slen (ByteArray.mk #[48, 49, 50, 51, 52, 53, 54, 55, 56, 57]))) (P.cond (P.sfit (P.ssub (ByteArray.mk #[48, 49, 50, 51, 52, 53, 54, 55, 56, 57]) z.fst (P.wrap IntKind.u64 (P.add z.fst (1 : Int)))) z.snd) (some (P.scat (P.ssub (ByteArray.mk #[48, 49, 50, 51, 52, 53, 54, 55, 56, 57]) z.fst (P.wrap IntKind.u64 (P.add z.fst (1 : Int)))) z.snd)) none) none) fun (r : ByteArray) => some r)
theorem ref03_Digits_eq (k : Nat) (x : _) : evFn (EN k []) 6 Tryz.f105 [(2, ⟨[.var 0 (.d (.int .u64)), .var 3 (.d .str)], [], (some (0, [.var 0 (.d (.int .u64)), .var 3 (.d .str)]))⟩)] (.int .u64) .str x = ref03_Digits k x := by kernel_rfl
theorem ref03_Digits_spec (k : Nat) : SpecOk Tryz.prog GG 105 ⟨(.int .u64), .str, ref03_Digits k⟩ :=
 fn_spec (envE .nil) Tryz.func105 (fun x => (ref03_Digits_eq k x).symm)
noncomputable def ref03_Signed : (k : Nat) → (Ty.D (.int .i64)) → Option (Ty.D .str) := fun (k : Nat) (x : (Ty.int IntKind.i64).D) => P.cond (P.ilt x (0 : Int)) (P.bind (ref03_Digits k (P.wrap IntKind.u64 (P.add (P.wrap IntKind.u64 (P.wrap IntKind.i64 (P.sub (0 : Int) (P.wrap IntKind.i64 (P.add x (1 : Int)))))) (1 : Int)))) fun (r : ByteArray) => P.cond (P.sfit (ByteArray.mk #[45]) r) (some (P.scat (ByteArray.mk #[45]) r)) none) (P.bind (ref03_Digits k (P.wrap IntKind.u64 x)) fun (r : ByteArray) => some r)
theorem ref03_Signed_eq (k : Nat) (x : _) : evFn (EN k [(105, ⟨(.int .u64), .str, ref03_Digits k⟩)]) 6 Tryz.f75 [] (.int .i64) .str x = ref03_Signed k x := by kernel_rfl
theorem ref03_Signed_spec (k : Nat) : SpecOk Tryz.prog GG 75 ⟨(.int .i64), .str, ref03_Signed k⟩ :=
 fn_spec (envE (.cons (ref03_Digits_spec k) Tryz.func105 f105_ok <| .nil)) Tryz.func75 (fun x => (ref03_Signed_eq k x).symm)
noncomputable def ref06_Text : (k : Nat) → (Ty.D (.slice Uat)) → Option (Ty.D .str) := fun (k : Nat) (x : Uat.slice.D) => P.bind (P.iter k (fun (y : ByteArray × Int) => P.cond (P.ilt y.snd (P.len x)) (P.cond (P.ilt (0 : Int) y.snd) (P.cond (P.sfit y.fst (ByteArray.mk #[32])) (P.cond (P.inb y.snd (P.len x)) (P.cond (P.ilt (P.get x y.snd ((0 : Int), (0 : Int))).fst (0 : Int)) (P.cond (P.sfit (P.scat y.fst (ByteArray.mk #[32])) (ByteArray.mk #[63])) (some (Sum.inl (P.scat (P.scat y.fst (ByteArray.mk #[32])) (ByteArray.mk #[63]), P.wrap IntKind.i64 (P.add y.snd (1 : Int))))) none) (P.cond (P.ilt ((6 : Int)) (P.get x y.snd ((0 : Int), (0 : Int))).fst) (P.cond (P.sfit (P.scat y.fst (ByteArray.mk #[32])) (ByteArray.mk #[63])) (some (Sum.inl (P.scat (P.scat y.fst (ByteArray.mk #[32])) (ByteArray.mk #[63]), P.wrap IntKind.i64 (P.add y.snd (1 : Int))))) none) (P.cond (P.inb (P.get x y.snd ((0 : Int), (0 : Int))).fst (P.len [(ByteArray.mk #[110, 117, 108, 108]), (ByteArray.mk #[98, 111, 111, 108]), (ByteArray.mk #[110, 117, 109]), (ByteArray.mk #[102, 117, 110]), (ByteArray.mk #[114, 101, 99]), (ByteArray.mk #[115, 117, 109]), (ByteArray.mk #[97, 110, 121])])) (P.cond (P.sfit (P.scat y.fst (ByteArray.mk #[32])) (P.get [(ByteArray.mk #[110, 117, 108, 108]), (ByteArray.mk #[98, 111, 111, 108]), (ByteArray.mk #[110, 117, 109]), (ByteArray.mk #[102, 117, 110]), (ByteArray.mk #[114, 101, 99]), (ByteArray.mk #[115, 117, 109]), (ByteArray.mk #[97, 110, 121])] (P.get x y.snd ((0 : Int), (0 : Int))).fst (ByteArray.mk #[]))) (P.cond (P.ile ((3 : Int)) (P.get x y.snd ((0 : Int), (0 : Int))).fst) (P.cond (P.ile (P.get x y.snd ((0 : Int), (0 : Int))).fst ((5 : Int))) (P.cond (P.inb y.snd (P.len x)) (P.bind (ref03_Signed k (P.get x y.snd ((0 : Int), (0 : Int))).snd) fun (r : ByteArray) => P.cond (P.sfit (P.scat (P.scat y.fst (ByteArray.mk #[32])) (P.get [(ByteArray.mk #[110, 117, 108, 108]), (ByteArray.mk #[98, 111, 111, 108]), (ByteArray.mk #[110, 117, 109]), (ByteArray.mk #[102, 117, 110]), (ByteArray.mk #[114, 101, 99]), (ByteArray.mk #[115, 117, 109]), (ByteArray.mk #[97, 110, 121])] (P.get x y.snd ((0 : Int), (0 : Int))).fst (ByteArray.mk #[]))) r) (some (Sum.inl (P.scat (P.scat (P.scat y.fst (ByteArray.mk #[32])) (P.get [(ByteArray.mk #[110, 117, 108, 108]), (ByteArray.mk #[98, 111, 111, 108]), (ByteArray.mk #[110, 117, 109]), (ByteArray.mk #[102, 117, 110]), (ByteArray.mk #[114, 101, 99]), (ByteArray.mk #[115, 117, 109]), (ByteArray.mk #[97, 110, 121])] (P.get x y.snd ((0 : Int), (0 : Int))).fst (ByteArray.mk #[]))) r, P.wrap IntKind.i64 (P.add y.snd (1 : Int))))) none) none) (some (Sum.inl (P.scat (P.scat y.fst (ByteArray.mk #[32])) (P.get [(ByteArray.mk #[110, 117, 108, 108]), (ByteArray.mk #[98, 111, 111, 108]), (ByteArray.mk #[110, 117, 109]), (ByteArray.mk #[102, 117, 110]), (ByteArray.mk #[114, 101, 99]), (ByteArray.mk #[115, 117, 109]), (ByteArray.mk #[97, 110, 121])] (P.get x y.snd ((0 : Int), (0 : Int))).fst (ByteArray.mk #[])), P.wrap IntKind.i64 (P.add y.snd (1 : Int)))))) (some (Sum.inl (P.scat (P.scat y.fst (ByteArray.mk #[32])) (P.get [(ByteArray.mk #[110, 117, 108, 108]), (ByteArray.mk #[98, 111, 111, 108]), (ByteArray.mk #[110, 117, 109]), (ByteArray.mk #[102, 117, 110]), (ByteArray.mk #[114, 101, 99]), (ByteArray.mk #[115, 117, 109]), (ByteArray.mk #[97, 110, 121])] (P.get x y.snd ((0 : Int), (0 : Int))).fst (ByteArray.mk #[])), P.wrap IntKind.i64 (P.add y.snd (1 : Int)))))) none) none))) none) none) (P.cond (P.inb y.snd (P.len x)) (P.cond (P.ilt (P.get x y.snd ((0 : Int), (0 : Int))).fst (0 : Int)) (P.cond (P.sfit y.fst (ByteArray.mk #[63])) (some (Sum.inl (P.scat y.fst (ByteArray.mk #[63]), P.wrap IntKind.i64 (P.add y.snd (1 : Int))))) none) (P.cond (P.ilt ((6 : Int)) (P.get x y.snd ((0 : Int), (0 : Int))).fst) (P.cond (P.sfit y.fst (ByteArray.mk #[63])) (some (Sum.inl (P.scat y.fst (ByteArray.mk #[63]), P.wrap IntKind.i64 (P.add y.snd (1 : Int))))) none) (P.cond (P.inb (P.get x y.snd ((0 : Int), (0 : Int))).fst (P.len [(ByteArray.mk #[110, 117, 108, 108]), (ByteArray.mk #[98, 111, 111, 108]), (ByteArray.mk #[110, 117, 109]), (ByteArray.mk #[102, 117, 110]), (ByteArray.mk #[114, 101, 99]), (ByteArray.mk #[115, 117, 109]), (ByteArray.mk #[97, 110, 121])])) (P.cond (P.sfit y.fst (P.get [(ByteArray.mk #[110, 117, 108, 108]), (ByteArray.mk #[98, 111, 111, 108]), (ByteArray.mk #[110, 117, 109]), (ByteArray.mk #[102, 117, 110]), (ByteArray.mk #[114, 101, 99]), (ByteArray.mk #[115, 117, 109]), (ByteArray.mk #[97, 110, 121])] (P.get x y.snd ((0 : Int), (0 : Int))).fst (ByteArray.mk #[]))) (P.cond (P.ile ((3 : Int)) (P.get x y.snd ((0 : Int), (0 : Int))).fst) (P.cond (P.ile (P.get x y.snd ((0 : Int), (0 : Int))).fst ((5 : Int))) (P.cond (P.inb y.snd (P.len x)) (P.bind (ref03_Signed k (P.get x y.snd ((0 : Int), (0 : Int))).snd) fun (r : ByteArray) => P.cond (P.sfit (P.scat y.fst (P.get [(ByteArray.mk #[110, 117, 108, 108]), (ByteArray.mk #[98, 111, 111, 108]), (ByteArray.mk #[110, 117, 109]), (ByteArray.mk #[102, 117, 110]), (ByteArray.mk #[114, 101, 99]), (ByteArray.mk #[115, 117, 109]), (ByteArray.mk #[97, 110, 121])] (P.get x y.snd ((0 : Int), (0 : Int))).fst (ByteArray.mk #[]))) r) (some (Sum.inl (P.scat (P.scat y.fst (P.get [(ByteArray.mk #[110, 117, 108, 108]), (ByteArray.mk #[98, 111, 111, 108]), (ByteArray.mk #[110, 117, 109]), (ByteArray.mk #[102, 117, 110]), (ByteArray.mk #[114, 101, 99]), (ByteArray.mk #[115, 117, 109]), (ByteArray.mk #[97, 110, 121])] (P.get x y.snd ((0 : Int), (0 : Int))).fst (ByteArray.mk #[]))) r, P.wrap IntKind.i64 (P.add y.snd (1 : Int))))) none) none) (some (Sum.inl (P.scat y.fst (P.get [(ByteArray.mk #[110, 117, 108, 108]), (ByteArray.mk #[98, 111, 111, 108]), (ByteArray.mk #[110, 117, 109]), (ByteArray.mk #[102, 117, 110]), (ByteArray.mk #[114, 101, 99]), (ByteArray.mk #[115, 117, 109]), (ByteArray.mk #[97, 110, 121])] (P.get x y.snd ((0 : Int), (0 : Int))).fst (ByteArray.mk #[])), P.wrap IntKind.i64 (P.add y.snd (1 : Int)))))) (some (Sum.inl (P.scat y.fst (P.get [(ByteArray.mk #[110, 117, 108, 108]), (ByteArray.mk #[98, 111, 111, 108]), (ByteArray.mk #[110, 117, 109]), (ByteArray.mk #[102, 117, 110]), (ByteArray.mk #[114, 101, 99]), (ByteArray.mk #[115, 117, 109]), (ByteArray.mk #[97, 110, 121])] (P.get x y.snd ((0 : Int), (0 : Int))).fst (ByteArray.mk #[])), P.wrap IntKind.i64 (P.add y.snd (1 : Int)))))) none) none))) none)) (some (Sum.inr (Sum.inl y.fst)))) ((ByteArray.mk #[]), (0 : Int))) (P.either (fun (z : ByteArray) => some z) fun (r : ByteArray) => some r)
theorem ref06_Text_eq (k : Nat) (x : _) : evFn (EN k [(75, ⟨(.int .i64), .str, ref03_Signed k⟩)]) 6 Tryz.f50 [(4, ⟨[.var 4 (.d .str), .var 5 (.d (.int .i64))], [], (some (0, [.var 4 (.d .str)]))⟩)] (.slice Uat) .str x = ref06_Text k x := by kernel_rfl
theorem ref06_Text_spec (k : Nat) : SpecOk Tryz.prog GG 50 ⟨(.slice Uat), .str, ref06_Text k⟩ :=
 fn_spec (envE (.cons (ref03_Signed_spec k) Tryz.func75 f75_ok <| .nil)) Tryz.func50 (fun x => (ref06_Text_eq k x).symm)
noncomputable def ref08_Text : (k : Nat) → (Ty.D Ust) → Option (Ty.D .str) := fun (k : Nat) (x : Ust.D) => P.cond x.fst (some (ByteArray.mk #[100, 101, 97, 100, 10])) (P.bind (P.iter k (fun (y : ByteArray × Int) => P.cond (P.ilt y.snd (P.len x.snd.fst)) (P.cond (P.inb y.snd (P.len x.snd.fst)) (P.cond (P.sfit (P.get x.snd.fst y.snd ((ByteArray.mk #[]), [])).fst (ByteArray.mk #[58, 32])) (P.cond (P.inb y.snd (P.len x.snd.fst)) (P.bind (ref06_Text k (P.get x.snd.fst y.snd ((ByteArray.mk #[]), [])).snd) fun (r : ByteArray) => P.cond (P.sfit (P.scat (P.get x.snd.fst y.snd ((ByteArray.mk #[]), [])).fst (ByteArray.mk #[58, 32])) r) (P.cond (P.sfit (P.scat (P.scat (P.get x.snd.fst y.snd ((ByteArray.mk #[]), [])).fst (ByteArray.mk #[58, 32])) r) (ByteArray.mk #[10])) (P.cond (P.sfit y.fst (P.scat (P.scat (P.scat (P.get x.snd.fst y.snd ((ByteArray.mk #[]), [])).fst (ByteArray.mk #[58, 32])) r) (ByteArray.mk #[10]))) (some (Sum.inl (P.scat y.fst (P.scat (P.scat (P.scat (P.get x.snd.fst y.snd ((ByteArray.mk #[]), [])).fst (ByteArray.mk #[58, 32])) r) (ByteArray.mk #[10])), P.wrap IntKind.i64 (P.add y.snd (1 : Int))))) none) none) none) none) none) none) (some (Sum.inr (Sum.inl y.fst)))) ((ByteArray.mk #[]), (0 : Int))) (P.either (fun (z : ByteArray) => P.bind (P.iter k (fun (y : ByteArray × Int) => P.cond (P.ilt y.snd (P.len x.snd.snd)) (P.cond (P.inb y.snd (P.len x.snd.snd)) (P.bind (ref06_Text k [(P.get x.snd.snd y.snd (((0 : Int), (0 : Int)), [], [])).fst]) fun (r : ByteArray) => P.cond (P.sfit r (ByteArray.mk #[58])) (P.cond (P.sfit y.fst (P.scat r (ByteArray.mk #[58]))) (P.cond (P.inb y.snd (P.len x.snd.snd)) (P.bind (P.iter k (fun (y_1 : ByteArray × Int) => P.cond (P.ilt y_1.snd (P.len (P.get x.snd.snd y.snd (((0 : Int), (0 : Int)), [], [])).snd.fst)) (P.cond (P.inb y_1.snd (P.len (P.get x.snd.snd y.snd (((0 : Int), (0 : Int)), [], [])).snd.fst)) (P.cond (P.get (P.get x.snd.snd y.snd (((0 : Int), (0 : Int)), [], [])).snd.fst y_1.snd ((ByteArray.mk #[]), false, [])).snd.fst (P.cond (P.inb y_1.snd (P.len (P.get x.snd.snd y.snd (((0 : Int), (0 : Int)), [], [])).snd.fst)) (P.cond (P.sfit (ByteArray.mk #[32]) (P.get (P.get x.snd.snd y.snd (((0 : Int), (0 : Int)), [], [])).snd.fst y_1.snd ((ByteArray.mk #[]), false, [])).fst) (P.cond (P.sfit (P.scat (ByteArray.mk #[32]) (P.get (P.get x.snd.snd y.snd (((0 : Int), (0 : Int)), [], [])).snd.fst y_1.snd ((ByteArray.mk #[]), false, [])).fst) (ByteArray.mk #[33, 40])) (P.cond (P.inb y_1.snd (P.len (P.get x.snd.snd y.snd (((0 : Int), (0 : Int)), [], [])).snd.fst)) (P.bind (ref06_Text k (P.get (P.get x.snd.snd y.snd (((0 : Int), (0 : Int)), [], [])).snd.fst y_1.snd ((ByteArray.mk #[]), false, [])).snd.snd) fun (r : ByteArray) => P.cond (P.sfit (P.scat (P.scat (ByteArray.mk #[32]) (P.get (P.get x.snd.snd y.snd (((0 : Int), (0 : Int)), [], [])).snd.fst y_1.snd ((ByteArray.mk #[]), false, [])).fst) (ByteArray.mk #[33, 40])) r) (P.cond (P.sfit (P.scat (P.scat (P.scat (ByteArray.mk #[32]) (P.get (P.get x.snd.snd y.snd (((0 : Int), (0 : Int)), [], [])).snd.fst y_1.snd ((ByteArray.mk #[]), false, [])).fst) (ByteArray.mk #[33, 40])) r) (ByteArray.mk #[41])) (P.cond (P.sfit y_1.fst (P.scat (P.scat (P.scat (P.scat (ByteArray.mk #[32]) (P.get (P.get x.snd.snd y.snd (((0 : Int), (0 : Int)), [], [])).snd.fst y_1.snd ((ByteArray.mk #[]), false, [])).fst) (ByteArray.mk #[33, 40])) r) (ByteArray.mk #[41]))) (some (Sum.inl (P.scat y_1.fst (P.scat (P.scat (P.scat (P.scat (ByteArray.mk #[32]) (P.get (P.get x.snd.snd y.snd (((0 : Int), (0 : Int)), [], [])).snd.fst y_1.snd ((ByteArray.mk #[]), false, [])).fst) (ByteArray.mk #[33, 40])) r) (ByteArray.mk #[41])), P.wrap IntKind.i64 (P.add y_1.snd (1 : Int))))) none) none) none) none) none) none) none) (P.cond (P.inb y_1.snd (P.len (P.get x.snd.snd y.snd (((0 : Int), (0 : Int)), [], [])).snd.fst)) (P.cond (P.sfit (ByteArray.mk #[32]) (P.get (P.get x.snd.snd y.snd (((0 : Int), (0 : Int)), [], [])).snd.fst y_1.snd ((ByteArray.mk #[]), false, [])).fst) (P.cond (P.sfit (P.scat (ByteArray.mk #[32]) (P.get (P.get x.snd.snd y.snd (((0 : Int), (0 : Int)), [], [])).snd.fst y_1.snd ((ByteArray.mk #[]), false, [])).fst) (ByteArray.mk #[63, 40])) (P.cond (P.inb y_1.snd (P.len (P.get x.snd.snd y.snd (((0 : Int), (0 : Int)), [], [])).snd.fst)) (P.bind (ref06_Text k (P.get (P.get x.snd.snd y.snd (((0 : Int), (0 : Int)), [], [])).snd.fst y_1.snd ((ByteArray.mk #[]), false, [])).snd.snd) fun (r : ByteArray) => P.cond (P.sfit (P.scat (P.scat (ByteArray.mk #[32]) (P.get (P.get x.snd.snd y.snd (((0 : Int), (0 : Int)), [], [])).snd.fst y_1.snd ((ByteArray.mk #[]), false, [])).fst) (ByteArray.mk #[63, 40])) r) (P.cond (P.sfit (P.scat (P.scat (P.scat (ByteArray.mk #[32]) (P.get (P.get x.snd.snd y.snd (((0 : Int), (0 : Int)), [], [])).snd.fst y_1.snd ((ByteArray.mk #[]), false, [])).fst) (ByteArray.mk #[63, 40])) r) (ByteArray.mk #[41])) (P.cond (P.sfit y_1.fst (P.scat (P.scat (P.scat (P.scat (ByteArray.mk #[32]) (P.get (P.get x.snd.snd y.snd (((0 : Int), (0 : Int)), [], [])).snd.fst y_1.snd ((ByteArray.mk #[]), false, [])).fst) (ByteArray.mk #[63, 40])) r) (ByteArray.mk #[41]))) (some (Sum.inl (P.scat y_1.fst (P.scat (P.scat (P.scat (P.scat (ByteArray.mk #[32]) (P.get (P.get x.snd.snd y.snd (((0 : Int), (0 : Int)), [], [])).snd.fst y_1.snd ((ByteArray.mk #[]), false, [])).fst) (ByteArray.mk #[63, 40])) r) (ByteArray.mk #[41])), P.wrap IntKind.i64 (P.add y_1.snd (1 : Int))))) none) none) none) none) none) none) none)) none) (some (Sum.inr (Sum.inl y_1.fst)))) (P.scat y.fst (P.scat r (ByteArray.mk #[58])), (0 : Int))) (P.either (fun (z : ByteArray) => P.bind (ref06_Text k (P.get x.snd.snd y.snd (((0 : Int), (0 : Int)), [], [])).snd.snd) fun (r : ByteArray) => P.cond (P.sfit (ByteArray.mk #[32, 112, 114, 111, 116, 111, 32, 40]) r) (P.cond (P.sfit (P.scat (ByteArray.mk #[32, 112, 114, 111, 116, 111, 32, 40]) r) (ByteArray.mk #[41, 10])) (P.cond (P.sfit z (P.scat (P.scat (ByteArray.mk #[32, 112, 114, 111, 116, 111, 32, 40]) r) (ByteArray.mk #[41, 10]))) (some (Sum.inl (P.scat z (P.scat (P.scat (ByteArray.mk #[32, 112, 114, 111, 116, 111, 32, 40]) r) (ByteArray.mk #[41, 10])), P.wrap IntKind.i64 (P.add y.snd (1 : Int))))) none) none) none) fun (r : ByteArray × Int ⊕ ByteArray ⊕ ByteArray) => some r)) none) none) none) none) (some (Sum.inr (Sum.inl y.fst)))) (z, (0 : Int))) (P.either (fun (z : ByteArray) => some z) fun (r : ByteArray) => some r)) fun (r : ByteArray) => some r))
theorem ref08_Text_eq (k : Nat) (x : _) : evFn (EN k [(50, ⟨(.slice Uat), .str, ref06_Text k⟩)]) 6 Tryz.f20 [(5, ⟨[.var 3 (.d .str), .var 4 (.d (.int .i64))], [], (some (0, [.var 3 (.d .str)]))⟩), (9, ⟨[.var 3 (.d .str), .var 5 (.d (.int .i64))], [], (some (2, [.var 3 (.d .str)]))⟩), (14, ⟨[.var 3 (.d .str), .var 7 (.d (.int .i64))], [], (some (4, [.var 3 (.d .str)]))⟩)] Ust .str x = ref08_Text k x := by kernel_rfl
theorem ref08_Text_spec (k : Nat) : SpecOk Tryz.prog GG 20 ⟨Ust, .str, ref08_Text k⟩ :=
 fn_spec (envE (.cons (ref06_Text_spec k) Tryz.func50 f50_ok <| .nil)) Tryz.func20 (fun x => (ref08_Text_eq k x).symm)
end

/- Lemmas for the claim. -/
import Derived.Test.YteajfebkgabndaaGreatG3
import Derived.Ground.SlsfProg
import Derived.Shelf.SlSortCmp.WholeK
import Derived.Test.YteajfebkgabndaaGreatProg
import Derived.KernelRfl
import Derived.WalkKit
import Derived.Lib.Walk
import Derived.Lib.Small
import Derived.Sort.Grow
import Derived.LoopN
import Derived.Handy
import Derived.Deep.DeepMust
import Derived.Deep.RegionHeld3
import Derived.Sort.LotA
set_option linter.all false
section
open Go Go.PG Go.Proofs Go.RowKit Go.Lib
namespace DelB
open InsB (tSL zEL t3 mixed iEL hsz rows_of RowRep.takeN RowRep.dropN sets mem_of_row)
theorem f73 : Tryz.prog.funcs[73]? = some Tryz.f73 := by kernel_rfl
theorem run_clear_cellsK {P : Program} (w : World) (t e ty : TypeId) (z : Value) (ht : P.underlying t = some (.slice e)) (hv : ∀ w, (zeroValue e).run P w = .ok z w) (b o n c : Nat) (hn : 0 < n)
    (hc : ∀ j, j < (Builtin.zeroCells z.cells n).toList.length → (w.cell? ⟨b, o + j, none⟩).isSome = true) (hf : ∀ j, j < (Builtin.zeroCells z.cells n).toList.length → w.frozen? ⟨b, o + j, none⟩ = false) (h1 : ∀ v ∈ (Builtin.zeroCells z.cells n).toList, v.oneCell' = true) :
    (Builtin.clear_ #[t] ty #[.slice (some ⟨b, o, none⟩) n c]).run P w = .ok (.tuple #[]) (w.setCells b o (Builtin.zeroCells z.cells n).toList) := by
  have hst := run_storeCells_cells (P := P) b o (Builtin.zeroCells z.cells n).toList 0 w hc hf h1
  simp only [Nat.add_zero] at hst
  obtain ⟨m, rfl⟩ : ∃ m, n = m + 1 := ⟨n - 1, by omega⟩
  simp [Builtin.clear_, run_underlying ht, hv, hst]

set_option maxHeartbeats 4000000 in
set_option maxRecDepth 100000 in
theorem same (b off n c i : Nat) (w : World) (hi : i ≤ n) (hnc : n ≤ c) :
    Calls Tryz.prog 73 #[.slice (some ⟨b, off, none⟩) n c, .int .i64 i, .int .i64 i] w fun e w' => e = .returned (.slice (some ⟨b, off, none⟩) n c) ∧ w' = w := by
  have tSL := tSL; have zEL := zEL; have t3 := t3
  have uSL := run_underlying tSL; have u3 := run_underlying t3
  have mixed := mixed
  go_enter Tryz.func73, Tryz.ntmps73
  go_wp2
  all_goals (go_ret; exact ⟨rfl, rfl⟩)

set_option maxHeartbeats 4000000 in
set_option maxRecDepth 100000 in
theorem same0 (A : Option Addr) (w : World) :
    Calls Tryz.prog 73 #[.slice A 0 0, .int .i64 0, .int .i64 0] w fun e w' => e = .returned (.slice A 0 0) ∧ w' = w := by
  have tSL := tSL; have zEL := zEL; have t3 := t3
  have uSL := run_underlying tSL; have u3 := run_underlying t3
  have mixed := mixed
  cases A with
  | none =>
    go_enter Tryz.func73, Tryz.ntmps73
    go_wp2
    all_goals (go_ret; exact ⟨rfl, rfl⟩)
  | some a =>
    obtain ⟨ab, ao, asp⟩ := a
    go_enter Tryz.func73, Tryz.ntmps73
    go_wp2
    all_goals (go_ret; exact ⟨rfl, rfl⟩)

set_option maxHeartbeats 4000000 in
set_option maxRecDepth 100000 in
theorem del (b off n c i j : Nat) (cs : List Value) (w : World) (hij : i < j) (hjn : j ≤ n) (hnc : n ≤ c)
    (hcl : cs.length = n * 2) (hcs : ∀ t v, cs[t]? = some v → w.cell? ⟨b, off + t, none⟩ = some v) (hfz : ∀ t, t < n * 2 → w.frozen? ⟨b, off + t, none⟩ = false) (h1c : ∀ v ∈ cs, v.oneCell' = true) :
    Calls Tryz.prog 73 #[.slice (some ⟨b, off, none⟩) n c, .int .i64 i, .int .i64 j] w fun e w' => ∃ ZS : List Value,
      e = .returned (.slice (some ⟨b, off, none⟩) (i + (n - j)) c) ∧ w' = (w.drew.setCells b (off + i * 2) (cs.drop (j * 2))).setCells b (off + (i + (n - j)) * 2) ZS := by
  have tSL := tSL; have zEL := zEL; have t3 := t3
  have uSL := run_underlying tSL; have u3 := run_underlying t3
  have mixed := mixed
  obtain ⟨i0, hi0, hz0, hzs, hzb⟩ := iEL
  obtain ⟨z, hzz, hzc⟩ : ∃ z, i0.zero = some z ∧ z.cells = #[.string ⟨#[]⟩, .slice none 0 0] := by
    cases q : i0.zero with
    | none => rw [q] at hz0; cases hz0
    | some z =>
      rw [q] at hz0
      simp only [Option.map_some, Option.some.injEq] at hz0
      exact ⟨z, rfl, hz0⟩
  have hzv : ∀ w, (zeroValue 47).run Tryz.prog w = .ok z w := fun w => by simp [zeroValue, typeInfo, hi0, hzz]
  obtain ⟨news, hnews⟩ : ∃ news, news = cs.drop (j * 2) := ⟨_, rfl⟩
  have hlen : news.length = (n - j) * 2 := by rw [hnews, List.length_drop, hcl]; omega
  have hcell : ∀ t, t < n * 2 → (w.cell? ⟨b, off + t, none⟩).isSome = true := fun t ht => by
    rw [hcs t _ (List.getElem?_eq_getElem (by omega))]; rfl
  obtain ⟨A, hA, hsrc⟩ : ∃ A : Addr, (if c = j then some (⟨b, off, none⟩ : Addr) else some ⟨b, off + j * 2, none⟩) = some A ∧ Hid (∀ t u, news[t]? = some u → w.drew.cell? (A.add t) = some u) := by
    by_cases h : c = j
    · refine ⟨⟨b, off, none⟩, by simp [h], fun t u hu => ?_⟩
      have h0 : news.length = 0 := by rw [hlen]; omega
      rw [List.length_eq_zero_iff.1 h0] at hu
      simp at hu
    · refine ⟨⟨b, off + j * 2, none⟩, by simp [h], fun t u hu => ?_⟩
      rw [hnews, List.getElem?_drop] at hu
      rw [Addr.add_lit, Nat.add_assoc]
      exact hcs _ u hu
  have s1 : Hid (news.length = (n - j) * 2) := hlen
  have s2 : Hid (∀ u ∈ news, u.oneCell' = true) := by
    intro u hu
    rw [hnews] at hu
    exact h1c u (List.mem_of_mem_drop hu)
  have s3 : Hid (∀ t, t < news.length → (w.drew.cell? ⟨b, off + i * 2 + t, none⟩).isSome = true ∧ w.drew.frozen? ⟨b, off + i * 2 + t, none⟩ = false) := by
    intro t ht
    rw [hlen] at ht
    rw [Nat.add_assoc]
    exact ⟨hcell _ (by omega), hfz _ (by omega)⟩
  obtain ⟨W1, hW1⟩ : ∃ W1, W1 = w.drew.setCells b (off + i * 2) news := ⟨_, rfl⟩
  have hsp1 : ∀ k, k < n * 2 → (W1.cell? ⟨b, off + k, none⟩).isSome = true := fun k hk => by
    rw [hW1]
    exact isSome_setCells b _ _ _ (fun t ht => by rw [Nat.add_assoc]; exact hcell _ (by omega)) _ (hcell k hk)
  have hfz1 : ∀ k, k < n * 2 → W1.frozen? ⟨b, off + k, none⟩ = false := fun k hk => by
    rw [hW1, World.frozen?_setCells]; exact hfz k hk
  obtain ⟨ZS, hZS⟩ : ∃ ZS, ZS = (Builtin.zeroCells z.cells (n - (i + (n - j)))).toList := ⟨_, rfl⟩
  have hZl : ZS.length = (n - (i + (n - j))) * 2 := by rw [hZS, Array.length_toList, zeroCells_len, hzc]; rfl
  have hZ1 : ∀ v ∈ ZS, v.oneCell' = true := fun v hv => by
    rw [hZS, Array.mem_toList_iff, Builtin.zeroCells, Array.mem_map] at hv
    obtain ⟨k, hk0, rfl⟩ := hv
    have hall : ∀ u ∈ z.cells.toList, u.oneCell' = true := by rw [hzc]; decide
    have hpos : 0 < z.cells.size := by rw [hzc]; decide
    have : k % z.cells.size < z.cells.size := Nat.mod_lt _ hpos
    rw [getElem!_pos z.cells _ this]
    exact hall _ (Array.getElem_mem_toList this)
  have hcl : ∀ ty, (Builtin.clear_ #[22] ty #[.slice (some ⟨b, off + (i + (n - j)) * 2, none⟩) (n - (i + (n - j))) (c - (i + (n - j)))]).run Tryz.prog W1 = .ok (.tuple #[]) (W1.setCells b (off + (i + (n - j)) * 2) ZS) := fun ty => by
    rw [hZS]
    rw [hZS] at hZl hZ1
    exact run_clear_cellsK W1 22 47 ty z tSL hzv b _ _ _ (by omega) (fun t ht => by rw [hZl] at ht; rw [Nat.add_assoc]; exact hsp1 _ (by omega)) (fun t ht => by rw [hZl] at ht; rw [Nat.add_assoc]; exact hfz1 _ (by omega)) hZ1
  have hW : Hid (W1 = w.drew.setCells b (off + i * 2) news) := hW1
  have X : Hid (W1 = w.drew.setCells b (off + i * 2) (cs.drop (j * 2))) := by rw [← hnews]; exact hW1
  have hic : i ≤ c := by omega
  have hjc : j ≤ c := by omega
  have hin : i ≤ n := by omega
  have hz2 : ¬ ((i : Int) = (j : Int)) := by omega
  have hlc : ¬ (c = i + (n - j)) := by omega
  have hle : i + (n - j) ≤ n := by omega
  have hlec : i + (n - j) ≤ c := by omega
  refine Calls.mono (R := fun e w' => e = .returned (.slice (some ⟨b, off, none⟩) (i + (n - j)) c) ∧ w' = W1.setCells b (off + (i + (n - j)) * 2) ZS) ?_ fun e w' h => ⟨ZS, h.1, by rw [h.2, X.out]⟩
  clear hW1 hsp1 hfz1 hcell hnews hlen X hZS hZl hZ1 hzc hcs hfz h1c
  go_enter Tryz.func73, Tryz.ntmps73
  go_wp2_with fail
  go_region_law_o (refine step_append_room rfl (.tmp 22) (.tmp 25) 22 rfl 47 i0 2 tSL hi0 hzs b off i c (by simp [Act.eval, Act.put]) A (n - j) (c - j) news (by simp [Act.eval, Act.put]) s1.out hsrc.out s2.out (by omega) s3.out ?_; rw [← hW.out])
  go_wp2
  go_ret
  exact ⟨rfl, rfl⟩
end DelB
end
section
open Go Go.PG Go.Proofs Go.RowKit
namespace DelB
open InsB (rows_of RowRep.takeN RowRep.dropN sets mem_of_row)
set_option maxHeartbeats 1000000 in
theorem del_ok {G : World → Prop} {e : Ty} (he : e.size = 2) : DelOk Tryz.prog G 73 e := by
  intro Z w A cap xs i j _ hxc hi0 hij hjl hxs
  obtain ⟨i, rfl⟩ : ∃ n : Nat, i = n := ⟨i.toNat, by omega⟩
  obtain ⟨j, rfl⟩ : ∃ n : Nat, j = n := ⟨j.toNat, by omega⟩
  have hij : i ≤ j := by omega
  have hjl : j ≤ xs.length := by omega
  have hpos : 0 < e.size := by omega
  have hdel : PG.P.delAt xs (i : Int) (j : Int) = xs.take i ++ xs.drop j := rfl
  have hlen : (PG.P.delAt xs (i : Int) (j : Int)).length = i + (xs.length - j) := by
    rw [hdel]; simp [List.length_take, List.length_drop]; omega
  rw [hlen]
  by_cases hc0 : cap = 0
  · have hx0 : xs = [] := List.length_eq_zero_iff.1 (by omega)
    subst hx0
    simp only [List.length_nil, Nat.le_zero_eq] at hjl
    subst hjl
    have hi : i = 0 := by omega
    subst hi; subst hc0
    refine (same0 A w).mono fun e' w' ⟨h1, h2⟩ => ?_
    subst h1; subst h2
    exact ⟨rfl, fun _ _ _ => rfl, fun b o cs el z => absurd rfl z, rfl, rfl, rfl, Nat.le_refl _⟩
  · obtain ⟨b, o, cells, el, rfl, hb, hfit, hxs⟩ := hxs.resolve_left hc0
    have hmulx : xs.length * e.size ≤ cap * e.size := Nat.mul_le_mul_right _ hxc
    obtain ⟨rx, cx'⟩ := rows_of hpos hb (by omega) hxs
    generalize hCS : (cells.toList.drop o).take (xs.length * e.size) = CS at rx cx'
    have hCl : CS.length = xs.length * 2 := by rw [rx.1, he]
    have fzb : ∀ k, w.frozen? ⟨b, k, none⟩ = false := fun k => by simp [World.frozen?, hb]
    rcases Nat.lt_or_ge i j with hlt | hge
    · refine (del b o xs.length cap i j CS w hlt hjl hxc hCl cx' (fun k _ => fzb _) (rowrep_one hpos rx)).mono fun e' w' ⟨ZS, h1, h2⟩ => ?_
      subst h1; subst h2
      obtain ⟨p1, p2, p3, p4, p5, p6⟩ := sets b (CS.drop (j * 2)) (o + i * 2) w.drew
      obtain ⟨q1, q2, q3, q4, q5, q6⟩ := sets b ZS (o + (i + (xs.length - j)) * 2) (w.drew.setCells b (o + i * 2) (CS.drop (j * 2)))
      refine ⟨rfl, fun k hk hA => (q5 k fun z => hA hc0 o (by rw [z])).trans (p5 k fun z => hA hc0 o (by rw [z])), ?_, q1.trans p1, q2.trans p2, q3.trans p3, by rw [q4, p4]; exact Nat.le_refl _⟩
      intro b' o' cs' el' _ hA hb'
      injection hA with hA
      injection hA with hA1 hA2
      subst hA1; subst hA2
      rw [hb] at hb'
      injection hb' with hb'
      injection hb' with e1 e2 e3
      subst e1; subst e2
      obtain ⟨c1, r1, r2⟩ := p6 cells el (0, 0) hb
      obtain ⟨c2, r3, r4⟩ := q6 c1 el (0, 0) r1
      refine ⟨c2, r3, r4.trans r2, ?_⟩
      have rtake : RowRep Z w e (xs.take i) (CS.take (i * 2)) := by have := RowRep.takeN rx i (by omega); rwa [he] at this
      have rdrop : RowRep Z w e (xs.drop j) (CS.drop (j * 2)) := by have := RowRep.dropN rx j; rwa [he] at this
      have htake : (CS.take (i * 2)).length = i * 2 := by rw [List.length_take, hCl]; omega
      have hdrop : (CS.drop (j * 2)).length = (xs.length - j) * 2 := by rw [List.length_drop, hCl, ← Nat.sub_mul]
      rw [hdel]
      refine mem_of_row (rtake.append rdrop) fun k v hv => ?_
      have hkl := (List.getElem?_eq_some_iff.1 hv).1
      rw [List.length_append, htake, hdrop] at hkl
      rw [World.cell?_setCells_out _ _ _ _ _ (fun _ _ => .inl (by show o + k < o + (i + (xs.length - j)) * 2; omega))]
      rcases Nat.lt_or_ge k (i * 2) with z1 | z1
      · rw [List.getElem?_append_left (by omega), List.getElem?_take, if_pos z1] at hv
        rw [World.cell?_setCells_out _ _ _ _ _ (fun _ _ => .inl (by show o + k < o + i * 2; omega))]
        exact cx' k v hv
      · rw [List.getElem?_append_right (by omega), htake] at hv
        obtain ⟨hl, hv⟩ := List.getElem?_eq_some_iff.1 hv
        have := World.cell?_setCells_in b (CS.drop (j * 2)) (o + i * 2) w.drew (fun t ht => by
          rw [hdrop] at ht
          have : w.cell? ⟨b, o + (i * 2 + t), none⟩ = some _ := cx' (i * 2 + t) _ (List.getElem?_eq_getElem (by omega))
          rw [Nat.add_assoc]
          show (w.cell? _).isSome = true
          rw [this]; rfl) (k - i * 2) hl
        rw [show o + i * 2 + (k - i * 2) = o + k by omega, hv] at this
        exact this
    · have hi : i = j := by omega
      subst hi
      have hsame : i + (xs.length - i) = xs.length := by omega
      refine (same b o xs.length cap i w hjl hxc).mono fun e' w' ⟨h1, h2⟩ => ?_
      subst h1; subst h2
      rw [hsame]
      refine ⟨rfl, fun _ _ _ => rfl, fun b' o' cs' el' _ hA hb' => ?_, rfl, rfl, rfl, Nat.le_refl _⟩
      injection hA with hA
      injection hA with hA1 hA2
      subst hA1; subst hA2
      rw [hb] at hb'
      injection hb' with hb'
      injection hb' with e1 e2 e3
      subst e1; subst e2
      exact ⟨cells, hb, rfl, by rw [hdel, List.take_append_drop]; exact hxs⟩
end DelB
end
section
open Go Go.PG Go.Proofs Go.RowKit Go.Lib
namespace DelL
open InsL (tSL zEL t3 mixed iEL hsz rows_of RowRep.takeN RowRep.dropN sets mem_of_row)
theorem f91 : Tryz.prog.funcs[91]? = some Tryz.f91 := by kernel_rfl
theorem run_clear_cellsK {P : Program} (w : World) (t e ty : TypeId) (z : Value) (ht : P.underlying t = some (.slice e)) (hv : ∀ w, (zeroValue e).run P w = .ok z w) (b o n c : Nat) (hn : 0 < n)
    (hc : ∀ j, j < (Builtin.zeroCells z.cells n).toList.length → (w.cell? ⟨b, o + j, none⟩).isSome = true) (hf : ∀ j, j < (Builtin.zeroCells z.cells n).toList.length → w.frozen? ⟨b, o + j, none⟩ = false) (h1 : ∀ v ∈ (Builtin.zeroCells z.cells n).toList, v.oneCell' = true) :
    (Builtin.clear_ #[t] ty #[.slice (some ⟨b, o, none⟩) n c]).run P w = .ok (.tuple #[]) (w.setCells b o (Builtin.zeroCells z.cells n).toList) := by
  have hst := run_storeCells_cells (P := P) b o (Builtin.zeroCells z.cells n).toList 0 w hc hf h1
  simp only [Nat.add_zero] at hst
  obtain ⟨m, rfl⟩ : ∃ m, n = m + 1 := ⟨n - 1, by omega⟩
  simp [Builtin.clear_, run_underlying ht, hv, hst]

set_option maxHeartbeats 4000000 in
set_option maxRecDepth 100000 in
theorem same (b off n c i : Nat) (w : World) (hi : i ≤ n) (hnc : n ≤ c) :
    Calls Tryz.prog 91 #[.slice (some ⟨b, off, none⟩) n c, .int .i64 i, .int .i64 i] w fun e w' => e = .returned (.slice (some ⟨b, off, none⟩) n c) ∧ w' = w := by
  have tSL := tSL; have zEL := zEL; have t3 := t3
  have uSL := run_underlying tSL; have u3 := run_underlying t3
  have mixed := mixed
  go_enter Tryz.func91, Tryz.ntmps91
  go_wp2
  all_goals (go_ret; exact ⟨rfl, rfl⟩)

set_option maxHeartbeats 4000000 in
set_option maxRecDepth 100000 in
theorem same0 (A : Option Addr) (w : World) :
    Calls Tryz.prog 91 #[.slice A 0 0, .int .i64 0, .int .i64 0] w fun e w' => e = .returned (.slice A 0 0) ∧ w' = w := by
  have tSL := tSL; have zEL := zEL; have t3 := t3
  have uSL := run_underlying tSL; have u3 := run_underlying t3
  have mixed := mixed
  cases A with
  | none =>
    go_enter Tryz.func91, Tryz.ntmps91
    go_wp2
    all_goals (go_ret; exact ⟨rfl, rfl⟩)
  | some a =>
    obtain ⟨ab, ao, asp⟩ := a
    go_enter Tryz.func91, Tryz.ntmps91
    go_wp2
    all_goals (go_ret; exact ⟨rfl, rfl⟩)

set_option maxHeartbeats 4000000 in
set_option maxRecDepth 100000 in
theorem del (b off n c i j : Nat) (cs : List Value) (w : World) (hij : i < j) (hjn : j ≤ n) (hnc : n ≤ c)
    (hcl : cs.length = n * 4) (hcs : ∀ t v, cs[t]? = some v → w.cell? ⟨b, off + t, none⟩ = some v) (hfz : ∀ t, t < n * 4 → w.frozen? ⟨b, off + t, none⟩ = false) (h1c : ∀ v ∈ cs, v.oneCell' = true) :
    Calls Tryz.prog 91 #[.slice (some ⟨b, off, none⟩) n c, .int .i64 i, .int .i64 j] w fun e w' => ∃ ZS : List Value,
      e = .returned (.slice (some ⟨b, off, none⟩) (i + (n - j)) c) ∧ w' = (w.drew.setCells b (off + i * 4) (cs.drop (j * 4))).setCells b (off + (i + (n - j)) * 4) ZS := by
  have tSL := tSL; have zEL := zEL; have t3 := t3
  have uSL := run_underlying tSL; have u3 := run_underlying t3
  have mixed := mixed
  obtain ⟨i0, hi0, hz0, hzs, hzb⟩ := iEL
  obtain ⟨z, hzz, hzc⟩ : ∃ z, i0.zero = some z ∧ z.cells = #[.int .i64 0, .int .i64 0, .slice none 0 0, .slice none 0 0] := by
    cases q : i0.zero with
    | none => rw [q] at hz0; cases hz0
    | some z =>
      rw [q] at hz0
      simp only [Option.map_some, Option.some.injEq] at hz0
      exact ⟨z, rfl, hz0⟩
  have hzv : ∀ w, (zeroValue 36).run Tryz.prog w = .ok z w := fun w => by simp [zeroValue, typeInfo, hi0, hzz]
  obtain ⟨news, hnews⟩ : ∃ news, news = cs.drop (j * 4) := ⟨_, rfl⟩
  have hlen : news.length = (n - j) * 4 := by rw [hnews, List.length_drop, hcl]; omega
  have hcell : ∀ t, t < n * 4 → (w.cell? ⟨b, off + t, none⟩).isSome = true := fun t ht => by
    rw [hcs t _ (List.getElem?_eq_getElem (by omega))]; rfl
  obtain ⟨A, hA, hsrc⟩ : ∃ A : Addr, (if c = j then some (⟨b, off, none⟩ : Addr) else some ⟨b, off + j * 4, none⟩) = some A ∧ Hid (∀ t u, news[t]? = some u → w.drew.cell? (A.add t) = some u) := by
    by_cases h : c = j
    · refine ⟨⟨b, off, none⟩, by simp [h], fun t u hu => ?_⟩
      have h0 : news.length = 0 := by rw [hlen]; omega
      rw [List.length_eq_zero_iff.1 h0] at hu
      simp at hu
    · refine ⟨⟨b, off + j * 4, none⟩, by simp [h], fun t u hu => ?_⟩
      rw [hnews, List.getElem?_drop] at hu
      rw [Addr.add_lit, Nat.add_assoc]
      exact hcs _ u hu
  have s1 : Hid (news.length = (n - j) * 4) := hlen
  have s2 : Hid (∀ u ∈ news, u.oneCell' = true) := by
    intro u hu
    rw [hnews] at hu
    exact h1c u (List.mem_of_mem_drop hu)
  have s3 : Hid (∀ t, t < news.length → (w.drew.cell? ⟨b, off + i * 4 + t, none⟩).isSome = true ∧ w.drew.frozen? ⟨b, off + i * 4 + t, none⟩ = false) := by
    intro t ht
    rw [hlen] at ht
    rw [Nat.add_assoc]
    exact ⟨hcell _ (by omega), hfz _ (by omega)⟩
  obtain ⟨W1, hW1⟩ : ∃ W1, W1 = w.drew.setCells b (off + i * 4) news := ⟨_, rfl⟩
  have hsp1 : ∀ k, k < n * 4 → (W1.cell? ⟨b, off + k, none⟩).isSome = true := fun k hk => by
    rw [hW1]
    exact isSome_setCells b _ _ _ (fun t ht => by rw [Nat.add_assoc]; exact hcell _ (by omega)) _ (hcell k hk)
  have hfz1 : ∀ k, k < n * 4 → W1.frozen? ⟨b, off + k, none⟩ = false := fun k hk => by
    rw [hW1, World.frozen?_setCells]; exact hfz k hk
  obtain ⟨ZS, hZS⟩ : ∃ ZS, ZS = (Builtin.zeroCells z.cells (n - (i + (n - j)))).toList := ⟨_, rfl⟩
  have hZl : ZS.length = (n - (i + (n - j))) * 4 := by rw [hZS, Array.length_toList, zeroCells_len, hzc]; rfl
  have hZ1 : ∀ v ∈ ZS, v.oneCell' = true := fun v hv => by
    rw [hZS, Array.mem_toList_iff, Builtin.zeroCells, Array.mem_map] at hv
    obtain ⟨k, hk0, rfl⟩ := hv
    have hall : ∀ u ∈ z.cells.toList, u.oneCell' = true := by rw [hzc]; decide
    have hpos : 0 < z.cells.size := by rw [hzc]; decide
    have : k % z.cells.size < z.cells.size := Nat.mod_lt _ hpos
    rw [getElem!_pos z.cells _ this]
    exact hall _ (Array.getElem_mem_toList this)
  have hcl : ∀ ty, (Builtin.clear_ #[23] ty #[.slice (some ⟨b, off + (i + (n - j)) * 4, none⟩) (n - (i + (n - j))) (c - (i + (n - j)))]).run Tryz.prog W1 = .ok (.tuple #[]) (W1.setCells b (off + (i + (n - j)) * 4) ZS) := fun ty => by
    rw [hZS]
    rw [hZS] at hZl hZ1
    exact run_clear_cellsK W1 23 36 ty z tSL hzv b _ _ _ (by omega) (fun t ht => by rw [hZl] at ht; rw [Nat.add_assoc]; exact hsp1 _ (by omega)) (fun t ht => by rw [hZl] at ht; rw [Nat.add_assoc]; exact hfz1 _ (by omega)) hZ1
  have hW : Hid (W1 = w.drew.setCells b (off + i * 4) news) := hW1
  have X : Hid (W1 = w.drew.setCells b (off + i * 4) (cs.drop (j * 4))) := by rw [← hnews]; exact hW1
  have hic : i ≤ c := by omega
  have hjc : j ≤ c := by omega
  have hin : i ≤ n := by omega
  have hz2 : ¬ ((i : Int) = (j : Int)) := by omega
  have hlc : ¬ (c = i + (n - j)) := by omega
  have hle : i + (n - j) ≤ n := by omega
  have hlec : i + (n - j) ≤ c := by omega
  refine Calls.mono (R := fun e w' => e = .returned (.slice (some ⟨b, off, none⟩) (i + (n - j)) c) ∧ w' = W1.setCells b (off + (i + (n - j)) * 4) ZS) ?_ fun e w' h => ⟨ZS, h.1, by rw [h.2, X.out]⟩
  clear hW1 hsp1 hfz1 hcell hnews hlen X hZS hZl hZ1 hzc hcs hfz h1c
  go_enter Tryz.func91, Tryz.ntmps91
  go_wp2_with fail
  go_region_law_o (refine step_append_room rfl (.tmp 22) (.tmp 25) 23 rfl 36 i0 4 tSL hi0 hzs b off i c (by simp [Act.eval, Act.put]) A (n - j) (c - j) news (by simp [Act.eval, Act.put]) s1.out hsrc.out s2.out (by omega) s3.out ?_; rw [← hW.out])
  go_wp2
  go_ret
  exact ⟨rfl, rfl⟩
end DelL
end
section
open Go Go.PG Go.Proofs Go.RowKit
namespace DelL
open InsL (rows_of RowRep.takeN RowRep.dropN sets mem_of_row)
set_option maxHeartbeats 1000000 in
theorem del_ok {G : World → Prop} {e : Ty} (he : e.size = 4) : DelOk Tryz.prog G 91 e := by
  intro Z w A cap xs i j _ hxc hi0 hij hjl hxs
  obtain ⟨i, rfl⟩ : ∃ n : Nat, i = n := ⟨i.toNat, by omega⟩
  obtain ⟨j, rfl⟩ : ∃ n : Nat, j = n := ⟨j.toNat, by omega⟩
  have hij : i ≤ j := by omega
  have hjl : j ≤ xs.length := by omega
  have hpos : 0 < e.size := by omega
  have hdel : PG.P.delAt xs (i : Int) (j : Int) = xs.take i ++ xs.drop j := rfl
  have hlen : (PG.P.delAt xs (i : Int) (j : Int)).length = i + (xs.length - j) := by
    rw [hdel]; simp [List.length_take, List.length_drop]; omega
  rw [hlen]
  by_cases hc0 : cap = 0
  · have hx0 : xs = [] := List.length_eq_zero_iff.1 (by omega)
    subst hx0
    simp only [List.length_nil, Nat.le_zero_eq] at hjl
    subst hjl
    have hi : i = 0 := by omega
    subst hi; subst hc0
    refine (same0 A w).mono fun e' w' ⟨h1, h2⟩ => ?_
    subst h1; subst h2
    exact ⟨rfl, fun _ _ _ => rfl, fun b o cs el z => absurd rfl z, rfl, rfl, rfl, Nat.le_refl _⟩
  · obtain ⟨b, o, cells, el, rfl, hb, hfit, hxs⟩ := hxs.resolve_left hc0
    have hmulx : xs.length * e.size ≤ cap * e.size := Nat.mul_le_mul_right _ hxc
    obtain ⟨rx, cx'⟩ := rows_of hpos hb (by omega) hxs
    generalize hCS : (cells.toList.drop o).take (xs.length * e.size) = CS at rx cx'
    have hCl : CS.length = xs.length * 4 := by rw [rx.1, he]
    have fzb : ∀ k, w.frozen? ⟨b, k, none⟩ = false := fun k => by simp [World.frozen?, hb]
    rcases Nat.lt_or_ge i j with hlt | hge
    · refine (del b o xs.length cap i j CS w hlt hjl hxc hCl cx' (fun k _ => fzb _) (rowrep_one hpos rx)).mono fun e' w' ⟨ZS, h1, h2⟩ => ?_
      subst h1; subst h2
      obtain ⟨p1, p2, p3, p4, p5, p6⟩ := sets b (CS.drop (j * 4)) (o + i * 4) w.drew
      obtain ⟨q1, q2, q3, q4, q5, q6⟩ := sets b ZS (o + (i + (xs.length - j)) * 4) (w.drew.setCells b (o + i * 4) (CS.drop (j * 4)))
      refine ⟨rfl, fun k hk hA => (q5 k fun z => hA hc0 o (by rw [z])).trans (p5 k fun z => hA hc0 o (by rw [z])), ?_, q1.trans p1, q2.trans p2, q3.trans p3, by rw [q4, p4]; exact Nat.le_refl _⟩
      intro b' o' cs' el' _ hA hb'
      injection hA with hA
      injection hA with hA1 hA2
      subst hA1; subst hA2
      rw [hb] at hb'
      injection hb' with hb'
      injection hb' with e1 e2 e3
      subst e1; subst e2
      obtain ⟨c1, r1, r2⟩ := p6 cells el (0, 0) hb
      obtain ⟨c2, r3, r4⟩ := q6 c1 el (0, 0) r1
      refine ⟨c2, r3, r4.trans r2, ?_⟩
      have rtake : RowRep Z w e (xs.take i) (CS.take (i * 4)) := by have := RowRep.takeN rx i (by omega); rwa [he] at this
      have rdrop : RowRep Z w e (xs.drop j) (CS.drop (j * 4)) := by have := RowRep.dropN rx j; rwa [he] at this
      have htake : (CS.take (i * 4)).length = i * 4 := by rw [List.length_take, hCl]; omega
      have hdrop : (CS.drop (j * 4)).length = (xs.length - j) * 4 := by rw [List.length_drop, hCl, ← Nat.sub_mul]
      rw [hdel]
      refine mem_of_row (rtake.append rdrop) fun k v hv => ?_
      have hkl := (List.getElem?_eq_some_iff.1 hv).1
      rw [List.length_append, htake, hdrop] at hkl
      rw [World.cell?_setCells_out _ _ _ _ _ (fun _ _ => .inl (by show o + k < o + (i + (xs.length - j)) * 4; omega))]
      rcases Nat.lt_or_ge k (i * 4) with z1 | z1
      · rw [List.getElem?_append_left (by omega), List.getElem?_take, if_pos z1] at hv
        rw [World.cell?_setCells_out _ _ _ _ _ (fun _ _ => .inl (by show o + k < o + i * 4; omega))]
        exact cx' k v hv
      · rw [List.getElem?_append_right (by omega), htake] at hv
        obtain ⟨hl, hv⟩ := List.getElem?_eq_some_iff.1 hv
        have := World.cell?_setCells_in b (CS.drop (j * 4)) (o + i * 4) w.drew (fun t ht => by
          rw [hdrop] at ht
          have : w.cell? ⟨b, o + (i * 4 + t), none⟩ = some _ := cx' (i * 4 + t) _ (List.getElem?_eq_getElem (by omega))
          rw [Nat.add_assoc]
          show (w.cell? _).isSome = true
          rw [this]; rfl) (k - i * 4) hl
        rw [show o + i * 4 + (k - i * 4) = o + k by omega, hv] at this
        exact this
    · have hi : i = j := by omega
      subst hi
      have hsame : i + (xs.length - i) = xs.length := by omega
      refine (same b o xs.length cap i w hjl hxc).mono fun e' w' ⟨h1, h2⟩ => ?_
      subst h1; subst h2
      rw [hsame]
      refine ⟨rfl, fun _ _ _ => rfl, fun b' o' cs' el' _ hA hb' => ?_, rfl, rfl, rfl, Nat.le_refl _⟩
      injection hA with hA
      injection hA with hA1 hA2
      subst hA1; subst hA2
      rw [hb] at hb'
      injection hb' with hb'
      injection hb' with e1 e2 e3
      subst e1; subst e2
      exact ⟨cells, hb, rfl, by rw [hdel, List.take_append_drop]; exact hxs⟩
end DelL
end
section
/- slices.SortFunc at atoms: what it leaves. -/
open Go Go.Proofs Go.Lib Go.RowKit
namespace Go.Proofs
open Go.Shelf
def Tryz.sortL_ren : Go.Shelf.Ren := ⟨fun | 6 => 78 | 15 => 101 | 14 => 100 | 28 => 117 | 29 => 118 | 20 => 109 | 21 => 110 | 22 => 111 | 23 => 112 | 24 => 113 | 25 => 114 | 26 => 115 | 27 => 116 | 46 => 123 | 47 => 124 | 48 => 125 | 49 => 126 | 50 => 127 | 57 => 130 | n => n, fun | 22 => 29 | 24 => 34 | 25 => 71 | 3 => 3 | 39 => 112 | 0 => 0 | 53 => 126 | 55 => 104 | 4 => 4 | 46 => 120 | 45 => 119 | 50 => 76 | 5 => 5 | 9 => 9 | 66 => 129 | 70 => 133 | 76 => 137 | 77 => 138 | n => n, fun | n => n⟩
theorem Tryz.sortL : Go.Proofs.SlLaysF0.n6 Tryz.prog Tryz.sortL_ren := {
  mixed := by kernel_rfl
  f6 := ⟨Tryz.f78.name, by decide, Tryz.func78.trans (congrArg some (by kernel_rfl))⟩
  f14 := ⟨Tryz.f100.name, by decide, Tryz.func100.trans (congrArg some (by kernel_rfl))⟩
  f15 := Tryz.func101.trans (congrArg some (by kernel_rfl))
  f20 := ⟨Tryz.f109.name, by decide, Tryz.func109.trans (congrArg some (by kernel_rfl))⟩
  f21 := ⟨Tryz.f110.name, by decide, Tryz.func110.trans (congrArg some (by kernel_rfl))⟩
  f22 := ⟨Tryz.f111.name, by decide, Tryz.func111.trans (congrArg some (by kernel_rfl))⟩
  f23 := ⟨Tryz.f112.name, by decide, Tryz.func112.trans (congrArg some (by kernel_rfl))⟩
  f24 := ⟨Tryz.f113.name, by decide, Tryz.func113.trans (congrArg some (by kernel_rfl))⟩
  f25 := ⟨Tryz.f114.name, by decide, Tryz.func114.trans (congrArg some (by kernel_rfl))⟩
  f26 := ⟨Tryz.f115.name, by decide, Tryz.func115.trans (congrArg some (by kernel_rfl))⟩
  f27 := ⟨Tryz.f116.name, by decide, Tryz.func116.trans (congrArg some (by kernel_rfl))⟩
  f28 := Tryz.func117.trans (congrArg some (by kernel_rfl))
  f29 := Tryz.func118.trans (congrArg some (by kernel_rfl))
  f46 := ⟨Tryz.f123.name, by decide, Tryz.func123.trans (congrArg some (by kernel_rfl))⟩
  f47 := Tryz.func124.trans (congrArg some (by kernel_rfl))
  f48 := Tryz.func125.trans (congrArg some (by kernel_rfl))
  f49 := ⟨Tryz.f126.name, by decide, Tryz.func126.trans (congrArg some (by kernel_rfl))⟩
  f50 := ⟨Tryz.f127.name, by decide, Tryz.func127.trans (congrArg some (by kernel_rfl))⟩
  f57 := ⟨Tryz.f130.name, by decide, Tryz.func130.trans (congrArg some (by kernel_rfl))⟩
  t0 := Tryz.underlying0
  a0 := Tryz.isAgg0
  z0 := Tryz.sizeOf0
  v0 := Tryz.zeroValue0
  t3 := Tryz.underlying3
  a3 := Tryz.isAgg3
  z3 := Tryz.sizeOf3
  v3 := Tryz.zeroValue3
  t4 := Tryz.underlying4
  a4 := Tryz.isAgg4
  z4 := Tryz.sizeOf4
  v4 := Tryz.zeroValue4
  t5 := Tryz.underlying5
  a5 := Tryz.isAgg5
  z5 := Tryz.sizeOf5
  v5 := Tryz.zeroValue5
  t9 := Tryz.underlying9
  a9 := Tryz.isAgg9
  z9 := Tryz.sizeOf9
  v9 := Tryz.zeroValue9
  t22 := Tryz.underlying29
  a22 := Tryz.isAgg29
  z22 := Tryz.sizeOf29
  v22 := Tryz.zeroValue29
  t25 := Tryz.underlying71
  a25 := Tryz.isAgg71
  z25 := Tryz.sizeOf71
  v25 := Tryz.zeroValue71
  t39 := Tryz.underlying112
  a39 := Tryz.isAgg112
  z39 := Tryz.sizeOf112
  v39 := Tryz.zeroValue112
  t45 := Tryz.underlying119
  a45 := Tryz.isAgg119
  z45 := Tryz.sizeOf119
  v45 := Tryz.zeroValue119
  t46 := Tryz.underlying120
  a46 := Tryz.isAgg120
  z46 := Tryz.sizeOf120
  v46 := Tryz.zeroValue120
  t50 := Tryz.underlying76
  a50 := Tryz.isAgg76
  z50 := Tryz.sizeOf76
  v50 := Tryz.zeroValue76
  t53 := Tryz.underlying126
  a53 := Tryz.isAgg126
  z53 := Tryz.sizeOf126
  v53 := Tryz.zeroValue126
  t55 := Tryz.underlying104
  a55 := Tryz.isAgg104
  z55 := Tryz.sizeOf104
  v55 := Tryz.zeroValue104
  t66 := Tryz.underlying129
  a66 := Tryz.isAgg129
  z66 := Tryz.sizeOf129
  v66 := Tryz.zeroValue129
  t70 := Tryz.underlying133
  a70 := Tryz.isAgg133
  z70 := Tryz.sizeOf133
  v70 := Tryz.zeroValue133
  t76 := Tryz.underlying137
  a76 := Tryz.isAgg137
  z76 := Tryz.sizeOf137
  v76 := Tryz.zeroValue137
  t77 := Tryz.underlying138
  a77 := Tryz.isAgg138
  z77 := Tryz.sizeOf138
  v77 := Tryz.zeroValue138 }
end Go.Proofs
namespace SortZ
theorem nan_c (x : Int) (w : World) : Calls Tryz.prog 95 #[.int .i64 x] w fun e w' => e = .returned (.bool false) ∧ w' = w := by
  go_enter Tryz.func95, Tryz.ntmps95
  go_wp2
  go_ret
  exact ⟨by simp, rfl⟩
theorem cmp_c (x y : Int) (w : World) : Calls Tryz.prog 70 #[.int .i64 x, .int .i64 y] w fun e w' => e = .returned (.int .i64 (Lib.compareInt x y)) ∧ w' = w := by
  go_enter Tryz.func70, Tryz.ntmps70
  go_wp2_with (go_at_call 95; refine (nan_c _ _).mono ?_; rintro e w' ⟨rfl, hw⟩; rw [hw])
  all_goals (go_ret; refine ⟨?_, rfl⟩; unfold Lib.compareInt; (repeat' split) <;> first | rfl | (exfalso; omega))
def orI (x y : Int) : Int := if x = 0 then y else x
theorem or_c (b cap : Nat) (x y : Int) (w : World) (h0 : w.cell? ⟨b, 0, none⟩ = some (.int .i64 x)) (h1 : w.cell? ⟨b, 1, none⟩ = some (.int .i64 y)) :
    Calls Tryz.prog 69 #[.slice (some ⟨b, 0, none⟩) 2 cap] w fun e w' => e = .returned (.int .i64 (orI x y)) ∧ w' = w := by
  unfold orI
  go_enter Tryz.func69, Tryz.ntmps69
  go_wp2
  refine wp_loop_rounds 3 ?_
  rw [rounds_succ]
  go_wp2
  · exact absurd ‹x = 0› (by simpa using ‹(x != 0) = true›)
  · go_ret
    exact ⟨rfl, rfl⟩
  have hx : x = 0 := by simpa using ‹(x != 0) = false›
  subst hx
  rw [rounds_succ]
  go_wp2
  · go_ret
    exact ⟨rfl, rfl⟩
  have hy : y = 0 := by simpa using ‹(y != 0) = false›
  subst hy
  rw [rounds_succ]
  go_wp2
  go_ret
  exact ⟨rfl, rfl⟩
theorem cell_new (W : World) (x y : Value) (T : TypeId) (n : Nat) (hn : n = W.heap.size) : (W.alloc (.cells #[x, y] T)).drew.cell? ⟨n, 0, none⟩ = some x ∧ (W.alloc (.cells #[x, y] T)).drew.cell? ⟨n, 1, none⟩ = some y := by
  subst hn
  constructor <;> simp
theorem three (w : World) (o1 o2 o3 : Obj) : ∃ q os', (((w.alloc o1).alloc o2).alloc o3).drew = Sort.grow (w.drewN q) os' := by
  refine ⟨1, #[o1] ++ #[o2] ++ #[o3], ?_⟩
  rw [Sort.alloc_eq_grow, Sort.alloc_eq_grow, Sort.alloc_eq_grow, Sort.grow_grow, Sort.grow_grow]
  rfl
def cf (a b : Int × Int) : Int := orI (Lib.compareInt a.1 b.1) (Lib.compareInt a.2 b.2)
def enc (a : Int × Int) : List Value := [.int .i64 a.1, .int .i64 a.2]
theorem at_c (a b : Int × Int) (w : World) : Calls Tryz.prog 51 #[.agg #[.int .i64 a.1, .int .i64 a.2], .agg #[.int .i64 b.1, .int .i64 b.2]] w fun e w' => e = .returned (.int .i64 (cf a b)) ∧ ∃ q os', w' = Sort.grow (w.drewN q) os' := by
  go_enter Tryz.func51, Tryz.ntmps51
  go_wp2
  go_region_held3 (fun w' => w'.cell? ⟨w.heap.size, 0, none⟩ = some (.int .i64 a.1) ∧ w'.cell? ⟨w.heap.size, 1, none⟩ = some (.int .i64 a.2) ∧ w'.cell? ⟨w.heap.size + 1, 0, none⟩ = some (.int .i64 b.1) ∧ w'.cell? ⟨w.heap.size + 1, 1, none⟩ = some (.int .i64 b.2)) (go_keep)
    (first | (go_at_call 70; refine (cmp_c _ _ _).mono ?_; rintro e w' ⟨rfl, rfl⟩) | (go_at_call 69; go_must (refine (or_c _ _ (compareInt a.1 b.1) (compareInt a.2 b.2) _ (cell_new _ _ _ _ _ (by simp)).1 (cell_new _ _ _ _ _ (by simp)).2).mono ?_); rintro e w' ⟨rfl, rfl⟩))
  all_goals go_wp2
  go_ret
  exact ⟨rfl, three _ _ _ _⟩
theorem ins_nil (p : Option Addr) (cap : Nat) (w : World) : Calls Tryz.prog 109 #[.slice p 0 cap, .int .i64 0, .int .i64 0, .func (.func 51) #[] #[]] w fun e w' => e = .returned (.tuple #[]) ∧ w' = w := by
  go_enter Tryz.func109, Tryz.ntmps109
  go_wp2
  refine wp_loop_rounds 1 ?_
  rw [rounds_succ]
  go_wp2
  go_end0
  exact ⟨rfl, rfl⟩
set_option maxRecDepth 100000 in
theorem pdq_nil (p : Option Addr) (cap : Nat) (w : World) : Calls Tryz.prog 100 #[.slice p 0 cap, .int .i64 0, .int .i64 0, .int .i64 0, .func (.func 51) #[] #[]] w fun e w' => e = .returned (.tuple #[]) ∧ w' = w := by
  go_enter Tryz.func100, Tryz.ntmps100
  go_wp2
  refine wp_loop_rounds 1 ?_
  rw [rounds_succ]
  go_wp2_with (first | (go_at_call 109; refine (ins_nil p cap _).mono ?_; rintro e w' ⟨rfl, rfl⟩))
  refine bodyPost_ret (results_none rfl _ _ _) rfl ?_
  exact ⟨rfl, rfl⟩
theorem sort_nil (p : Option Addr) (cap : Nat) (w : World) : Calls Tryz.prog 78 #[.slice p 0 cap, .func (.func 51) #[] #[]] w fun e w' => e = .returned (.tuple #[]) ∧ w' = w := by
  have hLen : ∀ w, Calls Tryz.prog 101 #[.int .u64 0] w fun e w' => e = .returned (.int .i64 0) ∧ w' = w := fun w => Any.bits_Len (SlLaysF0.n15.bits (P := Tryz.prog) (ρ := Tryz.sortL_ren) { Tryz.sortL with }) 0 w (by omega) (by omega)
  go_enter Tryz.func78, Tryz.ntmps78
  go_wp2_with (first
    | (go_at_call 101; refine (hLen _).mono ?_; rintro e w' ⟨rfl, rfl⟩)
    | (go_at_call 100; refine (pdq_nil p cap _).mono ?_; rintro e w' ⟨rfl, rfl⟩))
  go_end0
  exact ⟨rfl, rfl⟩
end SortZ
end
section
/- slices.SortFunc at atoms, as a function that writes its row anew. -/
open Go Go.PG Go.Proofs Go.RowKit Go.Sort
namespace SortZ
def sortF (l : List (Int × Int)) : Option (List (Int × Int)) := if l.length < 4611686018427387904 then some (l.mergeSort fun a b => decide (a.1 < b.1 ∨ (a.1 = b.1 ∧ a.2 ≤ b.2))) else none
theorem cf_lt (a b : Int × Int) : ltOf cf a b = decide (a.1 < b.1 ∨ (a.1 = b.1 ∧ a.2 < b.2)) := by
  unfold ltOf cf orI Lib.compareInt
  rw [decide_eq_decide]
  repeat' split
  all_goals omega
theorem swo : SWO (ltOf cf) := by
  refine ⟨fun x => ?_, fun x y z => ?_, fun x y z => ?_⟩
  · rw [cf_lt]; simp
  · rw [cf_lt, cf_lt, cf_lt]; simp only [decide_eq_true_eq]; omega
  · rw [cf_lt, cf_lt, cf_lt]; simp only [decide_eq_false_iff_not]; omega
theorem uniq (x y : Int × Int) (h1 : ltOf cf x y = false) (h2 : ltOf cf y x = false) : x = y := by
  rw [cf_lt] at h1 h2
  simp only [decide_eq_false_iff_not] at h1 h2
  exact Prod.ext (by omega) (by omega)
theorem leb_eq : (fun x y : Int × Int => !ltOf cf y x) = fun a b => decide (a.1 < b.1 ∨ (a.1 = b.1 ∧ a.2 ≤ b.2)) := by
  funext a b
  rw [cf_lt, Bool.eq_iff_iff]
  simp only [Bool.not_eq_true', decide_eq_false_iff_not, decide_eq_true_eq]
  omega
abbrev TA : Ty := .st (.pair (.int .i64) (.int .i64))
theorem rep_enc {Z : Nat → Prop} {w : World} {x : TA.D} {cs : List Value} : RepD Z w TA x cs ↔ cs = enc x := by
  simp only [RepD]
  constructor
  · rintro ⟨c1, c2, rfl, rfl, rfl⟩; rfl
  · intro h; exact ⟨_, _, h, rfl, rfl⟩
theorem enc_len (x : Int × Int) : (enc x).length = 2 := rfl
theorem sort_ok (G : World → Prop) : InplOk Tryz.prog G 78 ⟨TA, 51, sortF⟩ := by
  refine ⟨rfl, ?_⟩
  intro w A cap xs ys _ hF hcap hrow
  have hlen : xs.length < 4611686018427387904 := by
    apply Classical.byContradiction
    intro q
    simp only [sortF] at hF
    rw [if_neg q] at hF
    cases hF
  have hF : xs.mergeSort (fun a b => decide (a.1 < b.1 ∨ (a.1 = b.1 ∧ a.2 ≤ b.2))) = ys := by
    simp only [sortF] at hF
    rw [if_pos hlen] at hF
    exact Option.some.inj hF
  by_cases hx : xs = []
  · subst hx
    have hy : ys = [] := by rw [← hF]; exact List.mergeSort_nil
    subst hy
    refine (sort_nil A cap w).mono ?_
    rintro e w' ⟨rfl, rfl⟩
    exact ⟨rfl, rfl, rfl, rfl, rfl, Nat.le_refl _, fun _ k _ => rfl, fun b o cs el h => absurd rfl h⟩
  · obtain ⟨b, o, cs, el, rfl, hb, hfit, hel⟩ := hrow.resolve_left hx
    have hsz : ∀ l : List TA.D, l.toArray.size = l.length := fun l => rfl
    have hfr : ∀ a : Addr, a.block = b → w.frozen? a = false := by
      intro a ha
      unfold World.frozen?
      rw [ha, hb]
      simp
    have hbs : b < w.heap.size := (Array.getElem?_eq_some_iff.1 hb).1
    have hget : ∀ (l : List TA.D) (i : Nat) (x : TA.D), l[i]? = some x → l.toArray[i]! = x := by
      intro l i x h
      obtain ⟨h1, h2⟩ := List.getElem?_eq_some_iff.1 h
      simp [h1, h2]
    have hH : HoldsK enc 2 w b o xs.toArray := by
      intro j hj
      rw [size_flatK, hsz] at hj
      refine ⟨?_, hfr _ rfl⟩
      rw [get_flatK _ _ _ _ hj]
      have hi : j / 2 < xs.length := by omega
      obtain ⟨d, h1, h2⟩ := hel (j / 2) xs[j / 2] (List.getElem?_eq_getElem hi)
      rw [rep_enc] at h1
      subst h1
      rw [hget xs (j / 2) xs[j / 2] (List.getElem?_eq_getElem hi)]
      have hv : (enc xs[j / 2])[j % 2]? = some (enc xs[j / 2])[j % 2]! := by
        have : j % 2 < (enc xs[j / 2]).length := by rw [enc_len]; omega
        rw [List.getElem?_eq_getElem this]; simp [this]
      have := h2 (j % 2) _ hv
      rw [show o + j = o + j / 2 * TA.size + j % 2 from by show o + j = o + j / 2 * 2 + j % 2; omega]
      exact this
    have hcmp : CmpLays Tryz.prog 51 #[] enc 2 cf b o xs.toArray.size w := fun m os dk _ x y => at_c x y _
    have main := AnyQ.slices_SortFunc (P := Tryz.prog) (ρ := Tryz.sortL_ren) Tryz.sortL 2 Tryz.isAgg34 Tryz.sizeOf34 enc enc_len (fun x v hv => by
      simp only [enc, List.mem_cons, List.not_mem_nil, or_false] at hv
      rcases hv with rfl | rfl <;> rfl) cf swo 51 #[] b o cap xs.toArray w (enters_of Tryz.func51 (by kernel_rfl) rfl) hcmp hH hbs hlen
    refine main.mono ?_
    rintro e w' ⟨rfl, d', n, os, hperm, hsort, rfl⟩
    have hys : d'.toList = ys := by
      have := sorted_unique_holds (lt := ltOf cf) swo uniq xs.toArray d' hperm hsort
      rw [leb_eq] at this
      rw [this, ← hF]
    have hd : d' = ys.toArray := by rw [← hys]
    subst hd
    have hl : ys.length = xs.length := by rw [← hF, List.length_mergeSort]
    have hb' : (sortWorldK enc 2 w b o n ys.toArray os).heap[b]? = some (.cells (putCells id o (flatK enc 2 ys.toArray) cs) el (0, 0)) := by
      unfold sortWorldK grow putRowK putRow mapBlock
      show (w.heap.modify b _ ++ os)[b]? = _
      rw [Array.getElem?_append_left (by simpa using hbs), Array.getElem?_modify, if_pos rfl, hb]
      rfl
    refine ⟨rfl, hl, rfl, rfl, rfl, size_sortWorldK_c enc 2 w b o n _ os, fun q => absurd q hx, ?_⟩
    intro b1 o1 cs1 el1 _ hA hb1
    obtain ⟨rfl, rfl⟩ : b = b1 ∧ o = o1 := by
      have := Option.some.inj hA
      exact ⟨congrArg Addr.block this, congrArg Addr.off this⟩
    rw [hb] at hb1
    obtain ⟨rfl, rfl⟩ : cs = cs1 ∧ el = el1 := by
      have := Option.some.inj hb1
      injection this with h1 h2
      exact ⟨h1, h2⟩
    refine ⟨fun k hk hne => ?_, putCells id o (flatK enc 2 ys.toArray) cs, hb', by simp [putCells], fun i y hy => ⟨enc y, rep_enc.2 rfl, fun j v hv => ?_⟩⟩
    · unfold sortWorldK grow putRowK putRow mapBlock
      show (w.heap.modify b _ ++ os)[k]? = _
      rw [Array.getElem?_append_left (by simpa using hk), Array.getElem?_modify, if_neg (fun q => hne q.symm)]
    · have hi : i < ys.length := (List.getElem?_eq_some_iff.1 hy).1
      have hj : j < 2 := by have := (List.getElem?_eq_some_iff.1 hv).1; rw [enc_len] at this; exact this
      have ht : i * 2 + j < (flatK enc 2 ys.toArray).size := by rw [size_flatK, hsz]; omega
      rw [show o + i * TA.size + j = o + (i * 2 + j) from by show o + i * 2 + j = _; omega]
      unfold World.cell?
      rw [show (Addr.mk b (o + (i * 2 + j)) none).block = b from rfl, hb']
      have hc : o + (i * 2 + j) < cs.size := by
        have : xs.length * 2 = xs.length * TA.size := rfl
        rw [← this] at hfit
        rw [size_flatK, hsz] at ht
        omega
      simp only [putCells, Option.isSome_none, Bool.false_eq_true, if_false, Array.getElem?_mapIdx, Array.getElem?_eq_getElem hc, Option.map_some]
      rw [if_pos ⟨by omega, by omega⟩, show o + (i * 2 + j) - o = i * 2 + j by omega, get_flatK _ _ _ _ (by simpa using ht), show (i * 2 + j) / 2 = i by omega, show (i * 2 + j) % 2 = j by omega, hget ys i y hy]
      obtain ⟨h1, h2⟩ := List.getElem?_eq_some_iff.1 hv
      simp [h1, h2]
end SortZ
end

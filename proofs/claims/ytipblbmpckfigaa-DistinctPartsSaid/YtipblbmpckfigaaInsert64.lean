/- Contract of slices.Insert at []uint64, of one number. -/
import Derived.Test.YtipblbmpckfigaaChecked
import Derived.Test.YtipblbmpckfigaaCells
import Derived.Lib.AppendZerosOnto
import Derived.Lib.AppendZeros
import Derived.Lib.Overlaps
import Derived.Laws.Externs
import Derived.Laws.NewBlocks
import Derived.ProofKit
namespace Go.Proofs.Ytipblbmpckfigaa
open Go.RowKit
set_option linter.unusedVariables false

theorem info64 : (Try.prog.info? 23).map (fun i => (i.zero, i.size, i.bytes)) = some (some (.int .u64 0), 1, 8) := by kernel_rfl
theorem size64 : (Try.prog.info? 23).map (·.size) = some 1 := by kernel_rfl
theorem sizeOf64 (w : World) : (Go.sizeOf 23).run Try.prog w = .ok 1 w := by kernel_rfl
/-- what an insertion leaves -/
def InsPost (v : Value) (ys : List Value) (w : World) (e : Ending) (w' : World) : Prop :=
  ∃ v', e = .returned v' ∧ w'.ownsRow 0 23 1 v' ys.length ys ∧ Fr (fun b => v.ownBlock = some b) w w' ∧ Hence v v' w

set_option maxHeartbeats 2000000 in
set_option maxRecDepth 100000 in
theorem insert_end (v : Value) (n : Nat) (xs : List Value) (h : Int) (vb : Nat) (w : World) (hv : w.ownsRow 0 23 1 v n xs) (hn : n ≤ 1000000) (hb : Bk w vb [.int .u64 h] 23) :
    Calls Try.prog 37 #[v, .int .i64 n, .slice (some ⟨vb, 0, none⟩) 1 1] w (InsPost v (xs ++ [.int .u64 h]) w) := by
  obtain ⟨i0, hi, hz0, hz1, hz2⟩ := info_parts info64
  have hsrc : ∀ j u, ([.int .u64 h] : List Value)[j]? = some u → w.cell? ((⟨vb, 0, none⟩ : Addr).add j) = some u := fun j u hj => by
    rw [Addr.add_lit, Nat.zero_add, hb.cell]; exact hj
  have hxl : xs.length = n := by simpa using hv.1
  have HS := Lib.hid hsrc
  clear hsrc
  rcases bk_of_row hv with ⟨_, ⟨rfl, rfl, rfl⟩ | ⟨g, cap, cs, rfl, hB, hc, hle, hm, ht⟩⟩
  · go_enter Try.func37, Try.ntmps37
    go_wp2_with (at_builtin; refine wpList_append_row _ rfl _ _ 33 rfl 23 i0 (.int .u64 0) 1 8 Try.underlying33 hi hz0 hz1 hz2 rfl (by decide) _ _ _ rfl hv ⟨vb, 0, none⟩ 1 1 [.int .u64 h] rfl rfl HS.out (by simp [Value.oneCell']) (by unfold maxLen; omega) (by omega) ?_; intro v' w' h1 h2 h3)
    go_ret
    exact ⟨v', rfl, h1, h2, h3⟩
  · unfold maxLen at hm
    have hn2 : n ≤ cap := hle
    by_cases hcap : cap = n
    · subst hcap
      go_enter Try.func37, Try.ntmps37
      go_wp2_with (at_builtin; refine wpList_append_row _ rfl _ _ 33 rfl 23 i0 (.int .u64 0) 1 8 Try.underlying33 hi hz0 hz1 hz2 rfl (by decide) _ _ _ rfl hv ⟨vb, 0, none⟩ 1 1 [.int .u64 h] rfl rfl HS.out (by simp [Value.oneCell']) (by unfold maxLen; omega) (by omega) ?_; intro v' w' h1 h2 h3)
      all_goals
        go_ret
        exact ⟨v', rfl, by rw [List.length_append, hxl]; exact h1, h2, h3⟩
    · go_enter Try.func37, Try.ntmps37
      go_wp2_with (at_builtin; refine wpList_append_row _ rfl _ _ 33 rfl 23 i0 (.int .u64 0) 1 8 Try.underlying33 hi hz0 hz1 hz2 rfl (by decide) _ _ _ rfl hv ⟨vb, 0, none⟩ 1 1 [.int .u64 h] rfl rfl HS.out (by simp [Value.oneCell']) (by unfold maxLen; omega) (by omega) ?_; intro v' w' h1 h2 h3)
      all_goals
        go_ret
        exact ⟨v', rfl, by rw [List.length_append, hxl]; exact h1, h2, h3⟩

set_option maxHeartbeats 2000000 in
set_option maxRecDepth 100000 in
theorem insert_room (g n cap i : Nat) (cs : List Value) (h : Int) (vb : Nat) (w : World) (hB : Bk w g cs 23) (hc : cs.length = cap) (hi : i < n) (hn : n + 1 ≤ cap) (hm : cap ≤ maxLen) (h1 : ∀ v ∈ cs.take n, v.oneCell' = true) (hb : Bk w vb [.int .u64 h] 23) (hne : vb ≠ g) :
    Calls Try.prog 37 #[.slice (some ⟨g, 0, none⟩) n cap, .int .i64 i, .slice (some ⟨vb, 0, none⟩) 1 1] w (InsPost (.slice (some ⟨g, 0, none⟩) n cap) (cs.take i ++ .int .u64 h :: (cs.take n).drop i) w) := by
  have fin : InsPost (.slice (some ⟨g, 0, none⟩) n cap) (cs.take i ++ .int .u64 h :: (cs.take n).drop i) w (.returned (.slice (some ⟨g, 0, none⟩) (n + 1) cap)) ((w.drew.setCells g (i + 1) ((cs.take n).drop i)).setCells g i [.int .u64 h]) := by
    have hl : ((cs.take n).drop i).length = n - i := by rw [List.length_drop, List.length_take]; omega
    have b2 := Bk.setCells [.int .u64 h] _ i (Bk.setCells ((cs.take n).drop i) _ (i + 1) (show Bk w.drew g cs 23 from hB))
    have hg' : w.heap.size ≤ g ∨ (fun b => (Value.slice (some ⟨g, 0, none⟩) n cap).ownBlock = some b) g := .inr rfl
    refine ⟨_, rfl, ?_, Fr.setCells hg' _ _ (Fr.setCells hg' _ _ (Fr.refl _ w).drew), .inl rfl⟩
    have e1 : (cs.take i ++ .int .u64 h :: (cs.take n).drop i).length = n + 1 := by simp; omega
    rw [e1]
    refine row_of_bk b2 (by rw [putAt_length, putAt_length]; exact hc) hn hm ?_
    rw [putAt_eq _ _ _ (by rw [putAt_length]; simp; omega), putAt_eq _ _ _ (by rw [hl]; omega), hl]
    have t1 : (cs.take (i + 1)).length = i + 1 := by rw [List.length_take]; omega
    have t2 : (cs.take (i + 1) ++ (cs.take n).drop i).length = n + 1 := by rw [List.length_append, t1, hl]; omega
    have t3 : List.take i (cs.take (i + 1) ++ (cs.take n).drop i ++ cs.drop (i + 1 + (n - i))) = cs.take i := by
      rw [List.append_assoc, List.take_append_of_le_length (by omega), List.take_take, Nat.min_eq_left (by omega)]
    have t4 : List.drop (i + [Value.int .u64 h].length) (cs.take (i + 1) ++ (cs.take n).drop i ++ cs.drop (i + 1 + (n - i))) = (cs.take n).drop i ++ cs.drop (i + 1 + (n - i)) := by
      rw [List.append_assoc, List.drop_append_of_le_length (by simp; omega), List.drop_of_length_le (by simp; omega)]; rfl
    rw [t3, t4, List.append_assoc, List.singleton_append, ← List.cons_append, ← List.append_assoc]
    exact List.take_left' e1
  have hsz := size64
  have hcl : ∀ j v, ((cs.take n).drop i)[j]? = some v → w.cell? ⟨g, i + j, none⟩ = some v := fun j v hj => by
    rw [List.getElem?_drop, List.getElem?_take] at hj
    split at hj
    · rw [hB.cell]; exact hj
    · cases hj
  have hdl : ((cs.take n).drop i).length = n - i := by rw [List.length_drop, List.length_take]; omega
  have hsome : ∀ j, j < cap → (w.cell? ⟨g, j, none⟩).isSome = true := fun j hj => by rw [hB.cell, List.getElem?_eq_getElem (by omega)]; rfl
  have hz1 : ¬ ((i : Int) = (n : Int)) := by omega
  have hw1 : IntKind.i64.wrap ((i : Int) + 1) = (i : Int) + 1 := by unfold maxLen at hm; rw [IntKind.wrap_i64]; omega
  have hov : ∀ lb cb, (callFunc 39 #[.slice (some ⟨vb, 0, none⟩) 1 1, .slice (some ⟨g, i + 1, none⟩) lb cb]).run Try.prog w = .ok (.value (.bool false)) w := fun lb cb => by
    rw [run_callFunc_extern Try.func39 (by kernel_rfl) (by kernel_rfl) (by kernel_rfl) (e := Extern.SlicesOverlaps.overlaps #[33, 33] #[4]) (by kernel_rfl),
      Lib.run_overlaps_apart w 33 4 23 Try.underlying33 1 sizeOf64 ⟨vb, 0, none⟩ ⟨g, i + 1, none⟩ 1 1 lb cb hne 23 23 1 cap (by simp [World.shape?, show w.heap[vb]? = _ from hb]) (by simp [World.shape?, show w.heap[g]? = _ from hB, hc]) (by omega) (hb.free _) (hb.free _)]
    rfl
  have hcp1 : ∀ ty dc sc, (Builtin.copy_ #[33, 33] ty #[.slice (some ⟨g, i + 1, none⟩) (n - i) dc, .slice (some ⟨g, i, none⟩) (n + 1 - i) sc]).run Try.prog w.drew = .ok (goInt ((cs.take n).drop i).length) (w.drew.setCells g (i + 1) ((cs.take n).drop i)) := fun ty dc sc =>
    run_copy_cells w.drew _ _ ty 23 g (i + 1) (n - i) dc ⟨g, i, none⟩ (n + 1 - i) sc ((cs.take n).drop i) Try.underlying33 hsz (by rw [hdl]; simp only [Nat.min_def]; split <;> omega)
      (fun j v hj => by rw [Addr.add_lit]; exact hcl j v hj) (fun j hj => hsome _ (by omega)) (fun j hj => hB.free _) (fun v hv => h1 v (List.mem_of_mem_drop hv))
  generalize hW1 : w.drew.setCells g (i + 1) ((cs.take n).drop i) = W1 at *
  have hcp2 : ∀ (W : World), (∀ x, W.cell? x = W1.cell? x) → (∀ x, W.frozen? x = W1.frozen? x) → ∀ ty dc, (Builtin.copy_ #[33, 33] ty #[.slice (some ⟨g, i, none⟩) (n + 1 - i) dc, .slice (some ⟨vb, 0, none⟩) 1 1]).run Try.prog W = .ok (goInt ([.int .u64 h] : List Value).length) (W.setCells g i [.int .u64 h]) := fun W hWc hWf ty dc =>
    run_copy_cells W _ _ ty 23 g i (n + 1 - i) dc ⟨vb, 0, none⟩ 1 1 [.int .u64 h] Try.underlying33 hsz (by simp only [Nat.min_def, List.length_cons, List.length_nil]; split <;> omega)
      (fun j v hj => by
        rw [Addr.add_lit, hWc, ← hW1, World.cell?_setCells_out g _ _ _ _ (fun hx _ => absurd hx hne), Nat.zero_add]
        exact (hb.cell j).trans hj)
      (fun j hj => by
        have : j = 0 := by simpa using hj
        subst this
        rw [hWc, ← hW1, World.cell?_setCells_out g _ _ _ _ (fun _ _ => by simp)]
        exact hsome _ (by omega)) (fun j hj => by rw [hWf, ← hW1, World.frozen?_setCells]; exact hB.free _) (by simp [Value.oneCell'])
  have HF := Lib.hid fin
  have HW := Lib.hid hW1
  have hin : i ≤ n := by omega
  have hb1 : (0 : Int) ≤ (i : Int) + 1 := by omega
  have htn : ((i : Int) + 1).toNat = i + 1 := by omega
  have hb2 : ¬ (cap = i + 1) := by omega
  have hb4 : ¬ (cap = i) := by omega
  have hb3 : (i : Int) ≤ (n : Int) + 1 := by omega
  unfold maxLen at hm
  clear fin hW1 hcl hsome hdl hsz h1
  go_enter Try.func37, Try.ntmps37
  go_wp2_with (simp only [hov])
  go_region_law (refine step_copy_run' rfl _ _ 33 33 rfl _ _ (by simp [Act.eval, Act.put]) (by simp [Act.eval, Act.put]) (hcp1 _ _ _) ?_)
  go_wp2_with (at_builtin; refine wpList_copy_run' _ rfl _ _ 33 33 rfl _ _ rfl rfl (hcp2 _ (fun _ => rfl) (fun _ => rfl) _ _) ?_)
  go_ret
  exact HF.out

set_option maxHeartbeats 2000000 in
set_option maxRecDepth 100000 in
theorem insert_grow (g n cap i : Nat) (cs : List Value) (h : Int) (vb : Nat) (w : World) (hB : Bk w g cs 23) (hc : cs.length = cap) (hi : i < n) (hn : n = cap) (hm : cap ≤ 1000000) (h1 : ∀ v ∈ cs.take n, v.oneCell' = true) (hb : Bk w vb [.int .u64 h] 23) (hne : vb ≠ g) :
    Calls Try.prog 37 #[.slice (some ⟨g, 0, none⟩) n cap, .int .i64 i, .slice (some ⟨vb, 0, none⟩) 1 1] w (InsPost (.slice (some ⟨g, 0, none⟩) n cap) (cs.take i ++ .int .u64 h :: cs.drop i) w) := by
  subst hn
  rw [List.take_of_length_le (by omega)] at h1
  obtain ⟨i0, hi0, hz0, hzs, hzb⟩ := info_parts info64
  have hz1 : ¬ ((i : Int) = (n : Int)) := by omega
  have hsz := size64
  have hbw := hB.lt
  have hvw := hb.lt
  have hkk : (n : Int) + 1 - (i : Int) = ((n + 1 - i : Nat) : Int) := by omega
  have hik : i + (n + 1 - i) = n + 1 := by omega
  have hcl : ∀ j v, cs[j]? = some v → w.cell? ⟨g, j, none⟩ = some v := fun j v hj => by rw [hB.cell]; exact hj
  have hold : (Builtin.firstCells i0.size i (.slice (some ⟨g, 0, none⟩) i n)).run Try.prog w.drew = .ok (cs.take i).toArray w.drew := by
    rw [hzs]
    exact run_firstCells_some w.drew 1 i ⟨g, 0, none⟩ i n (cs.take i) (by rw [List.length_take]; omega) (fun j v hj => by
      rw [Addr.add_lit, Nat.zero_add]
      rw [List.getElem?_take] at hj
      split at hj
      · exact hcl j v hj
      · cases hj)
  have hrz : ∀ ty, (Builtin.append_ #[33, 3] ty #[.slice (some ⟨g, 0, none⟩) i n, .int .i64 ((n : Int) + 1 - (i : Int))]).run Try.prog w =
      .ok (.slice (some ⟨w.heap.size, 0, none⟩) (n + 1) (grownCap w (n + 1) n 23)) (w.drew.alloc (.cells ((cs.take i).toArray ++ Builtin.zeroCells (Value.int .u64 0).cells (n + 1 - i) ++ Builtin.zeroCells (Value.int .u64 0).cells (grownCap w (n + 1) n 23 - (n + 1))) 23)) := fun ty => by
    have h := Lib.run_append_grow_zeros w 33 3 ty 23 i0 _ .i64 .i64 Try.underlying33 Try.underlying3 hi0 hz0 (some ⟨g, 0, none⟩) i n (cs.take i) hold (n + 1 - i) (by omega) (by omega) (by omega) (by omega) (by rw [hzb]; omega) (by rw [hzb, hik]; exact growslice_fits (by omega) (by omega))
    rw [hik] at h
    rw [hkk]
    exact h
  obtain ⟨G, hG⟩ : ∃ G, grownCap w (n + 1) n 23 = G := ⟨_, rfl⟩
  have hGn : n + 1 ≤ G := by rw [← hG]; exact grownCap_ge w _ _ _
  have hG63 : G ≤ maxLen := by rw [← hG]; exact grownCap_le_maxLen w (n + 1) n 23 (by unfold maxLen; omega)
  rw [hG] at hrz
  obtain ⟨R, hR⟩ : ∃ R : List Value, (cs.take i ++ List.replicate (n + 1 - i) (.int .u64 0) ++ List.replicate (G - (n + 1)) (.int .u64 0)) = R := ⟨_, rfl⟩
  have hRA : (cs.take i).toArray ++ Builtin.zeroCells (Value.int .u64 0).cells (n + 1 - i) ++ Builtin.zeroCells (Value.int .u64 0).cells (G - (n + 1)) = R.toArray := by
    have hz : ∀ k, Builtin.zeroCells (Value.int .u64 0).cells k = (List.replicate k (Value.int .u64 0)).toArray := fun k => by
      apply Array.ext'
      simp [Builtin.zeroCells, Value.cells, Nat.mod_one, List.map_const']
    rw [hz, hz, ← hR]; simp
  rw [hRA] at hrz
  have hRl : R.length = G := by rw [← hR]; simp; omega
  have fin : InsPost (.slice (some ⟨g, 0, none⟩) n n) (cs.take i ++ .int .u64 h :: cs.drop i) w (.returned (.slice (some ⟨w.heap.size, 0, none⟩) (n + 1) G)) (((w.alloc (.cells R.toArray 23)).drew.setCells w.heap.size i [.int .u64 h]).drew.setCells w.heap.size (i + 1) (cs.drop i)) := by
    have hl : (cs.drop i).length = n - i := by rw [List.length_drop]; omega
    have b2 := Bk.setCells (cs.drop i) _ (i + 1) (show Bk ((w.alloc (.cells R.toArray 23)).drew.setCells w.heap.size i [.int .u64 h]).drew w.heap.size _ 23 from Bk.setCells [.int .u64 h] _ i (show Bk (w.alloc (.cells R.toArray 23)).drew w.heap.size R 23 from Bk.new w R _))
    refine ⟨_, rfl, ?_, Fr.setCells (.inl (Nat.le_refl _)) _ _ (Fr.setCells (.inl (Nat.le_refl _)) _ _ ((Fr.refl _ w).alloc _).drew).drew, .inr rfl⟩
    have e1 : (cs.take i ++ .int .u64 h :: cs.drop i).length = n + 1 := by simp; omega
    rw [e1]
    refine row_of_bk b2 (by rw [putAt_length, putAt_length]; exact hRl) hGn hG63 ?_
    rw [putAt_eq _ _ _ (by rw [putAt_length]; omega), putAt_eq _ _ _ (by simp; omega), hl]
    have t0 : R.take i = cs.take i := by
      rw [← hR, List.append_assoc, List.take_append_of_le_length (by rw [List.length_take]; omega), List.take_take, Nat.min_self]
    have t1 : (R.take i).length = i := by rw [List.length_take]; omega
    have t3 : List.take (i + 1) (R.take i ++ [.int .u64 h] ++ R.drop (i + [Value.int .u64 h].length)) = cs.take i ++ [.int .u64 h] := by
      rw [List.take_append_of_le_length (by simp; omega), List.take_of_length_le (by simp; omega), t0]
    rw [t3, List.append_assoc (cs.take i), List.singleton_append]
    exact List.take_left' e1
  clear hRA hold hkk hik hR
  obtain ⟨W1, hW1⟩ : ∃ W1, W1 = w.drew.alloc (.cells R.toArray 23) := ⟨_, rfl⟩
  rw [← hW1] at hrz
  have hNB : Bk W1 w.heap.size R 23 := by rw [hW1]; exact Bk.new w.drew R _
  have hOb : Bk W1 g cs 23 := by rw [hW1]; exact (show Bk w.drew g cs 23 from hB).old _
  have hOv : Bk W1 vb [.int .u64 h] 23 := by rw [hW1]; exact (show Bk w.drew vb _ 23 from hb).old _
  have hN : ∀ j, j < n + 1 → (W1.cell? ⟨w.heap.size, j, none⟩).isSome = true := fun j hj => by rw [hNB.cell, List.getElem?_eq_getElem (by omega)]; rfl
  have hcpA : ∀ (W : World), (∀ x, W.cell? x = W1.cell? x) → (∀ x, W.frozen? x = W1.frozen? x) → ∀ ty dc, (Builtin.copy_ #[33, 33] ty #[.slice (some ⟨w.heap.size, i, none⟩) (n + 1 - i) dc, .slice (some ⟨vb, 0, none⟩) 1 1]).run Try.prog W = .ok (goInt ([.int .u64 h] : List Value).length) (W.setCells w.heap.size i [.int .u64 h]) := fun W hWc hWf ty dc =>
    run_copy_cells W _ _ ty 23 w.heap.size i (n + 1 - i) dc ⟨vb, 0, none⟩ 1 1 [.int .u64 h] Try.underlying33 hsz (by simp only [Nat.min_def, List.length_cons, List.length_nil]; split <;> omega)
      (fun j v hj => by rw [Addr.add_lit, hWc, Nat.zero_add, hOv.cell]; exact hj)
      (fun j hj => by
        have : j = 0 := by simpa using hj
        subst this
        rw [hWc]; exact hN _ (by omega)) (fun j hj => by rw [hWf]; exact hNB.free _) (by simp [Value.oneCell'])
  have hbN : g ≠ w.heap.size := by omega
  have hdl : (cs.drop i).length = n - i := by rw [List.length_drop, hc]
  have hcpB : ∀ (W : World), (∀ x, W.cell? x = (W1.setCells w.heap.size i [.int .u64 h]).cell? x) → (∀ x, W.frozen? x = (W1.setCells w.heap.size i [.int .u64 h]).frozen? x) → ∀ ty dc sc, (Builtin.copy_ #[33, 33] ty #[.slice (some ⟨w.heap.size, i + 1, none⟩) (n - i) dc, .slice (some ⟨g, i, none⟩) (n - i) sc]).run Try.prog W = .ok (goInt (cs.drop i).length) (W.setCells w.heap.size (i + 1) (cs.drop i)) := fun W hWc hWf ty dc sc =>
    run_copy_cells W _ _ ty 23 w.heap.size (i + 1) (n - i) dc ⟨g, i, none⟩ (n - i) sc (cs.drop i) Try.underlying33 hsz (by rw [hdl]; simp only [Nat.min_def]; split <;> omega)
      (fun j v hj => by
        rw [Addr.add_lit, hWc, World.cell?_setCells_out _ _ _ _ _ (fun hx _ => absurd hx hbN), hOb.cell]
        rwa [List.getElem?_drop] at hj)
      (fun j hj => by
        rw [hWc, World.cell?_setCells_out _ _ _ _ _ (fun _ _ => by simp)]
        exact hN _ (by omega))
      (fun j hj => by rw [hWf, World.frozen?_setCells]; exact hNB.free _) (fun v hv => h1 v (List.mem_of_mem_drop hv))
  subst hW1
  have hE1 : ∀ x, ((w.alloc (.cells R.toArray 23)).drew).cell? x = (w.drew.alloc (.cells R.toArray 23)).cell? x := fun x => rfl
  have hE2 : ∀ x, ((w.alloc (.cells R.toArray 23)).drew).frozen? x = (w.drew.alloc (.cells R.toArray 23)).frozen? x := fun x => rfl
  have hF1 : ∀ x, (((w.alloc (.cells R.toArray 23)).drew.setCells w.heap.size i [.int .u64 h]).drew).cell? x = ((w.drew.alloc (.cells R.toArray 23)).setCells w.heap.size i [.int .u64 h]).cell? x := fun x => rfl
  have hF2 : ∀ x, (((w.alloc (.cells R.toArray 23)).drew.setCells w.heap.size i [.int .u64 h]).drew).frozen? x = ((w.drew.alloc (.cells R.toArray 23)).setCells w.heap.size i [.int .u64 h]).frozen? x := fun x => rfl
  have hw1 : IntKind.i64.wrap ((i : Int) + 1) = (i : Int) + 1 := by rw [IntKind.wrap_i64]; omega
  have hb1 : (0 : Int) ≤ (i : Int) + 1 := by omega
  have hin : i ≤ n := by omega
  have htn : ((i : Int) + 1).toNat = i + 1 := by omega
  have hb3 : (i : Int) ≤ (n : Int) := by omega
  have hGi : ¬ (G = i) := by omega
  have hGim : ¬ (G = i + 1) := by omega
  have hci : ¬ (n = i) := by omega
  unfold maxLen at hG63
  have HF := Lib.hid fin
  clear fin hG hcl hN hNB hOb hOv hdl hsz h1
  go_enter Try.func37, Try.ntmps37
  go_wp2_with (first
    | (at_builtin; refine Lib.wpList_append_run _ rfl _ _ _ _ rfl _ _ rfl rfl _ _ (hrz _) ?_)
    | (at_builtin; refine wpList_copy_run' _ rfl _ _ 33 33 rfl _ _ rfl rfl (hcpA _ hE1 hE2 _ _) ?_))
  go_region_law (refine step_copy_run' rfl _ _ 33 33 rfl (.slice (some ⟨w.heap.size, i + 1, none⟩) (n - i) (G - (i + 1))) (.slice (some ⟨g, i, none⟩) (n - i) (n - i)) (by simp [Act.eval, Act.put]) (by simp [Act.eval, Act.put]) (hcpB _ hF1 hF2 3 (G - (i + 1)) (n - i)) ?_)
  go_wp2
  go_ret
  exact HF.out
end Go.Proofs.Ytipblbmpckfigaa

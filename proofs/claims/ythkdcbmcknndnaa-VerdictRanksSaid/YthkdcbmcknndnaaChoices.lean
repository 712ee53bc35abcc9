/- Contract of verdict.choices, and of Choose and Tail over it. -/
import Derived.Test.YthkdcbmcknndnaaProg
import Derived.Test.YthkdcbmcknndnaaPasc
import Derived.Test.YthkdcbmcknndnaaWide
import Derived.WalkKit
import Derived.WalkSpells
import Derived.Lib.Hide
import Derived.RegionTactic
namespace Go.Proofs.Ythkdcbmcknndnaa
open Go.RowKit Pasc
set_option linter.unusedVariables false
theorem Try.infoRow : (Try.prog.info? 49).map (fun i => i.size) = some 63 := by kernel_rfl
theorem row0 : (rowV (C 0)) = #[.int .u64 1, .int .u64 0, .int .u64 0, .int .u64 0, .int .u64 0, .int .u64 0, .int .u64 0, .int .u64 0, .int .u64 0, .int .u64 0, .int .u64 0, .int .u64 0, .int .u64 0, .int .u64 0, .int .u64 0, .int .u64 0, .int .u64 0, .int .u64 0, .int .u64 0, .int .u64 0, .int .u64 0, .int .u64 0, .int .u64 0, .int .u64 0, .int .u64 0, .int .u64 0, .int .u64 0, .int .u64 0, .int .u64 0, .int .u64 0, .int .u64 0, .int .u64 0, .int .u64 0, .int .u64 0, .int .u64 0, .int .u64 0, .int .u64 0, .int .u64 0, .int .u64 0, .int .u64 0, .int .u64 0, .int .u64 0, .int .u64 0, .int .u64 0, .int .u64 0, .int .u64 0, .int .u64 0, .int .u64 0, .int .u64 0, .int .u64 0, .int .u64 0, .int .u64 0, .int .u64 0, .int .u64 0, .int .u64 0, .int .u64 0, .int .u64 0, .int .u64 0, .int .u64 0, .int .u64 0, .int .u64 0, .int .u64 0, .int .u64 0] := by rfl
def Held (w wr : World) (f : Nat → Nat) : Prop :=
  Below w.heap.size w wr ∧ wr.heap[w.heap.size + 1]? = some (.cells (rowV f) 49 (0, 0)) ∧ ∃ old, old.size = 63 ∧ wr.heap[w.heap.size]? = some (.cells old 49 (0, 0))
theorem held_set {w wr : World} {f : Nat → Nat} (h : Held w wr f) (k v : Nat) (hk : k < 63) :
    Held w (wr.setCell ⟨w.heap.size + 1, k, none⟩ (.int .u64 (v : Int))).drew (fun j => if j = k then v else f j) := by
  obtain ⟨h1, h2, old, h3, h4⟩ := h
  refine ⟨(h1.setCell (by simp) _).drew, ?_, old, h3, ?_⟩
  · rw [heap_drew, heap_setCell_same _ _ _ _ _ _ h2, rowV_set _ _ _ hk]
  · rw [heap_drew, heap_setCell_other _ _ _ _ (by simp), h4]
theorem held_cell {w wr : World} {f : Nat → Nat} (h : Held w wr f) (k : Nat) (hk : k < 63) :
    wr.cell? ⟨w.heap.size + 1, k, none⟩ = some (.int .u64 (f k : Int)) := by
  rw [cell_of_row _ _ _ _ _ _ h.2.1, rowV_get _ _ hk]
theorem held_free {w wr : World} {f : Nat → Nat} (h : Held w wr f) (k : Nat) : wr.frozen? ⟨w.heap.size + 1, k, none⟩ = false :=
  frozen_of_row _ _ _ _ _ h.2.1
theorem below_setRow {B : Nat} {a w : World} (h : Below B a w) {g : Nat} (hg : B ≤ g) (cs : Array Value) : Below B a (w.setRow g cs) :=
  h.trans ⟨rfl, rfl, rfl, by simp, fun k hk => setRow_other w g k cs (by omega)⟩
set_option maxRecDepth 100000 in
set_option maxHeartbeats 400000 in
theorem choices_any (n : Nat) (hn : n ≤ 62) (w : World) :
    Calls Try.prog 21 #[.int .i64 n] w fun e w' => e = .returned (.agg (rowV (C n))) ∧ Below w.heap.size w w' := by
  go_enter Try.func21, Try.ntmps21
  go_wp2_with fail
  go_loopw [8] (fun i wr => ∃ k : Nat, k ≤ n ∧ i = .int .i64 k ∧ Held w wr (C k)) (fun i wr => n - (intOf i).toNat)
  case atStart =>
    refine ⟨0, by omega, rfl, ?_⟩
    have h := row0
    refine ⟨((Below.refl _ _).alloc (Nat.le_refl _) _).alloc (by simp) _, ?_, ?_⟩
    · rw [heap_alloc2_new, h]
    · exact ⟨_, rfl, heap_alloc2_old _ _ _⟩
  case round =>
    obtain ⟨i, hi, rfl, hh⟩ := hrel
    by_cases hlt : i < n
    · go_wp2_with fail
      go_loopw [5] (fun j wx => ∃ k : Nat, k ≤ i + 1 ∧ j = .int .i64 k ∧ Held w wx (mid i k)) (fun j wx => (intOf j).toNat)
      case atStart => exact ⟨i + 1, by omega, by go_num, by rw [mid_full]; exact hh⟩
      case round =>
        obtain ⟨k, hk, rfl, hm⟩ := hrel
        cases k with
        | zero =>
          rw [mid_zero] at hm
          go_wp2_with fail
          go_roundw
          case rel => exact ⟨i + 1, by omega, by go_num, hm⟩
          case measure => simp [intOf]; omega
        | succ k =>
          have c1 := held_cell hm (k + 1) (by omega)
          have c2 := held_cell hm k (by omega)
          have fr := held_free hm (k + 1)
          rw [mid_at] at c1
          rw [mid_at_pred] at c2
          have b1 := C_le62 i (k + 1) (by omega)
          have b2 := C_le62 i k (by omega)
          have hn := held_set hm (k + 1) (C i (k + 1) + C i k) (by omega)
          rw [mid_step] at hn
          have hN := Lib.hid hn
          clear hn
          generalize C i (k + 1) = x at *
          generalize C i k = y at *
          clear hm hh
          go_wp2_with fail
          go_region
          go_wp2_with fail
          go_roundw
          case rel => exact ⟨k, by omega, by go_num, hN.out⟩
          case measure => simp [intOf]
    · obtain rfl : i = n := by omega
      obtain ⟨h1, h2, old, h3, h4⟩ := hh
      go_wp2_with (first
        | (refine wpList_load_row rfl 49 _ rfl (w.heap.size + 1) rfl 49 _ (0, 0) _ h2 Try.underlying49 rfl (by rw [rowV_size]; exact Try.infoRow) ?_)
        | (refine wpList_store_row rfl 49 _ _ rfl w.heap.size _ rfl rfl 49 old h4 (by rw [rowV_size]; exact Try.infoRow) (by rw [rowV_size]; exact h3) (rowV_one _) ?_))
      refine bodyPost_ret (v := .agg (rowV (C i))) ?_ rfl ⟨rfl, ?_⟩
      · exact results_cell_row rfl _ _ w.heap.size 49 _ (0, 0) _ rfl (setRow_heap _ _ _ _ _ _ h4) Try.underlying49 rfl (by rw [rowV_size]; exact Try.infoRow)
      · exact below_setRow h1 (Nat.le_refl _) _

theorem Try.infoU64 : (Try.prog.info? 31).map (fun i => i.size) = some 1 := by kernel_rfl
theorem index_row (f : Nat → Nat) (k : Nat) (hk : k < 63) (w : World) :
    (Instr.index 49 (.agg (rowV f)) (.int .i64 (k : Int))).run Try.prog w = .ok (.int .u64 (f k : Int)) w := by
  have hi := Try.infoU64
  cases hq : Try.prog.info? 31 with
  | none => simp [hq] at hi
  | some i =>
    have hs : i.size = 1 := by simpa [hq] using hi
    simp [Instr.index, Sem.run_bind, asIntOf, run_underlying Try.underlying49 w, sizeOf, typeInfo, hq, hs, part, rowV_get f k hk]
    intro h; omega

def nB (n : Int) : Bool := decide (0 ≤ n ∧ n ≤ 62)
def ch (n k : Int) : Nat := if 0 ≤ n ∧ n ≤ 62 ∧ 0 ≤ k ∧ k ≤ n then C n.toNat k.toNat else 0

theorem choose_any (n k : Int) (w : World) :
    Calls Try.prog 8 #[.int .i64 n, .int .i64 k] w fun e w' => e = .returned (.tuple #[.int .u64 (ch n k : Int), .bool (nB n)]) ∧ Below w.heap.size w w' := by
  by_cases h1 : 0 ≤ n
  · by_cases h2 : n ≤ 62
    · have e1 : nB n = true := by simp [nB, h1, h2]
      rw [e1]
      by_cases h3 : 0 ≤ k
      · by_cases h4 : k ≤ n
        · obtain ⟨m, rfl⟩ := Int.eq_ofNat_of_zero_le h1
          obtain ⟨j, rfl⟩ := Int.eq_ofNat_of_zero_le h3
          have e2 : ch (m : Int) (j : Int) = C m j := by simp only [ch]; rw [if_pos ⟨h1, h2, h3, h4⟩]; simp
          rw [e2]
          have hx := index_row (C m) j (by omega)
          have h2' : m ≤ 62 := by omega
          have h4' : j ≤ m := by omega
          clear e1 e2
          go_enter Try.func8, Try.ntmps8
          go_wp2_with fail
          refine (choices_any m h2' _).mono ?_
          rintro e w1 ⟨rfl, hb⟩
          go_wp2_with fail
          go_ret2
          exact ⟨rfl, hb⟩
        · have e2 : ch n k = 0 := by simp only [ch]; rw [if_neg (by omega)]
          rw [e2]
          clear e1 e2
          go_enter Try.func8, Try.ntmps8
          go_wp2_with fail
          go_ret2
          exact ⟨rfl, Below.refl _ _⟩
      · have e2 : ch n k = 0 := by simp only [ch]; rw [if_neg (by omega)]
        rw [e2]
        clear e1 e2
        go_enter Try.func8, Try.ntmps8
        go_wp2_with fail
        go_ret2
        exact ⟨rfl, Below.refl _ _⟩
    · have e1 : nB n = false := by simp [nB, h2]
      have e2 : ch n k = 0 := by simp only [ch]; rw [if_neg (by omega)]
      rw [e1, e2]
      clear e1 e2
      go_enter Try.func8, Try.ntmps8
      go_wp2_with fail
      go_ret2
      exact ⟨rfl, Below.refl _ _⟩
  · have e1 : nB n = false := by simp [nB, h1]
    have e2 : ch n k = 0 := by simp only [ch]; rw [if_neg (by omega)]
    rw [e1, e2]
    clear e1 e2
    go_enter Try.func8, Try.ntmps8
    go_wp2_with fail
    go_ret2
    exact ⟨rfl, Below.refl _ _⟩

theorem ch_nat (m i : Nat) (h : m ≤ 62) (hi : i ≤ m) : ch (m : Int) (i : Int) = C m i := by
  unfold ch; rw [if_pos (by omega)]; simp
theorem ch_sub (m i : Nat) (h : m ≤ 62) (hi : i ≤ m) : ch (m : Int) ((m : Int) - i) = C m i := by
  rw [show (m : Int) - i = ((m - i : Nat) : Int) from by omega, ch_nat m (m - i) h (by omega), C_sym m i hi]
theorem ch_pascal (m j : Nat) (h : m ≤ 62) (h1 : 1 ≤ m) (hj : j ≤ m) : ch ((m : Int) - 1) ((j : Int) - 1) + ch ((m : Int) - 1) (j : Int) = ch (m : Int) (j : Int) := by
  obtain ⟨n, rfl⟩ : ∃ n, m = n + 1 := ⟨m - 1, by omega⟩
  rw [show ((n + 1 : Nat) : Int) - 1 = (n : Int) from by omega, ch_nat (n + 1) j h hj]
  cases j with
  | zero =>
    have e : ch (n : Int) (((0 : Nat) : Int) - 1) = 0 := by unfold ch; rw [if_neg (by omega)]
    rw [e, ch_nat n 0 (by omega) (by omega), C_zero, C_zero]
  | succ j =>
    rw [show ((j + 1 : Nat) : Int) - 1 = (j : Int) from by omega, ch_nat n j (by omega) (by omega), C_succ]
    by_cases e : j + 1 ≤ n
    · rw [ch_nat n (j + 1) (by omega) e]
    · have e2 : ch (n : Int) ((j + 1 : Nat) : Int) = 0 := by unfold ch; rw [if_neg (by omega)]
      rw [e2, C_over n (j + 1) (by omega)]
theorem ch_le (n k : Int) : ch n k ≤ 4611686018427387904 := by
  unfold ch; split
  · exact C_le62 _ _ (by omega)
  · omega
theorem choose_in (n k : Int) (w : World) (h0 : 0 ≤ n) (h1 : n ≤ 62) :
    Calls Try.prog 8 #[.int .i64 n, .int .i64 k] w fun e w' => e = .returned (.tuple #[.int .u64 (ch n k : Int), .bool true]) ∧ Below w.heap.size w w' := by
  have e : nB n = true := by simp [nB, h0, h1]
  have h := choose_any n k w
  rw [e] at h; exact h


set_option maxHeartbeats 400000 in
theorem tail_yes (n : Nat) (k : Int) (w : World) (hn : n ≤ 62) :
    Calls Try.prog 9 #[.int .i64 n, .int .i64 k] w fun e w' => e = .returned (.tuple #[.agg #[.int .i64 (tl n k 63 : Int), .int .i64 (pw n)], .bool true]) ∧ Below w.heap.size w w' := by
  have t1 : decide ((n : Int) < 0) = false := by simp
  have t2 : decide (62 < (n : Int)) = false := by simp; omega
  go_enter Try.func9, Try.ntmps9
  go_wp2_with fail
  refine (choices_any n hn _).mono ?_
  rintro e w1 ⟨rfl, hb⟩
  go_wp2_with fail
  go_loop [6, 18] (fun s i => ∃ m : Nat, m ≤ 63 ∧ i = .int .i64 m ∧ s = .int .u64 (tl n k m : Int)) (fun _ i => 63 - (intOf i).toNat)
  case atStart => exact ⟨0, by omega, rfl, rfl⟩
  case round =>
    obtain ⟨m, hm, rfl, rfl⟩ := hrel
    by_cases hlt : m < 63
    · have hx := index_row (C n) m hlt
      have b1 := C_le62 n m hn
      have b2 := tl_le62 n k m hn
      by_cases hk : k ≤ (m : Int)
      · have e1 := Lib.hid (tl_yes n k m hk)
        generalize C n m = x at *
        generalize tl n k m = y at *
        go_wp2_with fail
        go_round
        case rel => exact ⟨m + 1, by omega, by go_num, by rw [e1.out]; go_num⟩
        case measure => simp [intOf]; omega
      · have e1 := Lib.hid (tl_no n k m hk)
        generalize tl n k m = y at *
        go_wp2_with fail
        go_round
        case rel => exact ⟨m + 1, by omega, by go_num, by rw [e1.out]⟩
        case measure => simp [intOf]; omega
    · obtain rfl : m = 63 := by omega
      have b2 := tl_le62 n k 63 hn
      generalize hy : tl n k 63 = y at *
      have Hy := Lib.hid hy
      obtain ⟨hc, hf⟩ := Bel.cells hb
      have hz : w.heap.size < w1.heap.size := by have := hb.size; simp at this; omega
      have hP := pw_eq n
      obtain ⟨p1, p2⟩ := pw_bd n hn
      clear t1 t2 hy
      go_wp2_with fail
      have c0 : w1.cell? ⟨w.heap.size, 0, none⟩ = some (.int .i64 0) := by rw [hb.cell (p := ⟨w.heap.size, 0, none⟩) (by simp)]; simp [go_sem]
      have c1 : w1.cell? ⟨w.heap.size, 1, none⟩ = some (.int .i64 0) := by rw [hb.cell (p := ⟨w.heap.size, 1, none⟩) (by simp)]; simp [go_sem]
      refine bodyPost_ret (v := .tuple #[.agg #[.int .i64 (y : Int), .int .i64 (pw n)], .bool true]) (by simp [results, Try.results9, go_sem, c0, c1]) rfl ⟨?_, ?_⟩
      · rw [Hy.out]
      · exact ((((Below.refl _ _).alloc (Nat.le_refl _) _).trans (hb.mono (by simp))).setCell (by simp) _).setCell (by simp) _

theorem tail_no (n k : Int) (w : World) (h : n < 0 ∨ 62 < n) :
    Calls Try.prog 9 #[.int .i64 n, .int .i64 k] w fun e w' => e = .returned (.tuple #[.agg #[.int .i64 0, .int .i64 1], .bool false]) ∧ Below w.heap.size w w' := by
  rcases h with h | h
  · go_enter Try.func9, Try.ntmps9
    go_wp2_with fail
    exact bodyPost_ret (v := .tuple #[.agg #[.int .i64 0, .int .i64 1], .bool false]) (by simp [results, Try.results9, go_sem]) rfl ⟨rfl, (Below.refl _ _).alloc (Nat.le_refl _) _⟩
  · have h' : ¬ n < 0 := by omega
    go_enter Try.func9, Try.ntmps9
    go_wp2_with fail
    exact bodyPost_ret (v := .tuple #[.agg #[.int .i64 0, .int .i64 1], .bool false]) (by simp [results, Try.results9, go_sem]) rfl ⟨rfl, (Below.refl _ _).alloc (Nat.le_refl _) _⟩
end Go.Proofs.Ythkdcbmcknndnaa

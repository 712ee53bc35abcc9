/- Contracts of the references of layer 47: Choose, Power, Tail, Sign. -/
import Derived.Test.YtimgdeohcanneaaChoices
import Derived.Deep.RegionHeld3
import Derived.Deep.RegionLaw
import Derived.Deep.AppendLies
import Derived.Deep.DeepCutAuto
namespace Go.Proofs.Ytimgdeohcanneaa
open Go.RowKit Pasc
set_option linter.unusedVariables false

theorem Try.info64 : (Try.prog.info? 2).map (fun i => (i.zero, i.size, i.bytes)) = some (some (.int .i64 0), 1, 8) := by kernel_rfl
/-- the first k numbers of row i -/
def pre (i k : Nat) : List Value := (List.range k).map fun j => Value.int .i64 (C i j : Int)

theorem pre_get (i k j : Nat) (h : j < k) : (pre i k)[j]? = some (.int .i64 (C i j : Int)) := by simp [pre, h]
theorem pre_snoc (i k : Nat) : pre i (k + 1) = pre i k ++ [.int .i64 (C i k : Int)] := by simp [pre, List.range_succ]
theorem pre_len (i k : Nat) : (pre i k).length = k := by simp [pre]

theorem row_next {w1 : World} {B e i m gg cp2 : Nat} (h : w1.ownsRow B e 1 (.slice (some ⟨gg, 0, none⟩) (m + 1 + 1) cp2) (m + 1 + 1) (pre (i + 1) (m + 1) ++ [.int .i64 ((C i m : Int) + (C i (m + 1) : Int))]))
    (hC : C (i + 1) (m + 1) = C i m + C i (m + 1)) : w1.ownsRow B e 1 (.slice (some ⟨gg, 0, none⟩) (m + 1 + 1) cp2) (m + 1 + 1) (pre (i + 1) (m + 1 + 1)) := by
  rw [pre_snoc (i + 1) (m + 1), hC]; simpa using h

set_option maxHeartbeats 2000000 in
theorem rchoose_yes (n k : Nat) (w : World) (hn : n ≤ 62) (hk : k ≤ n) :
    Calls Try.prog 11 #[.int .i64 n, .int .i64 k] w fun e w' => e = .returned (.int .i64 (C n k : Int)) ∧ Below w.heap.size w w' := by
  obtain ⟨i0, hi0, hz0, hz1, hz2⟩ := info_parts Try.info64
  have t1 : decide ((n : Int) < 0) = false := by simp
  have t2 : decide (62 < (n : Int)) = false := by simp; omega
  have t3 : decide ((k : Int) < 0) = false := by simp
  have t4 : decide (n < k) = false := by simp; omega
  go_enter Try.func11, Try.ntmps11
  go_wp2_with fail
  clear t1 t2 t3 t4
  go_loopw [5, 6] (fun v c wr => ∃ g cap i : Nat, i ≤ n ∧ c = .int .i64 i ∧ v = .slice (some ⟨g, 0, none⟩) (i + 1) cap ∧ wr.ownsRow w.heap.size 2 1 (.slice (some ⟨g, 0, none⟩) (i + 1) cap) (i + 1) (pre i (i + 1)) ∧ Below w.heap.size w wr) (fun _ c _ => n - (intOf c).toNat)
  case atStart => exact ⟨w.heap.size, 1, 0, by omega, rfl, rfl, World.ownsRow_lit w #[.int .i64 1] 1 (Nat.le_refl _) (by decide) rfl, (Below.refl _ _).alloc (Nat.le_refl _) _⟩
  case round =>
    obtain ⟨g, cap, i, hi, rfl, rfl, hown, hb⟩ := hrel
    by_cases hlt : i < n
    · go_wp2_with fail
      go_loopw [7, 8] (fun v c wx => ∃ h cp m : Nat, m ≤ i ∧ c = .int .i64 ((m : Int) + 1) ∧ v = .slice (some ⟨h, 0, none⟩) (m + 1) cp ∧ wx.ownsRow w.heap.size 2 1 (.slice (some ⟨h, 0, none⟩) (m + 1) cp) (m + 1) (pre (i + 1) (m + 1)) ∧ wx.ownsRow w.heap.size 2 1 (.slice (some ⟨g, 0, none⟩) (i + 1) cap) (i + 1) (pre i (i + 1)) ∧ h ≠ g ∧ Below w.heap.size w wx) (fun _ c _ => i + 1 - (intOf c).toNat)
      case atStart =>
        refine ⟨wr.heap.size, 1, 0, by omega, rfl, rfl, ?_, hown.alloc _, ?_, hb.alloc hb.size _⟩
        · have h := World.ownsRow_lit (base := w.heap.size) (e := 2) (size := 1) wr #[.int .i64 1] 1 hb.size (by decide) rfl
          rw [show pre (i + 1) (0 + 1) = [.int .i64 1] from by simp [pre, C_zero]]; exact h
        · have := (hown.lt g rfl).2; omega
      case round =>
        obtain ⟨h, cp, m, hm, rfl, rfl, hown2, hown1, hne, hb2⟩ := hrel
        by_cases hlt2 : m < i
        · have x1 := C_le62 i m (by omega)
          have x2 := C_le62 i (m + 1) (by omega)
          have c1 : wr.cell? ⟨g, m, none⟩ = some (.int .i64 (C i m : Int)) := by rw [hown1.cellAt m (by omega), pre_get _ _ _ (by omega)]
          have c2 : wr.cell? ⟨g, m + 1, none⟩ = some (.int .i64 (C i (m + 1) : Int)) := by rw [hown1.cellAt (m + 1) (by omega), pre_get _ _ _ (by omega)]
          have E1 := Lib.hid (C_succ i m)
          have hlt3 : (m : Int) + 1 < (i : Int) + 1 := by omega
          have x3 := C_le62 (i + 1) (m + 1) (by omega)
          have E2 : Hid (IntKind.i64.wrap ((C i m : Int) + (C i (m + 1) : Int)) = (C i m : Int) + (C i (m + 1) : Int)) := IntWalk.i64_in _ (by rw [C_succ] at x3; omega)
          have EE1 : Hid (IntKind.i64.wrap ((m : Int) + 1 - 1) = (m : Int)) := by show IntKind.i64.wrap ((m : Int) + 1 - 1) = (m : Int); rw [IntWalk.i64_in _ (by omega)]; omega
          have lg := block_lt_of_cell c1
          have hne' : some g ≠ (Value.slice (some ⟨h, 0, none⟩) (m + 1) cp).ownBlock := by simp [Value.ownBlock]; omega
          have Hne := Lib.hid hne'
          clear hne'
          go_wp2_with fail
          have y0 : (0 : Int) ≤ (m : Int) := by omega
          have y1 : (m : Int) < (i : Int) + 1 := by omega
          have y2 : (0 : Int) ≤ (m : Int) + 1 := by omega
          have y3 : m < i + 1 := by omega
          have y4 : m + 1 < i + 1 := by omega
          have y5 : m ≤ i := by omega
          have y6 : ((m : Int) + 1).toNat = m + 1 := by omega
          have e2 := E2.out
          have e1 := EE1.out
          have e1' : IntKind.i64.wrap (m : Int) = (m : Int) := IntWalk.i64_in _ (by clear e1 e2; omega)
          simp only [Int.add_sub_cancel] at e1
          clear e1
          go_region_held3 (fun w' => w'.cell? ⟨g, m, none⟩ = some (.int .i64 (C i m : Int)) ∧ w'.cell? ⟨g, m + 1, none⟩ = some (.int .i64 (C i (m + 1) : Int)))
            (first | exact ⟨c1, c2⟩ | exact ⟨hgrow.cell (by simp [go_sem, c1, lg]) Hne.out, hgrow.cell (by simp [go_sem, c2, lg]) Hne.out⟩ | go_keep)
            ((refine step_append_lies _ (by rfl) _ _ _ (by rfl) w.heap.size 2 i0 _ 1 8 Try.underlying52 hi0 hz0 hz1 hz2 rfl (by omega) (.slice (some ⟨h, 0, none⟩) (m + 1) cp) (m + 1) (pre (i + 1) (m + 1)) (by rfl) ((hown2.alloc _).drew) ⟨wr.heap.size, 0, none⟩ 1 1 [.int .i64 ((C i m : Int) + (C i (m + 1) : Int))] (by rfl) (by rfl) (World.news_of_block (cs := #[.int .i64 ((C i m : Int) + (C i (m + 1) : Int))]) (t := 2) (fr := (0, 0)) (heap_alloc_new wr _)) (by simp [Value.oneCell']) (by omega) (by unfold maxLen; omega) (by omega) (by have := hb2.size; simp; omega) (wr.heap.size + 1) (by simp) ?_; intro gg cp2 w1 hown3 hgrow hat hltg))
          have R3 := row_next hown3 E1.out
          have R1 := ((hown1.alloc (.cells #[.int .i64 ((C i m : Int) + (C i (m + 1) : Int))] 2)).drew).kept hgrow (.inr Hne.out)
          have Rne : gg ≠ g := by
            rcases hat with e | e
            · simp [Value.ownBlock] at e; omega
            · omega
          have RB : Below w.heap.size w w1 := ((hb2.alloc hb2.size _).drew).grown hgrow (by have := hb2.size; simp; omega) (fun q hq => by simp [Value.ownBlock] at hq; have := (hown2.lt h rfl).1; omega)
          clear hown3 hgrow hat hown1 hown2 c1 c2 e2 e1' y6
          go_wp2_with fail
          go_roundw
          case rel => exact ⟨gg, cp2, m + 1, by omega, by go_num, rfl, R3, R1, Rne, RB⟩
          case measure => simp [intOf]; omega
        · obtain rfl : m = i := by omega
          have e5 := C_self (m + 1)
          go_wp2_with (at_builtin; refine wpList_append_lies _ rfl _ _ _ rfl w.heap.size 2 i0 _ 1 8 Try.underlying52 hi0 hz0 hz1 hz2 rfl (by omega) (.slice (some ⟨h, 0, none⟩) (m + 1) cp) (m + 1) (pre (m + 1) (m + 1)) rfl (hown2.alloc _) ⟨wr.heap.size, 0, none⟩ 1 1 [.int .i64 1] rfl rfl (World.news_of_block (cs := #[.int .i64 1]) (t := 2) (fr := (0, 0)) (heap_alloc_new wr _)) (by simp [Value.oneCell']) (by omega) (by unfold maxLen; omega) (by omega) (by have := hb2.size; simp; omega) (wr.heap.size + 1) (by simp) ?_; intro gg cp2 w1 hown3 hgrow hat hltg)
          have R3 : w1.ownsRow w.heap.size 2 1 (.slice (some ⟨gg, 0, none⟩) (m + 1 + 1) cp2) (m + 1 + 1) (pre (m + 1) (m + 1 + 1)) := by
            rw [pre_snoc, e5]; exact hown3
          have RB : Below w.heap.size w w1 := (hb2.alloc hb2.size _).grown hgrow (by have := hb2.size; simp; omega) (fun q hq => by simp [Value.ownBlock] at hq; have := (hown2.lt h rfl).1; omega)
          clear hown3 hgrow hat hown1 hown2 e5
          go_wp2_with fail
          go_roundw
          case rel => exact ⟨gg, cp2, m + 1, by omega, by go_num, rfl, R3, RB⟩
          case measure => simp [intOf]; omega
    · obtain rfl : i = n := by omega
      have c1 : wr.cell? ⟨g, k, none⟩ = some (.int .i64 (C i k : Int)) := by rw [hown.cellAt k (by omega), pre_get _ _ _ (by omega)]
      go_wp2_with fail
      go_ret
      exact ⟨rfl, hb⟩

theorem rchoose_zero (n k : Int) (w : World) (h0 : 0 ≤ n) (h1 : n ≤ 62) (hk : k < 0 ∨ n < k) :
    Calls Try.prog 11 #[.int .i64 n, .int .i64 k] w fun e w' => e = .returned (.int .i64 0) ∧ w = w' := by
  rcases hk with h | h
  · go_enter Try.func11, Try.ntmps11
    go_wp2_with fail
    go_ret
    exact ⟨rfl, rfl⟩
  · have h' : ¬ k < 0 := by omega
    go_enter Try.func11, Try.ntmps11
    go_wp2_with fail
    go_ret
    exact ⟨rfl, rfl⟩
theorem rchoose_no (n k : Int) (w : World) (h : n < 0 ∨ 62 < n) :
    Calls Try.prog 11 #[.int .i64 n, .int .i64 k] w fun e w' => e = .returned (.int .i64 (-1)) ∧ w = w' := by
  rcases h with h | h
  · go_enter Try.func11, Try.ntmps11
    go_wp2_with fail
    go_ret
    exact ⟨rfl, rfl⟩
  · have h' : ¬ n < 0 := by omega
    go_enter Try.func11, Try.ntmps11
    go_wp2_with fail
    go_ret
    exact ⟨rfl, rfl⟩
theorem rchoose_in (n k : Int) (w : World) (h0 : 0 ≤ n) (h1 : n ≤ 62) :
    Calls Try.prog 11 #[.int .i64 n, .int .i64 k] w fun e w' => e = .returned (.int .i64 (ch n k : Int)) ∧ Below w.heap.size w w' := by
  by_cases hk : 0 ≤ k ∧ k ≤ n
  · obtain ⟨m, rfl⟩ := Int.eq_ofNat_of_zero_le h0
    obtain ⟨j, rfl⟩ := Int.eq_ofNat_of_zero_le hk.1
    rw [ch_nat m j (by omega) (by omega)]
    exact rchoose_yes m j w (by omega) (by omega)
  · have e : ch n k = 0 := by unfold ch; rw [if_neg (by omega)]
    rw [e]
    refine (rchoose_zero n k w h0 h1 (by omega)).mono ?_
    rintro e w' ⟨rfl, rfl⟩
    exact ⟨rfl, Below.refl _ _⟩

theorem tl_flat (n : Nat) (k : Int) (M : Nat) (hM : n < M) : ∀ j, tl n k (M + j) = tl n k M
  | 0 => rfl
  | j + 1 => by
    have ih := tl_flat n k M hM j
    have e : tl n k (M + (j + 1)) = tl n k (M + j) + if k ≤ ((M + j : Nat) : Int) then C n (M + j) else 0 := rfl
    rw [e, ih, C_over n (M + j) (by omega)]; split <;> rfl
theorem tl_end (n : Nat) (k : Int) (hn : n ≤ 62) : tl n k 63 = tl n k (n + 1) := by
  have h := tl_flat n k (n + 1) (by omega) (62 - n)
  rw [show n + 1 + (62 - n) = 63 from by omega] at h; exact h
theorem tl_neg (n : Nat) (k : Int) (h : k ≤ 0) : ∀ M, tl n k M = tl n 0 M
  | 0 => rfl
  | M + 1 => by rw [tl_yes n k M (by omega), tl_yes n 0 M (by omega), tl_neg n k h M]
theorem tl_none (n : Nat) (k : Int) : ∀ M : Nat, (M : Int) ≤ k → tl n k M = 0
  | 0, _ => rfl
  | M + 1, h => by rw [tl_no n k M (by omega)]; exact tl_none n k M (by omega)

/-- Tail from a number k on that isn't below 0 -/
theorem rtail_loop (n : Nat) (k : Int) (w : World) (hn : n ≤ 62) (hk2 : k ≤ 9223372036854775807) (h0 : 0 ≤ k) :
    Calls Try.prog 14 #[.int .i64 n, .int .i64 k] w fun e w' => e = .returned (.int .i64 (tl n k 63 : Int)) ∧ Below w.heap.size w w' := by
  have t1 : decide ((n : Int) < 0) = false := by simp
  have t2 : decide (62 < (n : Int)) = false := by simp; omega
  have t3 : decide (k < 0) = false := by simp; omega
  rw [tl_end n k hn]
  go_enter Try.func14, Try.ntmps14
  go_wp2_with fail
  clear t1 t2 t3
  go_loopw [5, 6] (fun s i wr => ∃ c : Int, k ≤ c ∧ (c ≤ (n : Int) + 1 ∨ c = k) ∧ i = .int .i64 c ∧ s = .int .i64 (tl n k c.toNat : Int) ∧ Below w.heap.size w wr) (fun _ i _ => (n + 1 - (intOf i)).toNat)
  case atStart => exact ⟨k, Int.le_refl _, .inr rfl, rfl, by rw [tl_none n k k.toNat (by omega)]; rfl, Below.refl _ _⟩
  case round =>
    obtain ⟨c, hc1, hc2, rfl, rfl, hb⟩ := hrel
    by_cases hlt : c ≤ (n : Int)
    · obtain ⟨m, rfl⟩ := Int.eq_ofNat_of_zero_le (show 0 ≤ c by omega)
      have e1 := tl_yes n k m hc1
      have E2 := Lib.hid (ch_nat n m hn (by omega))
      have b1 := C_le62 n m hn
      have b2 := tl_le62 n k (m + 1) hn
      have b3 : tl n k m + C n m ≤ 4611686018427387904 := by omega
      have E1 := Lib.hid e1
      simp only [Int.toNat_natCast]
      generalize C n m = x at *
      generalize tl n k m = y at *
      clear hc2 e1 b2
      go_wp2_with fail
      refine (rchoose_in _ _ _ (by omega) (by omega)).mono ?_
      rintro e w1 ⟨rfl, b4⟩
      rw [E2.out]
      go_wp2_with fail
      go_roundw
      case rel => exact ⟨(m : Int) + 1, by omega, .inl (by omega), rfl, by rw [show ((m : Int) + 1).toNat = m + 1 from by omega, E1.out]; go_num, hb.trans (b4.mono hb.size)⟩
      case measure => simp [intOf]; omega
    · have e1 : tl n k c.toNat = tl n k (n + 1) := by
        rcases hc2 with h | h
        · rw [show c.toNat = n + 1 from by omega]
        · rw [h, tl_none n k k.toNat (by omega), tl_none n k (n + 1) (by omega)]
      rw [e1]
      clear e1 hc2
      go_wp2_with fail
      go_ret
      exact ⟨rfl, hb⟩
/-- Tail from a number below 0 on: from 0 on -/
theorem rtail_neg (n : Nat) (k : Int) (w : World) (hn : n ≤ 62) (h0 : k < 0) :
    Calls Try.prog 14 #[.int .i64 n, .int .i64 k] w fun e w' => e = .returned (.int .i64 (tl n 0 63 : Int)) ∧ Below w.heap.size w w' := by
  have t1 : decide ((n : Int) < 0) = false := by simp
  have t2 : decide (62 < (n : Int)) = false := by simp; omega
  have t3 : decide (k < 0) = true := by simp; omega
  rw [tl_end n 0 hn]
  go_enter Try.func14, Try.ntmps14
  go_wp2_with fail
  clear t1 t2 t3
  go_loopw [5, 6] (fun s i wr => ∃ c : Int, (0 : Int) ≤ c ∧ (c ≤ (n : Int) + 1 ∨ c = 0) ∧ i = .int .i64 c ∧ s = .int .i64 (tl n 0 c.toNat : Int) ∧ Below w.heap.size w wr) (fun _ i _ => (n + 1 - (intOf i)).toNat)
  case atStart => exact ⟨0, Int.le_refl _, .inr rfl, rfl, rfl, Below.refl _ _⟩
  case round =>
    obtain ⟨c, hc1, hc2, rfl, rfl, hb⟩ := hrel
    by_cases hlt : c ≤ (n : Int)
    · obtain ⟨m, rfl⟩ := Int.eq_ofNat_of_zero_le (show 0 ≤ c by omega)
      have e1 := tl_yes n 0 m hc1
      have E2 := Lib.hid (ch_nat n m hn (by omega))
      have b1 := C_le62 n m hn
      have b2 := tl_le62 n 0 (m + 1) hn
      have b3 : tl n 0 m + C n m ≤ 4611686018427387904 := by omega
      have E1 := Lib.hid e1
      simp only [Int.toNat_natCast]
      generalize C n m = x at *
      generalize tl n 0 m = y at *
      clear hc2 e1 b2
      go_wp2_with fail
      refine (rchoose_in _ _ _ (by omega) (by omega)).mono ?_
      rintro e w1 ⟨rfl, b4⟩
      rw [E2.out]
      go_wp2_with fail
      go_roundw
      case rel => exact ⟨(m : Int) + 1, by omega, .inl (by omega), rfl, by rw [show ((m : Int) + 1).toNat = m + 1 from by omega, E1.out]; go_num, hb.trans (b4.mono hb.size)⟩
      case measure => simp [intOf]; omega
    · have e1 : tl n 0 c.toNat = tl n 0 (n + 1) := by
        rcases hc2 with h | h
        · rw [show c.toNat = n + 1 from by omega]
        · omega
      rw [e1]
      clear e1 hc2
      go_wp2_with fail
      go_ret
      exact ⟨rfl, hb⟩
theorem rtail_yes (n : Nat) (k : Int) (w : World) (hn : n ≤ 62) (hk2 : k ≤ 9223372036854775807) :
    Calls Try.prog 14 #[.int .i64 n, .int .i64 k] w fun e w' => e = .returned (.int .i64 (tl n k 63 : Int)) ∧ Below w.heap.size w w' := by
  by_cases h0 : 0 ≤ k
  · exact rtail_loop n k w hn hk2 h0
  · rw [tl_neg n k (by omega)]; exact rtail_neg n k w hn (by omega)
theorem rtail_no (n k : Int) (w : World) (h : n < 0 ∨ 62 < n) :
    Calls Try.prog 14 #[.int .i64 n, .int .i64 k] w fun e w' => e = .returned (.int .i64 (-1)) ∧ w = w' := by
  rcases h with h | h
  · go_enter Try.func14, Try.ntmps14
    go_wp2_with fail
    go_ret
    exact ⟨rfl, rfl⟩
  · have h' : ¬ n < 0 := by omega
    go_enter Try.func14, Try.ntmps14
    go_wp2_with fail
    go_ret
    exact ⟨rfl, rfl⟩

theorem pw_succ (n : Nat) : pw (n + 1) = 2 * pw n := by unfold pw; rw [Int.pow_succ]; omega
theorem rpower_any (n : Nat) (w : World) (hn : n ≤ 62) :
    Calls Try.prog 15 #[.int .i64 n] w fun e w' => e = .returned (.int .i64 (pw n)) ∧ w = w' := by
  go_enter Try.func15, Try.ntmps15
  go_wp2_with fail
  go_loop [3, 4] (fun p i => ∃ k : Nat, k ≤ n ∧ i = .int .i64 k ∧ p = .int .i64 (pw k)) (fun _ i => n - (intOf i).toNat)
  case atStart => exact ⟨0, by omega, rfl, rfl⟩
  case round =>
    obtain ⟨k, hk, rfl, rfl⟩ := hrel
    by_cases hlt : k < n
    · have b1 := pw_bd (k + 1) (by omega)
      have e1 := pw_succ k
      rw [e1] at b1
      obtain ⟨b2, b3⟩ := b1
      have E1 := Lib.hid e1
      clear e1
      generalize pw k = x at *
      go_wp2_with fail
      go_round
      case rel => exact ⟨k + 1, by omega, by go_num, by rw [E1.out]⟩
      case measure => simp [intOf]; omega
    · obtain rfl : k = n := by omega
      go_wp2_with fail
      go_ret
      exact ⟨rfl, rfl⟩
end Go.Proofs.Ytimgdeohcanneaa

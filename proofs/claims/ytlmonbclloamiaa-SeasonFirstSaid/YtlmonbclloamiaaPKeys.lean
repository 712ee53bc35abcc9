/- Contract of (*pane.Panes).Keys. -/
import Derived.Test.YtlmonbclloamiaaPSum
import Derived.Test.YtlmonbclloamiaaSortB
import Derived.Deep.LoopGhost
namespace Go.Proofs.Ytlmonbclloamiaa
open Go.RowKit Go.MapKept Go.Maps
set_option linter.unusedVariables false
def inR (lo hi n : Int) : Bool := decide (lo ≤ n) && decide (n < hi)
theorem inR_iff (lo hi n : Int) : inR lo hi n = true ↔ lo ≤ n ∧ n < hi := by simp [inR]
set_option maxHeartbeats 400000 in
theorem pred_any (b1 b2 : Nat) (lo hi n : Int) (w : World) (c1 : w.cell? ⟨b1, 0, none⟩ = some (.int .i64 lo)) (c2 : w.cell? ⟨b2, 0, none⟩ = some (.int .i64 hi)) :
    Calls Try.prog 38 #[.int .i64 n, .pointer (some ⟨b1, 0, none⟩), .pointer (some ⟨b2, 0, none⟩)] w fun e w' => e = .returned (.bool (inR lo hi n)) ∧ w = w' := by
  by_cases h1 : lo ≤ n
  · by_cases h2 : n < hi
    · have e : inR lo hi n = true := (inR_iff lo hi n).2 ⟨h1, h2⟩
      rw [e]; clear e
      go_enter Try.func38, Try.ntmps38
      go_wp2_with fail
      go_ret
      exact ⟨rfl, rfl⟩
    · have e : inR lo hi n = false := by simp [inR, h2]
      rw [e]; clear e
      go_enter Try.func38, Try.ntmps38
      go_wp2_with fail
      go_ret
      exact ⟨rfl, rfl⟩
  · have e : inR lo hi n = false := by simp [inR, h1]
    rw [e]; clear e
    go_enter Try.func38, Try.ntmps38
    go_wp2_with fail
    go_ret
    exact ⟨rfl, rfl⟩
/-- is the first place with a number in range one of those? -/
def fstR (lo hi : Int) (l : List Int) : Int := if l.any (inR lo hi) then (l.findIdx (inR lo hi) : Int) else -1
set_option maxHeartbeats 1000000 in
theorem index_any (b1 b2 : Nat) (lo hi : Int) (b : Option Addr) (l : List Int) (cap : Nat) (w : World) (c1 : w.cell? ⟨b1, 0, none⟩ = some (.int .i64 lo)) (c2 : w.cell? ⟨b2, 0, none⟩ = some (.int .i64 hi))
    (hcell : ∀ j, j < l.length → ∃ g, b = some ⟨g, 0, none⟩ ∧ w.cell? ⟨g, j, none⟩ = some (.int .i64 (l.getD j 0))) (hlen : l.length ≤ 1048576) :
    Calls Try.prog 43 #[.slice b l.length cap, .func (.func 38) #[] #[.pointer (some ⟨b1, 0, none⟩), .pointer (some ⟨b2, 0, none⟩)]] w fun e w' => e = .returned (.int .i64 (fstR lo hi l)) ∧ w = w' := by
  have HC := Lib.hid hcell
  have HP := Lib.hid (fun n => pred_any b1 b2 lo hi n w c1 c2)
  have hend : (∀ j, j < l.length → inR lo hi (l.getD j 0) = false) → fstR lo hi l = -1 := fun h => by
    unfold fstR
    rw [if_neg]
    rw [List.any_eq_true]
    rintro ⟨x, hx, hr⟩
    obtain ⟨j, hj, e⟩ := List.mem_iff_getElem.1 hx
    have := h j hj
    simp [hj, e, hr] at this
  have hhit : ∀ j, j < l.length → (∀ i, i < j → inR lo hi (l.getD i 0) = false) → inR lo hi (l.getD j 0) = true → fstR lo hi l = j := fun j hj h1 h2 => by
    have hm : l.getD j 0 ∈ l := by simp [hj]
    unfold fstR
    rw [if_pos (List.any_eq_true.2 ⟨_, hm, h2⟩)]
    congr 1
    rw [List.findIdx_eq hj]
    refine ⟨by simpa [hj] using h2, fun i hi => ?_⟩
    have := h1 i hi
    simpa [show i < l.length by omega] using this
  have HE := Lib.hid hend
  have HH := Lib.hid hhit
  clear hcell hend hhit c1 c2
  generalize hn : l.length = n at *
  clear hn
  go_enter Try.func43, Try.ntmps43
  go_wp2_with fail
  go_loop [8] (fun i => ∃ j : Nat, j ≤ n ∧ i = .int .i64 j ∧ Hid (∀ i, i < j → inR lo hi (l.getD i 0) = false)) (fun i => n - (intOf i).toNat)
  case atStart => exact ⟨0, Nat.zero_le _, rfl, Lib.hid (fun i h => absurd h (Nat.not_lt_zero _))⟩
  case round =>
    obtain ⟨j, hj, rfl, HI⟩ := hrel
    by_cases hlt : j < n
    · obtain ⟨g, rfl, hcc⟩ := HC.out j hlt
      have hp := HP.out (l.getD j 0)
      have hj0 : (0 : Int) ≤ (j : Int) := by omega
      have hj1 : (j : Int) < (n : Int) := by omega
      cases hr : inR lo hi (l.getD j 0) with
      | true =>
        have HZ := Lib.hid (HH.out j hlt HI.out hr)
        rw [hr] at hp
        have HQ := Lib.hid hp
        clear hr hp
        generalize l.getD j 0 = m at *
        go_wp2_with fail
        refine HQ.out.mono ?_
        rintro e w1 ⟨rfl, rfl⟩
        go_wp2_with fail
        go_ret
        exact ⟨ret_int' HZ.out.symm, rfl⟩
      | false =>
        have HI2 : Hid (∀ i, i < j + 1 → inR lo hi (l.getD i 0) = false) := Lib.hid (fun i hi' => by
          by_cases e : i = j
          · rw [e]; exact hr
          · exact HI.out i (by omega))
        rw [hr] at hp
        have HQ := Lib.hid hp
        clear hr hp
        generalize l.getD j 0 = m at *
        go_wp2_with fail
        refine HQ.out.mono ?_
        rintro e w1 ⟨rfl, rfl⟩
        go_wp2_with fail
        go_round
        case rel => exact ⟨j + 1, by omega, by go_num, HI2⟩
        case measure => simp [intOf]; omega
    · obtain rfl : j = n := by omega
      have HZ := Lib.hid (HE.out HI.out)
      go_wp2_with fail
      go_ret
      exact ⟨ret_int' HZ.out.symm, rfl⟩
set_option maxHeartbeats 400000 in
theorem contains_any (b1 b2 : Nat) (lo hi : Int) (b : Option Addr) (l : List Int) (cap : Nat) (w : World) (c1 : w.cell? ⟨b1, 0, none⟩ = some (.int .i64 lo)) (c2 : w.cell? ⟨b2, 0, none⟩ = some (.int .i64 hi))
    (hcell : ∀ j, j < l.length → ∃ g, b = some ⟨g, 0, none⟩ ∧ w.cell? ⟨g, j, none⟩ = some (.int .i64 (l.getD j 0))) (hlen : l.length ≤ 1048576) :
    Calls Try.prog 37 #[.slice b l.length cap, .func (.func 38) #[] #[.pointer (some ⟨b1, 0, none⟩), .pointer (some ⟨b2, 0, none⟩)]] w fun e w' => e = .returned (.bool (l.any (inR lo hi))) ∧ w = w' := by
  have H := Lib.hid (index_any b1 b2 lo hi b l cap w c1 c2 hcell hlen)
  clear hcell c1 c2
  cases ha : l.any (inR lo hi) with
  | true =>
    have e : fstR lo hi l = (l.findIdx (inR lo hi) : Int) := by unfold fstR; rw [if_pos ha]
    rw [e] at H
    clear e ha
    generalize l.findIdx (inR lo hi) = q at *
    generalize l.length = n at *
    go_enter Try.func37, Try.ntmps37
    go_wp2_with fail
    refine H.out.mono ?_
    rintro e w1 ⟨rfl, rfl⟩
    go_wp2_with fail
    go_ret
    exact ⟨rfl, rfl⟩
  | false =>
    have e : fstR lo hi l = -1 := by unfold fstR; rw [if_neg (by simp [ha])]
    rw [e] at H
    clear e ha
    generalize l.length = n at *
    go_enter Try.func37, Try.ntmps37
    go_wp2_with fail
    refine H.out.mono ?_
    rintro e w1 ⟨rfl, rfl⟩
    go_wp2_with fail
    go_ret
    exact ⟨rfl, rfl⟩
end Go.Proofs.Ytlmonbclloamiaa

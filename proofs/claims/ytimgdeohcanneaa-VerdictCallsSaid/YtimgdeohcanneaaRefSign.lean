/- Contracts of the reference's Sign. -/
import Derived.Test.YtimgdeohcanneaaRef47
import Derived.Test.YtimgdeohcanneaaSign
namespace Go.Proofs.Ytimgdeohcanneaa
open Go.RowKit Pasc Wide
set_option linter.unusedVariables false

theorem rtail_int (n k : Int) (w : World) (h0 : 0 ≤ n) (hn : n ≤ 62) (hk2 : k ≤ 9223372036854775807) :
    Calls Try.prog 14 #[.int .i64 n, .int .i64 k] w fun e w' => e = .returned (.int .i64 (tl n.toNat k 63 : Int)) ∧ Below w.heap.size w w' := by
  obtain ⟨m, rfl⟩ := Int.eq_ofNat_of_zero_le h0
  exact rtail_yes m k w (by omega) hk2
theorem rpower_int (n : Int) (w : World) (h0 : 0 ≤ n) (hn : n ≤ 62) :
    Calls Try.prog 15 #[.int .i64 n] w fun e w' => e = .returned (.int .i64 (pw n.toNat)) ∧ w = w' := by
  obtain ⟨m, rfl⟩ := Int.eq_ofNat_of_zero_le h0
  exact rpower_any m w (by omega)

set_option maxHeartbeats 800000 in
theorem rsign_yes (a b : Int) (w : World) (ha : 0 ≤ a) (hb : 0 ≤ b) (hs : a + b ≤ 62) :
    Calls Try.prog 17 #[.int .i64 a, .int .i64 b] w fun e w' => e = .returned (.int .i64 (sgn a b)) ∧ Below w.heap.size w w' := by
  have hm := sgn_more (a := a) (b := b)
  have hl := sgn_less (a := a) (b := b)
  have tb := tl_pw (a + b).toNat (max a b) 63
  obtain ⟨p1, p2⟩ := pw_bd (a + b).toNat (by omega)
  have t0 : (0 : Int) ≤ tl (a + b).toNat (max a b) 63 := by omega
  by_cases hab : a < b
  all_goals
    first
    | rw [show max a b = b from by omega] at hm hl tb t0
    | rw [show max a b = a from by omega] at hm hl tb t0
    have t1 : decide (a < 0) = false := by simp; omega
    have t2 : decide (b < 0) = false := by simp; omega
    have t3 : decide (62 < a) = false := by simp; omega
    have t4 : decide (62 < b) = false := by simp; omega
    have t5 : decide (62 < a + b) = false := by simp; omega
    generalize hP : pw (a + b).toNat = P at *
    generalize sgn a b = G at *
    generalize hT : ((tl (a + b).toNat _ 63 : Nat) : Int) = TT at *
    have Hm := Lib.hid hm
    have Hl := Lib.hid hl
    have HP := Lib.hid hP
    have HT := Lib.hid hT
    clear hm hl hP hT
    go_enter Try.func17, Try.ntmps17
    go_wp2_with fail
    refine (rtail_int _ _ _ (by omega) (by omega) (by omega)).mono ?_
    rintro e w1 ⟨rfl, hbel⟩
    rw [HT.out]
    go_wp2_with fail
    refine (rpower_int _ _ (by omega) (by omega)).mono ?_
    rintro e w2 ⟨rfl, rfl⟩
    rw [HP.out]
    by_cases hh : P / 2 < TT
    · have e1 := Hm.out (by omega)
      subst e1
      go_wp2_with fail
      go_ret
      exact ⟨rfl, hbel⟩
    · have h2 : ¬ P < 2 * TT := by omega
      have e2 : G = 2 * TT := by
        by_cases h3 : P - TT ≤ TT
        · rw [Hm.out h3]; omega
        · rw [Hl.out (by omega)]; omega
      subst e2
      go_wp2_with fail
      go_ret
      exact ⟨rfl, hbel⟩

theorem rsign_no (a b : Int) (w : World) (h : ¬ (0 ≤ a ∧ 0 ≤ b ∧ a + b ≤ 62)) (ha2 : a ≤ 9223372036854775807) (hb2 : b ≤ 9223372036854775807) :
    Calls Try.prog 17 #[.int .i64 a, .int .i64 b] w fun e w' => e = .returned (.int .i64 (-1)) ∧ w = w' := by
  by_cases h1 : a < 0
  · clear h
    go_enter Try.func17, Try.ntmps17
    go_wp2_with fail
    go_ret
    exact ⟨rfl, rfl⟩
  · by_cases h2 : b < 0
    · clear h
      go_enter Try.func17, Try.ntmps17
      go_wp2_with fail
      go_ret
      exact ⟨rfl, rfl⟩
    · by_cases h3 : 62 < a
      · clear h
        go_enter Try.func17, Try.ntmps17
        go_wp2_with fail
        go_ret
        exact ⟨rfl, rfl⟩
      · by_cases h4 : 62 < b
        · clear h
          go_enter Try.func17, Try.ntmps17
          go_wp2_with fail
          go_ret
          exact ⟨rfl, rfl⟩
        · have h5 : 62 < a + b := by omega
          clear h
          go_enter Try.func17, Try.ntmps17
          go_wp2_with fail
          go_ret
          exact ⟨rfl, rfl⟩
end Go.Proofs.Ytimgdeohcanneaa

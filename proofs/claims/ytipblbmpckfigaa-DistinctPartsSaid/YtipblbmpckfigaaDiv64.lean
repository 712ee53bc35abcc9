/- Contract of math/bits Div64. -/
import Derived.Test.YtipblbmpckfigaaWide
import Derived.Test.YtipblbmpckfigaaKnuth
import Derived.Test.YtipblbmpckfigaaShelf
import Derived.Test.YtipblbmpckfigaaProg
import Derived.WalkLawsBesides
import Derived.WalkSpells
import Derived.Lib.Hide
import Derived.RegionTactic
import Derived.Deep.QuietTactic
import Derived.BigQuiet
import Derived.Deep.DeepCutAuto
import Derived.Deep.CutBlock
namespace Go.Proofs.Ytipblbmpckfigaa
open Go.RowKit Wide Knuth
set_option linter.unusedVariables false


set_option maxHeartbeats 400000 in
theorem div64_zero (l y : Int) (w : World) (h0 : 0 ≤ l) (h1 : l ≤ 18446744073709551615) (hy : 1 ≤ y) (hy1 : y ≤ 18446744073709551615) :
    Calls Try.prog 29 #[.int .u64 0, .int .u64 l, .int .u64 y] w fun e w' => e = .returned (.tuple #[.int .u64 (l / y), .int .u64 (l % y)]) ∧ Below w.heap.size w w' := by
  have t1 : (y == 0) = false := by simp; omega
  go_enter Try.func29, Try.ntmps29
  go_wp2_with fail
  go_region
  go_wp2_with fail
  go_ret2
  exact ⟨rfl, (Below.refl _ _).drew⟩

set_option maxHeartbeats 2000000 in
set_option maxRecDepth 100000 in
theorem div64_more (h l y : Int) (w : World) (h0 : 0 ≤ l) (h1 : l ≤ 18446744073709551615) (hh : 1 ≤ h) (hy : h < y) (hy1 : y ≤ 18446744073709551615) :
    Calls Try.prog 29 #[.int .u64 h, .int .u64 l, .int .u64 y] w fun e w' => e = .returned (.tuple #[.int .u64 ((h * 18446744073709551616 + l) / y), .int .u64 ((h * 18446744073709551616 + l) % y)]) ∧ w = w' := by
  obtain ⟨s, Y, U, L, hs, hs2, eY, eU, eL, hYv, y1, y2, u1, u2, l1, l2, hV⟩ := norm h l y h0 h1 (by omega) hy hy1
  have t1 : (y == 0) = false := by simp; omega
  have t2 : (h == 0) = false := by simp; omega
  have t3 : decide (y ≤ h) = false := by simp; omega
  have HS := Lib.hid hs
  have HYv := Lib.hid hYv
  have HV := Lib.hid hV
  have D1 : Digit Y U (L / 4294967296) := ⟨y1, y2, u1, u2, by omega, by omega⟩
  clear hs hYv hV
  have b1 := and_low32 Y (by omega) (by omega)
  have b2 := and_low32 L (by omega) (by omega)
  obtain ⟨Y1, hY1⟩ : ∃ Y1, Y / 4294967296 = Y1 := ⟨_, rfl⟩
  obtain ⟨Y0, hY0⟩ : ∃ Y0, Y % 4294967296 = Y0 := ⟨_, rfl⟩
  obtain ⟨d1, hd1⟩ : ∃ d1, L / 4294967296 = d1 := ⟨_, rfl⟩
  obtain ⟨d0, hd0⟩ : ∃ d0, L % 4294967296 = d0 := ⟨_, rfl⟩
  rw [hY0] at b1
  rw [hd0] at b2
  have z1 : 2147483648 ≤ Y1 := by omega
  have z2 : Y1 ≤ 4294967295 := by omega
  have z3 : 0 ≤ Y0 := by omega
  have z4 : Y0 ≤ 4294967295 := by omega
  have z5 : 0 ≤ d1 := by omega
  have z6 : d1 ≤ 4294967295 := by omega
  have z7 : 0 ≤ d0 := by omega
  have z8 : d0 ≤ 4294967295 := by omega
  have I1 := digit_start D1
  rw [hY1] at I1
  rw [hd1] at I1 D1
  obtain ⟨q0, hq0⟩ : ∃ q0, U / Y1 = q0 := ⟨_, rfl⟩
  rw [hq0] at I1
  have q1 : 0 ≤ q0 := by rw [← hq0]; exact Int.ediv_nonneg u1 (by omega)
  have q2 : q0 ≤ 4294967297 := I1.2.2.2
  have p1 : q0 * Y1 ≤ U := by have := I1.2.1; have := I1.2.2.1; rw [hY1] at *; omega
  have p0 : 0 ≤ q0 * Y1 := Int.mul_nonneg q1 (by omega)
  have wp : IntKind.u64.wrap (q0 * Y1) = q0 * Y1 := IntWalk.u64_in _ (by omega)
  have r1 : U - q0 * Y1 ≤ 4294967295 := by
    have e1 := Int.mul_ediv_add_emod U Y1
    have e2 := Int.emod_lt_of_pos U (show 0 < Y1 by omega)
    rw [hq0, Int.mul_comm] at e1
    omega
  obtain ⟨P, hP⟩ : ∃ P, q0 * Y1 = P := ⟨_, rfl⟩
  rw [hP] at I1 p1 p0 r1
  have wp2 : IntKind.u64.wrap (q0 * Y1) = P := by rw [wp, hP]
  clear wp hP
  go_enter Try.func29, Try.ntmps29
  go_wp2_with fail
  refine (Try.bits_LeadingZeros64 y _ (by omega) hy1).mono ?_
  rintro e w1 ⟨rfl, rfl⟩
  rw [HS.out]
  go_upto_block 0 with fail
  have HY1 := Lib.hid hY1
  have HY0 := Lib.hid hY0
  have HQ0 := Lib.hid hq0
  have Hd1 := Lib.hid hd1
  have Hd0 := Lib.hid hd0
  obtain ⟨Q1, hQ1⟩ : ∃ Q1, (U * 4294967296 + d1) / Y = Q1 := ⟨_, rfl⟩
  have k1 : 0 ≤ Q1 := by rw [← hQ1]; exact D1.q.1
  have k2 : Q1 ≤ 4294967295 := by rw [← hQ1]; exact D1.q.2
  have HQ1 := Lib.hid hQ1
  clear eY eU eL wp2 hq0 b1 b2 hY1 hd1 hY0 hd0 hQ1
  rw [HQ0.out]
  go_cut [15, 16] (fun q _ wx => q = .int .u64 Q1 ∧ w1 = wx)
  case first =>
    go_wp2_with fail
    go_loop [15, 16] (fun a b => ∃ q r : Int, a = .int .u64 q ∧ b = .int .u64 r ∧ Knuth.Inv Y U d1 q r ∧ 0 ≤ q ∧ q ≤ 4294967297 ∧ 0 ≤ r ∧ r ≤ 4294967295) (fun a _ => (intOf a).toNat)
    case atStart => exact ⟨_, _, rfl, rfl, I1, by omega, by omega, by omega, by omega⟩
    case round =>
      obtain ⟨q, r, rfl, rfl, hI, c1, c2, c3, c4⟩ := hrel
      have HI := Lib.hid hI
      clear hI
      by_cases hA : 4294967296 ≤ q
      · have I2 := digit_dec D1 HI.out (.inl hA)
        rw [HY1.out] at I2
        obtain ⟨I3, g1⟩ := I2
        have H3 := Lib.hid I3
        clear I3
        by_cases hB : 4294967296 ≤ r + Y1
        · go_wp2_with fail
          go_meet
          exact ⟨by rw [digit_brk D1 H3.out (by omega) (by omega) hB]; rw [HQ1.out], rfl⟩
        · go_wp2_with fail
          go_round
          case rel => exact ⟨_, _, rfl, rfl, H3.out, by omega, by omega, by omega, by omega⟩
          case measure => simp [intOf]; omega
      · obtain ⟨p, hp⟩ : ∃ p, q * Y0 = p := ⟨_, rfl⟩
        have p3 : 0 ≤ p := by rw [← hp]; exact Int.mul_nonneg c1 z3
        have p4 : p ≤ 4294967295 * 4294967295 := by
          rw [← hp]; exact Int.mul_le_mul (by omega) z4 z3 (by omega)
        have HP := Lib.hid hp
        by_cases hC : 4294967296 * r + d1 < p
        · have I2 := digit_dec D1 HI.out (.inr (by rw [HY0.out, HP.out]; exact hC))
          rw [HY1.out] at I2
          obtain ⟨I3, g1⟩ := I2
          have H3 := Lib.hid I3
          clear I3
          by_cases hB : 4294967296 ≤ r + Y1
          · go_wp2_with fail
            go_meet
            exact ⟨by rw [digit_brk D1 H3.out (by omega) (by omega) hB]; rw [HQ1.out], rfl⟩
          · go_wp2_with fail
            go_round
            case rel => exact ⟨_, _, rfl, rfl, H3.out, by omega, by omega, by omega, by omega⟩
            case measure => simp [intOf]; omega
        · have e9 := Lib.hid (digit_done D1 HI.out (by rw [HY0.out, HP.out]; omega))
          go_wp2_with fail
          go_meet
          exact ⟨by rw [e9.out]; rw [HQ1.out], rfl⟩
  case rest =>
    obtain ⟨rfl, rfl⟩ := hcut
    have eR := digit_left D1 Q1 HQ1.out.symm
    obtain ⟨R, hR⟩ : ∃ R, U * 4294967296 + d1 - Q1 * Y = R := ⟨_, rfl⟩
    rw [hR] at eR
    have r3 : 0 ≤ R := by have := D1.qr; rw [HQ1.out] at this; omega
    have r4 : R < Y := by have := D1.qr; rw [HQ1.out] at this; omega
    have HR := Lib.hid hR
    have D0 : Digit Y R d0 := ⟨y1, y2, r3, r4, z7, z8⟩
    have J1 := digit_start D0
    rw [HY1.out] at J1
    obtain ⟨s0, hs0⟩ : ∃ s0, R / Y1 = s0 := ⟨_, rfl⟩
    rw [hs0] at J1
    have v1 : 0 ≤ s0 := by rw [← hs0]; exact Int.ediv_nonneg r3 (by omega)
    have v2 : s0 ≤ 4294967297 := J1.2.2.2
    have p5 : s0 * Y1 ≤ R := by have := J1.2.1; have := J1.2.2.1; rw [HY1.out] at *; omega
    have p6 : 0 ≤ s0 * Y1 := Int.mul_nonneg v1 (by omega)
    have wp : IntKind.u64.wrap (s0 * Y1) = s0 * Y1 := IntWalk.u64_in _ (by omega)
    have r5 : R - s0 * Y1 ≤ 4294967295 := by
      have e1 := Int.mul_ediv_add_emod R Y1
      have e2 := Int.emod_lt_of_pos R (show 0 < Y1 by omega)
      rw [hs0, Int.mul_comm] at e1
      omega
    obtain ⟨P2, hP2⟩ : ∃ P2, s0 * Y1 = P2 := ⟨_, rfl⟩
    rw [hP2] at J1 p5 p6 r5
    have wp2 : IntKind.u64.wrap (s0 * Y1) = P2 := by rw [wp, hP2]
    obtain ⟨Q0, hQ0⟩ : ∃ Q0, (R * 4294967296 + d0) / Y = Q0 := ⟨_, rfl⟩
    have k3 : 0 ≤ Q0 := by rw [← hQ0]; exact D0.q.1
    have k4 : Q0 ≤ 4294967295 := by rw [← hQ0]; exact D0.q.2
    have HQQ := Lib.hid hQ0
    have HS0 := Lib.hid hs0
    clear wp hP2 hR hQ0
    go_upto_block 2 with fail
    rw [HS0.out]
    clear hs0 wp2 eR
    go_cut [18, 16] (fun q _ wx => q = .int .u64 Q0 ∧ w1 = wx)
    case first =>
      go_wp2_with fail
      go_loop [18, 16] (fun a b => ∃ q r : Int, a = .int .u64 q ∧ b = .int .u64 r ∧ Knuth.Inv Y R d0 q r ∧ 0 ≤ q ∧ q ≤ 4294967297 ∧ 0 ≤ r ∧ r ≤ 4294967295) (fun a _ => (intOf a).toNat)
      case atStart => exact ⟨_, _, rfl, rfl, J1, by omega, by omega, by omega, by omega⟩
      case round =>
        obtain ⟨q, r, rfl, rfl, hI, c1, c2, c3, c4⟩ := hrel
        have HI := Lib.hid hI
        clear hI
        by_cases hA : 4294967296 ≤ q
        · have I2 := digit_dec D0 HI.out (.inl hA)
          rw [HY1.out] at I2
          obtain ⟨I3, g1⟩ := I2
          have H3 := Lib.hid I3
          clear I3
          by_cases hB : 4294967296 ≤ r + Y1
          · go_wp2_with fail
            go_meet
            exact ⟨by rw [digit_brk D0 H3.out (by omega) (by omega) hB]; rw [HQQ.out], rfl⟩
          · go_wp2_with fail
            go_round
            case rel => exact ⟨_, _, rfl, rfl, H3.out, by omega, by omega, by omega, by omega⟩
            case measure => simp [intOf]; omega
        · obtain ⟨p, hp⟩ : ∃ p, q * Y0 = p := ⟨_, rfl⟩
          have p3 : 0 ≤ p := by rw [← hp]; exact Int.mul_nonneg c1 z3
          have p4 : p ≤ 4294967295 * 4294967295 := by
            rw [← hp]; exact Int.mul_le_mul (by omega) z4 z3 (by omega)
          have HP := Lib.hid hp
          by_cases hC : 4294967296 * r + d0 < p
          · have I2 := digit_dec D0 HI.out (.inr (by rw [HY0.out, HP.out]; exact hC))
            rw [HY1.out] at I2
            obtain ⟨I3, g1⟩ := I2
            have H3 := Lib.hid I3
            clear I3
            by_cases hB : 4294967296 ≤ r + Y1
            · go_wp2_with fail
              go_meet
              exact ⟨by rw [digit_brk D0 H3.out (by omega) (by omega) hB]; rw [HQQ.out], rfl⟩
            · go_wp2_with fail
              go_round
              case rel => exact ⟨_, _, rfl, rfl, H3.out, by omega, by omega, by omega, by omega⟩
              case measure => simp [intOf]; omega
          · have e9 := Lib.hid (digit_done D0 HI.out (by rw [HY0.out, HP.out]; omega))
            go_wp2_with fail
            go_meet
            exact ⟨by rw [e9.out]; rw [HQQ.out], rfl⟩
    case rest =>
      obtain ⟨rfl, rfl⟩ := hcut
      have eR := digit_left D0 Q0 HQQ.out.symm
      obtain ⟨R0, hR0⟩ : ∃ R0, R * 4294967296 + d0 - Q0 * Y = R0 := ⟨_, rfl⟩
      rw [hR0] at eR
      have r7 : 0 ≤ R0 := by have := D0.qr; rw [HQQ.out] at this; omega
      have r8 : R0 < Y := by have := D0.qr; rw [HQQ.out] at this; omega
      have HR0 := Lib.hid hR0
      have hZ : (1 : Int) ≤ 2 ^ s := by
        have : ((2 : Int) ^ s) = ((2 ^ s : Nat) : Int) := by simp
        rw [this]; have := Nat.one_le_two_pow (n := s); omega
      have fin := both (h := h) (l := l) (y := y) (Y := Y) (U := U) (L := L) (Z := 2 ^ s) hZ HYv.out (by rw [Hd1.out]; exact D1) HV.out Q1 Q0 R (by rw [Hd1.out]; exact HR.out.symm) (by rw [Hd0.out]; exact HQQ.out.symm) (by rw [Hd0.out]; exact D0)
      rw [Hd0.out, hR0] at fin
      have FIN := Lib.hid fin
      clear hR0 fin hZ
      go_wp2_with fail
      go_ret2
      exact ⟨by rw [← FIN.out.1, ← FIN.out.2]; rfl, rfl⟩

/-- Div64, wherever it doesn't panic -/
theorem div64_any (h l y : Int) (w : World) (h0 : 0 ≤ l) (h1 : l ≤ 18446744073709551615) (hh : 0 ≤ h) (hy : h < y) (hy1 : y ≤ 18446744073709551615) :
    Calls Try.prog 29 #[.int .u64 h, .int .u64 l, .int .u64 y] w fun e w' => e = .returned (.tuple #[.int .u64 ((h * 18446744073709551616 + l) / y), .int .u64 ((h * 18446744073709551616 + l) % y)]) ∧ Below w.heap.size w w' := by
  by_cases hz : h = 0
  · subst hz
    have e : (0 : Int) * 18446744073709551616 + l = l := by omega
    rw [e]; exact div64_zero l y w h0 h1 (by omega) hy1
  · refine (div64_more h l y w h0 h1 (by omega) hy hy1).mono ?_
    rintro e w' ⟨rfl, rfl⟩
    exact ⟨rfl, Below.refl _ _⟩
end Go.Proofs.Ytipblbmpckfigaa

/- Contracts of ratio's Scale, reduce and add. -/
import Derived.Test.YtlkiondacgcmdaaRatio
import Derived.Test.YtlkiondacgcmdaaDiv
import Derived.Test.YtlkiondacgcmdaaTwo
namespace Go.Proofs.Ytlkiondacgcmdaa
open Go.RowKit Wide Knuth
set_option linter.unusedVariables false

/-- may it be scaled? -/
def scB (x n d : Int) : Bool := decide (0 ≤ x ∧ 0 ≤ n ∧ 1 ≤ d ∧ x * n / d ≤ 9223372036854775807)
theorem hi_ge (V d : Int) (hd : 1 ≤ d) (hV : 0 ≤ V) : d ≤ hi V → 18446744073709551616 ≤ V / d := by
  intro h
  apply Int.le_ediv_of_mul_le (by omega)
  have e := hi_lo V
  have l := lo_bd V
  omega
theorem hi_lt (V d : Int) (hd : 1 ≤ d) (hV : 0 ≤ V) : hi V < d → V / d ≤ 18446744073709551615 := by
  intro h
  have : V / d < 18446744073709551616 := by
    apply Int.ediv_lt_of_lt_mul (by omega)
    have e := hi_lo V
    have l := lo_bd V
    have : (hi V + 1) * 18446744073709551616 ≤ d * 18446744073709551616 := Int.mul_le_mul_of_nonneg_right (by omega) (by omega)
    omega
  omega

set_option maxHeartbeats 400000 in
theorem scale_yes (x n d : Int) (w : World) (hx : 0 ≤ x) (hn : 0 ≤ n) (hd : 1 ≤ d) (hx2 : x ≤ 9223372036854775807) (hn2 : n ≤ 9223372036854775807) (hd2 : d ≤ 9223372036854775807) (hq : x * n / d ≤ 9223372036854775807) :
    Calls Try.prog 14 #[.int .i64 x, .int .i64 n, .int .i64 d] w fun e w' => e = .returned (.tuple #[.int .i64 (x * n / d), .bool true]) ∧ Below w.heap.size w w' := by
  have eP : Hid (prod x n = x * n) := prod_nn x n hx hn
  have hV0 : 0 ≤ x * n := Int.mul_nonneg hx hn
  have hV2 := mul_le x n hx hn hx2 hn2
  have hlt : hi (x * n) < d := by
    rcases Int.lt_or_le (hi (x * n)) d with k | k
    · exact k
    · have := hi_ge (x * n) d hd hV0 k; omega
  have b1 := hi_bd (x * n) hV0 (by omega)
  have b2 := lo_bd (x * n)
  have eV := Lib.hid (hi_lo (x * n))
  have q0 : 0 ≤ x * n / d := Int.ediv_nonneg hV0 (by omega)
  have eq1 : Hid ((hi (x * n) * 18446744073709551616 + lo (x * n)) / d = x * n / d) := by
    show (hi (x * n) * 18446744073709551616 + lo (x * n)) / d = x * n / d
    rw [eV.out]
  generalize x * n / d = q at *
  generalize hH : hi (x * n) = H at *
  generalize hL : lo (x * n) = L at *
  have HH := Lib.hid hH
  have HL := Lib.hid hL
  obtain ⟨b3, b4⟩ := b1
  obtain ⟨b5, b6⟩ := b2
  clear hH hL hV0 hV2
  go_enter Try.func14, Try.ntmps14
  go_wp2_with fail
  refine (product_any _ _ _ hx2 hn2).mono ?_
  rintro e w1 ⟨rfl, rfl⟩
  rw [eP.out, HH.out, HL.out]
  go_wp2_with fail
  refine (div64_any _ _ _ _ b5 b6 b3 hlt (by omega)).mono ?_
  rintro e w1 ⟨rfl, bb⟩
  rw [eq1.out]
  go_wp2_with fail
  go_ret2
  exact ⟨rfl, bb⟩

set_option maxHeartbeats 400000 in
theorem scale_beyond (x n d : Int) (w : World) (hx : 0 ≤ x) (hn : 0 ≤ n) (hd : 1 ≤ d) (hx2 : x ≤ 9223372036854775807) (hn2 : n ≤ 9223372036854775807) (hd2 : d ≤ 9223372036854775807) (hq : ¬ x * n / d ≤ 9223372036854775807) :
    Calls Try.prog 14 #[.int .i64 x, .int .i64 n, .int .i64 d] w fun e w' => e = .returned (.tuple #[.int .i64 0, .bool false]) ∧ Below w.heap.size w w' := by
  have eP : Hid (prod x n = x * n) := prod_nn x n hx hn
  have hV0 : 0 ≤ x * n := Int.mul_nonneg hx hn
  have hV2 := mul_le x n hx hn hx2 hn2
  have b1 := hi_bd (x * n) hV0 (by omega)
  have b2 := lo_bd (x * n)
  have eV := Lib.hid (hi_lo (x * n))
  have hq1 : hi (x * n) < d → x * n / d ≤ 18446744073709551615 := hi_lt (x * n) d hd hV0
  have eq1 : Hid ((hi (x * n) * 18446744073709551616 + lo (x * n)) / d = x * n / d) := by
    show (hi (x * n) * 18446744073709551616 + lo (x * n)) / d = x * n / d
    rw [eV.out]
  generalize x * n / d = q at *
  generalize hH : hi (x * n) = H at *
  generalize hL : lo (x * n) = L at *
  have HH := Lib.hid hH
  have HL := Lib.hid hL
  have HQ1 := Lib.hid hq1
  obtain ⟨b3, b4⟩ := b1
  obtain ⟨b5, b6⟩ := b2
  clear hH hL hV0 hV2 hq1
  by_cases hlt : H < d
  · have q2 := HQ1.out hlt
    go_enter Try.func14, Try.ntmps14
    go_wp2_with fail
    refine (product_any _ _ _ hx2 hn2).mono ?_
    rintro e w1 ⟨rfl, rfl⟩
    rw [eP.out, HH.out, HL.out]
    go_wp2_with fail
    refine (div64_any _ _ _ _ b5 b6 b3 hlt (by omega)).mono ?_
    rintro e w1 ⟨rfl, bb⟩
    rw [eq1.out]
    go_wp2_with fail
    go_ret2
    exact ⟨rfl, bb⟩
  · go_enter Try.func14, Try.ntmps14
    go_wp2_with fail
    refine (product_any _ _ _ hx2 hn2).mono ?_
    rintro e w1 ⟨rfl, rfl⟩
    rw [eP.out, HH.out, HL.out]
    go_wp2_with fail
    go_ret2
    exact ⟨rfl, Below.refl _ _⟩

theorem scale_no (x n d : Int) (w : World) (h : x < 0 ∨ n < 0 ∨ d < 1) :
    Calls Try.prog 14 #[.int .i64 x, .int .i64 n, .int .i64 d] w fun e w' => e = .returned (.tuple #[.int .i64 0, .bool false]) ∧ Below w.heap.size w w' := by
  by_cases h1 : x < 0
  · clear h
    go_enter Try.func14, Try.ntmps14
    go_wp2_with fail
    go_ret2
    exact ⟨rfl, Below.refl _ _⟩
  · by_cases h2 : n < 0
    · clear h
      go_enter Try.func14, Try.ntmps14
      go_wp2_with fail
      go_ret2
      exact ⟨rfl, Below.refl _ _⟩
    · have h3 : d < 1 := by omega
      clear h
      go_enter Try.func14, Try.ntmps14
      go_wp2_with fail
      go_ret2
      exact ⟨rfl, Below.refl _ _⟩

/-- what Scale is -/
def scV (x n d : Int) : Int := if scB x n d then x * n / d else 0
theorem scale_any (x n d : Int) (w : World) (hx2 : x ≤ 9223372036854775807) (hn2 : n ≤ 9223372036854775807) (hd2 : d ≤ 9223372036854775807) :
    Calls Try.prog 14 #[.int .i64 x, .int .i64 n, .int .i64 d] w fun e w' => e = .returned (.tuple #[.int .i64 (scV x n d), .bool (scB x n d)]) ∧ Below w.heap.size w w' := by
  by_cases h : 0 ≤ x ∧ 0 ≤ n ∧ 1 ≤ d
  · by_cases hq : x * n / d ≤ 9223372036854775807
    · have e : scB x n d = true := by simp [scB, h, hq]
      have e2 : scV x n d = x * n / d := by simp [scV, e]
      rw [e, e2]; exact scale_yes x n d w h.1 h.2.1 h.2.2 hx2 hn2 hd2 hq
    · have e : scB x n d = false := by simp only [scB, decide_eq_false_iff_not]; exact fun k => hq k.2.2.2
      have e2 : scV x n d = 0 := by simp [scV, e]
      rw [e, e2]; exact scale_beyond x n d w h.1 h.2.1 h.2.2 hx2 hn2 hd2 hq
  · have e : scB x n d = false := by simp only [scB, decide_eq_false_iff_not]; exact fun k => h ⟨k.1, k.2.1, k.2.2.1⟩
    have e2 : scV x n d = 0 := by simp [scV, e]
    rw [e, e2]; exact scale_no x n d w (by omega)
end Go.Proofs.Ytlkiondacgcmdaa

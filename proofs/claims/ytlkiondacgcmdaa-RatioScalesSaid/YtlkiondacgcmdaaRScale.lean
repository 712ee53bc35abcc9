/- Contract of the reference's Scale. -/
import Derived.Test.YtlkiondacgcmdaaDivide
import Derived.Test.YtlkiondacgcmdaaScale
namespace Go.Proofs.Ytlkiondacgcmdaa
open Go.RowKit Wide
set_option linter.unusedVariables false
theorem divide_small (X D : Int) (w : World) (hX : 0 ≤ X) (hX2 : X ≤ 340282366920938463463374607431768211455) (hD : 1 ≤ D) (hD2 : D ≤ 9223372036854775807) :
    Calls Try.prog 26 #[.agg #[.int .u64 (hi X), .int .u64 (lo X)], .agg #[.int .u64 0, .int .u64 D]] w fun e w' =>
      e = .returned (.tuple #[.agg #[.int .u64 (hi (X / D)), .int .u64 (lo (X / D))], .agg #[.int .u64 (hi (X % D)), .int .u64 (lo (X % D))]]) ∧ Below w.heap.size w w' := by
  have h := divide_any X D w hX hX2 hD (by omega)
  have e1 : hi D = 0 := by simp only [hi]; omega
  have e2 : lo D = D := by simp only [lo]; omega
  rw [e1, e2] at h; exact h

theorem rscale_no (x n d : Int) (w : World) (h : x < 0 ∨ n < 0 ∨ d < 1) :
    Calls Try.prog 15 #[.int .i64 x, .int .i64 n, .int .i64 d] w fun e w' => e = .returned (.tuple #[.int .i64 0, .bool false]) ∧ Below w.heap.size w w' := by
  by_cases h1 : x < 0
  · clear h
    go_enter Try.func15, Try.ntmps15
    go_wp2_with fail
    go_ret2
    exact ⟨rfl, Below.refl _ _⟩
  · by_cases h2 : n < 0
    · clear h
      go_enter Try.func15, Try.ntmps15
      go_wp2_with fail
      go_ret2
      exact ⟨rfl, Below.refl _ _⟩
    · have h3 : d < 1 := by omega
      clear h
      go_enter Try.func15, Try.ntmps15
      go_wp2_with fail
      go_ret2
      exact ⟨rfl, Below.refl _ _⟩
set_option maxHeartbeats 800000 in
theorem rscale_in (x n d : Int) (w : World) (hx : 0 ≤ x) (hn : 0 ≤ n) (hd : 1 ≤ d) (hx2 : x ≤ 9223372036854775807) (hn2 : n ≤ 9223372036854775807) (hd2 : d ≤ 9223372036854775807) :
    Calls Try.prog 15 #[.int .i64 x, .int .i64 n, .int .i64 d] w fun e w' => e = .returned (.tuple #[.int .i64 (scV x n d), .bool (scB x n d)]) ∧ Below w.heap.size w w' := by
  have hV0 : 0 ≤ x * n := Int.mul_nonneg hx hn
  have hV2 := mul_le x n hx hn hx2 hn2
  have q0 : 0 ≤ x * n / d := Int.ediv_nonneg hV0 (by omega)
  have q1 : x * n / d ≤ x * n := Int.ediv_le_self _ hV0
  have l1 := lo_bd (x * n / d)
  have h1 := hi_bd (x * n / d) q0 (by omega)
  have k1 : (hi (x * n / d) = 0 ∧ lo (x * n / d) ≤ 9223372036854775807) ↔ x * n / d ≤ 9223372036854775807 := by simp only [hi, lo]; omega
  have k2 : hi (x * n / d) = 0 → lo (x * n / d) = x * n / d := by simp only [hi, lo]; omega
  have eB : scB x n d = decide (x * n / d ≤ 9223372036854775807) := by simp [scB, hx, hn, hd]
  have eV : scV x n d = if scB x n d then x * n / d else 0 := rfl
  rw [eB] at eV
  generalize hH : hi (x * n / d) = H at *
  generalize hL : lo (x * n / d) = L at *
  have HH := Lib.hid hH
  have HL := Lib.hid hL
  have K1 := Lib.hid k1
  have K2 := Lib.hid k2
  have EB := Lib.hid eB
  have EV := Lib.hid eV
  obtain ⟨l2, l3⟩ := l1
  obtain ⟨h2, h3⟩ := h1
  clear hH hL k1 k2 eB eV q0 q1
  generalize scB x n d = b at *
  generalize scV x n d = v at *
  by_cases u1 : H = 0
  · subst u1
    by_cases u2 : L ≤ 9223372036854775807
    · have e1 := K1.out.1 ⟨rfl, u2⟩
      have b1 : b = true := by rw [EB.out]; simpa using e1
      have v1 : v = L := by rw [EV.out, K2.out rfl]; simp [e1]
      subst b1 v1
      clear e1
      go_enter Try.func15, Try.ntmps15
      go_wp2_with fail
      refine (times_any _ _ _ hx hn (by omega) (by omega)).mono ?_
      rintro e wa ⟨rfl, ba⟩
      go_wp2_with fail
      refine (divide_small (x * n) d _ hV0 (by omega) hd hd2).mono ?_
      rintro e wb ⟨rfl, bb⟩
      rw [HH.out, HL.out]
      go_wp2_with fail
      go_ret2
      exact ⟨rfl, bel_alloc (bel_alloc (bel_trans ba bb) _) _⟩
    · have e1 : ¬ x * n / d ≤ 9223372036854775807 := fun k => u2 (K1.out.2 k).2
      have b1 : b = false := by rw [EB.out]; simpa using e1
      have v1 : v = 0 := by rw [EV.out]; simp [e1]
      subst b1 v1
      clear e1
      go_enter Try.func15, Try.ntmps15
      go_wp2_with fail
      refine (times_any _ _ _ hx hn (by omega) (by omega)).mono ?_
      rintro e wa ⟨rfl, ba⟩
      go_wp2_with fail
      refine (divide_small (x * n) d _ hV0 (by omega) hd hd2).mono ?_
      rintro e wb ⟨rfl, bb⟩
      rw [HH.out, HL.out]
      go_wp2_with fail
      go_ret2
      exact ⟨rfl, bel_alloc (bel_alloc (bel_trans ba bb) _) _⟩
  · have e1 : ¬ x * n / d ≤ 9223372036854775807 := fun k => u1 (K1.out.2 k).1
    have b1 : b = false := by rw [EB.out]; simpa using e1
    have v1 : v = 0 := by rw [EV.out]; simp [e1]
    subst b1 v1
    have u2 : 0 < H := by omega
    clear e1 u1
    go_enter Try.func15, Try.ntmps15
    go_wp2_with fail
    refine (times_any _ _ _ hx hn (by omega) (by omega)).mono ?_
    rintro e wa ⟨rfl, ba⟩
    go_wp2_with fail
    refine (divide_small (x * n) d _ hV0 (by omega) hd hd2).mono ?_
    rintro e wb ⟨rfl, bb⟩
    rw [HH.out, HL.out]
    go_wp2_with fail
    go_ret2
    exact ⟨rfl, bel_alloc (bel_alloc (bel_trans ba bb) _) _⟩
theorem rscale_any (x n d : Int) (w : World) (hx2 : x ≤ 9223372036854775807) (hn2 : n ≤ 9223372036854775807) (hd2 : d ≤ 9223372036854775807) :
    Calls Try.prog 15 #[.int .i64 x, .int .i64 n, .int .i64 d] w fun e w' => e = .returned (.tuple #[.int .i64 (scV x n d), .bool (scB x n d)]) ∧ Below w.heap.size w w' := by
  by_cases h : 0 ≤ x ∧ 0 ≤ n ∧ 1 ≤ d
  · exact rscale_in x n d w h.1 h.2.1 h.2.2 hx2 hn2 hd2
  · have e : scB x n d = false := by simp only [scB, decide_eq_false_iff_not]; exact fun k => h ⟨k.1, k.2.1, k.2.2.1⟩
    have e2 : scV x n d = 0 := by simp [scV, e]
    rw [e, e2]; exact rscale_no x n d w (by omega)
end Go.Proofs.Ytlkiondacgcmdaa

/- Contract of layer 1's awake: the chapter's examples come out. -/
import Derived.Test.YtlkiondacgcmdaaSum
namespace Go.Proofs.Ytlkiondacgcmdaa
open Go.RowKit Wide Knuth
set_option linter.unusedVariables false

theorem x_hi : hi (prod 1099511627776 1099511627776) = 65536 := by decide +kernel
theorem x_lo : lo (prod 1099511627776 1099511627776) = 0 := by decide +kernel
theorem x_sc : scV 10 7 3 = 23 := by decide +kernel
theorem x_sb : scB 10 7 3 = true := by decide +kernel
theorem x_sn : sumN [(1, 6), (1, 3)] = 1 := by decide +kernel
theorem x_sd : sumD [(1, 6), (1, 3)] = 2 := by decide +kernel
theorem x_su : sumB [(1, 6), (1, 3)] = true := by decide +kernel

/-- two fractions in a new block -/
theorem ratios_new (w : World) (a b c d : Int) (t : TypeId) : Ratios (w.alloc (.cells #[.int .i64 a, .int .i64 b, .int .i64 c, .int .i64 d] t)) w.heap.size 0 [(a, b), (c, d)] := by
  intro i x hx
  have h := heap_alloc_new w (.cells #[.int .i64 a, .int .i64 b, .int .i64 c, .int .i64 d] t)
  match i, hx with
  | 0, hx => cases hx; exact ⟨by rw [cell_of_row _ _ _ _ _ _ h]; rfl, by rw [cell_of_row _ _ _ _ _ _ h]; rfl⟩
  | 1, hx => cases hx; exact ⟨by rw [cell_of_row _ _ _ _ _ _ h]; rfl, by rw [cell_of_row _ _ _ _ _ _ h]; rfl⟩
  | n + 2, hx => simp at hx

set_option maxHeartbeats 800000 in
theorem awake_any (w : World) :
    Calls Try.prog 13 #[] w fun e w' => e = .returned (.bool true) ∧ Below w.heap.size w w' := by
  have k1 : ∀ w, Calls Try.prog 11 #[.int .i64 1099511627776, .int .i64 1099511627776] w fun e w' => e = .returned (.tuple #[.int .u64 65536, .int .u64 0]) ∧ w = w' := by
    intro w; have h := product_any 1099511627776 1099511627776 w (by omega) (by omega); rw [x_hi, x_lo] at h; exact h
  have k2 : ∀ w, Calls Try.prog 14 #[.int .i64 10, .int .i64 7, .int .i64 3] w fun e w' => e = .returned (.tuple #[.int .i64 23, .bool true]) ∧ Below w.heap.size w w' := by
    intro w; have h := scale_any 10 7 3 w (by omega) (by omega) (by omega); rw [x_sc, x_sb] at h; exact h
  have k3 : ∀ w B cap, Ratios w B 0 [(1, 6), (1, 3)] → Calls Try.prog 18 #[.slice (some ⟨B, 0, none⟩) 2 cap] w fun e w' => e = .returned (.tuple #[.agg #[.int .i64 1, .int .i64 2], .bool true]) ∧ Below w.heap.size w w' := by
    intro w B cap hR
    have h := sum_some_slice B 0 cap [(1, 6), (1, 3)] w hR (by intro x hx; simp at hx; rcases hx with rfl | rfl <;> decide) (by decide)
    rw [x_sn, x_sd, x_su] at h; exact h
  have K1 := Lib.hid k1
  have K2 := Lib.hid k2
  have K3 := Lib.hid k3
  clear k1 k2 k3
  go_enter Try.func13, Try.ntmps13
  go_wp2_with fail
  refine (K1.out _).mono ?_
  rintro e w1 ⟨rfl, rfl⟩
  go_wp2_with fail
  refine (K2.out _).mono ?_
  rintro e w2 ⟨rfl, b2⟩
  go_wp2_with fail
  refine (K3.out _ _ _ (ratios_new w2 1 6 1 3 37)).mono ?_
  rintro e w3 ⟨rfl, b3⟩
  go_wp2_with fail
  go_ret
  exact ⟨rfl, bel_alloc (bel_trans (bel_alloc b2 _) b3) _⟩
end Go.Proofs.Ytlkiondacgcmdaa

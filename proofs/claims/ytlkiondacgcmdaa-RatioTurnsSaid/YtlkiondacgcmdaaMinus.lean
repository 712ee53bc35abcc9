/- Contract of the reference's Minus. -/
import Derived.Test.YtlkiondacgcmdaaRef01
namespace Go.Proofs.Ytlkiondacgcmdaa
open Go.RowKit Wide
set_option linter.unusedVariables false
theorem minus_lo (x y : Int) (h : y ≤ x) : IntKind.u64.wrap (lo x - lo y) = lo (x - y) := by
  rw [u64_wrap]; simp only [lo]; omega
theorem minus_hi_yes (x y : Int) (hy : 0 ≤ y) (h : y ≤ x) (hx : x ≤ 340282366920938463463374607431768211455) (k : lo x < lo y) : IntKind.u64.wrap (IntKind.u64.wrap (hi x - hi y) - 1) = hi (x - y) := by
  rw [u64_wrap, u64_wrap]; simp only [lo, hi] at *; omega
theorem minus_hi_no (x y : Int) (hy : 0 ≤ y) (h : y ≤ x) (hx : x ≤ 340282366920938463463374607431768211455) (k : ¬ lo x < lo y) : IntKind.u64.wrap (hi x - hi y) = hi (x - y) := by
  rw [u64_wrap]; simp only [lo, hi] at *; omega
set_option maxHeartbeats 400000 in
theorem minus_any (x y : Int) (w : World) (hy : 0 ≤ y) (h : y ≤ x) (hx : x ≤ 340282366920938463463374607431768211455) :
    Calls Try.prog 17 #[.agg #[.int .u64 (hi x), .int .u64 (lo x)], .agg #[.int .u64 (hi y), .int .u64 (lo y)]] w
      fun e w' => e = .returned (.agg #[.int .u64 (hi (x - y)), .int .u64 (lo (x - y))]) ∧ Below w.heap.size w w' := by
  by_cases k : lo x < lo y
  · have e1 := minus_lo x y h
    have e2 := minus_hi_yes x y hy h hx k
    generalize hi (x - y) = p at *
    generalize lo (x - y) = q at *
    generalize lo x = l1 at *
    generalize lo y = l2 at *
    generalize hi x = h1 at *
    generalize hi y = h2 at *
    go_enter Try.func17, Try.ntmps17
    go_wp2_with fail
    refine bodyPost_ret (v := .agg #[.int .u64 p, .int .u64 q]) (by simp [results, Try.results17, go_sem]) rfl ⟨rfl, bel3 _ _ _ _⟩
  · have e1 := minus_lo x y h
    have e2 := minus_hi_no x y hy h hx k
    generalize hi (x - y) = p at *
    generalize lo (x - y) = q at *
    generalize lo x = l1 at *
    generalize lo y = l2 at *
    generalize hi x = h1 at *
    generalize hi y = h2 at *
    go_enter Try.func17, Try.ntmps17
    go_wp2_with fail
    refine bodyPost_ret (v := .agg #[.int .u64 p, .int .u64 q]) (by simp [results, Try.results17, go_sem]) rfl ⟨rfl, bel3 _ _ _ _⟩
end Go.Proofs.Ytlkiondacgcmdaa

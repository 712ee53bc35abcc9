/- Contract of the law's own awake: the chapter's examples come out. -/
import Derived.Test.YthkdcbmcknndnaaSign
namespace Go.Proofs.Ythkdcbmcknndnaa
open Go.RowKit Pasc Wide
set_option linter.unusedVariables false

theorem ex_choose : ch 5 2 = 10 := by decide +kernel
theorem ex_nb : nB 5 = true := by decide
theorem ex_tail : tl 3 2 63 = 4 := by decide +kernel
theorem ex_pw3 : pw 3 = 8 := by decide +kernel
theorem ex_sgn : sgn 5 0 = 2 := by decide +kernel
theorem ex_pw5 : pw ((5 : Int) + 0).toNat = 32 := by decide +kernel
theorem ex_call : callV 20 9 20 1 1 20 = 1 := by decide +kernel

set_option maxHeartbeats 800000 in
theorem awake_any (w : World) :
    Calls Try.prog 4 #[] w fun e w' => e = .returned (.bool true) ∧ Below w.heap.size w w' := by
  have k1 : ∀ w, Calls Try.prog 8 #[.int .i64 5, .int .i64 2] w fun e w' => e = .returned (.tuple #[.int .u64 10, .bool true]) ∧ Below w.heap.size w w' := by
    intro w; have h := choose_any 5 2 w; rw [ex_choose, ex_nb] at h; exact h
  have k2 : ∀ w, Calls Try.prog 9 #[.int .i64 3, .int .i64 2] w fun e w' => e = .returned (.tuple #[.agg #[.int .i64 4, .int .i64 8], .bool true]) ∧ Below w.heap.size w w' := by
    intro w; have h := tail_yes 3 2 w (by omega); rw [ex_tail, ex_pw3] at h; exact h
  have k3 : ∀ w, Calls Try.prog 10 #[.int .i64 5, .int .i64 0] w fun e w' => e = .returned (.tuple #[.agg #[.int .i64 2, .int .i64 32], .bool true]) ∧ Below w.heap.size w w' := by
    intro w; have h := sign_yes 5 0 w (by omega) (by omega) (by omega); rw [ex_sgn, ex_pw5] at h; exact h
  have k4 : ∀ w, Calls Try.prog 11 #[.agg #[.string ⟨#[]⟩, .int .i64 20, .int .i64 9, .int .i64 0], .agg #[.string ⟨#[]⟩, .int .i64 20, .int .i64 1, .int .i64 0], .agg #[.int .i64 1, .int .i64 20]] w fun e w' => e = .returned (.int .i64 1) ∧ Below w.heap.size w w' := by
    intro w; have h := of_any ⟨#[]⟩ ⟨#[]⟩ 20 9 0 20 1 0 1 20 w (by omega) (by omega) (by omega) (by omega); rw [ex_call] at h; exact h
  have K1 := Lib.hid k1
  have K2 := Lib.hid k2
  have K3 := Lib.hid k3
  have K4 := Lib.hid k4
  clear k1 k2 k3 k4
  go_enter Try.func4, Try.ntmps4
  go_wp2_with fail
  refine (K1.out _).mono ?_
  rintro e w1 ⟨rfl, b1⟩
  go_wp2_with fail
  refine (K2.out _).mono ?_
  rintro e w2 ⟨rfl, b2⟩
  go_wp2_with fail
  refine (K3.out _).mono ?_
  rintro e w3 ⟨rfl, b3⟩
  obtain ⟨hc, hf⟩ := Bel.cells b3
  have hz : w2.heap.size < w3.heap.size := by have := b3.size; simp at this; omega
  go_wp2_with fail
  refine (K4.out _).mono ?_
  rintro e w4 ⟨rfl, b4⟩
  go_wp2_with fail
  go_ret
  refine ⟨rfl, ?_⟩
  have s1 := b1.size
  have s2 := b2.size
  have c2 := (b1.trans (b2.mono s1)).alloc (by omega) (Obj.cells #[Value.int IntKind.i64 4, Value.int IntKind.i64 8] 35)
  have c3 := (c2.trans (b3.mono (by simp; omega))).alloc (by omega) (Obj.cells #[Value.int IntKind.i64 2, Value.int IntKind.i64 32] 35)
  exact c3.trans (b4.mono (by simp; omega))
end Go.Proofs.Ythkdcbmcknndnaa

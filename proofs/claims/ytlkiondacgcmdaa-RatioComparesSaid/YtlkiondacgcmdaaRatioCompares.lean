/- For every input ciceronelaw01.RatioCompares returns true, and its arguments read behind the call as before. No conditions. -/
import Derived.Test.YtlkiondacgcmdaaAwake01
import Derived.Test.YtlkiondacgcmdaaRef01
import Derived.Test.YtlkiondacgcmdaaRows
import Derived.ProofKit
import Derived.OpenShut
import Derived.ShutString
import Derived.ChangeOld
import Derived.Below
import Derived.Lib.SmallJoins
namespace Go.Proofs.Ytlkiondacgcmdaa.ratioCompares
open Go.ChangeShapes Go.WideShapes Go.ChangeAt Go.RowKit Go.Joins
open Go.ChangeMaps (open_string shut_string)
set_option linter.unusedVariables false

open Wide
set_option maxHeartbeats 2000000 in
set_option maxRecDepth 100000 in
theorem walk (a b : Int) (w00 : (Lit.int .i64 a).wf = true) (w01 : (Lit.int .i64 b).wf = true) (c d : Int) (w10 : (Lit.int .i64 c).wf = true) (w11 : (Lit.int .i64 d).wf = true) (w : World) :
    Calls Try.prog 7 #[.agg #[.int .i64 a, .int .i64 b], .agg #[.int .i64 c, .int .i64 d]] w fun e w' => e = .returned (.bool true) ∧ Below w.heap.size w w' := by
  have x1 := (bounds_i64 w00).2
  have x2 := (bounds_i64 w01).2
  have x3 := (bounds_i64 w10).2
  have x4 := (bounds_i64 w11).2
  clear w00 w01 w10 w11
  obtain ⟨R, hR⟩ : ∃ R, cmpR a b c d = R := ⟨_, rfl⟩
  obtain ⟨M1, hM1⟩ : ∃ M1, mayB a b = M1 := ⟨_, rfl⟩
  obtain ⟨M2, hM2⟩ : ∃ M2, mayB c d = M2 := ⟨_, rfl⟩
  have HR := Lib.hid hR
  have H1 := Lib.hid hM1
  have H2 := Lib.hid hM2
  clear hR hM1 hM2
  go_enter Try.func7, Try.ntmps7
  go_wp2_with fail
  have i1 : Two ((w.alloc (.cells #[.int .i64 a, .int .i64 b] 37)).alloc (.cells #[.int .i64 c, .int .i64 d] 37)) w.heap.size (.int .i64 a) (.int .i64 b) 37 := (Two.new _ _ _ _).old _
  have i2 := Two.news (w := w) (.int .i64 a) (.int .i64 b) (.int .i64 c) (.int .i64 d) 37 37
  have bW := bel2 w (.cells #[.int .i64 a, .int .i64 b] 37) (.cells #[.int .i64 c, .int .i64 d] 37)
  generalize (w.alloc (.cells #[.int .i64 a, .int .i64 b] 37)).alloc (.cells #[.int .i64 c, .int .i64 d] 37) = W at *
  have c0 := i1.c0
  have c1 := i1.c1
  have d0 := i2.c0
  have d1 := i2.c1
  have y1 : (R == R) = true := by simp
  have y2 : (M1 == M1) = true := by simp
  have y3 : (M2 == M2) = true := by simp
  cases M1 <;> cases M2
  all_goals
    go_region_held3 (fun w' => w'.cell? ⟨w.heap.size, 0, none⟩ = some (.int .i64 a) ∧ w'.cell? ⟨w.heap.size, 1, none⟩ = some (.int .i64 b) ∧ w'.cell? ⟨w.heap.size + 1, 0, none⟩ = some (.int .i64 c) ∧ w'.cell? ⟨w.heap.size + 1, 1, none⟩ = some (.int .i64 d))
      ((refine two_keep i1 i2 ?_; repeat (first | assumption | exact Below.refl _ _ | refine Below.drew ?_ | refine bel_alloc ?_ _)))
      (first
        | (go_at_call 20; refine (compare_any _ _ _ _ _ x1 x2 x3 x4).mono ?_; rintro e wx ⟨rfl, bx⟩; rw [HR.out]; have bv := bel_trans (V := W) (by repeat (first | assumption | exact Below.refl _ _ | refine Below.drew ?_ | refine bel_alloc ?_ _)) bx)
        | (go_at_call 21; refine (rcompare_any _ _ _ _ _ x1 x2 x3 x4).mono ?_; rintro e wx ⟨rfl, bx⟩; rw [HR.out]; have bv := bel_trans (V := W) (by repeat (first | assumption | exact Below.refl _ _ | refine Below.drew ?_ | refine bel_alloc ?_ _)) bx)
        | (go_at_call 22; refine (may_any _ _ _).mono ?_; rintro e wx ⟨rfl, rfl⟩; (first | rw [H1.out] | rw [H2.out] | fail))
        | (go_at_call 23; refine (rmay_any _ _ _).mono ?_; rintro e wx ⟨rfl, rfl⟩; (first | rw [H1.out] | rw [H2.out] | fail))
        | (go_at_call 13; refine (awake_any _).mono ?_; rintro e wx ⟨rfl, bx⟩; have bv := bel_trans (V := W) (by repeat (first | assumption | exact Below.refl _ _ | refine Below.drew ?_ | refine bel_alloc ?_ _)) bx))
    all_goals
      go_wp2_with fail
      go_ret
      exact ⟨rfl, bel_trans bW bv⟩

theorem own : ownKnob Try.prog.godebug = none := by kernel_rfl
theorem laidOut : laidOutB Try.prog = true := by kernel_rfl

set_option maxRecDepth 100000 in
theorem lifted (os : Os) (started : os.Started) (H : Type) (enc : TypeId × Value → H) :
    ReturnsInHanded {} Try.checked os 7 .any (Rows.ratioComparesSpec.pre6 enc Try.prog Try.f7 Rows.ratioComparesRow.domain false) (Rows.ratioComparesSpec.post enc Try.prog Try.f7 false true false false) := by
  refine returnsInHanded_of_change (C := Try.checked) own started (by kernel_rfl) Try.func7
    (ChangeSpec.witness6 (enc := enc) (C := Try.checked) false ⟨#[], #[.agg #[.int .i64 0, .int .i64 0], .agg #[.int .i64 0, .int .i64 0]], []⟩ 8 (by kernel_rfl) (by kernel_rfl) (by kernel_rfl) (by kernel_rfl)) ?_
  intro W base args ds gs before hval0 hW hcnd _
  have hval : ∀ (j : Nat) t v, Try.f7.params[j]? = some t → args[j]? = some v → Value.okWide Try.prog W .any base t v := hval0
  have hW' := hW
  obtain ⟨p, q, hA0, hV, rfl, hfz, hnd⟩ := hW
  have hA : DataW.TrodAll enc Try.prog W 0 (fun _ => true) true Try.f7.params.toList args.toList ds p := hA0
  rw [Try.params7] at hA hval
  obtain ⟨v0, vs0, d0, ds0, p0, q0, hargs, rfl, rfl, h0, r0⟩ := trodAll_cons hA
  obtain ⟨v1, vs1, d1, ds1, p1, q1, rfl, rfl, rfl, h1, r1⟩ := trodAll_cons r0
  obtain ⟨rfl, rfl, rfl⟩ := trodAll_nil r1
  obtain rfl : args = #[v0, v1] := by cases args; simp_all
  obtain ⟨rfl, rfl⟩ := trodVars_none hV
  have k0 := h0
  have lt0 : ∀ x ∈ p0, x.block < W.heap.size := by obtain ⟨m, hm⟩ := k0; exact DataW.trod_lt m _ _ _ hm
  obtain ⟨c00, c01, y00, y01, m0, rfl, hd0, hp0, hy00, hy01⟩ := open_agg2 Try.underlying37 (by kernel_rfl) (by kernel_rfl) (hval 0 37 v0 rfl rfl) h0
  obtain ⟨a0, e00, _, w00⟩ := DataW.trod_int Try.underlying2 hy00
  obtain ⟨b0, e01, _, w01⟩ := DataW.trod_int Try.underlying2 hy01
  simp at e00 e01
  subst e00 e01
  have k1 := h1
  have lt1 : ∀ x ∈ p1, x.block < W.heap.size := by obtain ⟨m, hm⟩ := k1; exact DataW.trod_lt m _ _ _ hm
  obtain ⟨c10, c11, y10, y11, m1, rfl, hd1, hp1, hy10, hy11⟩ := open_agg2 Try.underlying37 (by kernel_rfl) (by kernel_rfl) (hval 1 37 v1 rfl rfl) h1
  obtain ⟨a1, e10, _, w10⟩ := DataW.trod_int Try.underlying2 hy10
  obtain ⟨b1, e11, _, w11⟩ := DataW.trod_int Try.underlying2 hy11
  simp at e10 e11
  subst e10 e11
  clear hA0 hval0
  refine (walk a0 b0 w00 w01 a1 b1 w10 w11 W).mono fun e W' ⟨he, bel⟩ => ?_
  subst he
  exact ⟨_, rfl, _, _, _, [], _, [], hW', trodAll_mk1 (shut_bool Try.underlying4 _), (trodAll_cons_mk (Below.trod laidOut (by kernel_rfl) (of_decide_eq_true (by kernel_rfl)) k0 bel lt0) (trodAll_cons_mk (Below.trod laidOut (by kernel_rfl) (of_decide_eq_true (by kernel_rfl)) k1 bel lt1) trodAll_mk0)), rfl, bel.frame _, fun h => by cases h⟩

theorem over : Rows.ratioComparesRow.holds Try.pinned (OpenSpec.ofChange Rows.ratioComparesSpec) :=
  OpenClaim.holds_of_wide 7 Try.f7 rfl rfl rfl rfl rfl rfl rfl ⟨rfl, rfl, rfl, rfl, rfl⟩ rfl rfl rfl rfl rfl (by kernel_rfl) Try.func7 (by kernel_rfl)
    (of_decide_eq_true (by kernel_rfl)) (by unfold Func.isWrapper; first | (rw [if_pos (by decide +kernel)]; kernel_rfl) | (rw [if_neg (by decide +kernel)]; exact ⟨rfl, rfl⟩))
    (fun os started H enc _ => lifted os started H enc)

theorem proved : Rows.RatioComparesSaid := over
#print axioms proved
end Go.Proofs.Ytlkiondacgcmdaa.ratioCompares

/- For every input ciceronelaw47.VerdictChooses returns true, and its arguments read behind the call as before. No conditions. -/
import Derived.Test.YtimgdeohcanneaaAwake
import Derived.Test.YtimgdeohcanneaaRef47
import Derived.Test.YtimgdeohcanneaaRows
import Derived.ProofKit
import Derived.OpenShut
import Derived.ShutString
import Derived.ChangeOld
import Derived.Below
import Derived.Lib.SmallJoins
namespace Go.Proofs.Ytimgdeohcanneaa.verdictChooses
open Go.ChangeShapes Go.WideShapes Go.ChangeAt Go.RowKit Go.Joins
open Go.ChangeMaps (open_string shut_string)
set_option linter.unusedVariables false

open Pasc
set_option maxHeartbeats 1000000 in
theorem walk (n : Int) (w0 : (Lit.int .i64 n).wf = true) (k : Int) (w1 : (Lit.int .i64 k).wf = true) (w : World) :
    Calls Try.prog 3 #[.int .i64 n, .int .i64 k] w fun e w' => e = .returned (.bool true) ∧ Below w.heap.size w w' := by
  clear w0 w1
  by_cases h : 0 ≤ n ∧ n ≤ 62
  · obtain ⟨h0, h1⟩ := h
    have b1 := ch_le n k
    generalize hc : ch n k = x at *
    have Hc := Lib.hid hc
    clear hc
    go_enter Try.func3, Try.ntmps3
    go_wp2_with fail
    refine (choose_in _ _ _ h0 h1).mono ?_
    rintro e wa ⟨rfl, ba⟩
    rw [Hc.out]
    go_wp2_with fail
    refine (rchoose_in _ _ _ h0 h1).mono ?_
    rintro e wb ⟨rfl, bb⟩
    rw [Hc.out]
    go_wp2_with fail
    all_goals
      refine (awake_any _).mono ?_
      rintro e wc ⟨rfl, bc⟩
      go_wp2_with fail
      go_ret
      have s1 := ba.size
      have s2 := bb.size
      exact ⟨rfl, (ba.trans (bb.mono (by omega))).trans (bc.mono (by omega))⟩
  · have e1 : ch n k = 0 := by unfold ch; rw [if_neg (by omega)]
    have e2 : nB n = false := by simp [nB]; omega
    have E1 := Lib.hid e1
    have E2 := Lib.hid e2
    have H := Lib.hid h
    clear e1 e2 h
    go_enter Try.func3, Try.ntmps3
    go_wp2_with fail
    refine (choose_any _ _ _).mono ?_
    rintro e wa ⟨rfl, ba⟩
    rw [E1.out, E2.out]
    go_wp2_with fail
    refine (rchoose_no _ _ _ (by have := H.out; omega)).mono ?_
    rintro e wb ⟨rfl, rfl⟩
    go_wp2_with fail
    refine (awake_any _).mono ?_
    rintro e wc ⟨rfl, bc⟩
    go_wp2_with fail
    go_ret
    exact ⟨rfl, ba.trans (bc.mono ba.size)⟩

theorem own : ownKnob Try.prog.godebug = none := by kernel_rfl
theorem laidOut : laidOutB Try.prog = true := by kernel_rfl

set_option maxRecDepth 100000 in
theorem lifted (os : Os) (started : os.Started) (H : Type) (enc : TypeId × Value → H) :
    ReturnsInHanded {} Try.checked os 3 .any (Rows.verdictChoosesSpec.pre6 enc Try.prog Try.f3 Rows.verdictChoosesRow.domain false) (Rows.verdictChoosesSpec.post enc Try.prog Try.f3 false true false false) := by
  refine returnsInHanded_of_change (C := Try.checked) own started (by kernel_rfl) Try.func3
    (ChangeSpec.witness6 (enc := enc) (C := Try.checked) false ⟨#[], #[.int .i64 0, .int .i64 0], []⟩ 8 (by kernel_rfl) (by kernel_rfl) (by kernel_rfl) (by kernel_rfl)) ?_
  intro W base args ds gs before hval0 hW hcnd _
  have hval : ∀ (j : Nat) t v, Try.f3.params[j]? = some t → args[j]? = some v → Value.okWide Try.prog W .any base t v := hval0
  have hW' := hW
  obtain ⟨p, q, hA0, hV, rfl, hfz, hnd⟩ := hW
  have hA : DataW.TrodAll enc Try.prog W 0 (fun _ => true) true Try.f3.params.toList args.toList ds p := hA0
  rw [Try.params3] at hA hval
  obtain ⟨v0, vs0, d0, ds0, p0, q0, hargs, rfl, rfl, h0, r0⟩ := trodAll_cons hA
  obtain ⟨v1, vs1, d1, ds1, p1, q1, rfl, rfl, rfl, h1, r1⟩ := trodAll_cons r0
  obtain ⟨rfl, rfl, rfl⟩ := trodAll_nil r1
  obtain rfl : args = #[v0, v1] := by cases args; simp_all
  obtain ⟨rfl, rfl⟩ := trodVars_none hV
  have k0 := h0
  have lt0 : ∀ x ∈ p0, x.block < W.heap.size := by obtain ⟨m, hm⟩ := k0; exact DataW.trod_lt m _ _ _ hm
  obtain ⟨a0, rfl, rfl, rfl, w0⟩ := open_int Try.underlying3 (hval 0 3 v0 rfl rfl) h0
  have k1 := h1
  have lt1 : ∀ x ∈ p1, x.block < W.heap.size := by obtain ⟨m, hm⟩ := k1; exact DataW.trod_lt m _ _ _ hm
  obtain ⟨a1, rfl, rfl, rfl, w1⟩ := open_int Try.underlying3 (hval 1 3 v1 rfl rfl) h1
  clear hA0 hval0
  refine (walk a0 w0 a1 w1 W).mono fun e W' ⟨he, bel⟩ => ?_
  subst he
  exact ⟨_, rfl, _, _, _, [], _, [], hW', trodAll_mk1 (shut_bool Try.underlying4 _), (trodAll_cons_mk (Below.trod laidOut (by kernel_rfl) (of_decide_eq_true (by kernel_rfl)) k0 bel lt0) (trodAll_cons_mk (Below.trod laidOut (by kernel_rfl) (of_decide_eq_true (by kernel_rfl)) k1 bel lt1) trodAll_mk0)), rfl, bel.frame _, fun h => by cases h⟩

theorem over : Rows.verdictChoosesRow.holds Try.pinned (OpenSpec.ofChange Rows.verdictChoosesSpec) :=
  OpenClaim.holds_of_wide 3 Try.f3 rfl rfl rfl rfl rfl rfl rfl ⟨rfl, rfl, rfl, rfl, rfl⟩ rfl rfl rfl rfl rfl (by kernel_rfl) Try.func3 (by kernel_rfl)
    (of_decide_eq_true (by kernel_rfl)) (by unfold Func.isWrapper; first | (rw [if_pos (by decide +kernel)]; kernel_rfl) | (rw [if_neg (by decide +kernel)]; exact ⟨rfl, rfl⟩))
    (fun os started H enc _ => lifted os started H enc)

theorem proved : Rows.VerdictChoosesSaid := over
#print axioms proved
end Go.Proofs.Ytimgdeohcanneaa.verdictChooses

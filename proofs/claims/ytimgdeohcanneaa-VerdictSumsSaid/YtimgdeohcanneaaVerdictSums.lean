/- For every input ciceronelaw47.VerdictSums returns true, and its arguments read behind the call as before. No conditions. -/
import Derived.Test.YtimgdeohcanneaaAwake
import Derived.Test.YtimgdeohcanneaaRows
import Derived.ProofKit
import Derived.OpenShut
import Derived.ShutString
import Derived.ChangeOld
import Derived.Below
import Derived.Lib.SmallJoins
namespace Go.Proofs.Ytimgdeohcanneaa.verdictSums
open Go.ChangeShapes Go.WideShapes Go.ChangeAt Go.RowKit Go.Joins
open Go.ChangeMaps (open_string shut_string)
set_option linter.unusedVariables false

open Pasc
theorem sum_pw (m : Nat) : (S m (m + 1) : Int) = pw m := by rw [pw_nat, S_full m (m + 1) (by omega)]
theorem S_le62 (m i : Nat) (h : m ≤ 62) : S m i ≤ 4611686018427387904 := Nat.le_trans (S_le m i) (pow62 m h)

set_option maxHeartbeats 1000000 in
set_option maxRecDepth 100000 in
theorem walk (a0 : Int) (w0 : (Lit.int .u8 a0).wf = true) (a1 : Int) (w1 : (Lit.int .u8 a1).wf = true) (w : World) :
    Calls Try.prog 5 #[.int .u8 a0, .int .u8 a1] w fun e w' => e = .returned (.bool true) ∧ Below w.heap.size w w' := by
  obtain ⟨x0, x1⟩ := bounds_u8 w0
  obtain ⟨y0, y1⟩ := bounds_u8 w1
  obtain ⟨m, hm⟩ : ∃ m : Nat, a0 % 63 = m := ⟨(a0 % 63).toNat, by omega⟩
  obtain ⟨j, hj⟩ : ∃ j : Nat, a1 % ((m : Int) + 1) = j := ⟨(a1 % ((m : Int) + 1)).toNat, by have := Int.emod_nonneg a1 (show (m : Int) + 1 ≠ 0 by omega); omega⟩
  have m62 : m ≤ 62 := by omega
  have jm : j ≤ m := by have := Int.emod_lt_of_pos a1 (show (0 : Int) < (m : Int) + 1 by omega); omega
  clear w0 w1
  go_enter Try.func5, Try.ntmps5
  go_wp2_with fail
  simp only [hm, hj]
  clear hm hj
  go_loopw [7, 29] (fun s i wr => ∃ k : Nat, k ≤ m + 1 ∧ i = .int .i64 k ∧ s = .int .u64 (S m k : Int) ∧ Below w.heap.size w wr) (fun _ i _ => m + 1 - (intOf i).toNat)
  case atStart => exact ⟨0, by omega, rfl, rfl, Below.refl _ _⟩
  case round =>
    obtain ⟨k, hk, rfl, rfl, hb⟩ := hrel
    by_cases hlt : k < m + 1
    · have hlt' : (k : Int) < (m : Int) + 1 := by omega
      have e1 := Lib.hid (ch_nat m k m62 (by omega))
      have e2 := Lib.hid (ch_sub m k m62 (by omega))
      have b1 := C_le62 m k m62
      have b2 := S_le62 m k m62
      have e3 : Hid (S m (k + 1) = S m k + C m k) := rfl
      generalize C m k = x at *
      generalize S m k = y at *
      go_wp2_with fail
      refine (choose_in _ _ _ (by omega) (by omega)).mono ?_
      rintro e wa ⟨rfl, ba⟩
      rw [e1.out]
      go_wp2_with fail
      refine (choose_in _ _ _ (by omega) (by omega)).mono ?_
      rintro e wb ⟨rfl, bb⟩
      rw [e2.out]
      go_wp2_with fail
      go_roundw
      case rel => exact ⟨k + 1, by omega, by go_num, by rw [e3.out]; go_num, (hb.trans (ba.mono hb.size)).trans (bb.mono (Nat.le_trans hb.size ba.size))⟩
      case measure => simp [intOf]; omega
    · obtain rfl : k = m + 1 := by omega
      have e1 := sum_pw m
      rw [e1]
      have hP := pw_eq m
      obtain ⟨p1, p2⟩ := pw_bd m m62
      clear e1
      by_cases hm0 : m = 0
      · have t1 : ((m : Int) == 0) = true := by simpa using hm0
        clear hm0
        go_wp2_with fail
        refine (awake_any _).mono ?_
        rintro e wa ⟨rfl, ba⟩
        go_wp2_with fail
        go_ret
        exact ⟨rfl, hb.trans (ba.mono hb.size)⟩
      · have t1 : ((m : Int) == 0) = false := by simpa using hm0
        have hm1 : 1 ≤ m := by omega
        clear hm0
        have e4 := ch_pascal m j m62 hm1 jm
        have c1 := ch_le ((m : Int) - 1) ((j : Int) - 1)
        have c2 := ch_le ((m : Int) - 1) (j : Int)
        generalize h1 : ch ((m : Int) - 1) ((j : Int) - 1) = A at *
        generalize h2 : ch ((m : Int) - 1) (j : Int) = B at *
        generalize h3 : ch (m : Int) (j : Int) = D at *
        have H1 := Lib.hid h1
        have H2 := Lib.hid h2
        have H3 := Lib.hid h3
        have t2 : ((A : Int) + (B : Int) == (D : Int)) = true := by simp; omega
        clear h1 h2 h3 e4
        go_wp2_with fail
        refine (choose_in _ _ _ (by omega) (by omega)).mono ?_
        rintro e wa ⟨rfl, ba⟩
        rw [H1.out]
        go_wp2_with fail
        refine (choose_in _ _ _ (by omega) (by omega)).mono ?_
        rintro e wb ⟨rfl, bb⟩
        rw [H2.out]
        go_wp2_with fail
        refine (choose_in _ _ _ (by omega) (by omega)).mono ?_
        rintro e wc ⟨rfl, bc⟩
        rw [H3.out]
        go_wp2_with fail
        refine (awake_any _).mono ?_
        rintro e wd ⟨rfl, bd⟩
        go_wp2_with fail
        go_ret
        have s1 := hb.size
        have s2 := ba.size
        have s3 := bb.size
        have s4 := bc.size
        exact ⟨rfl, (((hb.trans (ba.mono (by omega))).trans (bb.mono (by omega))).trans (bc.mono (by omega))).trans (bd.mono (by omega))⟩

theorem own : ownKnob Try.prog.godebug = none := by kernel_rfl
theorem laidOut : laidOutB Try.prog = true := by kernel_rfl

set_option maxRecDepth 100000 in
theorem lifted (os : Os) (started : os.Started) (H : Type) (enc : TypeId × Value → H) :
    ReturnsInHanded {} Try.checked os 5 .any (Rows.verdictSumsSpec.pre6 enc Try.prog Try.f5 Rows.verdictSumsRow.domain false) (Rows.verdictSumsSpec.post enc Try.prog Try.f5 false true false false) := by
  refine returnsInHanded_of_change (C := Try.checked) own started (by kernel_rfl) Try.func5
    (ChangeSpec.witness6 (enc := enc) (C := Try.checked) false ⟨#[], #[.int .u8 0, .int .u8 0], []⟩ 8 (by kernel_rfl) (by kernel_rfl) (by kernel_rfl) (by kernel_rfl)) ?_
  intro W base args ds gs before hval0 hW hcnd _
  have hval : ∀ (j : Nat) t v, Try.f5.params[j]? = some t → args[j]? = some v → Value.okWide Try.prog W .any base t v := hval0
  have hW' := hW
  obtain ⟨p, q, hA0, hV, rfl, hfz, hnd⟩ := hW
  have hA : DataW.TrodAll enc Try.prog W 0 (fun _ => true) true Try.f5.params.toList args.toList ds p := hA0
  rw [Try.params5] at hA hval
  obtain ⟨v0, vs0, d0, ds0, p0, q0, hargs, rfl, rfl, h0, r0⟩ := trodAll_cons hA
  obtain ⟨v1, vs1, d1, ds1, p1, q1, rfl, rfl, rfl, h1, r1⟩ := trodAll_cons r0
  obtain ⟨rfl, rfl, rfl⟩ := trodAll_nil r1
  obtain rfl : args = #[v0, v1] := by cases args; simp_all
  obtain ⟨rfl, rfl⟩ := trodVars_none hV
  have k0 := h0
  have lt0 : ∀ x ∈ p0, x.block < W.heap.size := by obtain ⟨m, hm⟩ := k0; exact DataW.trod_lt m _ _ _ hm
  obtain ⟨a0, rfl, rfl, rfl, w0⟩ := open_int Try.underlying5 (hval 0 5 v0 rfl rfl) h0
  have k1 := h1
  have lt1 : ∀ x ∈ p1, x.block < W.heap.size := by obtain ⟨m, hm⟩ := k1; exact DataW.trod_lt m _ _ _ hm
  obtain ⟨a1, rfl, rfl, rfl, w1⟩ := open_int Try.underlying5 (hval 1 5 v1 rfl rfl) h1
  clear hA0 hval0
  refine (walk a0 w0 a1 w1 W).mono fun e W' ⟨he, bel⟩ => ?_
  subst he
  exact ⟨_, rfl, _, _, _, [], _, [], hW', trodAll_mk1 (shut_bool Try.underlying4 _), (trodAll_cons_mk (Below.trod laidOut (by kernel_rfl) (of_decide_eq_true (by kernel_rfl)) k0 bel lt0) (trodAll_cons_mk (Below.trod laidOut (by kernel_rfl) (of_decide_eq_true (by kernel_rfl)) k1 bel lt1) trodAll_mk0)), rfl, bel.frame _, fun h => by cases h⟩

theorem over : Rows.verdictSumsRow.holds Try.pinned (OpenSpec.ofChange Rows.verdictSumsSpec) :=
  OpenClaim.holds_of_wide 5 Try.f5 rfl rfl rfl rfl rfl rfl rfl ⟨rfl, rfl, rfl, rfl, rfl⟩ rfl rfl rfl rfl rfl (by kernel_rfl) Try.func5 (by kernel_rfl)
    (of_decide_eq_true (by kernel_rfl)) (by unfold Func.isWrapper; first | (rw [if_pos (by decide +kernel)]; kernel_rfl) | (rw [if_neg (by decide +kernel)]; exact ⟨rfl, rfl⟩))
    (fun os started H enc _ => lifted os started H enc)

theorem proved : Rows.VerdictSumsSaid := over
#print axioms proved
end Go.Proofs.Ytimgdeohcanneaa.verdictSums

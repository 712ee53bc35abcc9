/- For every input ciceronelaw01.RatioLeft returns true, and its arguments read behind the call as before. No conditions. -/
import Derived.Test.YtlkiondacgcmdaaAwake01
import Derived.Test.YtlkiondacgcmdaaMinus
import Derived.Test.YtlkiondacgcmdaaRows
import Derived.ProofKit
import Derived.OpenShut
import Derived.ShutString
import Derived.ChangeOld
import Derived.Below
import Derived.Lib.SmallJoins
namespace Go.Proofs.Ytlkiondacgcmdaa.ratioLeft
open Go.ChangeShapes Go.WideShapes Go.ChangeAt Go.RowKit Go.Joins
open Go.ChangeMaps (open_string shut_string)
set_option linter.unusedVariables false

open Wide
set_option maxHeartbeats 2000000 in
theorem walk_yes (x n d : Int) (w : World) (hx2 : x ≤ 9223372036854775807) (hn2 : n ≤ 9223372036854775807) (hd2 : d ≤ 9223372036854775807) (hx : 0 ≤ x) (hn : 0 ≤ n) (hd : 1 ≤ d) (hq : x * n / d ≤ 9223372036854775807) :
    Calls Try.prog 5 #[.int .i64 x, .int .i64 n, .int .i64 d] w fun e w' => e = .returned (.bool true) ∧ Below w.heap.size w w' := by
  have hV0 : 0 ≤ x * n := Int.mul_nonneg hx hn
  have hV2 := mul_le x n hx hn hx2 hn2
  have q0 : 0 ≤ x * n / d := Int.ediv_nonneg hV0 (by omega)
  have e1 := Int.mul_ediv_add_emod (x * n) d
  have m1 := Int.emod_nonneg (x * n) (show d ≠ 0 by omega)
  have m2 := Int.emod_lt_of_pos (x * n) (show 0 < d by omega)
  rw [Int.mul_comm] at e1
  have P1 := prod_nn x n hx hn
  have P2 := prod_nn (x * n / d) d q0 (by omega)
  have t0 : 0 ≤ x * n / d * d := Int.mul_nonneg q0 (by omega)
  generalize hV : x * n = V at *
  have HV := Lib.hid hV
  generalize hQ : V / d = q at *
  have HQ := Lib.hid hQ
  generalize q * d = T at *
  have H1 := Lib.hid P1
  have H2 := Lib.hid P2
  have hlt : Hid (lessB V T = false) := by show lessB V T = false; simp [lessB]; omega
  have z1 : hi (V - T) = 0 := by simp only [hi]; omega
  have z2 : lo (V - T) < d := by simp only [lo]; omega
  have z3 : 0 ≤ lo (V - T) := (lo_bd _).1
  have Z1 := Lib.hid z1
  generalize hS : lo (V - T) = S at *
  have HS := Lib.hid hS
  have hTV : T ≤ V := by omega
  clear hV hQ P1 P2 e1 m1 m2 z1 hS
  go_enter Try.func5, Try.ntmps5
  go_wp2_with fail
  refine (scale_yes x n d _ hx hn hd hx2 hn2 hd2 (by rw [HV.out, HQ.out]; exact hq)).mono ?_
  rintro e wa ⟨rfl, ba⟩
  rw [HV.out, HQ.out]
  go_wp2_with fail
  refine (product_any _ _ _ hx2 hn2).mono ?_
  rintro e wb ⟨rfl, rfl⟩
  rw [H1.out]
  go_wp2_with fail
  refine (product_any _ _ _ hq hd2).mono ?_
  rintro e wb ⟨rfl, rfl⟩
  rw [H2.out]
  go_wp2_with fail
  refine (less_any V T _).mono ?_
  rintro e wb ⟨rfl, bb⟩
  rw [hlt.out]
  have t1 := ((Two.new wa (.int .u64 (hi V)) (.int .u64 (lo V)) 26).old _).bel bb
  have t2 := (Two.news (w := wa) (.int .u64 (hi V)) (.int .u64 (lo V)) (.int .u64 (hi T)) (.int .u64 (lo T)) 26 26).bel bb
  have bB := bel_trans (bel_alloc (bel_alloc ba _) _) bb
  obtain ⟨c0, c1, _, _, _⟩ := two_facts t1
  obtain ⟨c2, c3, _, _, _⟩ := two_facts t2
  clear bb ba
  go_wp2_with fail
  refine (minus_any V T _ t0 hTV (by omega)).mono ?_
  rintro e wc ⟨rfl, bc⟩
  rw [Z1.out, HS.out]
  clear c0 c1 c2 c3 t1 t2
  go_wp2_with fail
  refine (awake_any _).mono ?_
  rintro e wd ⟨rfl, bd⟩
  go_wp2_with fail
  go_ret
  exact ⟨rfl, bel_trans (bel_alloc (bel_trans bB bc) _) bd⟩
theorem walk (x : Int) (w0 : (Lit.int .i64 x).wf = true) (n : Int) (w1 : (Lit.int .i64 n).wf = true) (d : Int) (w2 : (Lit.int .i64 d).wf = true) (w : World) :
    Calls Try.prog 5 #[.int .i64 x, .int .i64 n, .int .i64 d] w fun e w' => e = .returned (.bool true) ∧ Below w.heap.size w w' := by
  have x1 := (bounds_i64 w0).2
  have x2 := (bounds_i64 w1).2
  have x3 := (bounds_i64 w2).2
  clear w0 w1 w2
  cases hB : scB x n d
  · have e1 : scV x n d = 0 := by simp [scV, hB]
    have E1 := Lib.hid e1
    have EB := Lib.hid hB
    clear e1 hB
    go_enter Try.func5, Try.ntmps5
    go_wp2_with fail
    refine (scale_any x n d _ x1 x2 x3).mono ?_
    rintro e wa ⟨rfl, ba⟩
    rw [E1.out, EB.out]
    go_wp2_with fail
    refine (awake_any _).mono ?_
    rintro e wd ⟨rfl, bd⟩
    go_wp2_with fail
    go_ret
    exact ⟨rfl, bel_trans ba bd⟩
  · simp only [scB, decide_eq_true_eq] at hB
    exact walk_yes x n d w x1 x2 x3 hB.1 hB.2.1 hB.2.2.1 hB.2.2.2

theorem own : ownKnob Try.prog.godebug = none := by kernel_rfl
theorem laidOut : laidOutB Try.prog = true := by kernel_rfl

set_option maxRecDepth 100000 in
theorem lifted (os : Os) (started : os.Started) (H : Type) (enc : TypeId × Value → H) :
    ReturnsInHanded {} Try.checked os 5 .any (Rows.ratioLeftSpec.pre6 enc Try.prog Try.f5 Rows.ratioLeftRow.domain false) (Rows.ratioLeftSpec.post enc Try.prog Try.f5 false true false false) := by
  refine returnsInHanded_of_change (C := Try.checked) own started (by kernel_rfl) Try.func5
    (ChangeSpec.witness6 (enc := enc) (C := Try.checked) false ⟨#[], #[.int .i64 0, .int .i64 0, .int .i64 0], []⟩ 8 (by kernel_rfl) (by kernel_rfl) (by kernel_rfl) (by kernel_rfl)) ?_
  intro W base args ds gs before hval0 hW hcnd _
  have hval : ∀ (j : Nat) t v, Try.f5.params[j]? = some t → args[j]? = some v → Value.okWide Try.prog W .any base t v := hval0
  have hW' := hW
  obtain ⟨p, q, hA0, hV, rfl, hfz, hnd⟩ := hW
  have hA : DataW.TrodAll enc Try.prog W 0 (fun _ => true) true Try.f5.params.toList args.toList ds p := hA0
  rw [Try.params5] at hA hval
  obtain ⟨v0, vs0, d0, ds0, p0, q0, hargs, rfl, rfl, h0, r0⟩ := trodAll_cons hA
  obtain ⟨v1, vs1, d1, ds1, p1, q1, rfl, rfl, rfl, h1, r1⟩ := trodAll_cons r0
  obtain ⟨v2, vs2, d2, ds2, p2, q2, rfl, rfl, rfl, h2, r2⟩ := trodAll_cons r1
  obtain ⟨rfl, rfl, rfl⟩ := trodAll_nil r2
  obtain rfl : args = #[v0, v1, v2] := by cases args; simp_all
  obtain ⟨rfl, rfl⟩ := trodVars_none hV
  have k0 := h0
  have lt0 : ∀ x ∈ p0, x.block < W.heap.size := by obtain ⟨m, hm⟩ := k0; exact DataW.trod_lt m _ _ _ hm
  obtain ⟨a0, rfl, rfl, rfl, w0⟩ := open_int Try.underlying2 (hval 0 2 v0 rfl rfl) h0
  have k1 := h1
  have lt1 : ∀ x ∈ p1, x.block < W.heap.size := by obtain ⟨m, hm⟩ := k1; exact DataW.trod_lt m _ _ _ hm
  obtain ⟨a1, rfl, rfl, rfl, w1⟩ := open_int Try.underlying2 (hval 1 2 v1 rfl rfl) h1
  have k2 := h2
  have lt2 : ∀ x ∈ p2, x.block < W.heap.size := by obtain ⟨m, hm⟩ := k2; exact DataW.trod_lt m _ _ _ hm
  obtain ⟨a2, rfl, rfl, rfl, w2⟩ := open_int Try.underlying2 (hval 2 2 v2 rfl rfl) h2
  clear hA0 hval0
  refine (walk a0 w0 a1 w1 a2 w2 W).mono fun e W' ⟨he, bel⟩ => ?_
  subst he
  exact ⟨_, rfl, _, _, _, [], _, [], hW', trodAll_mk1 (shut_bool Try.underlying4 _), (trodAll_cons_mk (Below.trod laidOut (by kernel_rfl) (of_decide_eq_true (by kernel_rfl)) k0 bel lt0) (trodAll_cons_mk (Below.trod laidOut (by kernel_rfl) (of_decide_eq_true (by kernel_rfl)) k1 bel lt1) (trodAll_cons_mk (Below.trod laidOut (by kernel_rfl) (of_decide_eq_true (by kernel_rfl)) k2 bel lt2) trodAll_mk0))), rfl, bel.frame _, fun h => by cases h⟩

theorem over : Rows.ratioLeftRow.holds Try.pinned (OpenSpec.ofChange Rows.ratioLeftSpec) :=
  OpenClaim.holds_of_wide 5 Try.f5 rfl rfl rfl rfl rfl rfl rfl ⟨rfl, rfl, rfl, rfl, rfl⟩ rfl rfl rfl rfl rfl (by kernel_rfl) Try.func5 (by kernel_rfl)
    (of_decide_eq_true (by kernel_rfl)) (by unfold Func.isWrapper; first | (rw [if_pos (by decide +kernel)]; kernel_rfl) | (rw [if_neg (by decide +kernel)]; exact ⟨rfl, rfl⟩))
    (fun os started H enc _ => lifted os started H enc)

theorem proved : Rows.RatioLeftSaid := over
#print axioms proved
end Go.Proofs.Ytlkiondacgcmdaa.ratioLeft

/- For every input ciceronelaw01.RatioProducts returns true, and its arguments read behind the call as before. No conditions. -/
import Derived.Test.YtlkiondacgcmdaaAwake01
import Derived.Test.YtlkiondacgcmdaaRef01
import Derived.Test.YtlkiondacgcmdaaRows
import Derived.ProofKit
import Derived.OpenShut
import Derived.ShutString
import Derived.ChangeOld
import Derived.Below
import Derived.Lib.SmallJoins
namespace Go.Proofs.Ytlkiondacgcmdaa.ratioProducts
open Go.ChangeShapes Go.WideShapes Go.ChangeAt Go.RowKit Go.Joins
open Go.ChangeMaps (open_string shut_string)
set_option linter.unusedVariables false

open Wide
theorem hilo_max (a b : Int) : max a 0 * max b 0 = prod a b := by
  by_cases ha : a ≤ 0
  · rw [prod_no a b (.inl ha), show max a 0 = 0 from by omega]; simp
  · by_cases hb : b ≤ 0
    · rw [prod_no a b (.inr hb), show max b 0 = 0 from by omega]; simp
    · rw [prod_pos a b (by omega) (by omega), show max a 0 = a from by omega, show max b 0 = b from by omega]
set_option maxHeartbeats 1000000 in
theorem walk (a : Int) (w0 : (Lit.int .i64 a).wf = true) (b : Int) (w1 : (Lit.int .i64 b).wf = true) (w : World) :
    Calls Try.prog 3 #[.int .i64 a, .int .i64 b] w fun e w' => e = .returned (.bool true) ∧ Below w.heap.size w w' := by
  have x1 := (bounds_i64 w0).2
  have x2 := (bounds_i64 w1).2
  clear w0 w1
  obtain ⟨V, hV⟩ : ∃ V, prod a b = V := ⟨_, rfl⟩
  have hP := hilo_max a b
  rw [hV] at hP
  have HV := Lib.hid hV
  have HP := Lib.hid hP
  clear hP hV
  by_cases ha : a < 0 <;> by_cases hb : b < 0
  all_goals
    go_enter Try.func3, Try.ntmps3
    go_wp2_with fail
    refine (product_any _ _ _ x1 x2).mono ?_
    rintro e wa ⟨rfl, rfl⟩
    rw [HV.out]
    go_wp2_with fail
    refine (times_any _ _ _ (by omega) (by omega) (by omega) (by omega)).mono ?_
    rintro e wb ⟨rfl, bb⟩
    rw [HP.out]
    go_wp2_with fail
    refine (awake_any _).mono ?_
    rintro e wc ⟨rfl, bc⟩
    go_wp2_with fail
    go_ret
    exact ⟨rfl, bel_trans (bel_alloc bb _) bc⟩

theorem own : ownKnob Try.prog.godebug = none := by kernel_rfl
theorem laidOut : laidOutB Try.prog = true := by kernel_rfl

set_option maxRecDepth 100000 in
theorem lifted (os : Os) (started : os.Started) (H : Type) (enc : TypeId × Value → H) :
    ReturnsInHanded {} Try.checked os 3 .any (Rows.ratioProductsSpec.pre6 enc Try.prog Try.f3 Rows.ratioProductsRow.domain false) (Rows.ratioProductsSpec.post enc Try.prog Try.f3 false true false false) := by
  refine returnsInHanded_of_change (C := Try.checked) own started (by kernel_rfl) Try.func3
    (ChangeSpec.witness6 (enc := enc) (C := Try.checked) false ⟨#[], #[.int .i64 0, .int .i64 0], []⟩ 8 (by kernel_rfl) (by kernel_rfl) (by kernel_rfl) (by kernel_rfl)) ?_
  intro W base args ds gs before hval0 hW hcnd _
  have hval : ∀ (j : Nat) t v, Try.f3.params[j]? = some t → args[j]? = some v → Value.okWide Try.prog W .any base t v := hval0
  have hW' := hW
  obtain ⟨p, q, hA0, hV, rfl, hfz, hnd⟩ := hW
  have hA : DataW.TrodAll enc Try.prog W 0 (fun _ => true) true Try.f3.params.toList args.toList ds p := hA0
  rw [Try.params3] at hA hval
  obtain ⟨v0, vs0, d0, ds0, p0, q0, hargs, rfl, rfl, h0, r0⟩ := trodAll_cons hA
  obtain ⟨v1, vs1, d1, ds1, p1, q1, rfl, rfl, rfl, h1, r1⟩ := trodAll_cons r0
  obtain ⟨rfl, rfl, rfl⟩ := trodAll_nil r1
  obtain rfl : args = #[v0, v1] := by cases args; simp_all
  obtain ⟨rfl, rfl⟩ := trodVars_none hV
  have k0 := h0
  have lt0 : ∀ x ∈ p0, x.block < W.heap.size := by obtain ⟨m, hm⟩ := k0; exact DataW.trod_lt m _ _ _ hm
  obtain ⟨a0, rfl, rfl, rfl, w0⟩ := open_int Try.underlying2 (hval 0 2 v0 rfl rfl) h0
  have k1 := h1
  have lt1 : ∀ x ∈ p1, x.block < W.heap.size := by obtain ⟨m, hm⟩ := k1; exact DataW.trod_lt m _ _ _ hm
  obtain ⟨a1, rfl, rfl, rfl, w1⟩ := open_int Try.underlying2 (hval 1 2 v1 rfl rfl) h1
  clear hA0 hval0
  refine (walk a0 w0 a1 w1 W).mono fun e W' ⟨he, bel⟩ => ?_
  subst he
  exact ⟨_, rfl, _, _, _, [], _, [], hW', trodAll_mk1 (shut_bool Try.underlying4 _), (trodAll_cons_mk (Below.trod laidOut (by kernel_rfl) (of_decide_eq_true (by kernel_rfl)) k0 bel lt0) (trodAll_cons_mk (Below.trod laidOut (by kernel_rfl) (of_decide_eq_true (by kernel_rfl)) k1 bel lt1) trodAll_mk0)), rfl, bel.frame _, fun h => by cases h⟩

theorem over : Rows.ratioProductsRow.holds Try.pinned (OpenSpec.ofChange Rows.ratioProductsSpec) :=
  OpenClaim.holds_of_wide 3 Try.f3 rfl rfl rfl rfl rfl rfl rfl ⟨rfl, rfl, rfl, rfl, rfl⟩ rfl rfl rfl rfl rfl (by kernel_rfl) Try.func3 (by kernel_rfl)
    (of_decide_eq_true (by kernel_rfl)) (by unfold Func.isWrapper; first | (rw [if_pos (by decide +kernel)]; kernel_rfl) | (rw [if_neg (by decide +kernel)]; exact ⟨rfl, rfl⟩))
    (fun os started H enc _ => lifted os started H enc)

theorem proved : Rows.RatioProductsSaid := over
#print axioms proved
end Go.Proofs.Ytlkiondacgcmdaa.ratioProducts

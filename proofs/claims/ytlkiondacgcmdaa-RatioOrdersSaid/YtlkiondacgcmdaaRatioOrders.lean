/- For every input ciceronelaw01.RatioOrders returns true, and its arguments read behind the call as before. No conditions. -/
import Derived.Test.YtlkiondacgcmdaaAwake01
import Derived.Test.YtlkiondacgcmdaaCmp
import Derived.Deep.RegionHeld3
import Derived.Test.YtlkiondacgcmdaaRows
import Derived.ProofKit
import Derived.OpenShut
import Derived.ShutString
import Derived.ChangeOld
import Derived.Below
import Derived.Lib.SmallJoins
namespace Go.Proofs.Ytlkiondacgcmdaa.ratioOrders
open Go.ChangeShapes Go.WideShapes Go.ChangeAt Go.RowKit Go.Joins
open Go.ChangeMaps (open_string shut_string)
set_option linter.unusedVariables false

open Wide
def Trio (N : Nat) (a b c d p q : Int) (X : World) : Prop :=
  Two X N (.int .i64 a) (.int .i64 b) 37 ∧ Two X (N + 1) (.int .i64 c) (.int .i64 d) 37 ∧ Two X (N + 1 + 1) (.int .i64 p) (.int .i64 q) 37
theorem Trio.bel {N : Nat} {a b c d p q : Int} {w w' : World} (h : Trio N a b c d p q w) (hb : Below w.heap.size w w') : Trio N a b c d p q w' := ⟨h.1.bel hb, h.2.1.bel hb, h.2.2.bel hb⟩
theorem Trio.cells {N : Nat} {a b c d p q : Int} {X : World} (h : Trio N a b c d p q X) :
    X.cell? ⟨N, 0, none⟩ = some (.int .i64 a) ∧ X.cell? ⟨N, 1, none⟩ = some (.int .i64 b) ∧ X.cell? ⟨N + 1, 0, none⟩ = some (.int .i64 c) ∧ X.cell? ⟨N + 1, 1, none⟩ = some (.int .i64 d) ∧ X.cell? ⟨N + 1 + 1, 0, none⟩ = some (.int .i64 p) ∧ X.cell? ⟨N + 1 + 1, 1, none⟩ = some (.int .i64 q) :=
  ⟨h.1.c0, h.1.c1, h.2.1.c0, h.2.1.c1, h.2.2.c0, h.2.2.c1⟩
/-- what the law asks of three answers -/
theorem order3 {x y z : Int} (hx : -1 ≤ x ∧ x ≤ 1) (hy : -1 ≤ y ∧ y ≤ 1) (hz : -1 ≤ z ∧ z ≤ 1) (h1 : x ≤ 0 → y ≤ 0 → z ≤ 0) (h2 : x ≤ 0 → y ≤ 0 → x + y < 0 → z < 0) (h3 : x = 0 → y = 0 → z = 0) :
    (x = 1) ∨ (x ≤ 0 ∧ y = 1) ∨ (x = 0 ∧ y = 0 ∧ z = 0) ∨ (x = 0 ∧ y = -1 ∧ z = -1) ∨ (x = -1 ∧ y = 0 ∧ z = -1) ∨ (x = -1 ∧ y = -1 ∧ z = -1) := by omega
set_option maxHeartbeats 2000000 in
set_option maxRecDepth 100000 in
theorem walk (a b : Int) (w00 : (Lit.int .i64 a).wf = true) (w01 : (Lit.int .i64 b).wf = true) (c d : Int) (w10 : (Lit.int .i64 c).wf = true) (w11 : (Lit.int .i64 d).wf = true) (p q : Int) (w20 : (Lit.int .i64 p).wf = true) (w21 : (Lit.int .i64 q).wf = true) (w : World) :
    Calls Try.prog 8 #[.agg #[.int .i64 a, .int .i64 b], .agg #[.int .i64 c, .int .i64 d], .agg #[.int .i64 p, .int .i64 q]] w fun e w' => e = .returned (.bool true) ∧ Below w.heap.size w w' := by
  have x1 := (bounds_i64 w00).2
  have x2 := (bounds_i64 w01).2
  have x3 := (bounds_i64 w10).2
  have x4 := (bounds_i64 w11).2
  have x5 := (bounds_i64 w20).2
  have x6 := (bounds_i64 w21).2
  clear w00 w01 w10 w11 w20 w21
  have h1 := cmpR_trans a b c d p q
  have h2 := cmpR_trans_lt a b c d p q
  have h3 : cmpR a b c d = 0 → cmpR c d p q = 0 → cmpR a b p q = 0 := by
    intro k1 k2
    have k3 := cmpR_trans a b c d p q (by omega) (by omega)
    have t1 := cmpR_turn a b c d
    have t2 := cmpR_turn c d p q
    have t3 := cmpR_turn a b p q
    have k4 := cmpR_trans p q c d a b (by omega) (by omega)
    omega
  have hturn := cmpR_turn a b c d
  have hrefl := cmpR_refl a b
  have b1 := cmpR_bd a b c d
  have b2 := cmpR_bd c d p q
  have b3 := cmpR_bd a b p q
  have hO := order3 b1 b2 b3 h1 h2 h3
  generalize hX : cmpR a b c d = X at *
  generalize hY : cmpR c d p q = Y at *
  generalize hZ : cmpR a b p q = Z at *
  have HX := Lib.hid hX
  have HY := Lib.hid hY
  have HZ := Lib.hid hZ
  have HT := Lib.hid hturn
  have HR := Lib.hid hrefl
  obtain ⟨b4, b5⟩ := b1
  obtain ⟨b6, b7⟩ := b2
  obtain ⟨b8, b9⟩ := b3
  clear h1 h2 h3 hX hY hZ hturn hrefl
  have HO := Lib.hid hO
  clear hO
  go_enter Try.func8, Try.ntmps8
  go_wp2_with fail
  have T : Trio w.heap.size a b c d p q (((w.alloc (.cells #[.int .i64 a, .int .i64 b] 37)).alloc (.cells #[.int .i64 c, .int .i64 d] 37)).alloc (.cells #[.int .i64 p, .int .i64 q] 37)) := by
    refine ⟨((Two.new _ _ _ _).old _).old _, (Two.news _ _ _ _ _ _).old _, ?_⟩
    have h := Two.news (w := w.alloc (.cells #[.int .i64 a, .int .i64 b] 37)) (.int .i64 c) (.int .i64 d) (.int .i64 p) (.int .i64 q) 37 37
    rw [World.size_alloc] at h; exact h
  have bW := bel3 w (.cells #[.int .i64 a, .int .i64 b] 37) (.cells #[.int .i64 c, .int .i64 d] 37) (.cells #[.int .i64 p, .int .i64 q] 37)
  generalize ((w.alloc (.cells #[.int .i64 a, .int .i64 b] 37)).alloc (.cells #[.int .i64 c, .int .i64 d] 37)).alloc (.cells #[.int .i64 p, .int .i64 q] 37) = W at *
  obtain ⟨c0, c1, c2, c3, c4, c5⟩ := T.cells
  go_region_held3 (fun X => X.cell? ⟨w.heap.size, 0, none⟩ = some (.int .i64 a) ∧ X.cell? ⟨w.heap.size, 1, none⟩ = some (.int .i64 b) ∧ X.cell? ⟨w.heap.size + 1, 0, none⟩ = some (.int .i64 c) ∧ X.cell? ⟨w.heap.size + 1, 1, none⟩ = some (.int .i64 d) ∧ X.cell? ⟨w.heap.size + 1 + 1, 0, none⟩ = some (.int .i64 p) ∧ X.cell? ⟨w.heap.size + 1 + 1, 1, none⟩ = some (.int .i64 q))
    ((refine (Trio.bel T ?_).cells; repeat (first | assumption | exact Below.refl _ _ | refine Below.drew ?_)))
    (first
      | (go_at_call 20; refine (compare_any _ _ _ _ _ ?_ ?_ ?_ ?_).mono ?_; (first | exact x1 | exact x3 | exact x5); (first | exact x2 | exact x4 | exact x6); (first | exact x1 | exact x3 | exact x5); (first | exact x2 | exact x4 | exact x6); rintro e wx ⟨rfl, bx⟩; (first | rw [HX.out] | rw [HY.out] | rw [HZ.out] | fail); have bv := bel_trans (V := W) (by repeat (first | assumption | exact Below.refl _ _ | refine Below.drew ?_)) bx))
  have T2 := T.bel bv
  have bX := bel_trans bW bv
  clear c0 c1 c2 c3 c4 c5 T bW
  obtain ⟨c0, c1, c2, c3, c4, c5⟩ := T2.cells
  have y1 : (-X != -X) = false := by simp
  have y2 : decide (X < -1) = false := by simp; omega
  have y3 : decide (1 < X) = false := by simp; omega
  go_wp2_with fail
  refine (compare_any _ _ _ _ _ x3 x4 x1 x2).mono ?_
  rintro e w2 ⟨rfl, b10⟩
  rw [HT.out]
  have T3 := T2.bel b10
  have bY := bel_trans bX b10
  clear c0 c1 c2 c3 c4 c5 T2 bX
  obtain ⟨c0, c1, c2, c3, c4, c5⟩ := T3.cells
  go_wp2_with fail
  refine (compare_any _ _ _ _ _ x1 x2 x1 x2).mono ?_
  rintro e w3 ⟨rfl, b11⟩
  rw [HR.out]
  have bZ := bel_trans bY b11
  clear c0 c1 c2 c3 c4 c5 T3 bY
  rcases HO.out with rfl | ⟨k1, rfl⟩ | ⟨rfl, rfl, rfl⟩ | ⟨rfl, rfl, rfl⟩ | ⟨rfl, rfl, rfl⟩ | ⟨rfl, rfl, rfl⟩
  all_goals go_wp2_with fail
  all_goals
    refine (awake_any _).mono ?_
    rintro e w4 ⟨rfl, b12⟩
    go_wp2_with fail
    go_ret
    exact ⟨rfl, bel_trans bZ b12⟩

theorem own : ownKnob Try.prog.godebug = none := by kernel_rfl
theorem laidOut : laidOutB Try.prog = true := by kernel_rfl

set_option maxRecDepth 100000 in
theorem lifted (os : Os) (started : os.Started) (H : Type) (enc : TypeId × Value → H) :
    ReturnsInHanded {} Try.checked os 8 .any (Rows.ratioOrdersSpec.pre6 enc Try.prog Try.f8 Rows.ratioOrdersRow.domain false) (Rows.ratioOrdersSpec.post enc Try.prog Try.f8 false true false false) := by
  refine returnsInHanded_of_change (C := Try.checked) own started (by kernel_rfl) Try.func8
    (ChangeSpec.witness6 (enc := enc) (C := Try.checked) false ⟨#[], #[.agg #[.int .i64 0, .int .i64 0], .agg #[.int .i64 0, .int .i64 0], .agg #[.int .i64 0, .int .i64 0]], []⟩ 8 (by kernel_rfl) (by kernel_rfl) (by kernel_rfl) (by kernel_rfl)) ?_
  intro W base args ds gs before hval0 hW hcnd _
  have hval : ∀ (j : Nat) t v, Try.f8.params[j]? = some t → args[j]? = some v → Value.okWide Try.prog W .any base t v := hval0
  have hW' := hW
  obtain ⟨p, q, hA0, hV, rfl, hfz, hnd⟩ := hW
  have hA : DataW.TrodAll enc Try.prog W 0 (fun _ => true) true Try.f8.params.toList args.toList ds p := hA0
  rw [Try.params8] at hA hval
  obtain ⟨v0, vs0, d0, ds0, p0, q0, hargs, rfl, rfl, h0, r0⟩ := trodAll_cons hA
  obtain ⟨v1, vs1, d1, ds1, p1, q1, rfl, rfl, rfl, h1, r1⟩ := trodAll_cons r0
  obtain ⟨v2, vs2, d2, ds2, p2, q2, rfl, rfl, rfl, h2, r2⟩ := trodAll_cons r1
  obtain ⟨rfl, rfl, rfl⟩ := trodAll_nil r2
  obtain rfl : args = #[v0, v1, v2] := by cases args; simp_all
  obtain ⟨rfl, rfl⟩ := trodVars_none hV
  have k0 := h0
  have lt0 : ∀ x ∈ p0, x.block < W.heap.size := by obtain ⟨m, hm⟩ := k0; exact DataW.trod_lt m _ _ _ hm
  obtain ⟨c00, c01, y00, y01, m0, rfl, hd0, hp0, hy00, hy01⟩ := open_agg2 Try.underlying37 (by kernel_rfl) (by kernel_rfl) (hval 0 37 v0 rfl rfl) h0
  obtain ⟨a0, e00, _, w00⟩ := DataW.trod_int Try.underlying2 hy00
  obtain ⟨b0, e01, _, w01⟩ := DataW.trod_int Try.underlying2 hy01
  simp at e00 e01
  subst e00 e01
  have k1 := h1
  have lt1 : ∀ x ∈ p1, x.block < W.heap.size := by obtain ⟨m, hm⟩ := k1; exact DataW.trod_lt m _ _ _ hm
  obtain ⟨c10, c11, y10, y11, m1, rfl, hd1, hp1, hy10, hy11⟩ := open_agg2 Try.underlying37 (by kernel_rfl) (by kernel_rfl) (hval 1 37 v1 rfl rfl) h1
  obtain ⟨a1, e10, _, w10⟩ := DataW.trod_int Try.underlying2 hy10
  obtain ⟨b1, e11, _, w11⟩ := DataW.trod_int Try.underlying2 hy11
  simp at e10 e11
  subst e10 e11
  have k2 := h2
  have lt2 : ∀ x ∈ p2, x.block < W.heap.size := by obtain ⟨m, hm⟩ := k2; exact DataW.trod_lt m _ _ _ hm
  obtain ⟨c20, c21, y20, y21, m2, rfl, hd2, hp2, hy20, hy21⟩ := open_agg2 Try.underlying37 (by kernel_rfl) (by kernel_rfl) (hval 2 37 v2 rfl rfl) h2
  obtain ⟨a2, e20, _, w20⟩ := DataW.trod_int Try.underlying2 hy20
  obtain ⟨b2, e21, _, w21⟩ := DataW.trod_int Try.underlying2 hy21
  simp at e20 e21
  subst e20 e21
  clear hA0 hval0
  refine (walk a0 b0 w00 w01 a1 b1 w10 w11 a2 b2 w20 w21 W).mono fun e W' ⟨he, bel⟩ => ?_
  subst he
  exact ⟨_, rfl, _, _, _, [], _, [], hW', trodAll_mk1 (shut_bool Try.underlying4 _), (trodAll_cons_mk (Below.trod laidOut (by kernel_rfl) (of_decide_eq_true (by kernel_rfl)) k0 bel lt0) (trodAll_cons_mk (Below.trod laidOut (by kernel_rfl) (of_decide_eq_true (by kernel_rfl)) k1 bel lt1) (trodAll_cons_mk (Below.trod laidOut (by kernel_rfl) (of_decide_eq_true (by kernel_rfl)) k2 bel lt2) trodAll_mk0))), rfl, bel.frame _, fun h => by cases h⟩

theorem over : Rows.ratioOrdersRow.holds Try.pinned (OpenSpec.ofChange Rows.ratioOrdersSpec) :=
  OpenClaim.holds_of_wide 8 Try.f8 rfl rfl rfl rfl rfl rfl rfl ⟨rfl, rfl, rfl, rfl, rfl⟩ rfl rfl rfl rfl rfl (by kernel_rfl) Try.func8 (by kernel_rfl)
    (of_decide_eq_true (by kernel_rfl)) (by unfold Func.isWrapper; first | (rw [if_pos (by decide +kernel)]; kernel_rfl) | (rw [if_neg (by decide +kernel)]; exact ⟨rfl, rfl⟩))
    (fun os started H enc _ => lifted os started H enc)

theorem proved : Rows.RatioOrdersSaid := over
#print axioms proved
end Go.Proofs.Ytlkiondacgcmdaa.ratioOrders

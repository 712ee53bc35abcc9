/- For every input ciceronelaw47.VerdictBoth returns true, and its arguments read behind the call as before. No conditions. -/
import Derived.Test.YtimgdeohcanneaaAwake
import Derived.StillTailTactics
import Derived.Test.YtimgdeohcanneaaRows
import Derived.ProofKit
import Derived.OpenShut
import Derived.ShutString
import Derived.ChangeOld
import Derived.Below
import Derived.Lib.SmallJoins
namespace Go.Proofs.Ytimgdeohcanneaa.verdictBoth
open Go.ChangeShapes Go.WideShapes Go.ChangeAt Go.RowKit Go.Joins
open Go.ChangeMaps (open_string shut_string)
set_option linter.unusedVariables false

open Pasc
theorem fall (n j : Nat) (hn : n ≤ 62) (h : j ≤ n + 1) : (tl n ((j : Int) + 1) 63 : Int) ≤ tl n (j : Int) 63 := by
  by_cases e : j ≤ 62
  · exact tl_fall n j e
  · obtain rfl : j = 63 := by omega
    rw [show (((63 : Nat) : Int) + 1) = ((64 : Nat) : Int) from by omega, tl_low n 64 63 (by omega)]; omega

set_option maxHeartbeats 1000000 in
set_option maxRecDepth 100000 in
theorem walk (a0 : Int) (w0 : (Lit.int .u8 a0).wf = true) (a1 : Int) (w1 : (Lit.int .u8 a1).wf = true) (w : World) :
    Calls Try.prog 6 #[.int .u8 a0, .int .u8 a1] w fun e w' => e = .returned (.bool true) ∧ Below w.heap.size w w' := by
  obtain ⟨x0, x1⟩ := bounds_u8 w0
  obtain ⟨y0, y1⟩ := bounds_u8 w1
  obtain ⟨m, hm⟩ : ∃ m : Nat, a0 % 63 = m := ⟨(a0 % 63).toNat, by omega⟩
  obtain ⟨j, hj⟩ : ∃ j : Nat, a1 % ((m : Int) + 2) = j := ⟨(a1 % ((m : Int) + 2)).toNat, by have := Int.emod_nonneg a1 (show (m : Int) + 2 ≠ 0 by omega); omega⟩
  have m62 : m ≤ 62 := by omega
  have jm : j ≤ m + 1 := by have := Int.emod_lt_of_pos a1 (show (0 : Int) < (m : Int) + 2 by omega); omega
  have q1 := tl_both m j jm m62
  have q2 := fall m j m62 jm
  have q3 := tl_le62 m (j : Int) 63 m62
  have q4 := tl_le62 m ((m : Int) - j + 1) 63 m62
  generalize h1 : tl m (j : Int) 63 = A at *
  generalize h2 : tl m ((m : Int) - j + 1) 63 = B at *
  generalize h3 : tl m ((j : Int) + 1) 63 = D at *
  have H1 := Lib.hid h1
  have H2 := Lib.hid h2
  have H3 := Lib.hid h3
  have hP := pw_eq m
  obtain ⟨p1, p2⟩ := pw_bd m m62
  have t1 : ((A : Int) + (B : Int) == pw m) = true := by simp; omega
  have t2 : decide (D ≤ A) = true := by simp; omega
  have hwp : IntKind.i64.wrap (pw m) = pw m := IntWalk.i64_in _ (by omega)
  have Q1 := Lib.hid q1
  have HW := Lib.hid hwp
  clear w0 w1 h1 h2 h3 q1 q2 hwp
  go_enter Try.func6, Try.ntmps6
  go_wp2_with fail
  simp only [hm, hj]
  clear hm hj
  refine (tail_yes m _ _ m62).mono ?_
  rintro e wa ⟨rfl, ba⟩
  rw [H1.out]
  go_wp2_with fail
  refine (tail_yes m _ _ m62).mono ?_
  rintro e wb ⟨rfl, bb⟩
  rw [H2.out]
  have z1 : wa.heap.size < wb.heap.size := by have := bb.size; simp at this; omega
  have ca0 : wb.cell? ⟨wa.heap.size, 0, none⟩ = some (.int .i64 A) := by rw [bb.cell (p := ⟨wa.heap.size, 0, none⟩) (by simp)]; simp [go_sem]
  have ca1 : wb.cell? ⟨wa.heap.size, 1, none⟩ = some (.int .i64 (pw m)) := by rw [bb.cell (p := ⟨wa.heap.size, 1, none⟩) (by simp)]; simp [go_sem]
  have bB := (ba.alloc ba.size _).trans (bb.mono (by have := ba.size; simp; omega))
  clear bb
  go_wp2_with fail
  refine (tail_yes m _ _ m62).mono ?_
  rintro e wc ⟨rfl, bc⟩
  rw [H3.out]
  have z2 : wb.heap.size < wc.heap.size := by have := bc.size; simp at this; omega
  have cb0 : wc.cell? ⟨wb.heap.size, 0, none⟩ = some (.int .i64 B) := by rw [bc.cell (p := ⟨wb.heap.size, 0, none⟩) (by simp)]; simp [go_sem]
  have cb1 : wc.cell? ⟨wb.heap.size, 1, none⟩ = some (.int .i64 (pw m)) := by rw [bc.cell (p := ⟨wb.heap.size, 1, none⟩) (by simp)]; simp [go_sem]
  have da0 : wc.cell? ⟨wa.heap.size, 0, none⟩ = some (.int .i64 A) := by rw [bc.cell (p := ⟨wa.heap.size, 0, none⟩) (by simp; omega), World.cell?_alloc_old _ _ _ (by simp; omega)]; exact ca0
  have da1 : wc.cell? ⟨wa.heap.size, 1, none⟩ = some (.int .i64 (pw m)) := by rw [bc.cell (p := ⟨wa.heap.size, 1, none⟩) (by simp; omega), World.cell?_alloc_old _ _ _ (by simp; omega)]; exact ca1
  have bC := ((bB.alloc bB.size _).trans (bc.mono (by have := bB.size; simp; omega))).alloc (by have := bB.size; omega) (Obj.cells #[Value.int IntKind.i64 D, Value.int IntKind.i64 (pw m)] 29)
  have z3 : wa.heap.size < wc.heap.size := by omega
  clear bc ca0 ca1 bB ba H1 H2 H3
  go_wp2_with fail
  have k0 := (World.cell?_alloc_past (w := wc) (.cells #[.int .i64 D, .int .i64 (pw m)] 29) wa.heap.size 0 z3).trans da0
  have k1 := (World.cell?_alloc_past (w := wc) (.cells #[.int .i64 D, .int .i64 (pw m)] 29) wa.heap.size 1 z3).trans da1
  have k2 := (World.cell?_alloc_past (w := wc) (.cells #[.int .i64 D, .int .i64 (pw m)] 29) wb.heap.size 0 z2).trans cb0
  have k3 := (World.cell?_alloc_past (w := wc) (.cells #[.int .i64 D, .int .i64 (pw m)] 29) wb.heap.size 1 z2).trans cb1
  have k4 : (wc.alloc (.cells #[.int .i64 D, .int .i64 (pw m)] 29)).cell? ⟨wc.heap.size, 0, none⟩ = some (.int .i64 D) := by simp [go_sem]
  clear da0 da1 cb0 cb1 z1 z2 z3
  generalize wc.alloc (.cells #[.int .i64 D, .int .i64 (pw m)] 29) = W at *
  have q1 := Q1.out
  have hwp := HW.out
  go_still_tail 39, (by kernel_rfl)
  change wpList _ _ _ _ _ W.drew
  generalize hWd : W.drew = W2
  have bW := bC.drew
  rw [hWd] at bW
  clear hWd q1 hwp k0 k1 k2 k3 k4
  go_wp2_with fail
  refine (awake_any _).mono ?_
  rintro e wd ⟨rfl, bd⟩
  go_wp2_with fail
  go_ret
  exact ⟨rfl, bW.trans (bd.mono bW.size)⟩

theorem own : ownKnob Try.prog.godebug = none := by kernel_rfl
theorem laidOut : laidOutB Try.prog = true := by kernel_rfl

set_option maxRecDepth 100000 in
theorem lifted (os : Os) (started : os.Started) (H : Type) (enc : TypeId × Value → H) :
    ReturnsInHanded {} Try.checked os 6 .any (Rows.verdictBothSpec.pre6 enc Try.prog Try.f6 Rows.verdictBothRow.domain false) (Rows.verdictBothSpec.post enc Try.prog Try.f6 false true false false) := by
  refine returnsInHanded_of_change (C := Try.checked) own started (by kernel_rfl) Try.func6
    (ChangeSpec.witness6 (enc := enc) (C := Try.checked) false ⟨#[], #[.int .u8 0, .int .u8 0], []⟩ 8 (by kernel_rfl) (by kernel_rfl) (by kernel_rfl) (by kernel_rfl)) ?_
  intro W base args ds gs before hval0 hW hcnd _
  have hval : ∀ (j : Nat) t v, Try.f6.params[j]? = some t → args[j]? = some v → Value.okWide Try.prog W .any base t v := hval0
  have hW' := hW
  obtain ⟨p, q, hA0, hV, rfl, hfz, hnd⟩ := hW
  have hA : DataW.TrodAll enc Try.prog W 0 (fun _ => true) true Try.f6.params.toList args.toList ds p := hA0
  rw [Try.params6] at hA hval
  obtain ⟨v0, vs0, d0, ds0, p0, q0, hargs, rfl, rfl, h0, r0⟩ := trodAll_cons hA
  obtain ⟨v1, vs1, d1, ds1, p1, q1, rfl, rfl, rfl, h1, r1⟩ := trodAll_cons r0
  obtain ⟨rfl, rfl, rfl⟩ := trodAll_nil r1
  obtain rfl : args = #[v0, v1] := by cases args; simp_all
  obtain ⟨rfl, rfl⟩ := trodVars_none hV
  have k0 := h0
  have lt0 : ∀ x ∈ p0, x.block < W.heap.size := by obtain ⟨m, hm⟩ := k0; exact DataW.trod_lt m _ _ _ hm
  obtain ⟨a0, rfl, rfl, rfl, w0⟩ := open_int Try.underlying5 (hval 0 5 v0 rfl rfl) h0
  have k1 := h1
  have lt1 : ∀ x ∈ p1, x.block < W.heap.size := by obtain ⟨m, hm⟩ := k1; exact DataW.trod_lt m _ _ _ hm
  obtain ⟨a1, rfl, rfl, rfl, w1⟩ := open_int Try.underlying5 (hval 1 5 v1 rfl rfl) h1
  clear hA0 hval0
  refine (walk a0 w0 a1 w1 W).mono fun e W' ⟨he, bel⟩ => ?_
  subst he
  exact ⟨_, rfl, _, _, _, [], _, [], hW', trodAll_mk1 (shut_bool Try.underlying4 _), (trodAll_cons_mk (Below.trod laidOut (by kernel_rfl) (of_decide_eq_true (by kernel_rfl)) k0 bel lt0) (trodAll_cons_mk (Below.trod laidOut (by kernel_rfl) (of_decide_eq_true (by kernel_rfl)) k1 bel lt1) trodAll_mk0)), rfl, bel.frame _, fun h => by cases h⟩

theorem over : Rows.verdictBothRow.holds Try.pinned (OpenSpec.ofChange Rows.verdictBothSpec) :=
  OpenClaim.holds_of_wide 6 Try.f6 rfl rfl rfl rfl rfl rfl rfl ⟨rfl, rfl, rfl, rfl, rfl⟩ rfl rfl rfl rfl rfl (by kernel_rfl) Try.func6 (by kernel_rfl)
    (of_decide_eq_true (by kernel_rfl)) (by unfold Func.isWrapper; first | (rw [if_pos (by decide +kernel)]; kernel_rfl) | (rw [if_neg (by decide +kernel)]; exact ⟨rfl, rfl⟩))
    (fun os started H enc _ => lifted os started H enc)

theorem proved : Rows.VerdictBothSaid := over
#print axioms proved
end Go.Proofs.Ytimgdeohcanneaa.verdictBoth

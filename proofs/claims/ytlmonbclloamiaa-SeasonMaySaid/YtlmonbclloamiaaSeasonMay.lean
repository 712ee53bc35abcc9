/- For every input ciceronelaw44.SeasonMay returns true, and its arguments read behind the call as before. No conditions. -/
import Derived.Test.YtlmonbclloamiaaSFill
import Derived.Test.YtlmonbclloamiaaRows
import Derived.ProofKit
import Derived.OpenShut
import Derived.ShutString
import Derived.ChangeOld
import Derived.Below
import Derived.Lib.SmallJoins
namespace Go.Proofs.Ytlmonbclloamiaa.seasonMay
open Go.ChangeShapes Go.WideShapes Go.ChangeAt Go.RowKit Go.Joins
open Go.ChangeMaps (open_string shut_string)
set_option linter.unusedVariables false

theorem i64_wf {q : Int} (h : (Lit.int .i64 q).wf = true) : I64 q := by
  simp only [Lit.wf, Bool.and_eq_true, decide_eq_true_eq] at h
  exact h
theorem right_nil_no (pe bk now : Int) (w : World) : ∀ W, Below w.heap.size w W → Calls Try.prog 26 #[.pointer none, .agg #[.int .i64 pe, .int .i64 bk], .int .i64 now] W fun e w' => e = .returned (.bool false) ∧ Below W.heap.size W w' := fun W _ => right_nil pe bk now W
set_option maxRecDepth 100000 in
set_option maxHeartbeats 4000000 in
theorem walk (pe bk : Int) (wpe : (Lit.int .i64 pe).wf = true) (wbk : (Lit.int .i64 bk).wf = true) (wd : Int) (wwd : (Lit.int .i64 wd).wf = true) (key : ByteArray) (hk : key.size ≤ maxLen) (now : Int) (wnow : (Lit.int .i64 now).wf = true) (w : World) :
    Calls Try.prog 3 #[.agg #[.int .i64 pe, .int .i64 bk], .int .i64 wd, .string key, .int .i64 now] w fun e w' => e = .returned (.bool true) ∧ Below w.heap.size w w' := by
  have h1 := i64_wf wpe
  have h2 := i64_wf wbk
  have h3 := i64_wf wwd
  have h4 := i64_wf wnow
  unfold maxLen at hk
  have hbk := Bk.new w [.int .i64 pe, .int .i64 bk] 23
  obtain ⟨W1, hW1⟩ : ∃ W1, w.alloc (.cells #[.int .i64 pe, .int .i64 bk] 23) = W1 := ⟨_, rfl⟩
  have hb1 : Below w.heap.size w W1 := by rw [← hW1]; exact (Below.refl _ _).alloc (Nat.le_refl _) _
  have hbk' : Bk W1 w.heap.size [.int .i64 pe, .int .i64 bk] 23 := by rw [← hW1]; exact hbk
  obtain ⟨N, hN⟩ : ∃ N, w.heap.size = N := ⟨_, rfl⟩
  rw [hN] at hbk'
  have HN := Lib.hid hN
  have HB1 := Lib.hid hb1
  have HW1 := Lib.hid hW1
  have HS : Hid (∀ W, Below W1.heap.size W1 W → W.cell? ⟨N, 0, none⟩ = some (.int .i64 pe) ∧ W.cell? ⟨N, 1, none⟩ = some (.int .i64 bk)) := Lib.hid (fun W hb => ⟨(hbk'.bel hb).cell 0, (hbk'.bel hb).cell 1⟩)
  have G0 : Hid (Below W1.heap.size W1 W1.drew) := Lib.hid (Below.refl _ _).drew
  have s0 := HS.out _ G0.out
  have HM : Hid (∀ W, Calls Try.prog 10 #[.agg #[.int .i64 pe, .int .i64 bk], .int .i64 wd] W fun e w' => e = .returned (.bool (mayS pe bk wd)) ∧ Below W.heap.size W w') := Lib.hid (fun W => may_s pe bk wd W h1 h2 h3)
  have HMR : Hid (∀ W, Calls Try.prog 11 #[.agg #[.int .i64 pe, .int .i64 bk], .int .i64 wd] W fun e w' => e = .returned (.bool (mayS pe bk wd)) ∧ Below W.heap.size W w') := Lib.hid (fun W => may_r pe bk wd W h1 h2 h3)
  have HNW : Hid (∀ W, Calls Try.prog 12 #[.pointer none, .agg #[.int .i64 pe, .int .i64 bk], .string key, .int .i64 now] W fun e w' => e = .returned (.int .i64 0) ∧ Below W.heap.size W w') := Lib.hid (fun W => now_no none pe bk now key W (right_nil_no pe bk now W))
  have HUS : Hid (∀ W, Calls Try.prog 13 #[.pointer none, .agg #[.int .i64 pe, .int .i64 bk], .string key, .int .i64 now] W fun e w' => e = .returned (.agg #[.int .i64 0, .int .i64 1]) ∧ Below W.heap.size W w') := Lib.hid (fun W => usual_no none pe bk now key W (right_nil_no pe bk now W))
  have HOD : Hid (∀ W, Calls Try.prog 14 #[.pointer none, .agg #[.int .i64 pe, .int .i64 bk], .int .i64 now, .int .i64 0] W fun e w' => e = .returned (.slice none 0 0) ∧ Below W.heap.size W w') := Lib.hid (fun W => odd_no none pe bk now 0 W (right_nil_no pe bk now W))
  have HAW : Hid (∀ W, Calls Try.prog 9 #[] W fun e w' => e = .returned (.bool true) ∧ Below W.heap.size W w') := Lib.hid (fun W => awake_any W)
  clear hbk hb1 hbk' hN hW1 wpe wbk wwd wnow
  by_cases hkey : key.size ≤ 60
  · have tf5 : decide ((60 : Int) < (key.size : Int)) = false := by simp; omega
    generalize mayS pe bk wd = m at *
    go_enter Try.func3, Try.ntmps3
    go_wp2_with fail
    rw [HN.out, HW1.out]
    go_region_held3 (fun X => X.cell? ⟨N, 0, none⟩ = some (.int .i64 pe) ∧ X.cell? ⟨N, 1, none⟩ = some (.int .i64 bk)) (first | assumption | go_keep)
      (first
        | (go_at_call 10
           (with_reducible refine (HM.out _).mono ?_)
           rintro e w2 ⟨rfl, b2⟩
           have G2 : Hid (Below W1.heap.size W1 w2) := Lib.hid (G0.out.trans (b2.mono G0.out.size))
           have s2 := HS.out _ G2.out
           clear b2)
        | (go_at_call 11
           (with_reducible refine (HMR.out _).mono ?_)
           rintro e w3 ⟨rfl, b3⟩
           have G3 : Hid (Below W1.heap.size W1 w3) := Lib.hid (G2.out.trans (b3.mono G2.out.size))
           have s3 := HS.out _ G3.out
           clear b3)
        | (go_at_call 12
           (with_reducible refine (HNW.out _).mono ?_)
           rintro e w4 ⟨rfl, b4⟩
           have G4 : Hid (Below W1.heap.size W1 w4) := Lib.hid (G3.out.trans (b4.mono G3.out.size))
           have s4 := HS.out _ G4.out
           clear b4)
        | (go_at_call 13
           (with_reducible refine (HUS.out _).mono ?_)
           rintro e w5 ⟨rfl, b5⟩
           have G5 : Hid (Below W1.heap.size W1 w5) := Lib.hid (G4.out.trans (b5.mono G4.out.size))
           have s5 := HS.out _ G5.out
           clear b5)
        | (go_at_call 14
           (with_reducible refine (HOD.out _).mono ?_)
           rintro e w6 ⟨rfl, b6⟩
           have G6 : Hid (Below W1.heap.size W1 w6) := Lib.hid (G5.out.trans (b6.mono G5.out.size))
           have s6 := HS.out _ G6.out
           clear b6)
        | (go_at_call 9
           (with_reducible refine (HAW.out _).mono ?_)
           rintro e w7 ⟨rfl, b7⟩
           have G7 : Hid (Below W1.heap.size W1 w7) := Lib.hid (G6.out.trans (b7.mono G6.out.size))
           have s7 := HS.out _ G7.out
           clear b7)
        | fail)
    go_wp2_with fail
    go_ret
    exact ⟨rfl, HB1.out.trans (G7.out.mono HB1.out.size)⟩
  · have tf5 : decide ((60 : Int) < (key.size : Int)) = true := by simp; omega
    go_enter Try.func3, Try.ntmps3
    go_wp2_with fail
    rw [HW1.out]
    refine (HAW.out _).mono ?_
    rintro e w2 ⟨rfl, b2⟩
    have HB2 : Hid (Below w.heap.size w w2) := Lib.hid (HB1.out.trans (b2.mono HB1.out.size))
    clear b2
    go_wp2_with fail
    go_ret
    exact ⟨rfl, HB2.out⟩

theorem own : ownKnob Try.prog.godebug = none := by kernel_rfl
theorem laidOut : laidOutB Try.prog = true := by kernel_rfl

set_option maxRecDepth 100000 in
theorem lifted (os : Os) (started : os.Started) (H : Type) (enc : TypeId × Value → H) :
    ReturnsInHanded {} Try.checked os 3 .any (Rows.seasonMaySpec.pre6 enc Try.prog Try.f3 Rows.seasonMayRow.domain false) (Rows.seasonMaySpec.post enc Try.prog Try.f3 false true false false) := by
  refine returnsInHanded_of_change (C := Try.checked) own started (by kernel_rfl) Try.func3
    (ChangeSpec.witness6 (enc := enc) (C := Try.checked) false ⟨#[], #[.agg #[.int .i64 0, .int .i64 0], .int .i64 0, .string ⟨#[]⟩, .int .i64 0], []⟩ 8 (by kernel_rfl) (by kernel_rfl) (by kernel_rfl) (by kernel_rfl)) ?_
  intro W base args ds gs before hval0 hW hcnd _
  have hval : ∀ (j : Nat) t v, Try.f3.params[j]? = some t → args[j]? = some v → Value.okWide Try.prog W .any base t v := hval0
  have hW' := hW
  obtain ⟨p, q, hA0, hV, rfl, hfz, hnd⟩ := hW
  have hA : DataW.TrodAll enc Try.prog W 0 (fun _ => true) true Try.f3.params.toList args.toList ds p := hA0
  rw [Try.params3] at hA hval
  obtain ⟨v0, vs0, d0, ds0, p0, q0, hargs, rfl, rfl, h0, r0⟩ := trodAll_cons hA
  obtain ⟨v1, vs1, d1, ds1, p1, q1, rfl, rfl, rfl, h1, r1⟩ := trodAll_cons r0
  obtain ⟨v2, vs2, d2, ds2, p2, q2, rfl, rfl, rfl, h2, r2⟩ := trodAll_cons r1
  obtain ⟨v3, vs3, d3, ds3, p3, q3, rfl, rfl, rfl, h3, r3⟩ := trodAll_cons r2
  obtain ⟨rfl, rfl, rfl⟩ := trodAll_nil r3
  obtain rfl : args = #[v0, v1, v2, v3] := by cases args; simp_all
  obtain ⟨rfl, rfl⟩ := trodVars_none hV
  have k0 := h0
  have lt0 : ∀ x ∈ p0, x.block < W.heap.size := by obtain ⟨m, hm⟩ := k0; exact DataW.trod_lt m _ _ _ hm
  obtain ⟨c00, c01, y00, y01, m0, rfl, hd0, hp0, hy00, hy01⟩ := open_agg2 Try.underlying23 (by kernel_rfl) (by kernel_rfl) (hval 0 23 v0 rfl rfl) h0
  obtain ⟨a0, e00, _, w00⟩ := DataW.trod_int Try.underlying3 hy00
  obtain ⟨b0, e01, _, w01⟩ := DataW.trod_int Try.underlying3 hy01
  simp at e00 e01
  subst e00 e01
  have k1 := h1
  have lt1 : ∀ x ∈ p1, x.block < W.heap.size := by obtain ⟨m, hm⟩ := k1; exact DataW.trod_lt m _ _ _ hm
  obtain ⟨a1, rfl, rfl, rfl, w1⟩ := open_int Try.underlying3 (hval 1 3 v1 rfl rfl) h1
  have k2 := h2
  have lt2 : ∀ x ∈ p2, x.block < W.heap.size := by obtain ⟨m, hm⟩ := k2; exact DataW.trod_lt m _ _ _ hm
  obtain ⟨a2, rfl, rfl, rfl, w2⟩ := open_string Try.underlying9 (hval 2 9 v2 rfl rfl) h2
  have k3 := h3
  have lt3 : ∀ x ∈ p3, x.block < W.heap.size := by obtain ⟨m, hm⟩ := k3; exact DataW.trod_lt m _ _ _ hm
  obtain ⟨a3, rfl, rfl, rfl, w3⟩ := open_int Try.underlying3 (hval 3 3 v3 rfl rfl) h3
  clear hA0 hval0
  refine (walk a0 b0 w00 w01 a1 w1 a2 w2 a3 w3 W).mono fun e W' ⟨he, bel⟩ => ?_
  subst he
  exact ⟨_, rfl, _, _, _, [], _, [], hW', trodAll_mk1 (shut_bool Try.underlying4 _), (trodAll_cons_mk (Below.trod laidOut (by kernel_rfl) (of_decide_eq_true (by kernel_rfl)) k0 bel lt0) (trodAll_cons_mk (Below.trod laidOut (by kernel_rfl) (of_decide_eq_true (by kernel_rfl)) k1 bel lt1) (trodAll_cons_mk (Below.trod laidOut (by kernel_rfl) (of_decide_eq_true (by kernel_rfl)) k2 bel lt2) (trodAll_cons_mk (Below.trod laidOut (by kernel_rfl) (of_decide_eq_true (by kernel_rfl)) k3 bel lt3) trodAll_mk0)))), rfl, bel.frame _, fun h => by cases h⟩

theorem over : Rows.seasonMayRow.holds Try.pinned (OpenSpec.ofChange Rows.seasonMaySpec) :=
  OpenClaim.holds_of_wide 3 Try.f3 rfl rfl rfl rfl rfl rfl rfl ⟨rfl, rfl, rfl, rfl, rfl⟩ rfl rfl rfl rfl rfl (by kernel_rfl) Try.func3 (by kernel_rfl)
    (of_decide_eq_true (by kernel_rfl)) (by unfold Func.isWrapper; first | (rw [if_pos (by decide +kernel)]; kernel_rfl) | (rw [if_neg (by decide +kernel)]; exact ⟨rfl, rfl⟩))
    (fun os started H enc _ => lifted os started H enc)

theorem proved : Rows.SeasonMaySaid := over
#print axioms proved
end Go.Proofs.Ytlmonbclloamiaa.seasonMay

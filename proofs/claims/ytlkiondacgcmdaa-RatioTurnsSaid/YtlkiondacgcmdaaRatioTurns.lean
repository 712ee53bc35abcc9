/- For every input ciceronelaw01.RatioTurns returns true, and its arguments read behind the call as before. No conditions. -/
import Derived.Test.YtlkiondacgcmdaaAwake01
import Derived.Test.YtlkiondacgcmdaaTurnLaw
import Derived.Test.YtlkiondacgcmdaaRows
import Derived.ProofKit
import Derived.OpenShut
import Derived.ShutString
import Derived.ChangeOld
import Derived.Below
import Derived.Lib.SmallJoins
namespace Go.Proofs.Ytlkiondacgcmdaa.ratioTurns
open Go.ChangeShapes Go.WideShapes Go.ChangeAt Go.RowKit Go.Joins
open Go.ChangeMaps (open_string shut_string)
set_option linter.unusedVariables false

open Wide Knuth
theorem ratios_one (w : World) (a b : Int) (t : TypeId) : Ratios (w.alloc (.cells #[.int .i64 a, .int .i64 b] t)) w.heap.size 0 [(a, b)] := by
  intro i x hx
  have h := heap_alloc_new w (.cells #[.int .i64 a, .int .i64 b] t)
  match i, hx with
  | 0, hx => cases hx; exact ⟨by rw [cell_of_row _ _ _ _ _ _ h]; rfl, by rw [cell_of_row _ _ _ _ _ _ h]; rfl⟩
  | n + 1, hx => simp at hx
/-- what the walk needs of the two fractions -/
def Both (a b c d n m : Int) (z : Bool) : Prop :=
  (∀ w B cap, Ratios w B 0 [(a, b), (c, d)] → Calls Try.prog 18 #[.slice (some ⟨B, 0, none⟩) 2 cap] w fun e w' => e = .returned (.tuple #[.agg #[.int .i64 n, .int .i64 m], .bool z]) ∧ Below w.heap.size w w') ∧
  (∀ w B cap, Ratios w B 0 [(c, d), (a, b)] → Calls Try.prog 18 #[.slice (some ⟨B, 0, none⟩) 2 cap] w fun e w' => e = .returned (.tuple #[.agg #[.int .i64 n, .int .i64 m], .bool z]) ∧ Below w.heap.size w w') ∧
  (z = true → n ≤ 9223372036854775807 ∧ m ≤ 9223372036854775807 ∧ 0 ≤ cmpR n m a b ∧ 0 ≤ cmpR n m c d ∧
    ∀ w B cap, Ratios w B 0 [(n, m)] → Calls Try.prog 18 #[.slice (some ⟨B, 0, none⟩) 1 cap] w fun e w' => e = .returned (.tuple #[.agg #[.int .i64 n, .int .i64 m], .bool true]) ∧ Below w.heap.size w w') ∧
  (z = false → n = 0 ∧ m = 0 ∧ (mayB a b = false ∨ (mayB a b = true ∧ mayB c d = false) ∨ (mayB a b = true ∧ mayB c d = true ∧ 2147483648 ≤ b) ∨ (mayB a b = true ∧ mayB c d = true ∧ b < 2147483648 ∧ 2147483648 ≤ d) ∨
    (mayB a b = true ∧ mayB c d = true ∧ b < 2147483648 ∧ d < 2147483648 ∧ 2147483648 ≤ a) ∨ (mayB a b = true ∧ mayB c d = true ∧ b < 2147483648 ∧ d < 2147483648 ∧ a < 2147483648 ∧ 2147483648 ≤ c)))
theorem both_any (a b c d : Int) (ha : a ≤ 9223372036854775807) (hb : b ≤ 9223372036854775807) (hc : c ≤ 9223372036854775807) (hd : d ≤ 9223372036854775807) :
    Both a b c d (sumN [(a, b), (c, d)]) (sumD [(a, b), (c, d)]) (sumB [(a, b), (c, d)]) := by
  obtain ⟨t1, t2, t3⟩ := sumN_turn (a := (a, b)) (b := (c, d)) ⟨ha, hb⟩ ⟨hc, hd⟩
  refine ⟨fun w B cap hR => ?_, fun w B cap hR => ?_, fun hz => ?_, fun hz => ?_⟩
  · exact sum_some_slice B 0 cap [(a, b), (c, d)] w hR (small2 ⟨ha, hb⟩ ⟨hc, hd⟩) (by simp)
  · have h := sum_some_slice B 0 cap [(c, d), (a, b)] w hR (small2 ⟨hc, hd⟩ ⟨ha, hb⟩) (by simp)
    rw [t1, t2, t3] at h; exact h
  · obtain ⟨y1, y2, y3, y4, y5, y6, y7, y8, y9⟩ := sum_yes (a := (a, b)) (b := (c, d)) ⟨ha, hb⟩ ⟨hc, hd⟩ hz
    refine ⟨y3, y4, y8, y9, fun w B cap hR => ?_⟩
    have h := sum_some_slice B 0 cap _ w hR (by intro x hx; simp at hx; subst hx; exact ⟨y3, y4⟩) (by simp)
    rw [y5, y6, y7] at h; exact h
  · have hn : sumS [(a, b), (c, d)] = none := by
      cases h : sumS [(a, b), (c, d)] with
      | none => rfl
      | some t => simp [sumB, h] at hz
    obtain ⟨s1, s2, _⟩ := sum_none hn
    refine ⟨s1, s2, ?_⟩
    cases h1 : mayB a b
    · exact .inl rfl
    · cases h2 : mayB c d
      · exact .inr (.inl ⟨rfl, rfl⟩)
      · have h3 : ¬ (a < 2147483648 ∧ b < 2147483648 ∧ c < 2147483648 ∧ d < 2147483648) := fun ⟨k1, k2, k3, k4⟩ => by
          have := sum_small (a := (a, b)) (b := (c, d)) h1 h2 k1 k2 k3 k4
          rw [this] at hz; cases hz
        simp only [true_and]
        omega
/-- the boxes of both fractions, and the sum's -/
def Box3 (w : World) (a b c d n m : Int) (X : World) (g : Nat) : Prop :=
  Below w.heap.size w X ∧ Two X w.heap.size (.int .i64 a) (.int .i64 b) 37 ∧ Two X (w.heap.size + 1) (.int .i64 c) (.int .i64 d) 37 ∧ Two X g (.int .i64 n) (.int .i64 m) 37
theorem Box3.bel {w X Y : World} {a b c d n m : Int} {g : Nat} (h : Box3 w a b c d n m X g) (hb : Below X.heap.size X Y) : Box3 w a b c d n m Y g :=
  ⟨bel_trans h.1 hb, h.2.1.bel hb, h.2.2.1.bel hb, h.2.2.2.bel hb⟩
theorem Box3.old {w X : World} {a b c d n m : Int} {g : Nat} (h : Box3 w a b c d n m X g) (o : Obj) : Box3 w a b c d n m (X.alloc o) g :=
  ⟨bel_alloc h.1 o, h.2.1.old o, h.2.2.1.old o, h.2.2.2.old o⟩
theorem Box3.facts {w X : World} {a b c d n m : Int} {g : Nat} (h : Box3 w a b c d n m X g) :
    X.cell? ⟨w.heap.size, 0, none⟩ = some (.int .i64 a) ∧ X.cell? ⟨w.heap.size, 1, none⟩ = some (.int .i64 b) ∧ X.cell? ⟨w.heap.size + 1, 0, none⟩ = some (.int .i64 c) ∧ X.cell? ⟨w.heap.size + 1, 1, none⟩ = some (.int .i64 d) ∧
    X.cell? ⟨g, 0, none⟩ = some (.int .i64 n) ∧ X.cell? ⟨g, 1, none⟩ = some (.int .i64 m) ∧ w.heap.size < X.heap.size ∧ w.heap.size + 1 < X.heap.size ∧ g < X.heap.size :=
  ⟨h.2.1.c0, h.2.1.c1, h.2.2.1.c0, h.2.2.1.c1, h.2.2.2.c0, h.2.2.2.c1, h.2.1.lt, h.2.2.1.lt, h.2.2.2.lt⟩
set_option maxHeartbeats 1000000 in
set_option maxRecDepth 100000 in
theorem walk (a b : Int) (w00 : (Lit.int .i64 a).wf = true) (w01 : (Lit.int .i64 b).wf = true) (c d : Int) (w10 : (Lit.int .i64 c).wf = true) (w11 : (Lit.int .i64 d).wf = true) (w : World) :
    Calls Try.prog 10 #[.agg #[.int .i64 a, .int .i64 b], .agg #[.int .i64 c, .int .i64 d]] w fun e w' => e = .returned (.bool true) ∧ Below w.heap.size w w' := by
  have x1 := (bounds_i64 w00).2
  have x2 := (bounds_i64 w01).2
  have x3 := (bounds_i64 w10).2
  have x4 := (bounds_i64 w11).2
  clear w00 w01 w10 w11
  have HB := both_any a b c d x1 x2 x3 x4
  generalize sumN [(a, b), (c, d)] = n at *
  generalize sumD [(a, b), (c, d)] = m at *
  generalize sumB [(a, b), (c, d)] = z at *
  have K1 := Lib.hid HB.1
  have K2 := Lib.hid HB.2.1
  have K3 := Lib.hid HB.2.2.1
  have K4 := Lib.hid HB.2.2.2
  clear HB
  go_enter Try.func10, Try.ntmps10
  go_wp2_with fail
  have R1 := ratios_new ((w.alloc (.cells #[.int .i64 a, .int .i64 b] 37)).alloc (.cells #[.int .i64 c, .int .i64 d] 37)) a b c d 37
  have HR1 := Lib.hid R1
  clear R1
  refine (K1.out _ _ _ (by have h := HR1.out; simp only [World.size_alloc] at h; exact h)).mono ?_
  rintro e w1 ⟨rfl, b1⟩
  have T1 : Box3 w a b c d n m (w1.alloc (.cells #[.int .i64 n, .int .i64 m] 37)) w1.heap.size :=
    ⟨bel_alloc (bel_trans (bel3 w _ _ _) b1) _, (((((Two.new w _ _ _).old _).old _).bel b1).old _), ((((Two.news _ _ _ _ _ _).old _).bel b1).old _), Two.new _ _ _ _⟩
  clear b1 HR1
  obtain ⟨g, hg⟩ : ∃ g, w1.heap.size = g := ⟨_, rfl⟩
  rw [hg] at T1
  obtain ⟨c0, c1, c2, c3, c4, c5, l0, l1, l2⟩ := T1.facts
  have hz : Hid ((w1.alloc (.cells #[.int .i64 n, .int .i64 m] 37)).heap.size = g + 1) := by show _ = _; rw [World.size_alloc, hg]
  go_wp2_with fail
  clear hg
  generalize w1.alloc (.cells #[.int .i64 n, .int .i64 m] 37) = V1 at *
  have HR2 := Lib.hid (ratios_new V1 c d a b 37)
  rw [hz.out] at HR2
  refine (K2.out _ _ _ HR2.out).mono ?_
  rintro e w2 ⟨rfl, b2⟩
  have T2 := ((T1.old _).bel b2).old (.cells #[.int .i64 n, .int .i64 m] 37)
  clear b2 HR2 c0 c1 c2 c3 c4 c5 l0 l1 l2 T1
  have t2 := Two.new w2 (.int .i64 n) (.int .i64 m) 37
  obtain ⟨c0, c1, c2, c3, c4, c5, l0, l1, l2⟩ := T2.facts
  obtain ⟨d0, d1, _, _, _⟩ := two_facts t2
  obtain ⟨g2, hg2⟩ : ∃ g2, w2.heap.size = g2 := ⟨_, rfl⟩
  cases z
  · obtain ⟨rfl, rfl, hcase⟩ := K4.out rfl
    clear K3 K4
    rcases hcase with h1 | ⟨h1, h2⟩ | ⟨h1, h2, h3⟩ | ⟨h1, h2, h3, h4⟩ | ⟨h1, h2, h3, h4, h5⟩ | ⟨h1, h2, h3, h4, h5, h6⟩
    · go_wp2_with fail
      clear hg2 d0 d1
      generalize w2.alloc (.cells #[.int .i64 0, .int .i64 0] 37) = V2 at *
      refine (may_any _ _ _).mono ?_
      rintro e wx ⟨rfl, rfl⟩
      rw [h1]
      go_wp2_with fail
      refine (awake_any _).mono ?_
      rintro e wx ⟨rfl, bx⟩
      go_wp2_with fail
      go_ret
      exact ⟨rfl, bel_trans (T2.old _).1 bx⟩
    · go_wp2_with fail
      clear hg2 d0 d1
      generalize w2.alloc (.cells #[.int .i64 0, .int .i64 0] 37) = V2 at *
      refine (may_any _ _ _).mono ?_
      rintro e wx ⟨rfl, rfl⟩
      rw [h1]
      go_wp2_with fail
      refine (may_any _ _ _).mono ?_
      rintro e wx ⟨rfl, rfl⟩
      rw [h2]
      go_wp2_with fail
      refine (awake_any _).mono ?_
      rintro e wx ⟨rfl, bx⟩
      go_wp2_with fail
      go_ret
      exact ⟨rfl, bel_trans ((T2.old _).old _).1 bx⟩
    all_goals
      go_wp2_with fail
      clear hg2 d0 d1
      generalize w2.alloc (.cells #[.int .i64 0, .int .i64 0] 37) = V2 at *
      refine (may_any _ _ _).mono ?_
      rintro e wx ⟨rfl, rfl⟩
      rw [h1]
      go_wp2_with fail
      refine (may_any _ _ _).mono ?_
      rintro e wx ⟨rfl, rfl⟩
      rw [h2]
      go_wp2_with fail
      refine (awake_any _).mono ?_
      rintro e wx ⟨rfl, bx⟩
      go_wp2_with fail
      go_ret
      exact ⟨rfl, bel_trans ((T2.old _).old _).1 bx⟩
  · obtain ⟨y1, y2, y3, y4, y5⟩ := K3.out rfl
    have K5 := Lib.hid y5
    clear K3 K4 y5
    have hz2 : Hid ((w2.alloc (.cells #[.int .i64 n, .int .i64 m] 37)).heap.size = g2 + 1) := by show _ = _; rw [World.size_alloc, hg2]
    go_wp2_with fail
    clear hg2 d0 d1
    generalize w2.alloc (.cells #[.int .i64 n, .int .i64 m] 37) = V2 at *
    have HR3 := Lib.hid (ratios_one V2 n m 37)
    rw [hz2.out] at HR3
    refine (K5.out _ _ _ HR3.out).mono ?_
    rintro e w3 ⟨rfl, b3⟩
    have T3 := ((T2.old _).bel b3).old (.cells #[.int .i64 n, .int .i64 m] 37)
    clear b3 HR3 c0 c1 c2 c3 c4 c5 l0 l1 l2 T2 t2
    have t3 := Two.new w3 (.int .i64 n) (.int .i64 m) 37
    obtain ⟨c0, c1, c2, c3, c4, c5, l0, l1, l2⟩ := T3.facts
    go_wp2_with fail
    refine (compare_any _ _ _ _ _ (by omega) (by omega) (by omega) (by omega)).mono ?_
    rintro e w4 ⟨rfl, b4⟩
    have T4 := T3.bel b4
    clear b4 c0 c1 c2 c3 c4 c5 l0 l1 l2 T3 t3
    obtain ⟨c0, c1, c2, c3, c4, c5, l0, l1, l2⟩ := T4.facts
    go_wp2_with fail
    refine (compare_any _ _ _ _ _ (by omega) (by omega) (by omega) (by omega)).mono ?_
    rintro e w5 ⟨rfl, b5⟩
    have T5 := T4.bel b5
    go_wp2_with fail
    refine (awake_any _).mono ?_
    rintro e wx ⟨rfl, bx⟩
    go_wp2_with fail
    go_ret
    exact ⟨rfl, bel_trans T5.1 bx⟩

theorem own : ownKnob Try.prog.godebug = none := by kernel_rfl
theorem laidOut : laidOutB Try.prog = true := by kernel_rfl

set_option maxRecDepth 100000 in
theorem lifted (os : Os) (started : os.Started) (H : Type) (enc : TypeId × Value → H) :
    ReturnsInHanded {} Try.checked os 10 .any (Rows.ratioTurnsSpec.pre6 enc Try.prog Try.f10 Rows.ratioTurnsRow.domain false) (Rows.ratioTurnsSpec.post enc Try.prog Try.f10 false true false false) := by
  refine returnsInHanded_of_change (C := Try.checked) own started (by kernel_rfl) Try.func10
    (ChangeSpec.witness6 (enc := enc) (C := Try.checked) false ⟨#[], #[.agg #[.int .i64 0, .int .i64 0], .agg #[.int .i64 0, .int .i64 0]], []⟩ 8 (by kernel_rfl) (by kernel_rfl) (by kernel_rfl) (by kernel_rfl)) ?_
  intro W base args ds gs before hval0 hW hcnd _
  have hval : ∀ (j : Nat) t v, Try.f10.params[j]? = some t → args[j]? = some v → Value.okWide Try.prog W .any base t v := hval0
  have hW' := hW
  obtain ⟨p, q, hA0, hV, rfl, hfz, hnd⟩ := hW
  have hA : DataW.TrodAll enc Try.prog W 0 (fun _ => true) true Try.f10.params.toList args.toList ds p := hA0
  rw [Try.params10] at hA hval
  obtain ⟨v0, vs0, d0, ds0, p0, q0, hargs, rfl, rfl, h0, r0⟩ := trodAll_cons hA
  obtain ⟨v1, vs1, d1, ds1, p1, q1, rfl, rfl, rfl, h1, r1⟩ := trodAll_cons r0
  obtain ⟨rfl, rfl, rfl⟩ := trodAll_nil r1
  obtain rfl : args = #[v0, v1] := by cases args; simp_all
  obtain ⟨rfl, rfl⟩ := trodVars_none hV
  have k0 := h0
  have lt0 : ∀ x ∈ p0, x.block < W.heap.size := by obtain ⟨m, hm⟩ := k0; exact DataW.trod_lt m _ _ _ hm
  obtain ⟨c00, c01, y00, y01, m0, rfl, hd0, hp0, hy00, hy01⟩ := open_agg2 Try.underlying37 (by kernel_rfl) (by kernel_rfl) (hval 0 37 v0 rfl rfl) h0
  obtain ⟨a0, e00, _, w00⟩ := DataW.trod_int Try.underlying2 hy00
  obtain ⟨b0, e01, _, w01⟩ := DataW.trod_int Try.underlying2 hy01
  simp at e00 e01
  subst e00 e01
  have k1 := h1
  have lt1 : ∀ x ∈ p1, x.block < W.heap.size := by obtain ⟨m, hm⟩ := k1; exact DataW.trod_lt m _ _ _ hm
  obtain ⟨c10, c11, y10, y11, m1, rfl, hd1, hp1, hy10, hy11⟩ := open_agg2 Try.underlying37 (by kernel_rfl) (by kernel_rfl) (hval 1 37 v1 rfl rfl) h1
  obtain ⟨a1, e10, _, w10⟩ := DataW.trod_int Try.underlying2 hy10
  obtain ⟨b1, e11, _, w11⟩ := DataW.trod_int Try.underlying2 hy11
  simp at e10 e11
  subst e10 e11
  clear hA0 hval0
  refine (walk a0 b0 w00 w01 a1 b1 w10 w11 W).mono fun e W' ⟨he, bel⟩ => ?_
  subst he
  exact ⟨_, rfl, _, _, _, [], _, [], hW', trodAll_mk1 (shut_bool Try.underlying4 _), (trodAll_cons_mk (Below.trod laidOut (by kernel_rfl) (of_decide_eq_true (by kernel_rfl)) k0 bel lt0) (trodAll_cons_mk (Below.trod laidOut (by kernel_rfl) (of_decide_eq_true (by kernel_rfl)) k1 bel lt1) trodAll_mk0)), rfl, bel.frame _, fun h => by cases h⟩

theorem over : Rows.ratioTurnsRow.holds Try.pinned (OpenSpec.ofChange Rows.ratioTurnsSpec) :=
  OpenClaim.holds_of_wide 10 Try.f10 rfl rfl rfl rfl rfl rfl rfl ⟨rfl, rfl, rfl, rfl, rfl⟩ rfl rfl rfl rfl rfl (by kernel_rfl) Try.func10 (by kernel_rfl)
    (of_decide_eq_true (by kernel_rfl)) (by unfold Func.isWrapper; first | (rw [if_pos (by decide +kernel)]; kernel_rfl) | (rw [if_neg (by decide +kernel)]; exact ⟨rfl, rfl⟩))
    (fun os started H enc _ => lifted os started H enc)

theorem proved : Rows.RatioTurnsSaid := over
#print axioms proved
end Go.Proofs.Ytlkiondacgcmdaa.ratioTurns

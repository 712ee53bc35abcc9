/- For every input ciceronelaw01.RatioTimes returns true, and its arguments read behind the call as before. No conditions. -/
import Derived.Test.YtlkiondacgcmdaaAwake01
import Derived.Test.YtlkiondacgcmdaaCmp
import Derived.Deep.RegionHeld3
import Derived.Test.YtlkiondacgcmdaaRows
import Derived.ProofKit
import Derived.OpenShut
import Derived.ShutString
import Derived.ChangeOld
import Derived.Below
import Derived.Lib.SmallJoins
namespace Go.Proofs.Ytlkiondacgcmdaa.ratioTimes
open Go.ChangeShapes Go.WideShapes Go.ChangeAt Go.RowKit Go.Joins
open Go.ChangeMaps (open_string shut_string)
set_option linter.unusedVariables false

open Wide
theorem own_may {a b : Int} (h0 : 0 ≤ a) (h1 : 1 ≤ b) : ownN a b = a ∧ ownD a b = b := by
  have h : mayB a b = true := by simp [mayB, h0, h1]
  simp [ownN, ownD, h]
theorem cmp_fine {a b c d : Int} (ha : 0 ≤ a) (hb : 1 ≤ b) (hc : 0 ≤ c) (hd : 1 ≤ d) : cmpR a b c d = cmpW (a * d) (c * b) := by
  rw [cmpR_mul, (own_may ha hb).1, (own_may ha hb).2, (own_may hc hd).1, (own_may hc hd).2]
theorem times_same {a b n : Int} (ha : 0 ≤ a) (hb : 1 ≤ b) (hn : 1 ≤ n) : cmpR a b (a * n) (b * n) = 0 := by
  have h1 : 0 ≤ a * n := Int.mul_nonneg ha (by omega)
  have h2 : 1 * 1 ≤ b * n := Int.mul_le_mul hb hn (by omega) (by omega)
  rw [cmp_fine ha hb h1 (by omega)]
  apply cmpW_eq
  rw [← Int.mul_assoc, Int.mul_assoc a n b, Int.mul_comm n b, ← Int.mul_assoc]
theorem times_more {a b n : Int} (ha : 0 ≤ a) (hb : 1 ≤ b) (hn : 1 ≤ n) : cmpR (a * n + 1) (b * n) a b = 1 := by
  have h1 : 0 ≤ a * n := Int.mul_nonneg ha (by omega)
  have h2 : 1 * 1 ≤ b * n := Int.mul_le_mul hb hn (by omega) (by omega)
  rw [cmp_fine (by omega) (by omega) ha hb]
  apply cmpW_gt
  rw [Int.add_mul, ← Int.mul_assoc, Int.mul_assoc a n b, Int.mul_comm n b, ← Int.mul_assoc]
  omega
theorem times_less {a b n : Int} (ha : 0 ≤ a) (hb : 1 ≤ b) (hn : 1 ≤ n) : cmpR (a * n) (b * n + 1) a b = if a = 0 then 0 else -1 := by
  have h1 : 0 ≤ a * n := Int.mul_nonneg ha (by omega)
  have h2 : 1 * 1 ≤ b * n := Int.mul_le_mul hb hn (by omega) (by omega)
  rw [cmp_fine h1 (by omega) ha hb]
  have e : a * (b * n + 1) = a * n * b + a := by
    rw [Int.mul_add, Int.mul_one, ← Int.mul_assoc, Int.mul_assoc a n b, Int.mul_comm n b, ← Int.mul_assoc]
  rw [e]
  by_cases h : a = 0
  · rw [if_pos h]; subst h; apply cmpW_eq; simp
  · rw [if_neg h]; apply cmpW_lt; omega
def Quad (N : Nat) (a b u v : Int) (X : World) : Prop :=
  Two X N (.int .i64 a) (.int .i64 b) 37 ∧ Two X (N + 1 + 1) (.int .i64 u) (.int .i64 v) 37 ∧ Two X (N + 1 + 1 + 1) (.int .i64 (u + 1)) (.int .i64 v) 37 ∧ Two X (N + 1 + 1 + 1 + 1) (.int .i64 u) (.int .i64 (v + 1)) 37
theorem Quad.bel {N : Nat} {a b u v : Int} {w w' : World} (h : Quad N a b u v w) (hb : Below w.heap.size w w') : Quad N a b u v w' := ⟨h.1.bel hb, h.2.1.bel hb, h.2.2.1.bel hb, h.2.2.2.bel hb⟩
theorem Quad.cells {N : Nat} {a b u v : Int} {X : World} (h : Quad N a b u v X) :
    X.cell? ⟨N, 0, none⟩ = some (.int .i64 a) ∧ X.cell? ⟨N, 1, none⟩ = some (.int .i64 b) ∧ X.cell? ⟨N + 1 + 1, 0, none⟩ = some (.int .i64 u) ∧ X.cell? ⟨N + 1 + 1, 1, none⟩ = some (.int .i64 v) ∧ X.cell? ⟨N + 1 + 1 + 1, 0, none⟩ = some (.int .i64 (u + 1)) ∧ X.cell? ⟨N + 1 + 1 + 1, 1, none⟩ = some (.int .i64 v) ∧ X.cell? ⟨N + 1 + 1 + 1 + 1, 0, none⟩ = some (.int .i64 u) ∧ X.cell? ⟨N + 1 + 1 + 1 + 1, 1, none⟩ = some (.int .i64 (v + 1)) :=
  ⟨h.1.c0, h.1.c1, h.2.1.c0, h.2.1.c1, h.2.2.1.c0, h.2.2.1.c1, h.2.2.2.c0, h.2.2.2.c1⟩
set_option maxHeartbeats 1000000 in
theorem walk_no (a b n : Int) (w : World) (h : ¬ (mayB a b = true ∧ 1 ≤ n ∧ a ≤ 1073741824 ∧ b ≤ 1073741824 ∧ n ≤ 1073741824)) :
    Calls Try.prog 9 #[.agg #[.int .i64 a, .int .i64 b], .int .i64 n] w fun e w' => e = .returned (.bool true) ∧ Below w.heap.size w w' := by
  cases hM : mayB a b
  · clear h
    go_enter Try.func9, Try.ntmps9
    go_wp2_with fail
    refine (may_any _ _ _).mono ?_
    rintro e wx ⟨rfl, rfl⟩
    rw [hM]
    go_wp2_with fail
    refine (awake_any _).mono ?_
    rintro e wx ⟨rfl, bx⟩
    go_wp2_with fail
    go_ret
    exact ⟨rfl, bel_trans (bel2 _ _ _) bx⟩
  · rw [hM] at h
    have T : n < 1 ∨ (1 ≤ n ∧ 1073741824 < a) ∨ (1 ≤ n ∧ a ≤ 1073741824 ∧ 1073741824 < b) ∨ (1 ≤ n ∧ a ≤ 1073741824 ∧ b ≤ 1073741824 ∧ 1073741824 < n) := by
      simp only [true_and] at h; omega
    have HM := Lib.hid hM
    clear h hM
    rcases T with h | ⟨h1, h⟩ | ⟨h1, h2, h⟩ | ⟨h1, h2, h3, h⟩
    all_goals
      go_enter Try.func9, Try.ntmps9
      go_wp2_with fail
      refine (may_any _ _ _).mono ?_
      rintro e wx ⟨rfl, rfl⟩
      rw [HM.out]
      go_wp2_with fail
      refine (awake_any _).mono ?_
      rintro e wx ⟨rfl, bx⟩
      go_wp2_with fail
      go_ret
      exact ⟨rfl, bel_trans (bel2 _ _ _) bx⟩
set_option maxHeartbeats 2000000 in
set_option maxRecDepth 100000 in
theorem walk_yes (a b n : Int) (w : World) (ha : 0 ≤ a) (hb : 1 ≤ b) (hn : 1 ≤ n) (ha2 : a ≤ 1073741824) (hb2 : b ≤ 1073741824) (hn2 : n ≤ 1073741824) :
    Calls Try.prog 9 #[.agg #[.int .i64 a, .int .i64 b], .int .i64 n] w fun e w' => e = .returned (.bool true) ∧ Below w.heap.size w w' := by
  have hM : Hid (mayB a b = true) := by show mayB a b = true; simp [mayB, ha, hb]
  have C1 : Hid (cmpR a b (a * n) (b * n) = 0) := times_same ha hb hn
  have C2 : Hid (cmpR (a * n + 1) (b * n) a b = 1) := times_more ha hb hn
  have C3 : Hid (cmpR (a * n) (b * n + 1) a b = if a = 0 then 0 else -1) := times_less ha hb hn
  obtain ⟨z, hz, hz2⟩ : ∃ z : Int, (if a = 0 then (0 : Int) else -1) = z ∧ ((a = 0 ∧ z = 0) ∨ (1 ≤ a ∧ z = -1)) := by
    by_cases h : a = 0
    · exact ⟨0, by rw [if_pos h], .inl ⟨h, rfl⟩⟩
    · exact ⟨-1, by rw [if_neg h], .inr ⟨by omega, rfl⟩⟩
  rw [hz] at C3
  have m1 : 0 ≤ a * n := Int.mul_nonneg ha (by omega)
  have m2 : a * n ≤ 1073741824 * 1073741824 := Int.mul_le_mul ha2 hn2 (by omega) (by omega)
  have m3 : 1 * 1 ≤ b * n := Int.mul_le_mul hb hn (by omega) (by omega)
  have m4 : b * n ≤ 1073741824 * 1073741824 := Int.mul_le_mul hb2 hn2 (by omega) (by omega)
  obtain ⟨u, hu⟩ : ∃ u, a * n = u := ⟨_, rfl⟩
  obtain ⟨v, hv⟩ : ∃ v, b * n = v := ⟨_, rfl⟩
  rw [hu] at m1 m2 C1 C2 C3
  rw [hv] at m3 m4 C1 C2 C3
  have q1 : IntKind.i64.wrap (a * n) = u := by rw [hu]; exact IntWalk.i64_in _ (by omega)
  have q2 : IntKind.i64.wrap (b * n) = v := by rw [hv]; exact IntWalk.i64_in _ (by omega)
  have q3 : a * n = u := hu
  have q4 : b * n = v := hv
  clear hu hv hz
  rcases hz2 with ⟨ea, rfl⟩ | ⟨ea, rfl⟩
  all_goals
    have y1 : (a == 0) = decide (a = 0) := by cases h : a == 0 <;> simp at h <;> simp [h]
    first | rw [show decide (a = 0) = true from by simp; omega] at y1 | rw [show decide (a = 0) = false from by simp; omega] at y1
    clear ea
    go_enter Try.func9, Try.ntmps9
    go_wp2_with fail
    refine (may_any _ _ _).mono ?_
    rintro e wx ⟨rfl, rfl⟩
    rw [hM.out]
    go_wp2_with fail
  all_goals
    have T : Quad w.heap.size a b u v (((((w.alloc (.cells #[.int .i64 a, .int .i64 b] 37)).alloc (.cells #[.int .i64 a, .int .i64 b] 37)).alloc (.cells #[.int .i64 u, .int .i64 v] 37)).alloc (.cells #[.int .i64 (u + 1), .int .i64 v] 37)).alloc (.cells #[.int .i64 u, .int .i64 (v + 1)] 37)) := by
      refine ⟨((((Two.new _ _ _ _).old _).old _).old _).old _, ?_, ?_, ?_⟩
      · have h := ((Two.news (w := w.alloc (.cells #[.int .i64 a, .int .i64 b] 37)) (.int .i64 a) (.int .i64 b) (.int .i64 u) (.int .i64 v) 37 37).old (.cells #[.int .i64 (u + 1), .int .i64 v] 37)).old (.cells #[.int .i64 u, .int .i64 (v + 1)] 37)
        simp only [World.size_alloc] at h; exact h
      · have h := (Two.news (w := (w.alloc (.cells #[.int .i64 a, .int .i64 b] 37)).alloc (.cells #[.int .i64 a, .int .i64 b] 37)) (.int .i64 u) (.int .i64 v) (.int .i64 (u + 1)) (.int .i64 v) 37 37).old (.cells #[.int .i64 u, .int .i64 (v + 1)] 37)
        simp only [World.size_alloc] at h; exact h
      · have h := Two.news (w := ((w.alloc (.cells #[.int .i64 a, .int .i64 b] 37)).alloc (.cells #[.int .i64 a, .int .i64 b] 37)).alloc (.cells #[.int .i64 u, .int .i64 v] 37)) (.int .i64 (u + 1)) (.int .i64 v) (.int .i64 u) (.int .i64 (v + 1)) 37 37
        simp only [World.size_alloc] at h; exact h
    have bW := bel_alloc (bel4 w (.cells #[.int .i64 a, .int .i64 b] 37) (.cells #[.int .i64 a, .int .i64 b] 37) (.cells #[.int .i64 u, .int .i64 v] 37) (.cells #[.int .i64 (u + 1), .int .i64 v] 37)) (.cells #[.int .i64 u, .int .i64 (v + 1)] 37)
    generalize ((((w.alloc (.cells #[.int .i64 a, .int .i64 b] 37)).alloc (.cells #[.int .i64 a, .int .i64 b] 37)).alloc (.cells #[.int .i64 u, .int .i64 v] 37)).alloc (.cells #[.int .i64 (u + 1), .int .i64 v] 37)).alloc (.cells #[.int .i64 u, .int .i64 (v + 1)] 37) = W at *
    obtain ⟨c0, c1, c2, c3, c4, c5, c6, c7⟩ := T.cells
    clear q1 q2 q3 q4
    go_region_held3 (fun X => X.cell? ⟨w.heap.size, 0, none⟩ = some (.int .i64 a) ∧ X.cell? ⟨w.heap.size, 1, none⟩ = some (.int .i64 b) ∧ X.cell? ⟨w.heap.size + 1 + 1, 0, none⟩ = some (.int .i64 u) ∧ X.cell? ⟨w.heap.size + 1 + 1, 1, none⟩ = some (.int .i64 v) ∧ X.cell? ⟨w.heap.size + 1 + 1 + 1, 0, none⟩ = some (.int .i64 (u + 1)) ∧ X.cell? ⟨w.heap.size + 1 + 1 + 1, 1, none⟩ = some (.int .i64 v) ∧ X.cell? ⟨w.heap.size + 1 + 1 + 1 + 1, 0, none⟩ = some (.int .i64 u) ∧ X.cell? ⟨w.heap.size + 1 + 1 + 1 + 1, 1, none⟩ = some (.int .i64 (v + 1)))
      ((refine (Quad.bel T ?_).cells; repeat (first | assumption | exact Below.refl _ _ | refine Below.drew ?_)))
      (first
        | (go_at_call 20; refine (compare_any _ _ _ _ _ (by omega) (by omega) (by omega) (by omega)).mono ?_; rintro e wx ⟨rfl, bx⟩; (first | rw [C1.out] | rw [C2.out] | rw [C3.out] | fail); have bv := bel_trans (V := W) (by repeat (first | assumption | exact Below.refl _ _ | refine Below.drew ?_)) bx)
        | (go_at_call 13; refine (awake_any _).mono ?_; rintro e wx ⟨rfl, bx⟩; have bv := bel_trans (V := W) (by repeat (first | assumption | exact Below.refl _ _ | refine Below.drew ?_)) bx))
    all_goals
      go_wp2_with fail
      go_ret
      exact ⟨rfl, bel_trans bW bv⟩
theorem walk (a b : Int) (w00 : (Lit.int .i64 a).wf = true) (w01 : (Lit.int .i64 b).wf = true) (n : Int) (w1 : (Lit.int .i64 n).wf = true) (w : World) :
    Calls Try.prog 9 #[.agg #[.int .i64 a, .int .i64 b], .int .i64 n] w fun e w' => e = .returned (.bool true) ∧ Below w.heap.size w w' := by
  by_cases h : mayB a b = true ∧ 1 ≤ n ∧ a ≤ 1073741824 ∧ b ≤ 1073741824 ∧ n ≤ 1073741824
  · obtain ⟨h1, h2, h3, h4, h5⟩ := h
    simp only [mayB, decide_eq_true_eq] at h1
    exact walk_yes a b n w h1.1 h1.2 h2 h3 h4 h5
  · exact walk_no a b n w h

theorem own : ownKnob Try.prog.godebug = none := by kernel_rfl
theorem laidOut : laidOutB Try.prog = true := by kernel_rfl

set_option maxRecDepth 100000 in
theorem lifted (os : Os) (started : os.Started) (H : Type) (enc : TypeId × Value → H) :
    ReturnsInHanded {} Try.checked os 9 .any (Rows.ratioTimesSpec.pre6 enc Try.prog Try.f9 Rows.ratioTimesRow.domain false) (Rows.ratioTimesSpec.post enc Try.prog Try.f9 false true false false) := by
  refine returnsInHanded_of_change (C := Try.checked) own started (by kernel_rfl) Try.func9
    (ChangeSpec.witness6 (enc := enc) (C := Try.checked) false ⟨#[], #[.agg #[.int .i64 0, .int .i64 0], .int .i64 0], []⟩ 8 (by kernel_rfl) (by kernel_rfl) (by kernel_rfl) (by kernel_rfl)) ?_
  intro W base args ds gs before hval0 hW hcnd _
  have hval : ∀ (j : Nat) t v, Try.f9.params[j]? = some t → args[j]? = some v → Value.okWide Try.prog W .any base t v := hval0
  have hW' := hW
  obtain ⟨p, q, hA0, hV, rfl, hfz, hnd⟩ := hW
  have hA : DataW.TrodAll enc Try.prog W 0 (fun _ => true) true Try.f9.params.toList args.toList ds p := hA0
  rw [Try.params9] at hA hval
  obtain ⟨v0, vs0, d0, ds0, p0, q0, hargs, rfl, rfl, h0, r0⟩ := trodAll_cons hA
  obtain ⟨v1, vs1, d1, ds1, p1, q1, rfl, rfl, rfl, h1, r1⟩ := trodAll_cons r0
  obtain ⟨rfl, rfl, rfl⟩ := trodAll_nil r1
  obtain rfl : args = #[v0, v1] := by cases args; simp_all
  obtain ⟨rfl, rfl⟩ := trodVars_none hV
  have k0 := h0
  have lt0 : ∀ x ∈ p0, x.block < W.heap.size := by obtain ⟨m, hm⟩ := k0; exact DataW.trod_lt m _ _ _ hm
  obtain ⟨c00, c01, y00, y01, m0, rfl, hd0, hp0, hy00, hy01⟩ := open_agg2 Try.underlying37 (by kernel_rfl) (by kernel_rfl) (hval 0 37 v0 rfl rfl) h0
  obtain ⟨a0, e00, _, w00⟩ := DataW.trod_int Try.underlying2 hy00
  obtain ⟨b0, e01, _, w01⟩ := DataW.trod_int Try.underlying2 hy01
  simp at e00 e01
  subst e00 e01
  have k1 := h1
  have lt1 : ∀ x ∈ p1, x.block < W.heap.size := by obtain ⟨m, hm⟩ := k1; exact DataW.trod_lt m _ _ _ hm
  obtain ⟨a1, rfl, rfl, rfl, w1⟩ := open_int Try.underlying2 (hval 1 2 v1 rfl rfl) h1
  clear hA0 hval0
  refine (walk a0 b0 w00 w01 a1 w1 W).mono fun e W' ⟨he, bel⟩ => ?_
  subst he
  exact ⟨_, rfl, _, _, _, [], _, [], hW', trodAll_mk1 (shut_bool Try.underlying4 _), (trodAll_cons_mk (Below.trod laidOut (by kernel_rfl) (of_decide_eq_true (by kernel_rfl)) k0 bel lt0) (trodAll_cons_mk (Below.trod laidOut (by kernel_rfl) (of_decide_eq_true (by kernel_rfl)) k1 bel lt1) trodAll_mk0)), rfl, bel.frame _, fun h => by cases h⟩

theorem over : Rows.ratioTimesRow.holds Try.pinned (OpenSpec.ofChange Rows.ratioTimesSpec) :=
  OpenClaim.holds_of_wide 9 Try.f9 rfl rfl rfl rfl rfl rfl rfl ⟨rfl, rfl, rfl, rfl, rfl⟩ rfl rfl rfl rfl rfl (by kernel_rfl) Try.func9 (by kernel_rfl)
    (of_decide_eq_true (by kernel_rfl)) (by unfold Func.isWrapper; first | (rw [if_pos (by decide +kernel)]; kernel_rfl) | (rw [if_neg (by decide +kernel)]; exact ⟨rfl, rfl⟩))
    (fun os started H enc _ => lifted os started H enc)

theorem proved : Rows.RatioTimesSaid := over
#print axioms proved
end Go.Proofs.Ytlkiondacgcmdaa.ratioTimes

/- Contracts of package season: May, right, ago, Now, Usual; of the document: May, Right. -/
import Derived.Test.YtlmonbclloamiaaSPlain
import Derived.Test.YtlmonbclloamiaaInsR
import Derived.Test.YtlmonbclloamiaaHere
import Derived.Deep.RegionWith
namespace Go.Proofs.Ytlmonbclloamiaa
open Go.RowKit Go.MapKept Go.Maps Wide
set_option linter.unusedVariables false
theorem ret_bool {a b : Bool} (h : a = b) : Ending.returned (.bool a) = .returned (.bool b) := by rw [h]
set_option maxHeartbeats 1000000 in
theorem may_s (pe bk wd : Int) (w : World) (h1 : I64 pe) (h2 : I64 bk) (h3 : I64 wd) :
    Calls Try.prog 10 #[.agg #[.int .i64 pe, .int .i64 bk], .int .i64 wd] w fun e w' => e = .returned (.bool (mayS pe bk wd)) ∧ Below w.heap.size w w' := by
  unfold I64 at h1 h2 h3
  have hb := (Below.refl w.heap.size w).alloc (Nat.le_refl _) (.cells #[.int .i64 pe, .int .i64 bk] 23)
  have HB := Lib.hid hb
  clear hb
  go_enter Try.func10, Try.ntmps10
  go_wp2_with fail
  all_goals
    go_ret
    refine ⟨ret_bool ?_, HB.out⟩
    unfold mayS
    first | (simp [*]; done) | (simp [*]; intros; omega)
set_option maxHeartbeats 1000000 in
theorem may_r (pe bk wd : Int) (w : World) (h1 : I64 pe) (h2 : I64 bk) (h3 : I64 wd) :
    Calls Try.prog 11 #[.agg #[.int .i64 pe, .int .i64 bk], .int .i64 wd] w fun e w' => e = .returned (.bool (mayS pe bk wd)) ∧ Below w.heap.size w w' := by
  unfold I64 at h1 h2 h3
  have hb := (Below.refl w.heap.size w).alloc (Nat.le_refl _) (.cells #[.int .i64 pe, .int .i64 bk] 23)
  have HB := Lib.hid hb
  clear hb
  go_enter Try.func11, Try.ntmps11
  go_wp2_with fail
  all_goals
    go_ret
    refine ⟨ret_bool ?_, HB.out⟩
    unfold mayS
    first | (simp [*]; done) | (simp [*]; intros; omega)
set_option maxHeartbeats 1000000 in
theorem rright_any (pe bk wd now : Int) (w : World) (h1 : I64 pe) (h2 : I64 bk) (h3 : I64 wd) (h4 : I64 now) :
    Calls Try.prog 17 #[.agg #[.int .i64 pe, .int .i64 bk], .int .i64 wd, .int .i64 now] w fun e w' => e = .returned (.bool (rightS pe bk wd now)) ∧ Below w.heap.size w w' := by
  have HM := Lib.hid (may_r pe bk wd (w.alloc (.cells #[.int .i64 pe, .int .i64 bk] 23)) h1 h2 h3)
  have HB := Lib.hid ((Below.refl w.heap.size w).alloc (Nat.le_refl _) (.cells #[.int .i64 pe, .int .i64 bk] 23))
  unfold I64 at h1 h2 h3 h4
  obtain ⟨r, hr⟩ : ∃ r, rightS pe bk wd now = r := ⟨_, rfl⟩
  rw [hr]
  have HR := Lib.hid hr
  clear hr
  generalize hm : mayS pe bk wd = m at *
  have HM2 := Lib.hid hm
  clear hm
  go_enter Try.func17, Try.ntmps17
  go_wp2_with fail
  refine HM.out.mono ?_
  rintro e w2 ⟨rfl, b2⟩
  have HB2 : Hid (Below w.heap.size w w2) := Lib.hid (HB.out.trans (b2.mono (by simp)))
  clear b2
  go_wp2_with fail
  all_goals
    go_ret
    refine ⟨ret_bool ?_, HB2.out⟩
    rw [← HR.out]
    unfold rightS
    rw [HM2.out]
    first | (simp [*]; done) | (simp [*]; intros; omega)
set_option maxHeartbeats 1000000 in
theorem right_nil (pe bk now : Int) (w : World) :
    Calls Try.prog 26 #[.pointer none, .agg #[.int .i64 pe, .int .i64 bk], .int .i64 now] w fun e w' => e = .returned (.bool false) ∧ Below w.heap.size w w' := by
  have HB := Lib.hid ((Below.refl w.heap.size w).alloc (Nat.le_refl _) (.cells #[.int .i64 pe, .int .i64 bk] 23))
  go_enter Try.func26, Try.ntmps26
  go_wp2_with fail
  go_quiet (fail)
  go_wp2_with fail
  go_ret
  exact ⟨rfl, bdrewN HB.out nq⟩
set_option maxHeartbeats 1000000 in
theorem right_any (p : Nat) (pe bk wd now : Int) (w : World) (hc : w.cell? ⟨p, 0, none⟩ = some (.int .i64 wd)) (hp : p < w.heap.size) (h1 : I64 pe) (h2 : I64 bk) (h3 : I64 wd) (h4 : I64 now) :
    Calls Try.prog 26 #[.pointer (some ⟨p, 0, none⟩), .agg #[.int .i64 pe, .int .i64 bk], .int .i64 now] w fun e w' => e = .returned (.bool (rightS pe bk wd now)) ∧ Below w.heap.size w w' := by
  obtain ⟨W, hW⟩ : ∃ W, (w.alloc (.cells #[.int .i64 pe, .int .i64 bk] 23)) = W := ⟨_, rfl⟩
  have HBW : Hid (Below w.heap.size w W) := Lib.hid (by rw [← hW]; exact (Below.refl w.heap.size w).alloc (Nat.le_refl _) _)
  have hcW : W.drew.cell? ⟨p, 0, none⟩ = some (.int .i64 wd) := (HBW.out.cell (p := ⟨p, 0, none⟩) hp).trans hc
  have HWI := Lib.hid (width_any p wd W.drew hcW)
  have HMA := Lib.hid (may_s pe bk wd W.drew h1 h2 h3)
  have hbk := Bk.new w [.int .i64 pe, .int .i64 bk] 23
  have s0 : W.drew.cell? ⟨w.heap.size, 0, none⟩ = some (.int .i64 pe) := by rw [← hW]; exact hbk.cell 0
  have s1 : W.drew.cell? ⟨w.heap.size, 1, none⟩ = some (.int .i64 bk) := by rw [← hW]; exact hbk.cell 1
  unfold I64 at h1 h2 h3 h4
  obtain ⟨r, hr⟩ : ∃ r, rightS pe bk wd now = r := ⟨_, rfl⟩
  rw [hr]
  have HR := Lib.hid hr
  clear hr hbk hc
  generalize hm : mayS pe bk wd = m at *
  have HM2 := Lib.hid hm
  have hwz : W.heap.size = w.heap.size + 1 := by rw [← hW]; simp
  have HWZ := Lib.hid hwz
  have HWW := Lib.hid hW
  clear hm hwz hW
  cases m with
  | false =>
    have e : r = false := by rw [← HR.out]; unfold rightS; rw [HM2.out]; rfl
    subst e
    go_enter Try.func26, Try.ntmps26
    go_wp2_with fail
    rw [HWW.out]
    (first
          | (go_region_with (first
              | (go_at_call 18
                 refine HWI.out.mono ?_
                 rintro e wx ⟨rfl, rfl⟩)
              | (go_at_call 10
                 refine HMA.out.mono ?_
                 rintro e w2 ⟨rfl, b2⟩
                 have HB2 : Hid (Below w.heap.size w w2) := Lib.hid (HBW.out.drew.trans (b2.mono (by have := HWZ.out; show w.heap.size ≤ W.heap.size; omega)))
                 clear b2)))
          | fail)
    all_goals
      go_wp2_with fail
      go_ret
      exact ⟨rfl, HB2.out⟩
  | true =>
    by_cases c1 : 0 ≤ now
    · by_cases c2 : now ≤ 1099511627776
      all_goals
        have e : r = decide (now ≤ 1099511627776) := by rw [← HR.out]; unfold rightS; rw [HM2.out]; simp [c1]
        subst e
        have t2 : decide (0 ≤ now) = true := decide_eq_true c1
        try (have t3 : decide (now ≤ 1099511627776) = true := decide_eq_true c2; rw [t3])
        try (have t3 : decide (now ≤ 1099511627776) = false := decide_eq_false c2; rw [t3])
        go_enter Try.func26, Try.ntmps26
        go_wp2_with fail
        rw [HWW.out]
        go_region_held3 (fun X => X.cell? ⟨w.heap.size, 0, none⟩ = some (.int .i64 pe) ∧ X.cell? ⟨w.heap.size, 1, none⟩ = some (.int .i64 bk)) (first | exact ⟨s0, s1⟩ | assumption)
          (first
            | (go_at_call 18
               (with_reducible refine HWI.out.mono ?_)
               rintro e wx ⟨rfl, rfl⟩)
            | (go_at_call 10
               (with_reducible refine HMA.out.mono ?_)
               rintro e w2 ⟨rfl, b2⟩
               have HB2 : Hid (Below w.heap.size w w2) := Lib.hid (HBW.out.drew.trans (b2.mono (by have := HWZ.out; show w.heap.size ≤ W.heap.size; omega)))
               have hS2 : w2.cell? ⟨w.heap.size, 0, none⟩ = some (.int .i64 pe) ∧ w2.cell? ⟨w.heap.size, 1, none⟩ = some (.int .i64 bk) := ⟨(b2.cell (p := ⟨w.heap.size, 0, none⟩) (by have := HWZ.out; show w.heap.size < W.heap.size; omega)).trans s0, (b2.cell (p := ⟨w.heap.size, 1, none⟩) (by have := HWZ.out; show w.heap.size < W.heap.size; omega)).trans s1⟩
               clear b2)
            | fail)
        go_wp2_with fail
        go_ret
        exact ⟨rfl, HB2.out⟩
    · have e : r = false := by rw [← HR.out]; unfold rightS; rw [HM2.out]; simp [c1]
      subst e
      have t2 : decide (0 ≤ now) = false := decide_eq_false c1
      go_enter Try.func26, Try.ntmps26
      go_wp2_with fail
      rw [HWW.out]
      (first
            | (go_region_with (first
                | (go_at_call 18
                   refine HWI.out.mono ?_
                   rintro e wx ⟨rfl, rfl⟩)
                | (go_at_call 10
                   refine HMA.out.mono ?_
                   rintro e w2 ⟨rfl, b2⟩
                   have HB2 : Hid (Below w.heap.size w w2) := Lib.hid (HBW.out.drew.trans (b2.mono (by have := HWZ.out; show w.heap.size ≤ W.heap.size; omega)))
                   clear b2)))
            | fail)
      all_goals
        go_wp2_with fail
        go_ret
        exact ⟨rfl, HB2.out⟩
end Go.Proofs.Ytlmonbclloamiaa

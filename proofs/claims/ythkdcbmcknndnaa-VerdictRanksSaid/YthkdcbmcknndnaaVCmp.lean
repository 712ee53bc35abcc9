/- The closure of Rank, and Less of the document: two rows held against one another. -/
import Derived.Test.YthkdcbmcknndnaaVRate
import Derived.Deep.DeepCutAuto
namespace Go.Proofs.Ythkdcbmcknndnaa
open Go.RowKit Go.ChangeShapes Go.WideShapes
set_option linter.unusedVariables false
set_option linter.unusedSimpArgs false
namespace Rk
/-- the boxes of two rows, in W -/
def Box2 (g k : Nat) (x y : Rw) (W : World) : Prop :=
  W.cell? ⟨g, 0, none⟩ = some (.string x.arm) ∧ W.cell? ⟨g, 1, none⟩ = some (.int .i64 x.pe) ∧ W.cell? ⟨g, 2, none⟩ = some (.int .i64 x.bo) ∧ W.cell? ⟨g, 3, none⟩ = some (.int .i64 x.wo) ∧
  W.cell? ⟨k, 0, none⟩ = some (.string y.arm) ∧ W.cell? ⟨k, 1, none⟩ = some (.int .i64 y.pe) ∧ W.cell? ⟨k, 2, none⟩ = some (.int .i64 y.bo) ∧ W.cell? ⟨k, 3, none⟩ = some (.int .i64 y.wo)
theorem box2_of {g k : Nat} {x y : Rw} {W : World} {t t' : TypeId} (h1 : Bk W g (rwC x) t) (h2 : Bk W k (rwC y) t') : Box2 g k x y W :=
  ⟨h1.cell 0, h1.cell 1, h1.cell 2, h1.cell 3, h2.cell 0, h2.cell 1, h2.cell 2, h2.cell 3⟩
set_option maxHeartbeats 2000000 in
theorem rank1_any (x y : Rw) (w : World) (hx : Ok x) (hy : Ok y) :
    Calls Try.prog 14 #[rwV x, rwV y] w fun e w' => e = .returned (.int .i64 (cRw x y)) ∧ Below w.heap.size w w' := by
  obtain ⟨r, hr⟩ : ∃ r, cRw x y = r := ⟨_, rfl⟩
  rw [hr]
  have HR := Lib.hid hr
  clear hr
  have b1 := rt_bd hx
  have b2 := rt_bd hy
  have HRX : Hid (∀ W, Calls Try.prog 17 #[rwV x] W fun e w' => e = .returned (.agg #[.int .i64 (rtN x), .int .i64 (rtD x)]) ∧ Below W.heap.size W w') := Lib.hid (rateG x)
  have HRY : Hid (∀ W, Calls Try.prog 17 #[rwV y] W fun e w' => e = .returned (.agg #[.int .i64 (rtN y), .int .i64 (rtD y)]) ∧ Below W.heap.size W w') := Lib.hid (rateG y)
  have HC : Hid (∀ W, Calls Try.prog 16 #[.agg #[.int .i64 (rtN y), .int .i64 (rtD y)], .agg #[.int .i64 (rtN x), .int .i64 (rtD x)]] W fun e w' => e = .returned (.int .i64 (cR y x)) ∧ Below W.heap.size W w') := Lib.hid (fun W => compare_any _ _ _ _ W b2.1.2 b2.2.2 b1.1.2 b1.2.2)
  have HCI : Hid (∀ W, Calls Try.prog 18 #[.int .i64 y.pe, .int .i64 x.pe] W fun e w' => e = .returned (.int .i64 (cI y.pe x.pe)) ∧ W = w') := Lib.hid (fun W => cmpI_any _ _ W)
  have HCB : Hid (∀ W, Calls Try.prog 19 #[.string x.arm, .string y.arm] W fun e w' => e = .returned (.int .i64 (cB x.arm y.arm)) ∧ W = w') := Lib.hid (fun W => cmpS_any _ _ W)
  have HO : Hid (∀ W k, Bk W k [.int .i64 (cR y x), .int .i64 (cI y.pe x.pe), .int .i64 (cB x.arm y.arm)] 3 → Calls Try.prog 15 #[.slice (some ⟨k, 0, none⟩) 3 3] W fun e w' => e = .returned (.int .i64 r) ∧ W = w') := Lib.hid (fun W k hk => by
    rw [← HR.out]; exact or3_any _ _ _ k W hk)
  have hB : Below w.heap.size w ((w.alloc (.cells (rwC x).toArray 24)).alloc (.cells (rwC y).toArray 24)) := ((Below.refl _ _).alloc (Nat.le_refl _) _).alloc (by simp) _
  have h2 := Bk.new (w.alloc (.cells (rwC x).toArray 24)) (rwC y) 24
  have h1 := (Bk.new w (rwC x) 24).old (.cells (rwC y).toArray 24)
  rw [World.size_alloc] at h2
  have HB := Lib.hid hB
  have HBX := Lib.hid (box2_of h1 h2)
  clear hB h1 h2 b1 b2 HR
  generalize cR y x = c1 at *
  generalize cI y.pe x.pe = c2 at *
  generalize cB x.arm y.arm = c3 at *
  unfold rwV at *
  unfold rwC at *
  generalize rtN x = nx at *
  generalize rtD x = dx at *
  generalize rtN y = ny at *
  generalize rtD y = dy at *
  obtain ⟨xa, xp, xb, xw⟩ := x
  obtain ⟨ya, yp, yb, yw⟩ := y
  clear hx hy
  go_enter Try.func14, Try.ntmps14
  go_upto_region 1 with fail
  generalize hV : (w.alloc (.cells #[.string xa, .int .i64 xp, .int .i64 xb, .int .i64 xw] 24)).alloc (.cells #[.string ya, .int .i64 yp, .int .i64 yb, .int .i64 yw] 24) = V at *
  have HS : Hid (∀ W, Below V.heap.size V W → Box2 w.heap.size (w.heap.size + 1) ⟨xa, xp, xb, xw⟩ ⟨ya, yp, yb, yw⟩ W) := Lib.hid (fun W hW => by
    have h := HBX.out
    have z1 : w.heap.size < V.heap.size := by rw [← hV]; simp; omega
    have z2 : w.heap.size + 1 < V.heap.size := by rw [← hV]; simp
    have k := fun g i hg => hW.cell (p := ⟨g, i, none⟩) hg
    obtain ⟨a0, a1, a2, a3, a4, a5, a6, a7⟩ := h
    exact ⟨(k _ _ z1).trans a0, (k _ _ z1).trans a1, (k _ _ z1).trans a2, (k _ _ z1).trans a3, (k _ _ z2).trans a4, (k _ _ z2).trans a5, (k _ _ z2).trans a6, (k _ _ z2).trans a7⟩)
  clear hV HBX
  unfold Box2 at HS
  have H0 : Hid (∀ (W : World) (a b c : Int), Bk (W.alloc (.cells #[.int .i64 a, .int .i64 b, .int .i64 c] 3)) W.heap.size [.int .i64 a, .int .i64 b, .int .i64 c] 3) := Lib.hid (fun W a b c => Bk.new W [.int .i64 a, .int .i64 b, .int .i64 c] 3)
  go_region_held3 (fun X => X.cell? ⟨w.heap.size, 0, none⟩ = some (.string xa) ∧ X.cell? ⟨w.heap.size, 1, none⟩ = some (.int .i64 xp) ∧ X.cell? ⟨w.heap.size, 2, none⟩ = some (.int .i64 xb) ∧ X.cell? ⟨w.heap.size, 3, none⟩ = some (.int .i64 xw) ∧ X.cell? ⟨w.heap.size + 1, 0, none⟩ = some (.string ya) ∧ X.cell? ⟨w.heap.size + 1, 1, none⟩ = some (.int .i64 yp) ∧ X.cell? ⟨w.heap.size + 1, 2, none⟩ = some (.int .i64 yb) ∧ X.cell? ⟨w.heap.size + 1, 3, none⟩ = some (.int .i64 yw))
    ((refine HS.out _ ?_; repeat (first | assumption | exact Below.refl _ _ | refine Below.drew ?_ | refine bel_alloc ?_ _)))
    (first
      | (go_at_call 17
         first
         | ((with_reducible refine (HRY.out _).mono ?_); rintro e wx ⟨rfl, bx⟩; have bv := bel_trans (V := V) (by repeat (first | assumption | exact Below.refl _ _ | refine Below.drew ?_ | refine bel_alloc ?_ _)) bx)
         | ((with_reducible refine (HRX.out _).mono ?_); rintro e wx ⟨rfl, bx⟩; have bv := bel_trans (V := V) (by repeat (first | assumption | exact Below.refl _ _ | refine Below.drew ?_ | refine bel_alloc ?_ _)) bx)
         | fail)
      | (go_at_call 16
         (with_reducible refine (HC.out _).mono ?_); rintro e wx ⟨rfl, bx⟩; have bv := bel_trans (V := V) (by repeat (first | assumption | exact Below.refl _ _ | refine Below.drew ?_ | refine bel_alloc ?_ _)) bx)
      | (go_at_call 18
         (with_reducible refine (HCI.out _).mono ?_); rintro e wx ⟨rfl, rfl⟩)
      | (go_at_call 19
         (with_reducible refine (HCB.out _).mono ?_); rintro e wx ⟨rfl, rfl⟩)
      | (go_at_call 15
         (with_reducible refine (HO.out _ _ (H0.out _ _ _ _)).mono ?_); rintro e wx ⟨rfl, rfl⟩)
      | fail)
  all_goals
    go_wp2_with fail
    go_ret
    refine ⟨rfl, bel_trans HB.out ?_⟩
    repeat (first | assumption | exact Below.refl _ _ | refine Below.drew ?_ | refine bel_alloc ?_ _)
theorem ltRw_eq (x y : Rw) : ltRw x y = if cR x y ≠ 0 then decide (0 < cR x y) else if x.pe ≠ y.pe then decide (y.pe < x.pe) else decide (ltB x.arm y.arm) := by
  unfold ltRw LT
  have h := cR_turn y x
  by_cases h1 : cR x y = 0
  · rw [if_neg (by simpa using h1)]
    by_cases h2 : x.pe = y.pe
    · rw [if_neg (by simpa using h2)]
      refine decide_eq_decide.2 ⟨fun k => ?_, fun k => .inr ⟨by omega, .inr ⟨h2.symm, k⟩⟩⟩
      rcases k with k | ⟨_, k | ⟨_, k⟩⟩
      · omega
      · omega
      · exact k
    · rw [if_pos h2]
      refine decide_eq_decide.2 ⟨fun k => ?_, fun k => .inr ⟨by omega, .inl k⟩⟩
      rcases k with k | ⟨_, k | ⟨k, _⟩⟩
      · omega
      · exact k
      · omega
  · rw [if_pos h1]
    refine decide_eq_decide.2 ⟨fun k => ?_, fun k => .inl (by omega)⟩
    rcases k with k | ⟨k, _⟩
    · omega
    · omega
set_option maxHeartbeats 2000000 in
theorem less_rw (x y : Rw) (w : World) (hx : Ok x) (hy : Ok y) :
    Calls Try.prog 20 #[rwV x, rwV y] w fun e w' => e = .returned (.bool (ltRw x y)) ∧ Below w.heap.size w w' := by
  rw [ltRw_eq]
  have b1 := rt_bd hx
  have b2 := rt_bd hy
  have HRX : Hid (∀ W, Calls Try.prog 28 #[rwV x] W fun e w' => e = .returned (.agg #[.int .i64 (rtN x), .int .i64 (rtD x)]) ∧ Below W.heap.size W w') := Lib.hid (rateD x)
  have HRY : Hid (∀ W, Calls Try.prog 28 #[rwV y] W fun e w' => e = .returned (.agg #[.int .i64 (rtN y), .int .i64 (rtD y)]) ∧ Below W.heap.size W w') := Lib.hid (rateD y)
  have HC : Hid (∀ W, Calls Try.prog 27 #[.agg #[.int .i64 (rtN x), .int .i64 (rtD x)], .agg #[.int .i64 (rtN y), .int .i64 (rtD y)]] W fun e w' => e = .returned (.int .i64 (cR x y)) ∧ Below W.heap.size W w') := Lib.hid (fun W => rcompare_any _ _ _ _ W b1.1.2 b1.2.2 b2.1.2 b2.2.2)
  have hB : Below w.heap.size w ((w.alloc (.cells (rwC x).toArray 24)).alloc (.cells (rwC y).toArray 24)) := ((Below.refl _ _).alloc (Nat.le_refl _) _).alloc (by simp) _
  have h2 := Bk.new (w.alloc (.cells (rwC x).toArray 24)) (rwC y) 24
  have h1 := (Bk.new w (rwC x) 24).old (.cells (rwC y).toArray 24)
  rw [World.size_alloc] at h2
  have HB := Lib.hid hB
  have HBX := Lib.hid (box2_of h1 h2)
  clear hB h1 h2 b1 b2
  generalize cR x y = c1 at *
  unfold rwV at *
  unfold rwC at *
  generalize rtN x = nx at *
  generalize rtD x = dx at *
  generalize rtN y = ny at *
  generalize rtD y = dy at *
  obtain ⟨xa, xp, xb, xw⟩ := x
  obtain ⟨ya, yp, yb, yw⟩ := y
  clear hx hy
  obtain ⟨r, hr⟩ : ∃ r, (if c1 ≠ 0 then decide (0 < c1) else if xp ≠ yp then decide (yp < xp) else decide (ltB xa ya)) = r := ⟨_, rfl⟩
  show Calls _ _ _ _ fun e w' => e = .returned (.bool (if c1 ≠ 0 then decide (0 < c1) else if xp ≠ yp then decide (yp < xp) else decide (ltB xa ya))) ∧ Below w.heap.size w w'
  rw [hr]
  have HR := Lib.hid hr
  clear hr
  go_enter Try.func20, Try.ntmps20
  go_upto_region 1 with fail
  generalize hV : (w.alloc (.cells #[.string xa, .int .i64 xp, .int .i64 xb, .int .i64 xw] 24)).alloc (.cells #[.string ya, .int .i64 yp, .int .i64 yb, .int .i64 yw] 24) = V at *
  have HS : Hid (∀ W, Below V.heap.size V W → Box2 w.heap.size (w.heap.size + 1) ⟨xa, xp, xb, xw⟩ ⟨ya, yp, yb, yw⟩ W) := Lib.hid (fun W hW => by
    have h := HBX.out
    have z1 : w.heap.size < V.heap.size := by rw [← hV]; simp; omega
    have z2 : w.heap.size + 1 < V.heap.size := by rw [← hV]; simp
    have k := fun g i hg => hW.cell (p := ⟨g, i, none⟩) hg
    obtain ⟨a0, a1, a2, a3, a4, a5, a6, a7⟩ := h
    exact ⟨(k _ _ z1).trans a0, (k _ _ z1).trans a1, (k _ _ z1).trans a2, (k _ _ z1).trans a3, (k _ _ z2).trans a4, (k _ _ z2).trans a5, (k _ _ z2).trans a6, (k _ _ z2).trans a7⟩)
  clear hV HBX
  unfold Box2 at HS
  go_cut [5] (fun s5 wx => s5 = .int .i64 c1 ∧ Below V.heap.size V wx)
  case first =>
    go_region_held3 (fun X => X.cell? ⟨w.heap.size, 0, none⟩ = some (.string xa) ∧ X.cell? ⟨w.heap.size, 1, none⟩ = some (.int .i64 xp) ∧ X.cell? ⟨w.heap.size, 2, none⟩ = some (.int .i64 xb) ∧ X.cell? ⟨w.heap.size, 3, none⟩ = some (.int .i64 xw) ∧ X.cell? ⟨w.heap.size + 1, 0, none⟩ = some (.string ya) ∧ X.cell? ⟨w.heap.size + 1, 1, none⟩ = some (.int .i64 yp) ∧ X.cell? ⟨w.heap.size + 1, 2, none⟩ = some (.int .i64 yb) ∧ X.cell? ⟨w.heap.size + 1, 3, none⟩ = some (.int .i64 yw))
      ((refine HS.out _ ?_; repeat (first | assumption | exact Below.refl _ _ | refine Below.drew ?_ | refine bel_alloc ?_ _)))
      (first
        | (go_at_call 28
           first
           | ((with_reducible refine (HRX.out _).mono ?_); rintro e wx ⟨rfl, bx⟩; have bv := bel_trans (V := V) (by repeat (first | assumption | exact Below.refl _ _ | refine Below.drew ?_ | refine bel_alloc ?_ _)) bx)
           | ((with_reducible refine (HRY.out _).mono ?_); rintro e wx ⟨rfl, bx⟩; have bv := bel_trans (V := V) (by repeat (first | assumption | exact Below.refl _ _ | refine Below.drew ?_ | refine bel_alloc ?_ _)) bx)
           | fail)
        | (go_at_call 27
           (with_reducible refine (HC.out _).mono ?_); rintro e wx ⟨rfl, bx⟩; have bv := bel_trans (V := V) (by repeat (first | assumption | exact Below.refl _ _ | refine Below.drew ?_ | refine bel_alloc ?_ _)) bx)
        | fail)
    all_goals
      go_wp2_with fail
      go_meet
      exact ⟨rfl, by assumption⟩
  case rest =>
    obtain ⟨rfl, bX⟩ := hcut
    obtain ⟨a0, a1, a2, a3, a4, a5, a6, a7⟩ := HS.out _ bX
    by_cases h1 : c1 = 0
    · have t1 : ((c1 : Int) == 0) = true := by simp [h1]
      have t2 : ((c1 : Int) != 0) = false := by simp [h1]
      have hr := HR.out
      rw [if_neg (by simpa using h1)] at hr
      by_cases h2 : xp = yp
      · have t3 : ((xp : Int) == yp) = true := by simp [h2]
        have t4 : ((xp : Int) != yp) = false := by simp [h2]
        rw [if_neg (by simpa using h2)] at hr
        have t5 : Op.bytesLess xa.toList ya.toList = r := by rw [bytesLess_lt]; exact hr
        clear h1 h2 hr
        go_wp2_with fail
        go_ret
        exact ⟨rfl, bel_trans HB.out bX⟩
      · have t3 : ((xp : Int) == yp) = false := by simp [h2]
        have t4 : ((xp : Int) != yp) = true := by simp [h2]
        rw [if_pos h2] at hr
        clear h1 h2
        go_wp2_with fail
        go_ret
        exact ⟨by first | rfl | simp_all, bel_trans HB.out bX⟩
    · have t1 : ((c1 : Int) == 0) = false := by simp [h1]
      have t2 : ((c1 : Int) != 0) = true := by simp [h1]
      have hr := HR.out
      rw [if_pos h1] at hr
      clear h1
      go_wp2_with fail
      go_ret
      exact ⟨by first | rfl | simp_all, bel_trans HB.out bX⟩
end Rk
end Go.Proofs.Ythkdcbmcknndnaa

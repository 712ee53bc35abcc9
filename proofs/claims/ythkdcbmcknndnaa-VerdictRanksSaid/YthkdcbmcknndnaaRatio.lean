/- Contracts of package ratio: May, Product, Compare. -/
import Derived.Test.YthkdcbmcknndnaaProg
import Derived.Test.YthkdcbmcknndnaaWide
import Derived.WalkKit
import Derived.WalkSpells
import Derived.WalkLawsBesides
import Derived.Lib.Hide
import Derived.RegionTactic
namespace Go.Proofs.Ythkdcbmcknndnaa
open Go.RowKit Wide
set_option linter.unusedVariables false

def mayB (a b : Int) : Bool := decide (0 ≤ a ∧ 1 ≤ b)

theorem may_any (a b : Int) (w : World) :
    Calls Try.prog 23 #[.agg #[.int .i64 a, .int .i64 b]] w fun e w' => e = .returned (.bool (mayB a b)) ∧ w.alloc (.cells #[.int .i64 a, .int .i64 b] 35) = w' := by
  by_cases h1 : 0 ≤ a
  · by_cases h2 : 1 ≤ b
    · have e : mayB a b = true := by simp [mayB, h1, h2]
      rw [e]
      go_enter Try.func23, Try.ntmps23
      go_wp2
      go_ret
      exact ⟨rfl, rfl⟩
    · have e : mayB a b = false := by simp [mayB, h1, h2]
      rw [e]
      go_enter Try.func23, Try.ntmps23
      go_wp2
      go_ret
      exact ⟨rfl, rfl⟩
  · have e : mayB a b = false := by simp [mayB, h1]
    rw [e]
    go_enter Try.func23, Try.ntmps23
    go_wp2
    go_ret
    exact ⟨rfl, rfl⟩

set_option maxHeartbeats 800000 in
theorem product_pos (a b : Int) (w : World) (ha : 1 ≤ a) (hb : 1 ≤ b) (ha2 : a ≤ 9223372036854775807) (hb2 : b ≤ 9223372036854775807) :
    Calls Try.prog 24 #[.int .i64 a, .int .i64 b] w fun e w' => e = .returned (.tuple #[.int .u64 (hi (prod a b)), .int .u64 (lo (prod a b))]) ∧ w = w' := by
  rw [prod_pos a b ha hb]
  obtain ⟨xl, yl, p0, p1, p2, p3, e1, e2, e3, e4, e5, e6, hv, b1, b2, b3, b4, hV⟩ := parts a b ha hb ha2 hb2
  have hle := mul_le a b (by omega) (by omega) ha2 hb2
  have hV0 : p0 * 18446744073709551616 + p3 ≤ 85070591730234615865843651857942052864 := by omega
  have hV1 : p0 * 18446744073709551616 + p3 + p1 * 4294967296 ≤ 85070591730234615865843651857942052864 := by omega
  rw [← hV]
  have HV := Lib.hid hv
  generalize p0 * 18446744073709551616 + p3 = V0 at *
  have HV0 := Lib.hid hV0
  have HV1 := Lib.hid hV1
  clear hv hV hle hV0 hV1
  have t1 : decide (a ≤ 0) = false := by simp; omega
  have t2 : decide (b ≤ 0) = false := by simp; omega
  have i0 : ∀ w, (Instr.index 61 (.agg #[.int .u64 p1, .int .u64 p2]) (.int .i64 0)).run Try.prog w = .ok (.int .u64 p1) w := fun _ => by kernel_rfl
  have i1 : ∀ w, (Instr.index 61 (.agg #[.int .u64 p1, .int .u64 p2]) (.int .i64 1)).run Try.prog w = .ok (.int .u64 p2) w := fun _ => by kernel_rfl
  go_enter Try.func24, Try.ntmps24
  go_wp2_with fail
  clear e1 e2 e3 e4 e5 e6 t1 t2
  go_loop [4, 5, 46] (fun h l i => ∃ H L : Int, h = .int .u64 H ∧ l = .int .u64 L ∧ ((i = .int .i64 0 ∧ Val V0 H L) ∨ (i = .int .i64 1 ∧ Val (V0 + p1 * 4294967296) H L) ∨ (i = .int .i64 2 ∧ Val (V0 + p1 * 4294967296 + p2 * 4294967296) H L))) (fun _ _ i => 2 - (intOf i).toNat)
  case atStart => exact ⟨_, _, rfl, rfl, .inl ⟨rfl, HV.out⟩⟩
  case round =>
    obtain ⟨H, L, rfl, rfl, ⟨rfl, hr⟩ | ⟨rfl, hr⟩ | ⟨rfl, hr⟩⟩ := hrel
    · obtain ⟨c1, c2, c3, c4⟩ := val_bd hr HV0.out
      have HR := Lib.hid hr
      clear hr i1
      go_wp2_with fail
      · go_round
        case rel => exact ⟨_, _, rfl, rfl, .inr (.inl ⟨rfl, val_yes HR.out b1 b2 (by assumption)⟩)⟩
        case measure => simp [intOf]
      · go_round
        case rel => exact ⟨_, _, rfl, rfl, .inr (.inl ⟨rfl, val_no HR.out b1 b2 (by omega)⟩)⟩
        case measure => simp [intOf]
    · obtain ⟨c1, c2, c3, c4⟩ := val_bd hr HV1.out
      have HR := Lib.hid hr
      clear hr i0
      go_wp2_with fail
      · go_round
        case rel => exact ⟨_, _, rfl, rfl, .inr (.inr ⟨rfl, val_yes HR.out b3 b4 (by assumption)⟩)⟩
        case measure => simp [intOf]
      · go_round
        case rel => exact ⟨_, _, rfl, rfl, .inr (.inr ⟨rfl, val_no HR.out b3 b4 (by omega)⟩)⟩
        case measure => simp [intOf]
    · have HR := Lib.hid hr
      clear hr
      go_wp2_with fail
      go_ret2
      have h1 := val_hi HR.out
      have h2 := val_lo HR.out
      subst h1 h2
      exact ⟨rfl, rfl⟩

theorem product_no (a b : Int) (w : World) (h : a ≤ 0 ∨ b ≤ 0) :
    Calls Try.prog 24 #[.int .i64 a, .int .i64 b] w fun e w' => e = .returned (.tuple #[.int .u64 (hi (prod a b)), .int .u64 (lo (prod a b))]) ∧ w = w' := by
  rw [prod_no a b h, show hi 0 = 0 from rfl, show lo 0 = 0 from rfl]
  by_cases ha : a ≤ 0
  · clear h
    go_enter Try.func24, Try.ntmps24
    go_wp2_with fail
    go_ret2
    exact ⟨rfl, rfl⟩
  · have hb : b ≤ 0 := by omega
    clear h
    go_enter Try.func24, Try.ntmps24
    go_wp2_with fail
    go_ret2
    exact ⟨rfl, rfl⟩

theorem product_any (a b : Int) (w : World) (ha2 : a ≤ 9223372036854775807) (hb2 : b ≤ 9223372036854775807) :
    Calls Try.prog 24 #[.int .i64 a, .int .i64 b] w fun e w' => e = .returned (.tuple #[.int .u64 (hi (prod a b)), .int .u64 (lo (prod a b))]) ∧ w = w' := by
  by_cases ha : a ≤ 0
  · exact product_no a b w (.inl ha)
  · by_cases hb : b ≤ 0
    · exact product_no a b w (.inr hb)
    · exact product_pos a b w (by omega) (by omega) ha2 hb2

/-- the fraction as Compare takes it: its own, or 0 over 1 -/
def ownN (a b : Int) : Int := if mayB a b then a else 0
def ownD (a b : Int) : Int := if mayB a b then b else 1
def cmpW (x y : Int) : Int := if x < y then -1 else if x = y then 0 else 1
/-- what Compare tells -/
def cmpR (a b c d : Int) : Int := cmpW (prod (ownN a b) (ownD c d)) (prod (ownN c d) (ownD a b))

theorem bel3 (w : World) (o1 o2 o3 : Obj) : Below w.heap.size w (((w.alloc o1).alloc o2).alloc o3) :=
  (((Below.refl _ _).alloc (Nat.le_refl _) _).alloc (by simp) _).alloc (by simp; omega) _
theorem bel4 (w : World) (o1 o2 o3 o4 : Obj) : Below w.heap.size w ((((w.alloc o1).alloc o2).alloc o3).alloc o4) :=
  (bel3 w o1 o2 o3).alloc (by simp; omega) _
theorem cmpW_lt {x y : Int} (h : x < y) : cmpW x y = -1 := by unfold cmpW; rw [if_pos h]
theorem cmpW_eq {x y : Int} (h : x = y) : cmpW x y = 0 := by unfold cmpW; rw [if_neg (by omega), if_pos h]
theorem cmpW_gt {x y : Int} (h : y < x) : cmpW x y = 1 := by unfold cmpW; rw [if_neg (by omega), if_neg (by omega)]
theorem names {z x y : Int} (h : z = cmpW x y) : ∃ X Y, Hid (x = X) ∧ Hid (y = Y) ∧ z = cmpW X Y := ⟨x, y, rfl, rfl, h⟩
theorem ret_i64 {a b : Int} (h : a = b) : Ending.returned (.int .i64 a) = .returned (.int .i64 b) := by rw [h]

set_option maxHeartbeats 800000 in
/-- Compare -/
theorem compare_any (a b c d : Int) (w : World) (ha : a ≤ 9223372036854775807) (hb : b ≤ 9223372036854775807) (hc : c ≤ 9223372036854775807) (hd : d ≤ 9223372036854775807) :
    Calls Try.prog 16 #[.agg #[.int .i64 a, .int .i64 b], .agg #[.int .i64 c, .int .i64 d]] w fun e w' => e = .returned (.int .i64 (cmpR a b c d)) ∧ Below w.heap.size w w' := by
  have hcmp : cmpR a b c d = cmpW (prod (ownN a b) (ownD c d)) (prod (ownN c d) (ownD a b)) := rfl
  cases hm1 : mayB a b <;> cases hm2 : mayB c d
  all_goals
    simp only [ownN, ownD, hm1, hm2, if_true, if_false, Bool.false_eq_true] at hcmp
    obtain ⟨X, Y, HX, HY, hc⟩ := names hcmp
    rw [hc]
    clear hcmp hc
    go_enter Try.func16, Try.ntmps16
    go_wp2_with fail
    refine (may_any a b _).mono ?_
    rintro e w1 ⟨rfl, rfl⟩
    go_wp2_with fail
    refine (may_any c d _).mono ?_
    rintro e w1 ⟨rfl, rfl⟩
    go_wp2_with fail
    refine (product_any _ _ _ (by omega) (by omega)).mono ?_
    rintro e w1 ⟨rfl, rfl⟩
    rw [HX.out]
    go_wp2_with fail
    refine (product_any _ _ _ (by omega) (by omega)).mono ?_
    rintro e w1 ⟨rfl, rfl⟩
    rw [HY.out]
    have hT := lt_iff X Y
    have hE := eq_iff X Y
    have hG := lt_iff Y X
    have HT := Lib.hid hT
    have HE := Lib.hid hE
    have HG := Lib.hid hG
    clear hT hE hG hm1 hm2
    generalize hi X = p at *
    generalize lo X = q at *
    generalize hi Y = r at *
    generalize lo Y = s at *
    have T : p < r ∨ (p = r ∧ q < s) ∨ (p = r ∧ q = s) ∨ (p = r ∧ s < q) ∨ r < p := by omega
    rcases T with h | ⟨rfl, h⟩ | ⟨rfl, rfl⟩ | ⟨rfl, h⟩ | h
    · go_wp2_with fail
      go_ret
      exact ⟨ret_i64 (cmpW_lt (HT.out.1 (by simp [h]))).symm, bel4 _ _ _ _ _⟩
    · go_wp2_with fail
      go_ret
      exact ⟨ret_i64 (cmpW_lt (HT.out.1 (by simp [h]))).symm, bel4 _ _ _ _ _⟩
    · go_wp2_with fail
      go_ret
      exact ⟨ret_i64 (cmpW_eq (HE.out.1 (by simp))).symm, bel4 _ _ _ _ _⟩
    · go_wp2_with fail
      go_ret
      exact ⟨ret_i64 (cmpW_gt (HG.out.1 (by simp [h]))).symm, bel4 _ _ _ _ _⟩
    · go_wp2_with fail
      go_ret
      exact ⟨ret_i64 (cmpW_gt (HG.out.1 (by simp [h]))).symm, bel4 _ _ _ _ _⟩
end Go.Proofs.Ythkdcbmcknndnaa

/- Contracts of the references' long numbers: Plus, Less, Times, May, own, Compare. -/
import Derived.Test.YthkdcbmcknndnaaRatio
import Derived.Test.YthkdcbmcknndnaaTwo
import Derived.Deep.RegionHeld3
import Derived.Deep.RegionWith
import Derived.Deep.DeepCutAuto
namespace Go.Proofs.Ythkdcbmcknndnaa
open Go.RowKit Wide
set_option linter.unusedVariables false

/-- the sum, going round at 2^128 -/
def add (x y : Int) : Int := (x + y) % 340282366920938463463374607431768211456
theorem u64_wrap (n : Int) : IntKind.u64.wrap n = n % 18446744073709551616 := by
  simp [IntKind.wrap, IntKind.bits, IntKind.signed]
theorem add_bd (x y : Int) : 0 ≤ add x y ∧ add x y ≤ 340282366920938463463374607431768211455 := by unfold add; omega
theorem add_in {x y : Int} (h0 : 0 ≤ x + y) (h : x + y ≤ 340282366920938463463374607431768211455) : add x y = x + y := by unfold add; omega
theorem plus_lo (x y : Int) : IntKind.u64.wrap (lo x + lo y) = lo (add x y) := by
  rw [u64_wrap]; unfold lo add; omega
theorem plus_hi_yes (x y : Int) (hx : 0 ≤ x) (hy : 0 ≤ y) (h : IntKind.u64.wrap (lo x + lo y) < lo x) : IntKind.u64.wrap (IntKind.u64.wrap (hi x + hi y) + 1) = hi (add x y) := by
  rw [u64_wrap] at h; rw [u64_wrap, u64_wrap]; unfold lo at h; unfold hi add; omega
theorem plus_hi_no (x y : Int) (hx : 0 ≤ x) (hy : 0 ≤ y) (h : ¬ IntKind.u64.wrap (lo x + lo y) < lo x) : IntKind.u64.wrap (hi x + hi y) = hi (add x y) := by
  rw [u64_wrap] at h; rw [u64_wrap]; unfold lo at h; unfold hi add; omega

set_option maxHeartbeats 400000 in
theorem plus_any (x y : Int) (w : World) (hx : 0 ≤ x) (hy : 0 ≤ y) :
    Calls Try.prog 36 #[.agg #[.int .u64 (hi x), .int .u64 (lo x)], .agg #[.int .u64 (hi y), .int .u64 (lo y)]] w
      fun e w' => e = .returned (.agg #[.int .u64 (hi (add x y)), .int .u64 (lo (add x y))]) ∧ Below w.heap.size w w' := by
  by_cases h : IntKind.u64.wrap (lo x + lo y) < lo x
  · have e1 := plus_lo x y
    have e2 := plus_hi_yes x y hx hy h
    rw [e1] at h
    generalize hi (add x y) = p at *
    generalize lo (add x y) = q at *
    generalize lo x = l1 at *
    generalize lo y = l2 at *
    generalize hi x = h1 at *
    generalize hi y = h2 at *
    go_enter Try.func36, Try.ntmps36
    go_wp2_with fail
    refine bodyPost_ret (v := .agg #[.int .u64 p, .int .u64 q]) (by simp [results, Try.results36, go_sem]) rfl ⟨rfl, bel3 _ _ _ _⟩
  · have e1 := plus_lo x y
    have e2 := plus_hi_no x y hx hy h
    rw [e1] at h
    generalize hi (add x y) = p at *
    generalize lo (add x y) = q at *
    generalize lo x = l1 at *
    generalize lo y = l2 at *
    generalize hi x = h1 at *
    generalize hi y = h2 at *
    go_enter Try.func36, Try.ntmps36
    go_wp2_with fail
    refine bodyPost_ret (v := .agg #[.int .u64 p, .int .u64 q]) (by simp [results, Try.results36, go_sem]) rfl ⟨rfl, bel3 _ _ _ _⟩

/-- is it less? -/
def lessB (x y : Int) : Bool := decide (x < y)
theorem less_any (x y : Int) (w : World) :
    Calls Try.prog 33 #[.agg #[.int .u64 (hi x), .int .u64 (lo x)], .agg #[.int .u64 (hi y), .int .u64 (lo y)]] w
      fun e w' => e = .returned (.bool (lessB x y)) ∧ Below w.heap.size w w' := by
  have hT := lt_iff x y
  cases hb : lessB x y
  · have hn : ¬ x < y := by simpa [lessB] using hb
    rw [← hT] at hn
    clear hT hb
    generalize hi x = p at *
    generalize lo x = q at *
    generalize hi y = r at *
    generalize lo y = s at *
    have T : r < p ∨ (p = r ∧ s ≤ q) := by omega
    clear hn
    rcases T with h | ⟨rfl, h⟩
    · have h1 : decide (p < r) = false := by simp; omega
      have h2 : (p == r) = false := by simp; omega
      go_enter Try.func33, Try.ntmps33
      go_wp2_with fail
      go_ret
      exact ⟨rfl, bel2 _ _ _⟩
    · have h1 : decide (q < s) = false := by simp; omega
      go_enter Try.func33, Try.ntmps33
      go_wp2_with fail
      go_ret
      exact ⟨rfl, bel2 _ _ _⟩
  · have hn : x < y := by simpa [lessB] using hb
    rw [← hT] at hn
    clear hT hb
    generalize hi x = p at *
    generalize lo x = q at *
    generalize hi y = r at *
    generalize lo y = s at *
    rcases hn with h | ⟨rfl, h⟩
    · have h1 : decide (p < r) = true := by simp; omega
      go_enter Try.func33, Try.ntmps33
      go_wp2_with fail
      go_ret
      exact ⟨rfl, bel2 _ _ _⟩
    · have h1 : decide (q < s) = true := by simp; omega
      go_enter Try.func33, Try.ntmps33
      go_wp2_with fail
      go_ret
      exact ⟨rfl, bel2 _ _ _⟩

def TInv (w wr : World) (O X : Int) : Prop :=
  Below w.heap.size w wr ∧ Two wr w.heap.size (.int .u64 0) (.int .u64 0) 64 ∧ Two wr (w.heap.size + 1) (.int .u64 (hi O)) (.int .u64 (lo O)) 64 ∧ Two wr (w.heap.size + 1 + 1) (.int .u64 (hi X)) (.int .u64 (lo X)) 64
theorem TInv.bel {w wr w1 : World} {O X : Int} (h : TInv w wr O X) (hb : Below wr.heap.size wr w1) : TInv w w1 O X :=
  ⟨h.1.trans (hb.mono h.1.size), h.2.1.bel hb, h.2.2.1.bel hb, h.2.2.2.bel hb⟩
theorem TInv.put1 {w wr : World} {O X : Int} (h : TInv w wr O X) (O' : Int) :
    TInv w ((wr.setCell ⟨w.heap.size + 1, 0, none⟩ (.int .u64 (hi O'))).setCell ⟨w.heap.size + 1, 1, none⟩ (.int .u64 (lo O'))) O' X :=
  ⟨(h.1.setCell (by simp) _).setCell (by simp) _, h.2.1.other _ (by omega) _ _, h.2.2.1.set _ _, h.2.2.2.other _ (by omega) _ _⟩
theorem TInv.put2 {w wr : World} {O X : Int} (h : TInv w wr O X) (X' : Int) :
    TInv w ((wr.setCell ⟨w.heap.size + 1 + 1, 0, none⟩ (.int .u64 (hi X'))).setCell ⟨w.heap.size + 1 + 1, 1, none⟩ (.int .u64 (lo X'))) O X' :=
  ⟨(h.1.setCell (by simp; omega) _).setCell (by simp; omega) _, h.2.1.other _ (by omega) _ _, h.2.2.1.other _ (by omega) _ _, h.2.2.2.set _ _⟩

/-- what the loop keeps: out and x times what is left of b make the product -/
def Left (P O X B : Int) : Prop := 0 ≤ O ∧ 0 ≤ X ∧ 0 ≤ B ∧ O + X * B = P ∧ P ≤ 340282366920938463463374607431768211455
theorem left_odd {P O X B : Int} (h : Left P O X B) (hB : 0 < B) (h1 : B % 2 = 1) : Left P (add O X) (add X X) (B / 2) := by
  obtain ⟨a, b, c, d, e⟩ := h
  have hX : X ≤ X * B := by
    have := Int.mul_le_mul_of_nonneg_left (show (1 : Int) ≤ B by omega) b
    omega
  have e1 : add O X = O + X := add_in (by omega) (by omega)
  have hB2 : B = 2 * (B / 2) + 1 := by omega
  have hm : X * B = 2 * (X * (B / 2)) + X := by
    have : X * B = X * (2 * (B / 2) + 1) := by rw [← hB2]
    rw [this, Int.mul_add, Int.mul_one, ← Int.mul_assoc, Int.mul_comm X 2, Int.mul_assoc]
  by_cases hz : B / 2 = 0
  · refine ⟨by rw [e1]; omega, (add_bd X X).1, by omega, ?_, e⟩
    rw [hz] at hm
    rw [e1, hz]; simp only [Int.mul_zero] at *; omega
  · have hX2 : X ≤ X * (B / 2) := by
      have := Int.mul_le_mul_of_nonneg_left (show (1 : Int) ≤ B / 2 by omega) b
      omega
    have e2 : add X X = X + X := add_in (by omega) (by omega)
    refine ⟨by rw [e1]; omega, (add_bd X X).1, by omega, ?_, e⟩
    rw [e1, e2, Int.add_mul]; omega
theorem left_even {P O X B : Int} (h : Left P O X B) (hB : 0 < B) (h1 : B % 2 = 0) : Left P O (add X X) (B / 2) := by
  obtain ⟨a, b, c, d, e⟩ := h
  have hB2 : B = 2 * (B / 2) := by omega
  have hm : X * B = 2 * (X * (B / 2)) := by
    have : X * B = X * (2 * (B / 2)) := by rw [← hB2]
    rw [this, ← Int.mul_assoc, Int.mul_comm X 2, Int.mul_assoc]
  have hX2 : X ≤ X * (B / 2) := by
    have := Int.mul_le_mul_of_nonneg_left (show (1 : Int) ≤ B / 2 by omega) b
    omega
  have e2 : add X X = X + X := add_in (by omega) (by omega)
  refine ⟨a, (add_bd X X).1, by omega, ?_, e⟩
  rw [e2, Int.add_mul]; omega

set_option maxHeartbeats 1000000 in
theorem times_any (a b : Int) (w : World) (ha : 0 ≤ a) (hb : 0 ≤ b) (ha2 : a ≤ 18446744073709551615) (hb2 : b ≤ 18446744073709551615) :
    Calls Try.prog 32 #[.int .u64 a, .int .u64 b] w
      fun e w' => e = .returned (.agg #[.int .u64 (hi (a * b)), .int .u64 (lo (a * b))]) ∧ Below w.heap.size w w' := by
  have hPb : a * b ≤ 340282366920938463463374607431768211455 := by
    have := Int.mul_le_mul ha2 hb2 hb (by decide)
    have e : (18446744073709551615 : Int) * 18446744073709551615 ≤ 340282366920938463463374607431768211455 := by decide
    omega
  have hL : Left (a * b) 0 a b := ⟨by omega, ha, hb, by omega, hPb⟩
  have ea : lo a = a := by unfold lo; omega
  have ea2 : hi a = 0 := by unfold hi; omega
  generalize a * b = P at *
  have HL := Lib.hid hL
  have EA := Lib.hid ea
  have EA2 := Lib.hid ea2
  clear hPb hL ea ea2
  go_enter Try.func32, Try.ntmps32
  go_wp2_with fail
  go_loopw [1] (fun v wr => ∃ O X B : Int, v = .int .u64 B ∧ Left P O X B ∧ B ≤ 18446744073709551615 ∧ TInv w wr O X) (fun v _ => (intOf v).toNat)
  case atStart =>
    refine ⟨0, a, b, rfl, HL.out, hb2, bel3 _ _ _ _, ?_, ?_, ?_⟩
    · exact ((Two.new w _ _ _).old _).old _
    · have h := (Two.new (w.alloc (.cells #[.int .u64 0, .int .u64 0] 64)) (.int .u64 0) (.int .u64 0) 64).old (.cells #[.int .u64 0, .int .u64 a] 64)
      rw [show hi 0 = 0 from rfl, show lo 0 = 0 from rfl]
      simpa using h
    · rw [EA.out, EA2.out]
      have h := Two.new ((w.alloc (.cells #[.int .u64 0, .int .u64 0] 64)).alloc (.cells #[.int .u64 0, .int .u64 0] 64)) (.int .u64 0) (.int .u64 a) 64
      simpa using h
  case round =>
    obtain ⟨O, X, B, rfl, hL, hB2, hI⟩ := hrel
    have l1 := hL.1
    have l2 := hL.2.1
    have l3 := hL.2.2.1
    by_cases hB : 0 < B
    · by_cases hodd : B % 2 = 1
      · have t1 : (B % 2 == 1) = true := by simpa using hodd
        have LL := Lib.hid (left_odd hL hB hodd)
        clear hodd hL
        have c0 := hI.2.2.1.c0
        have c1 := hI.2.2.1.c1
        have d0 := hI.2.2.2.c0
        have d1 := hI.2.2.2.c1
        go_wp2_with fail
        refine (plus_any O X _ l1 l2).mono ?_
        rintro e w1 ⟨rfl, b1⟩
        have i1 := hI.bel b1
        have j1 := i1.put1 (add O X)
        clear c0 c1 d0 d1 b1 hI
        have c0 := i1.2.2.1.c0
        have c1 := i1.2.2.1.c1
        have f0 := i1.2.2.1.f 0
        have f1 := i1.2.2.1.f 1
        have d0 := i1.2.2.2.c0
        have d1 := i1.2.2.2.c1
        clear i1
        go_wp2_with fail
        refine (plus_any X X _ l2 l2).mono ?_
        rintro e w2 ⟨rfl, b2⟩
        have i2 := j1.bel b2
        have j2 := i2.put2 (add X X)
        clear c0 c1 d0 d1 f0 f1 b2 j1
        have d0 := i2.2.2.2.c0
        have d1 := i2.2.2.2.c1
        have f0 := i2.2.2.2.f 0
        have f1 := i2.2.2.2.f 1
        clear i2
        go_wp2_with fail
        go_roundw
        case rel => exact ⟨_, _, _, rfl, LL.out, by omega, j2⟩
        case measure => simp [intOf]; omega
      · have t1 : (B % 2 == 1) = false := by simpa using hodd
        have LL := Lib.hid (left_even hL hB (by omega))
        clear hodd hL
        have d0 := hI.2.2.2.c0
        have d1 := hI.2.2.2.c1
        go_wp2_with fail
        refine (plus_any X X _ l2 l2).mono ?_
        rintro e w2 ⟨rfl, b2⟩
        have i2 := hI.bel b2
        have j2 := i2.put2 (add X X)
        clear d0 d1 b2 hI
        have d0 := i2.2.2.2.c0
        have d1 := i2.2.2.2.c1
        have f0 := i2.2.2.2.f 0
        have f1 := i2.2.2.2.f 1
        clear i2
        go_wp2_with fail
        go_roundw
        case rel => exact ⟨_, _, _, rfl, LL.out, by omega, j2⟩
        case measure => simp [intOf]; omega
    · obtain rfl : B = 0 := by omega
      have hO : O = P := by have := hL.2.2.2.1; simp at this; exact this
      subst hO
      have c0 := hI.2.2.1.c0
      have c1 := hI.2.2.1.c1
      have d0 := hI.2.1.c0
      have d1 := hI.2.1.c1
      have f0 := hI.2.1.f 0
      have f1 := hI.2.1.f 1
      have bB := hI.1
      clear hL hI
      go_wp2_with fail
      refine bodyPost_ret (v := .agg #[.int .u64 (hi O), .int .u64 (lo O)]) (by simp [results, Try.results32, go_sem, d0, d1]) rfl ⟨rfl, ?_⟩
      exact (bB.setCell (by simp) _).setCell (by simp) _

theorem rmay_any (a b : Int) (w : World) :
    Calls Try.prog 35 #[.agg #[.int .i64 a, .int .i64 b]] w fun e w' => e = .returned (.bool (mayB a b)) ∧ w.alloc (.cells #[.int .i64 a, .int .i64 b] 35) = w' := by
  by_cases h1 : 0 ≤ a
  · by_cases h2 : 1 ≤ b
    · have e : mayB a b = true := by simp [mayB, h1, h2]
      rw [e]
      go_enter Try.func35, Try.ntmps35
      go_wp2
      go_ret
      exact ⟨rfl, rfl⟩
    · have e : mayB a b = false := by simp [mayB, h1, h2]
      rw [e]
      go_enter Try.func35, Try.ntmps35
      go_wp2
      go_ret
      exact ⟨rfl, rfl⟩
  · have e : mayB a b = false := by simp [mayB, h1]
    rw [e]
    go_enter Try.func35, Try.ntmps35
    go_wp2
    go_ret
    exact ⟨rfl, rfl⟩

theorem own_any (a b : Int) (w : World) :
    Calls Try.prog 31 #[.agg #[.int .i64 a, .int .i64 b]] w fun e w' => e = .returned (.agg #[.int .i64 (ownN a b), .int .i64 (ownD a b)]) ∧ Below w.heap.size w w' := by
  cases hm : mayB a b
  · have e1 : ownN a b = 0 := by simp [ownN, hm]
    have e2 : ownD a b = 1 := by simp [ownD, hm]
    rw [e1, e2]
    clear e1 e2
    go_enter Try.func31, Try.ntmps31
    go_wp2_with fail
    refine (rmay_any a b _).mono ?_
    rintro e w1 ⟨rfl, rfl⟩
    go_wp2_with fail
    exact bodyPost_ret (v := .agg #[.int .i64 0, .int .i64 1]) (by simp [results, Try.results31, go_sem]) rfl ⟨rfl, bel3 _ _ _ _⟩
  · have e1 : ownN a b = a := by simp [ownN, hm]
    have e2 : ownD a b = b := by simp [ownD, hm]
    rw [e1, e2]
    clear e1 e2
    go_enter Try.func31, Try.ntmps31
    go_wp2_with fail
    refine (rmay_any a b _).mono ?_
    rintro e w1 ⟨rfl, rfl⟩
    go_wp2_with fail
    exact bodyPost_ret (v := .agg #[.int .i64 a, .int .i64 b]) (by simp [results, Try.results31, go_sem]) rfl ⟨rfl, bel3 _ _ _ _⟩

theorem own_bds (a b c d : Int) (ha : a ≤ 9223372036854775807) (hb : b ≤ 9223372036854775807) (hc : c ≤ 9223372036854775807) (hd : d ≤ 9223372036854775807) :
    0 ≤ ownN a b ∧ ownN a b ≤ 9223372036854775807 ∧ 1 ≤ ownD a b ∧ ownD a b ≤ 9223372036854775807 ∧ 0 ≤ ownN c d ∧ ownN c d ≤ 9223372036854775807 ∧ 1 ≤ ownD c d ∧ ownD c d ≤ 9223372036854775807 := by
  unfold ownN ownD
  cases h1 : mayB a b <;> cases h2 : mayB c d <;> simp [mayB] at * <;> omega
theorem cmpR_times (a b c d : Int) : cmpR a b c d = cmpW (ownN a b * ownD c d) (ownN c d * ownD a b) := by
  unfold cmpR
  have h : ∀ a b, 0 ≤ ownN a b ∧ 1 ≤ ownD a b := by
    intro a b; unfold ownN ownD; cases h : mayB a b <;> simp [mayB] at * <;> omega
  have h1 := h a b
  have h2 := h c d
  rw [prod_nn _ _ h1.1 (by omega), prod_nn _ _ h2.1 (by omega)]

set_option maxHeartbeats 4000000 in
theorem rcompare_any (a b c d : Int) (w : World) (ha : a ≤ 9223372036854775807) (hb : b ≤ 9223372036854775807) (hc : c ≤ 9223372036854775807) (hd : d ≤ 9223372036854775807) :
    Calls Try.prog 27 #[.agg #[.int .i64 a, .int .i64 b], .agg #[.int .i64 c, .int .i64 d]] w fun e w' => e = .returned (.int .i64 (cmpR a b c d)) ∧ Below w.heap.size w w' := by
  go_enter Try.func27, Try.ntmps27
  go_upto_region 1 with fail
  go_cut [] (fun wx => Two wx w.heap.size (.int .i64 (ownN a b)) (.int .i64 (ownD a b)) 35 ∧ Two wx (w.heap.size + 1) (.int .i64 (ownN c d)) (.int .i64 (ownD c d)) 35 ∧ Below w.heap.size w wx)
  case first =>
    have h1 : Two ((w.alloc (.cells #[.int .i64 a, .int .i64 b] 35)).alloc (.cells #[.int .i64 c, .int .i64 d] 35)) w.heap.size (.int .i64 a) (.int .i64 b) 35 := (Two.new _ _ _ _).old _
    have h2 : Two ((w.alloc (.cells #[.int .i64 a, .int .i64 b] 35)).alloc (.cells #[.int .i64 c, .int .i64 d] 35)) (w.heap.size + 1) (.int .i64 c) (.int .i64 d) 35 := by
      have h := Two.new (w.alloc (.cells #[.int .i64 a, .int .i64 b] 35)) (.int .i64 c) (.int .i64 d) 35
      simpa using h
    have bW := bel2 w (.cells #[.int .i64 a, .int .i64 b] 35) (.cells #[.int .i64 c, .int .i64 d] 35)
    generalize (w.alloc (.cells #[.int .i64 a, .int .i64 b] 35)).alloc (.cells #[.int .i64 c, .int .i64 d] 35) = W at *
    have c0 := h1.c0
    have c1 := h1.c1
    have d0 := h2.c0
    have d1 := h2.c1
    go_region_with ((go_at_call 31; refine (own_any _ _ _).mono ?_; rintro e wx ⟨rfl, bx⟩; (first | (have bw2 : Below W.heap.size W wx := bw1.trans (bx.mono bw1.size); have k0 := (h1.bel bw2).c0; have k1 := (h1.bel bw2).c1; have k2 := (h2.bel bw2).c0; have k3 := (h2.bel bw2).c1; have m0 := (h1.bel bw2).f 0; have m1 := (h1.bel bw2).f 1; have m2 := (h2.bel bw2).f 0; have m3 := (h2.bel bw2).f 1) | (have bw1 : Below W.heap.size W wx := (Below.refl W.heap.size W).drew.trans bx; have e0 := (h2.bel bw1).c0; have e1 := (h2.bel bw1).c1) | fail); clear bx))
    all_goals
      go_wp2_with fail
      go_meet
      exact ⟨((h1.bel bw2).set _ _).other (w.heap.size + 1) (by omega) _ _, ((h2.bel bw2).other w.heap.size (by omega) _ _).set _ _, ((((bW.trans (bw2.mono bW.size)).setCell (Nat.le_refl _) _).setCell (Nat.le_refl _) _).setCell (by simp) _).setCell (by simp) _⟩
  case rest =>
    obtain ⟨i1, i2, bV⟩ := hcut
    obtain ⟨p1, p2, p3, p4, p5, p6, p7, p8⟩ := own_bds a b c d ha hb hc hd
    have Hcmp := Lib.hid (cmpR_times a b c d)
    clear ha hb hc hd
    generalize ownN a b = A at *
    generalize ownD a b = B at *
    generalize ownN c d = C at *
    generalize ownD c d = D at *
    have c0 := i1.c0
    have c1 := i1.c1
    have d0 := i2.c0
    have d1 := i2.c1
    have l1 := i1.lt
    have l2 := i2.lt
    have wA : IntKind.u64.wrap A = A := IntWalk.u64_in _ (by omega)
    have wB : IntKind.u64.wrap B = B := IntWalk.u64_in _ (by omega)
    have wC : IntKind.u64.wrap C = C := IntWalk.u64_in _ (by omega)
    have wD : IntKind.u64.wrap D = D := IntWalk.u64_in _ (by omega)
    have u0 : ∀ x : Int, x ≤ 9223372036854775807 → x ≤ 18446744073709551615 := fun x h => by omega
    have q3 : 0 ≤ B := by omega
    have q7 : 0 ≤ D := by omega
    go_upto_region 2 with fail
    go_cut [5, 6] (fun s5 s6 wx => ∃ g h : Nat, s5 = .pointer (some ⟨g, 0, none⟩) ∧ s6 = .pointer (some ⟨h, 0, none⟩) ∧ wx.cell? ⟨g, 0, none⟩ = some (.int .u64 (hi (A * D))) ∧ wx.cell? ⟨g, 1, none⟩ = some (.int .u64 (lo (A * D))) ∧ wx.cell? ⟨h, 0, none⟩ = some (.int .u64 (hi (C * B))) ∧ wx.cell? ⟨h, 1, none⟩ = some (.int .u64 (lo (C * B))) ∧ Below w.heap.size w wx)
    case first =>
      have hdr : ∀ w : World, w.drew.heap = w.heap := fun _ => rfl
      go_region_held3 (fun w' => w'.cell? ⟨w.heap.size, 0, none⟩ = some (.int .i64 A) ∧ w'.cell? ⟨w.heap.size, 1, none⟩ = some (.int .i64 B) ∧ w'.cell? ⟨w.heap.size + 1, 0, none⟩ = some (.int .i64 C) ∧ w'.cell? ⟨w.heap.size + 1, 1, none⟩ = some (.int .i64 D))
        ((refine two_keep i1 i2 ?_; repeat (first | assumption | exact Below.refl _ _ | refine Below.drew ?_ | refine bel_alloc ?_ _ | refine bel_set ?_ _ _ _ (by first | omega | (simp; omega)))))
        (first | (go_at_call 32; refine (times_any _ _ _ (by assumption) (by assumption) (u0 _ (by assumption)) (u0 _ (by assumption))).mono ?_; rintro e wx ⟨rfl, bx⟩; (first | (have n9 := two_facts (Two.bel N1 bx); obtain ⟨r0, r1, r2, r3, r4⟩ := n9) | (have n9 := two_facts (Two.bel (Two.old N1 _) bx); obtain ⟨r0, r1, r2, r3, r4⟩ := n9) | skip); (first | simp only [World.size_alloc] at r0 r1 r2 r3 r4 | skip); (first | (have n9 := two_facts (Two.bel N2 bx); obtain ⟨t0, t1, t2, t3, t4⟩ := n9) | (have n9 := two_facts (Two.bel (Two.old N2 _) bx); obtain ⟨t0, t1, t2, t3, t4⟩ := n9) | skip); (first | (have N1 := Two.bel (Two.new _ _ _ _) bx; have n9 := two_facts N1; obtain ⟨n0, n1, n2, n3, n4⟩ := n9; have ne1 := Nat.ne_of_lt n4; have ne2 := Nat.ne_of_gt n4) | (have N1 := Two.bel (Two.drew (Two.new _ _ _ _)) bx; have n9 := two_facts N1; obtain ⟨n0, n1, n2, n3, n4⟩ := n9; have ne1 := Nat.ne_of_lt n4; have ne2 := Nat.ne_of_gt n4) | skip); (first | (have N2 := Two.bel (Two.old (Two.new _ _ _ _) _) bx; have n9 := two_facts N2; obtain ⟨o0, o1, o2, o3, o4⟩ := n9; simp only [World.size_alloc] at n0 n1 n2 n3 n4 ne1 ne2; have ne3 := Nat.ne_of_lt o4; have ne4 := Nat.ne_of_gt o4) | (have N2 := Two.bel (Two.drew (Two.old (Two.new _ _ _ _) _)) bx; have n9 := two_facts N2; obtain ⟨o0, o1, o2, o3, o4⟩ := n9; simp only [World.size_alloc] at n0 n1 n2 n3 n4 ne1 ne2; have ne3 := Nat.ne_of_lt o4; have ne4 := Nat.ne_of_gt o4) | skip); have bv := bel_trans (V := wc) (by repeat (first | assumption | exact Below.refl _ _ | refine Below.drew ?_ | refine bel_alloc ?_ _)) bx; have sv := bv.size))
      all_goals
        go_wp2_with fail
        go_meet
        refine ⟨_, _, rfl, rfl, ?_, ?_, ?_, ?_, ?_⟩
      all_goals first
        | (refine bel_trans bV ?_; (repeat (first | assumption | exact Below.refl _ _ | refine Below.drew ?_ | refine bel_alloc ?_ _ | refine bel_set ?_ _ _ _ (by first | omega | (simp; omega)))); done)
        | (simp [go_sem, *]; done)
    case rest =>
      obtain ⟨g, h, rfl, rfl, e0, e1, e2, e3, bX⟩ := hcut
      have HR := Hcmp.out
      clear c0 c1 d0 d1 l1 l2 wA wB wC wD u0 Hcmp i1 i2
      generalize A * D = X at *
      generalize C * B = Y at *
      cases hl : lessB X Y
      · cases hl2 : lessB Y X
        · go_wp2_with fail
          refine (less_any X Y _).mono ?_
          rintro e w1 ⟨rfl, b1⟩
          have z := two_cells_keep b1 e0 e1 e2 e3
          obtain ⟨e4, e5, e6, e7⟩ := z
          rw [hl]
          go_wp2_with fail
          refine (less_any Y X _).mono ?_
          rintro e w2 ⟨rfl, b2⟩
          rw [hl2]
          go_wp2_with fail
          go_ret
          refine ⟨ret_i64 (by simp [lessB] at hl hl2; rw [HR]; exact (cmpW_eq (by omega)).symm), bel_trans (bel_trans bX b1) b2⟩
        · go_wp2_with fail
          refine (less_any X Y _).mono ?_
          rintro e w1 ⟨rfl, b1⟩
          have z := two_cells_keep b1 e0 e1 e2 e3
          obtain ⟨e4, e5, e6, e7⟩ := z
          rw [hl]
          go_wp2_with fail
          refine (less_any Y X _).mono ?_
          rintro e w2 ⟨rfl, b2⟩
          rw [hl2]
          go_wp2_with fail
          go_ret
          refine ⟨ret_i64 (by simp [lessB] at hl hl2; rw [HR]; exact (cmpW_gt (by omega)).symm), bel_trans (bel_trans bX b1) b2⟩
      · go_wp2_with fail
        refine (less_any X Y _).mono ?_
        rintro e w1 ⟨rfl, b1⟩
        rw [hl]
        go_wp2_with fail
        go_ret
        refine ⟨ret_i64 (by simp [lessB] at hl; rw [HR]; exact (cmpW_lt (by omega)).symm), bel_trans bX b1⟩
end Go.Proofs.Ythkdcbmcknndnaa

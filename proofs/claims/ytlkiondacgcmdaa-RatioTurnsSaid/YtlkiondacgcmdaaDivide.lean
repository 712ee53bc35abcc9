/- Contracts of the reference's bit and Divide. -/
import Derived.Test.YtlkiondacgcmdaaMinus
import Derived.Deep.CutBlock
namespace Go.Proofs.Ytlkiondacgcmdaa
open Go.RowKit Wide
set_option linter.unusedVariables false

/-- bit i of 128, the highest one first -/
def bitI (X : Int) (i : Nat) : Int := X / 2 ^ (127 - i) % 2
theorem bit_hi (X : Int) (i : Nat) (h : i < 64) : hi X / 2 ^ (63 - i) % 2 = bitI X i := by
  unfold bitI hi
  rw [Int.ediv_ediv_of_nonneg (by decide)]
  congr 2
  have e : (18446744073709551616 : Int) = 2 ^ 64 := by decide
  rw [e, ← Int.pow_add, show 64 + (63 - i) = 127 - i from by omega]
theorem bit_lo (X : Int) (hX : 0 ≤ X) (i : Nat) (h : 64 ≤ i) (h2 : i < 128) : lo X / 2 ^ (127 - i) % 2 = bitI X i := by
  unfold bitI lo
  obtain ⟨n, rfl⟩ := Int.eq_ofNat_of_zero_le hX
  generalize hk : 127 - i = k
  have hk2 : k ≤ 63 := by omega
  have e1 : ((n : Int) % 18446744073709551616) / 2 ^ k % 2 = (((n % 18446744073709551616) / 2 ^ k % 2 : Nat) : Int) := by simp
  have e2 : (n : Int) / 2 ^ k % 2 = ((n / 2 ^ k % 2 : Nat) : Int) := by simp
  rw [e1, e2]
  congr 1
  have a := Nat.testBit_mod_two_pow n 64 k
  rw [Nat.testBit_eq_decide_div_mod_eq, Nat.testBit_eq_decide_div_mod_eq] at a
  have e3 : (2 : Nat) ^ 64 = 18446744073709551616 := by decide
  rw [e3] at a
  have d : decide (k < 64) = true := by simp; omega
  rw [d, Bool.true_and] at a
  have b1 := Nat.mod_lt ((n % 18446744073709551616) / 2 ^ k) (show 0 < 2 by omega)
  have b2 := Nat.mod_lt (n / 2 ^ k) (show 0 < 2 by omega)
  by_cases c : n / 2 ^ k % 2 = 1
  · rw [c] at a; simp at a; omega
  · have c2 : decide (n / 2 ^ k % 2 = 1) = false := by simp [c]
    rw [c2] at a; simp at a; omega

set_option maxHeartbeats 400000 in
theorem bit_any (X : Int) (i : Nat) (w : World) (hX : 0 ≤ X) (hX2 : X ≤ 340282366920938463463374607431768211455) (hi2 : i < 128) :
    Calls Try.prog 32 #[.agg #[.int .u64 (hi X), .int .u64 (lo X)], .int .i64 i] w fun e w' => e = .returned (.int .u64 (bitI X i)) ∧ Below w.heap.size w w' := by
  have b1 := hi_bd X hX hX2
  have b2 := lo_bd X
  obtain ⟨b3, b4⟩ := b1
  obtain ⟨b5, b6⟩ := b2
  by_cases h : i < 64
  · have e1 : (hi X / 2 ^ (63 - i)).tmod 2 = bitI X i := by
      rw [Int.tmod_eq_emod_of_nonneg (Int.ediv_nonneg b3 (Int.le_of_lt (Int.pow_pos (by decide))))]; exact bit_hi X i h
    generalize bitI X i = v at *
    generalize hi X = H at *
    generalize lo X = L at *
    go_enter Try.func32, Try.ntmps32
    go_wp2_with fail
    go_ret
    exact ⟨rfl, (Below.refl _ _).alloc (Nat.le_refl _) _⟩
  · have e1 : (lo X / 2 ^ (127 - i)).tmod 2 = bitI X i := by
      rw [Int.tmod_eq_emod_of_nonneg (Int.ediv_nonneg b5 (Int.le_of_lt (Int.pow_pos (by decide))))]; exact bit_lo X hX i (by omega) hi2
    generalize bitI X i = v at *
    generalize hi X = H at *
    generalize lo X = L at *
    go_enter Try.func32, Try.ntmps32
    go_wp2_with fail
    go_ret
    exact ⟨rfl, (Below.refl _ _).alloc (Nat.le_refl _) _⟩

/-- the first i bits of X -/
def top (X : Int) (i : Nat) : Int := X / 2 ^ (128 - i)
theorem top_zero (X : Int) (hX : 0 ≤ X) (hX2 : X ≤ 340282366920938463463374607431768211455) : top X 0 = 0 := by
  unfold top
  have e : (2 : Int) ^ (128 - 0) = 340282366920938463463374607431768211456 := by decide
  rw [e]; omega
theorem top_all (X : Int) : top X 128 = X := by
  unfold top; rw [show 128 - 128 = 0 from rfl]; simp
theorem top_next (X : Int) (i : Nat) (h : i < 128) : top X (i + 1) = 2 * top X i + bitI X i := by
  unfold top bitI
  rw [show 128 - (i + 1) = 127 - i from by omega, show 128 - i = (127 - i) + 1 from by omega, Int.pow_succ, ← Int.ediv_ediv_of_nonneg (Int.le_of_lt (Int.pow_pos (by decide)))]
  omega
theorem bit_bd (X : Int) (i : Nat) : 0 ≤ bitI X i ∧ bitI X i ≤ 1 := by unfold bitI; omega

/-- behind i bits: what came out, and what is left -/
def Half (X D : Int) (i : Nat) (Q R : Int) : Prop := 0 ≤ Q ∧ 0 ≤ R ∧ R < D ∧ Q * D + R = top X i
theorem top_le (X : Int) (hX : 0 ≤ X) (i : Nat) : 0 ≤ top X i ∧ top X i ≤ X := by
  unfold top
  exact ⟨Int.ediv_nonneg hX (Int.le_of_lt (Int.pow_pos (by decide))), Int.ediv_le_self _ hX⟩
theorem half_q {X D Q R : Int} {i : Nat} (h : Half X D i Q R) (hD : 1 ≤ D) : Q ≤ top X i := by
  obtain ⟨h1, h2, h3, h4⟩ := h
  have := Int.mul_le_mul_of_nonneg_left hD h1
  omega
theorem half_more {X D Q R : Int} {i : Nat} (h : Half X D i Q R) (hi : i < 128) (hc : D ≤ 2 * R + bitI X i) : Half X D (i + 1) (2 * Q + 1) (2 * R + bitI X i - D) := by
  obtain ⟨h1, h2, h3, h4⟩ := h
  have b := bit_bd X i
  refine ⟨by omega, by omega, by omega, ?_⟩
  rw [top_next X i hi, ← h4, Int.add_mul, Int.one_mul, Int.mul_assoc]
  generalize Q * D = P at *
  omega
theorem half_less {X D Q R : Int} {i : Nat} (h : Half X D i Q R) (hi : i < 128) (hc : 2 * R + bitI X i < D) : Half X D (i + 1) (2 * Q) (2 * R + bitI X i) := by
  obtain ⟨h1, h2, h3, h4⟩ := h
  have b := bit_bd X i
  refine ⟨by omega, by omega, by omega, ?_⟩
  rw [top_next X i hi, ← h4, Int.mul_assoc]
  generalize Q * D = P at *
  omega
theorem half_all {X D Q R : Int} (h : Half X D 128 Q R) : Q = X / D ∧ R = X % D := by
  obtain ⟨h1, h2, h3, h4⟩ := h
  rw [top_all] at h4
  have u := Int.ediv_emod_unique (a := X) (b := D) (r := R) (q := Q) (by omega)
  have v := u.2 ⟨by rw [Int.mul_comm]; omega, h2, h3⟩
  exact ⟨v.1.symm, v.2.symm⟩

/-- the six numbers of Divide -/
def DInv (w wr : World) (X D Q R : Int) : Prop :=
  Below w.heap.size w wr ∧ Two wr w.heap.size (.int .u64 (hi X)) (.int .u64 (lo X)) 26 ∧ Two wr (w.heap.size + 1) (.int .u64 (hi D)) (.int .u64 (lo D)) 26 ∧
  Two wr (w.heap.size + 1 + 1) (.int .u64 0) (.int .u64 0) 26 ∧ Two wr (w.heap.size + 1 + 1 + 1) (.int .u64 0) (.int .u64 0) 26 ∧
  Two wr (w.heap.size + 1 + 1 + 1 + 1) (.int .u64 (hi Q)) (.int .u64 (lo Q)) 26 ∧ Two wr (w.heap.size + 1 + 1 + 1 + 1 + 1) (.int .u64 (hi R)) (.int .u64 (lo R)) 26
theorem DInv.bel {w wr w1 : World} {X D Q R : Int} (h : DInv w wr X D Q R) (hb : Below wr.heap.size wr w1) : DInv w w1 X D Q R :=
  ⟨bel_trans h.1 hb, h.2.1.bel hb, h.2.2.1.bel hb, h.2.2.2.1.bel hb, h.2.2.2.2.1.bel hb, h.2.2.2.2.2.1.bel hb, h.2.2.2.2.2.2.bel hb⟩
theorem DInv.drew {w wr : World} {X D Q R : Int} (h : DInv w wr X D Q R) : DInv w wr.drew X D Q R :=
  ⟨h.1.drew, h.2.1, h.2.2.1, h.2.2.2.1, h.2.2.2.2.1, h.2.2.2.2.2.1, h.2.2.2.2.2.2⟩
theorem DInv.putQ {w wr : World} {X D Q R : Int} (h : DInv w wr X D Q R) (Q' : Int) :
    DInv w ((wr.setCell ⟨w.heap.size + 1 + 1 + 1 + 1, 0, none⟩ (.int .u64 (hi Q'))).setCell ⟨w.heap.size + 1 + 1 + 1 + 1, 1, none⟩ (.int .u64 (lo Q'))) X D Q' R :=
  ⟨bel_set (bel_set h.1 _ _ _ (by omega)) _ _ _ (by omega), h.2.1.other _ (by omega) _ _, h.2.2.1.other _ (by omega) _ _, h.2.2.2.1.other _ (by omega) _ _, h.2.2.2.2.1.other _ (by omega) _ _, h.2.2.2.2.2.1.set _ _, h.2.2.2.2.2.2.other _ (by omega) _ _⟩
theorem DInv.putR {w wr : World} {X D Q R : Int} (h : DInv w wr X D Q R) (R' : Int) :
    DInv w ((wr.setCell ⟨w.heap.size + 1 + 1 + 1 + 1 + 1, 0, none⟩ (.int .u64 (hi R'))).setCell ⟨w.heap.size + 1 + 1 + 1 + 1 + 1, 1, none⟩ (.int .u64 (lo R'))) X D Q R' :=
  ⟨bel_set (bel_set h.1 _ _ _ (by omega)) _ _ _ (by omega), h.2.1.other _ (by omega) _ _, h.2.2.1.other _ (by omega) _ _, h.2.2.2.1.other _ (by omega) _ _, h.2.2.2.2.1.other _ (by omega) _ _, h.2.2.2.2.2.1.other _ (by omega) _ _, h.2.2.2.2.2.2.set _ _⟩

theorem plus_small (x v : Int) (w : World) (hx : 0 ≤ x) (hv : 0 ≤ v) (hv2 : v ≤ 18446744073709551615) :
    Calls Try.prog 24 #[.agg #[.int .u64 (hi x), .int .u64 (lo x)], .agg #[.int .u64 0, .int .u64 v]] w
      fun e w' => e = .returned (.agg #[.int .u64 (hi (add x v)), .int .u64 (lo (add x v))]) ∧ Below w.heap.size w w' := by
  have h := plus_any x v w hx hv
  have e1 : hi v = 0 := by simp only [hi]; omega
  have e2 : lo v = v := by simp only [lo]; omega
  rw [e1, e2] at h; exact h

set_option maxHeartbeats 2000000 in
set_option maxRecDepth 100000 in
theorem divide_any (X D : Int) (w : World) (hX : 0 ≤ X) (hX2 : X ≤ 340282366920938463463374607431768211455) (hD : 1 ≤ D) (hD2 : D ≤ 170141183460469231731687303715884105728) :
    Calls Try.prog 26 #[.agg #[.int .u64 (hi X), .int .u64 (lo X)], .agg #[.int .u64 (hi D), .int .u64 (lo D)]] w fun e w' =>
      e = .returned (.tuple #[.agg #[.int .u64 (hi (X / D)), .int .u64 (lo (X / D))], .agg #[.int .u64 (hi (X % D)), .int .u64 (lo (X % D))]]) ∧ Below w.heap.size w w' := by
  obtain ⟨A, hA⟩ : ∃ A, X / D = A := ⟨_, rfl⟩
  obtain ⟨B, hB⟩ : ∃ B, X % D = B := ⟨_, rfl⟩
  rw [hA, hB]
  have HA := Lib.hid hA
  have HB := Lib.hid hB
  have HX2 := Lib.hid hX2
  have HD2 := Lib.hid hD2
  clear hA hB hX2 hD2
  go_enter Try.func26, Try.ntmps26
  go_wp2_with fail
  go_loopw [8] (fun c wr => ∃ (i : Nat) (Q R : Int), i ≤ 128 ∧ c = .int .i64 i ∧ Half X D i Q R ∧ DInv w wr X D Q R) (fun c _ => 128 - (intOf c).toNat)
  case atStart =>
    refine ⟨0, 0, 0, by omega, rfl, ⟨by omega, by omega, by omega, by rw [top_zero X hX HX2.out]; omega⟩, ?_⟩
    rw [DInv, show hi 0 = 0 from rfl, show lo 0 = 0 from rfl]
    refine ⟨bel_alloc (bel_alloc (bel4 w _ _ _ _) _) _, ((((((Two.new _ _ _ _).old _).old _).old _).old _).old _), ((((Two.news _ _ _ _ _ _).old _).old _).old _).old _, ?_, ?_, ?_, ?_⟩
    · have h := (((Two.news (w := w.alloc (.cells #[.int .u64 (hi X), .int .u64 (lo X)] 26)) (.int .u64 (hi D)) (.int .u64 (lo D)) (.int .u64 0) (.int .u64 0) 26 26).old (.cells #[.int .u64 0, .int .u64 0] 26)).old (.cells #[.int .u64 0, .int .u64 0] 26)).old (.cells #[.int .u64 0, .int .u64 0] 26)
      simp only [World.size_alloc] at h; exact h
    · have h := ((Two.news (w := (w.alloc (.cells #[.int .u64 (hi X), .int .u64 (lo X)] 26)).alloc (.cells #[.int .u64 (hi D), .int .u64 (lo D)] 26)) (.int .u64 0) (.int .u64 0) (.int .u64 0) (.int .u64 0) 26 26).old (.cells #[.int .u64 0, .int .u64 0] 26)).old (.cells #[.int .u64 0, .int .u64 0] 26)
      simp only [World.size_alloc] at h; exact h
    · have h := (Two.news (w := ((w.alloc (.cells #[.int .u64 (hi X), .int .u64 (lo X)] 26)).alloc (.cells #[.int .u64 (hi D), .int .u64 (lo D)] 26)).alloc (.cells #[.int .u64 0, .int .u64 0] 26)) (.int .u64 0) (.int .u64 0) (.int .u64 0) (.int .u64 0) 26 26).old (.cells #[.int .u64 0, .int .u64 0] 26)
      simp only [World.size_alloc] at h; exact h
    · have h := Two.news (w := (((w.alloc (.cells #[.int .u64 (hi X), .int .u64 (lo X)] 26)).alloc (.cells #[.int .u64 (hi D), .int .u64 (lo D)] 26)).alloc (.cells #[.int .u64 0, .int .u64 0] 26)).alloc (.cells #[.int .u64 0, .int .u64 0] 26)) (.int .u64 0) (.int .u64 0) (.int .u64 0) (.int .u64 0) 26 26
      simp only [World.size_alloc] at h; exact h
  case round =>
    obtain ⟨i, Q, R, hi1, rfl, hH, hI⟩ := hrel
    by_cases hlt : i < 128
    · have HH := Lib.hid hH
      obtain ⟨h1, h2, h3, h4⟩ := hH
      have b1 := bit_bd X i
      have qle := half_q HH.out hD
      have tle := top_le X hX i
      have e1 : Hid (add R R = 2 * R) := by show add R R = 2 * R; have := HD2.out; rw [add_in (by omega) (by omega)]; omega
      have e2 : Hid (add (2 * R) (bitI X i) = 2 * R + bitI X i) := add_in (by omega) (by have := HD2.out; omega)
      clear h4
      obtain ⟨c0, c1, f0, f1, _⟩ := two_facts hI.2.2.2.2.2.2
      go_wp2_with fail
      refine (plus_any R R _ h2 h2).mono ?_
      rintro e w1 ⟨rfl, b2⟩
      rw [e1.out]
      have i1 := hI.bel b2
      have j1 := i1.putR (2 * R)
      clear c0 c1 f0 f1 hI b2
      obtain ⟨c0, c1, f0, f1, _⟩ := two_facts i1.2.2.2.2.2.2
      obtain ⟨c2, c3, _, _, _⟩ := two_facts i1.2.1
      go_wp2_with fail
      clear c0 c1 f0 f1 c2 c3 i1
      generalize (w1.setCell ⟨w.heap.size + 1 + 1 + 1 + 1 + 1, 0, none⟩ (.int .u64 (hi (2 * R)))).setCell ⟨w.heap.size + 1 + 1 + 1 + 1 + 1, 1, none⟩ (.int .u64 (lo (2 * R))) = V at *
      obtain ⟨c0, c1, _, _, _⟩ := two_facts j1.2.2.2.2.2.2
      obtain ⟨c2, c3, _, _, _⟩ := two_facts j1.2.1
      obtain ⟨v, hv⟩ : ∃ v, bitI X i = v := ⟨_, rfl⟩
      rw [hv] at b1 e2
      have Hv := Lib.hid hv
      clear hv
      obtain ⟨b3, b4⟩ := b1
      have r0 : 0 ≤ 2 * R := by omega
      go_cut [] (fun wx => DInv w wx X D Q (2 * R + v))
      case first =>
        go_region_with ((first
          | (go_at_call 32; refine (bit_any X i _ hX HX2.out hlt).mono ?_; rintro e wx ⟨rfl, bx⟩; rw [Hv.out]; have k1 := j1.drew.bel bx; have m0 := k1.2.2.2.2.2.2.c0; have m1 := k1.2.2.2.2.2.2.c1; clear bx)
          | (go_at_call 24; refine (plus_small (2 * R) v _ r0 b3 (by omega)).mono ?_; rintro e wx ⟨rfl, bx⟩; rw [e2.out]; have k2 := k1.bel bx; have m2 := k2.2.2.2.2.2.2.c0; have m3 := k2.2.2.2.2.2.2.c1; have m4 := k2.2.2.2.2.2.2.f 0; have m5 := k2.2.2.2.2.2.2.f 1; clear bx)))
        all_goals
          go_wp2_with fail
          go_meet
          exact k2.putR (2 * R + v)
      case rest =>
        have i2 := hcut
        clear c0 c1 c2 c3 j1
        obtain ⟨c0, c1, f0, f1, _⟩ := two_facts i2.2.2.2.2.2.1
        have e3 : Hid (add Q Q = 2 * Q) := by show add Q Q = 2 * Q; have := HX2.out; have t1 := top_next X i hlt; have t2 := (top_le X hX (i + 1)).2; rw [Hv.out] at t1; rw [add_in (by omega) (by omega)]; omega
        go_wp2_with fail
        refine (plus_any Q Q _ h1 h1).mono ?_
        rintro e w2 ⟨rfl, b5⟩
        rw [e3.out]
        have i3 := i2.bel b5
        have j3 := i3.putQ (2 * Q)
        clear c0 c1 f0 f1 b5 i2 hcut
        obtain ⟨c0, c1, f0, f1, _⟩ := two_facts i3.2.2.2.2.2.1
        obtain ⟨c2, c3, _, _, _⟩ := two_facts i3.2.2.2.2.2.2
        obtain ⟨c4, c5, _, _, _⟩ := two_facts i3.2.2.1
        go_wp2_with fail
        refine (less_any (2 * R + v) D _).mono ?_
        rintro e w3 ⟨rfl, b6⟩
        have i4 := j3.bel b6
        clear c0 c1 f0 f1 c2 c3 c4 c5 b6 i3 j3
        by_cases hc : D ≤ 2 * R + v
        · have hl : lessB (2 * R + v) D = false := by simp [lessB]; omega
          have HM := half_more HH.out hlt (by rw [Hv.out]; exact hc)
          rw [Hv.out] at HM
          have HM2 := Lib.hid HM
          have qm := half_q HM hD
          have tm := (top_le X hX (i + 1)).2
          have e4 : Hid (add (2 * Q) 1 = 2 * Q + 1) := by show add (2 * Q) 1 = 2 * Q + 1; have := HX2.out; rw [add_in (by omega) (by omega)]
          clear HM
          rw [hl]
          clear hl
          obtain ⟨c2, c3, f2, f3, _⟩ := two_facts i4.2.2.2.2.2.2
          obtain ⟨c4, c5, _, _, _⟩ := two_facts i4.2.2.1
          go_wp2_with fail
          refine (minus_any (2 * R + v) D _ (by omega) hc (by have := HD2.out; omega)).mono ?_
          rintro e w4 ⟨rfl, b7⟩
          have i5 := i4.bel b7
          have j5 := i5.putR (2 * R + v - D)
          clear c2 c3 f2 f3 c4 c5 i4 b7
          obtain ⟨c0, c1, f0, f1, _⟩ := two_facts i5.2.2.2.2.2.1
          obtain ⟨c2, c3, f2, f3, _⟩ := two_facts i5.2.2.2.2.2.2
          go_wp2_with fail
          refine (plus_small (2 * Q) 1 _ (by omega) (by omega) (by omega)).mono ?_
          rintro e w5 ⟨rfl, b8⟩
          rw [e4.out]
          have i6 := j5.bel b8
          have j6 := i6.putQ (2 * Q + 1)
          clear c0 c1 f0 f1 c2 c3 f2 f3 i5 j5 b8
          obtain ⟨c0, c1, f0, f1, _⟩ := two_facts i6.2.2.2.2.2.1
          go_wp2_with fail
          go_roundw
          case rel => exact ⟨i + 1, _, _, by omega, by go_num, HM2.out, j6⟩
          case measure => simp [intOf]; omega
        · have hl : lessB (2 * R + v) D = true := by simp [lessB]; omega
          have HM := half_less HH.out hlt (by rw [Hv.out]; omega)
          rw [Hv.out] at HM
          have HM2 := Lib.hid HM
          clear HM
          rw [hl]
          clear hl
          go_wp2_with fail
          go_roundw
          case rel => exact ⟨i + 1, _, _, by omega, by go_num, HM2.out, i4⟩
          case measure => simp [intOf]; omega
    · obtain rfl : i = 128 := by omega
      obtain ⟨h5, h6⟩ := half_all hH
      have z1 : Q = A := by rw [h5]; exact HA.out
      have z2 : R = B := by rw [h6]; exact HB.out
      subst z1 z2
      clear h5 h6 hH
      obtain ⟨c0, c1, f0, f1, _⟩ := two_facts hI.2.2.2.1
      obtain ⟨c2, c3, f2, f3, _⟩ := two_facts hI.2.2.2.2.1
      obtain ⟨c4, c5, _, _, _⟩ := two_facts hI.2.2.2.2.2.1
      obtain ⟨c6, c7, _, _, _⟩ := two_facts hI.2.2.2.2.2.2
      have bF := hI.1
      clear hI
      go_wp2_with fail
      go_region
      all_goals
        go_wp2_with fail
        refine bodyPost_ret (v := .tuple #[.agg #[.int .u64 (hi Q), .int .u64 (lo Q)], .agg #[.int .u64 (hi R), .int .u64 (lo R)]]) (by simp [results, Try.results26, go_sem, c0, c1, c2, c3]) rfl ⟨rfl, ?_⟩
        repeat (first | exact bF | refine Below.drew ?_ | refine bel_set ?_ _ _ _ (by omega))
end Go.Proofs.Ytlkiondacgcmdaa

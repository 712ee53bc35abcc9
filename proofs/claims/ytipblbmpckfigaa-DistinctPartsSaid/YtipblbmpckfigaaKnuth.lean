/- Plain mathematics of dividing two words by one, two digits of 32 bits at a time. No program in sight. -/
import Derived.WalkKit
import Derived.Laws.MathBits
import Derived.Lib.ItoaNum
namespace Go.Proofs.Ytipblbmpckfigaa
namespace Knuth

theorem u64w (n : Int) : IntKind.u64.wrap n = n % 18446744073709551616 := by
  simp [IntKind.wrap, IntKind.bits, IntKind.signed]

/-- shifting so that the divisor's highest bit is set -/
theorem norm (h l y : Int) (h0 : 0 ≤ l) (h1 : l ≤ 18446744073709551615) (hh : 0 ≤ h) (hy : h < y) (hy1 : y ≤ 18446744073709551615) :
    ∃ (s : Nat) (Y U L : Int), 64 - (Lib.bitLen y.toNat : Int) = s ∧ s ≤ 63 ∧ IntKind.u64.wrap (y * 2 ^ s) = Y ∧ bits BinOp.or IntKind.u64 (IntKind.u64.wrap (h * 2 ^ s)) (l / 2 ^ (64 - s)) = U ∧ IntKind.u64.wrap (l * 2 ^ s) = L ∧
      Y = y * 2 ^ s ∧ 9223372036854775808 ≤ Y ∧ Y ≤ 18446744073709551615 ∧ 0 ≤ U ∧ U < Y ∧ 0 ≤ L ∧ L ≤ 18446744073709551615 ∧ U * 18446744073709551616 + L = (h * 18446744073709551616 + l) * 2 ^ s := by
  obtain ⟨n, rfl⟩ := Int.eq_ofNat_of_zero_le (show 0 ≤ y by omega)
  obtain ⟨a, rfl⟩ := Int.eq_ofNat_of_zero_le hh
  obtain ⟨c, rfl⟩ := Int.eq_ofNat_of_zero_le h0
  have hb := Lib.bitLenAux_bounds 64 n (by simp; omega) (by omega)
  have hle : Lib.bitLenAux 64 n ≤ 64 := Lib.bitLen_le n 64 (by omega) (by simp; omega)
  have eb : Lib.bitLen n = Lib.bitLenAux 64 n := rfl
  simp only [Int.toNat_natCast, eb]
  generalize Lib.bitLenAux 64 n = k at *
  obtain ⟨k1, k2, k3⟩ := hb
  refine ⟨64 - k, _, _, _, by omega, by omega, rfl, rfl, rfl, ?_⟩
  have e64 : 64 - (64 - k) = k := by omega
  rw [e64]
  have hZW : 2 ^ (64 - k) * 2 ^ k = 18446744073709551616 := by rw [← Nat.pow_add, show 64 - k + k = 64 from by omega]
  have hZW2 : 2 ^ (64 - k) * 2 ^ (k - 1) = 9223372036854775808 := by rw [← Nat.pow_add, show 64 - k + (k - 1) = 63 from by omega]
  have hZ1 : 1 ≤ 2 ^ (64 - k) := Nat.one_le_two_pow
  have hW1 : 1 ≤ 2 ^ k := Nat.one_le_two_pow
  have cZ : ((2 : Int) ^ (64 - k)) = ((2 ^ (64 - k) : Nat) : Int) := by simp
  have cW : ((2 : Int) ^ k) = ((2 ^ k : Nat) : Int) := by simp
  rw [cZ, cW]
  have hor := Nat.two_pow_add_eq_or_of_lt (i := 64 - k) (b := c / 2 ^ k)
  generalize 2 ^ (64 - k) = Z at *
  generalize 2 ^ k = W at *
  generalize 2 ^ (k - 1) = W2 at *
  -- Y
  have y1 : n * Z < 18446744073709551616 := by
    have : n * Z < W * Z := Nat.mul_lt_mul_of_pos_right k3 (by omega)
    rw [Nat.mul_comm W Z, hZW] at this; exact this
  have y2 : 9223372036854775808 ≤ n * Z := by
    have : W2 * Z ≤ n * Z := Nat.mul_le_mul_right Z k2
    rw [Nat.mul_comm W2 Z, hZW2] at this; exact this
  have eY : IntKind.u64.wrap ((n : Int) * (Z : Int)) = ((n * Z : Nat) : Int) := by
    rw [u64w, ← Int.natCast_mul]; omega
  -- h * Z
  have a1 : a * Z + Z ≤ n * Z := by
    have : (a + 1) * Z ≤ n * Z := Nat.mul_le_mul_right Z (by omega)
    rw [Nat.add_mul, Nat.one_mul] at this; exact this
  have eA : IntKind.u64.wrap ((a : Int) * (Z : Int)) = ((a * Z : Nat) : Int) := by
    rw [u64w, ← Int.natCast_mul]; omega
  -- l / W
  have c1 : c / W < Z := by
    apply Nat.div_lt_of_lt_mul
    rw [Nat.mul_comm W Z, hZW]; omega
  have c2 : W * (c / W) + c % W = c := Nat.div_add_mod c W
  have c3 : c % W < W := Nat.mod_lt _ (by omega)
  have eO : bits BinOp.or IntKind.u64 ((a * Z : Nat) : Int) ((c : Int) / (W : Int)) = ((a * Z + c / W : Nat) : Int) := by
    rw [← Int.natCast_ediv, u64_or_nat _ _ (by omega) (by omega)]
    have := hor c1 a
    rw [Nat.mul_comm Z a] at this
    rw [← this]
  -- l * Z
  have m1 : c * Z = (c / W) * 18446744073709551616 + (c % W) * Z := by
    have e1 : c * Z = (W * (c / W) + c % W) * Z := by rw [c2]
    rw [e1, Nat.add_mul, Nat.mul_assoc, Nat.mul_comm (c / W) Z, ← Nat.mul_assoc, Nat.mul_comm W Z, hZW, Nat.mul_comm 18446744073709551616]
  have m2 : (c % W) * Z < 18446744073709551616 := by
    have : (c % W) * Z < W * Z := Nat.mul_lt_mul_of_pos_right c3 (by omega)
    rw [Nat.mul_comm W Z, hZW] at this; exact this
  have eL : IntKind.u64.wrap ((c : Int) * (Z : Int)) = (((c % W) * Z : Nat) : Int) := by
    rw [u64w, ← Int.natCast_mul, m1]; omega
  rw [eY, eA, eO, eL]
  refine ⟨by rw [Int.natCast_mul], by omega, by omega, by omega, by omega, by omega, by omega, ?_⟩
  rw [Int.add_mul, Int.mul_assoc, Int.mul_comm 18446744073709551616, ← Int.mul_assoc, ← Int.natCast_mul, ← Int.natCast_mul, m1]
  omega

/-- what a digit's loop keeps: q is not below the digit, and q and r make U -/
def Inv (Y U d q r : Int) : Prop := (U * 4294967296 + d) / Y ≤ q ∧ q * (Y / 4294967296) + r = U ∧ 0 ≤ r ∧ q ≤ 4294967297
structure Digit (Y U d : Int) : Prop where
  y1 : 9223372036854775808 ≤ Y
  y2 : Y ≤ 18446744073709551615
  u1 : 0 ≤ U
  u2 : U < Y
  d1 : 0 ≤ d
  d2 : d ≤ 4294967295
theorem Digit.q {Y U d : Int} (h : Digit Y U d) : 0 ≤ (U * 4294967296 + d) / Y ∧ (U * 4294967296 + d) / Y ≤ 4294967295 := by
  obtain ⟨y1, y2, u1, u2, d1, d2⟩ := h
  refine ⟨Int.ediv_nonneg (by omega) (by omega), ?_⟩
  have : (U * 4294967296 + d) / Y < 4294967296 := Int.ediv_lt_of_lt_mul (by omega) (by omega)
  omega
/-- the digit's product, and what is left -/
theorem Digit.qr {Y U d : Int} (h : Digit Y U d) : (U * 4294967296 + d) / Y * Y ≤ U * 4294967296 + d ∧ U * 4294967296 + d < (U * 4294967296 + d) / Y * Y + Y := by
  have h1 := Int.emod_nonneg (U * 4294967296 + d) (show Y ≠ 0 by have := h.y1; omega)
  have h2 := Int.emod_lt_of_pos (U * 4294967296 + d) (show 0 < Y by have := h.y1; omega)
  have h3 := Int.mul_ediv_add_emod (U * 4294967296 + d) Y
  rw [Int.mul_comm] at h3
  omega
theorem le_of_mul {Y U d q : Int} (h : Digit Y U d) (hq : q * Y ≤ U * 4294967296 + d) : q ≤ (U * 4294967296 + d) / Y :=
  Int.le_ediv_of_mul_le (by have := h.y1; omega) hq
theorem digit_split (Y q : Int) : q * Y = q * (Y / 4294967296) * 4294967296 + q * (Y % 4294967296) := by
  have : Y = Y / 4294967296 * 4294967296 + Y % 4294967296 := by omega
  have e : q * Y = q * (Y / 4294967296 * 4294967296 + Y % 4294967296) := by rw [← this]
  rw [e, Int.mul_add, Int.mul_assoc]
theorem digit_start {Y U d : Int} (h : Digit Y U d) : Inv Y U d (U / (Y / 4294967296)) (U - U / (Y / 4294967296) * (Y / 4294967296)) := by
  obtain ⟨y1, y2, u1, u2, d1, d2⟩ := h
  have hy : 2147483648 ≤ Y / 4294967296 := by omega
  have hs := digit_split Y ((U * 4294967296 + d) / Y)
  have hqr := Digit.qr ⟨y1, y2, u1, u2, d1, d2⟩
  have hq := Digit.q ⟨y1, y2, u1, u2, d1, d2⟩
  have hm : 0 ≤ (U * 4294967296 + d) / Y * (Y % 4294967296) := Int.mul_nonneg hq.1 (by omega)
  have e1 := Int.mul_ediv_add_emod U (Y / 4294967296)
  have e2 := Int.emod_nonneg U (show Y / 4294967296 ≠ 0 by omega)
  rw [Int.mul_comm] at e1
  refine ⟨?_, by omega, by omega, ?_⟩
  · apply Int.le_ediv_of_mul_le (by omega)
    generalize (U * 4294967296 + d) / Y * (Y / 4294967296) = A at *
    generalize (U * 4294967296 + d) / Y * (Y % 4294967296) = B at *
    omega
  · have : U / (Y / 4294967296) < 4294967298 := by
      apply Int.ediv_lt_of_lt_mul (by omega)
      omega
    omega
theorem digit_dec {Y U d q r : Int} (h : Digit Y U d) (hi : Inv Y U d q r) (ht : 4294967296 ≤ q ∨ 4294967296 * r + d < q * (Y % 4294967296)) :
    Inv Y U d (q - 1) (r + Y / 4294967296) ∧ 1 ≤ q := by
  obtain ⟨i1, i2, i3, i4⟩ := hi
  have hq := h.q
  have hs := digit_split Y q
  have key : (U * 4294967296 + d) / Y < q := by
    rcases ht with h1 | h1
    · omega
    · by_cases hc : q ≤ (U * 4294967296 + d) / Y
      · exfalso
        have hm : q * Y ≤ (U * 4294967296 + d) / Y * Y := Int.mul_le_mul_of_nonneg_right hc (by have := h.y1; omega)
        have hqr := h.qr
        generalize q * (Y / 4294967296) = A at *
        generalize q * (Y % 4294967296) = B at *
        omega
      · omega
  have e : (q - 1) * (Y / 4294967296) = q * (Y / 4294967296) - Y / 4294967296 := by rw [Int.sub_mul, Int.one_mul]
  have hy := h.y1
  exact ⟨⟨by omega, by rw [e]; omega, by omega, by omega⟩, by omega⟩
theorem digit_done {Y U d q r : Int} (h : Digit Y U d) (hi : Inv Y U d q r) (ht : q * (Y % 4294967296) ≤ 4294967296 * r + d) : q = (U * 4294967296 + d) / Y := by
  obtain ⟨i1, i2, i3, i4⟩ := hi
  have hs := digit_split Y q
  have : q ≤ (U * 4294967296 + d) / Y := by
    apply le_of_mul h
    generalize q * (Y / 4294967296) = A at *
    generalize q * (Y % 4294967296) = B at *
    omega
  omega
theorem digit_brk {Y U d q r : Int} (h : Digit Y U d) (hi : Inv Y U d q r) (h0 : 0 ≤ q) (hq : q ≤ 4294967296) (hr : 4294967296 ≤ r) : q = (U * 4294967296 + d) / Y := by
  apply digit_done h hi
  have h1 : q * (Y % 4294967296) ≤ 4294967296 * 4294967295 := by
    have a1 : q * (Y % 4294967296) ≤ q * 4294967295 := Int.mul_le_mul_of_nonneg_left (by omega) h0
    omega
  have := h.d1
  omega
/-- what is left behind a digit, in the words' arithmetic -/
theorem digit_left {Y U d : Int} (h : Digit Y U d) (Q : Int) (hQ : Q = (U * 4294967296 + d) / Y) :
    IntKind.u64.wrap (IntKind.u64.wrap (IntKind.u64.wrap (U * 4294967296) + d) - IntKind.u64.wrap (Q * Y)) = U * 4294967296 + d - Q * Y := by
  subst hQ
  have hqr := h.qr
  have y1 := h.y1
  have y2 := h.y2
  simp only [u64w]
  generalize (U * 4294967296 + d) / Y * Y = P at *
  omega
/-- all together -/
theorem both {h l y Y U L Z : Int} (hZ : 1 ≤ Z) (hY : Y = y * Z) (hs1 : Digit Y U (L / 4294967296)) (hV : U * 18446744073709551616 + L = (h * 18446744073709551616 + l) * Z)
    (Q1 Q0 R : Int) (hR : R = U * 4294967296 + L / 4294967296 - Q1 * Y) (hQ0 : Q0 = (R * 4294967296 + L % 4294967296) / Y) (hs0 : Digit Y R (L % 4294967296)) :
    Q1 * 4294967296 + Q0 = (h * 18446744073709551616 + l) / y ∧ (R * 4294967296 + L % 4294967296 - Q0 * Y) / Z = (h * 18446744073709551616 + l) % y := by
  have q0 := hs0.qr
  rw [← hQ0] at q0
  have hy : 0 < y := by
    rcases Int.lt_or_le 0 y with k | k
    · exact k
    · exfalso
      have : y * Z ≤ 0 := Int.mul_nonpos_of_nonpos_of_nonneg k (by omega)
      have := hs1.y1
      omega
  generalize hV2 : h * 18446744073709551616 + l = V at *
  -- V * Z = (Q1 * b + Q0) * y * Z + R0
  have e : V * Z = (Q1 * 4294967296 + Q0) * Y + (R * 4294967296 + L % 4294967296 - Q0 * Y) := by
    rw [Int.add_mul, Int.mul_assoc, Int.mul_comm 4294967296 Y, ← Int.mul_assoc]
    generalize Q1 * Y = A at *
    generalize Q0 * Y = B at *
    omega
  generalize hR0 : R * 4294967296 + L % 4294967296 - Q0 * Y = R0 at *
  generalize Q1 * 4294967296 + Q0 = q at *
  have b0 : 0 ≤ R0 := by omega
  have b1 : R0 < y * Z := by rw [← hY]; omega
  rw [hY, ← Int.mul_assoc] at e
  have e2 : R0 = (V - q * y) * Z := by rw [Int.sub_mul]; omega
  have r0 : 0 ≤ V - q * y := by
    rcases Int.lt_or_le (V - q * y) 0 with k | k
    · exfalso
      have : (V - q * y) * Z < 0 := Int.mul_neg_of_neg_of_pos k (by omega)
      omega
    · exact k
  have r1 : V - q * y < y := by
    rw [e2] at b1
    exact Int.lt_of_mul_lt_mul_right b1 (by omega)
  have d1 : R0 / Z = V - q * y := by rw [e2]; exact Int.mul_ediv_cancel _ (by omega)
  rw [d1]
  have u := Int.ediv_emod_unique (a := V) (b := y) (r := V - q * y) (q := q) hy
  have v := u.2 ⟨by rw [Int.mul_comm]; omega, r0, r1⟩
  exact ⟨v.1.symm, v.2.symm⟩
end Knuth
end Go.Proofs.Ytipblbmpckfigaa

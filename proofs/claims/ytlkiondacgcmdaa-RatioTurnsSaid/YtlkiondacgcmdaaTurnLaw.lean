/- The plain law of sums of two fractions: the same either way round, at least as much as each, reduced. No walk here. -/
import Derived.Test.YtlkiondacgcmdaaRSum
import Derived.Test.YtlkiondacgcmdaaCmp
namespace Go.Proofs.Ytlkiondacgcmdaa
open Wide Knuth

/-- a fraction, reduced, if both its numbers may be -/
def redF (n d : Int) : Option (Int × Int) := if n / gcdI n d ≤ 9223372036854775807 ∧ d / gcdI n d ≤ 9223372036854775807 then some (n / gcdI n d, d / gcdI n d) else none
theorem stepR_red (s x : Int × Int) : stepR s x = redF (s.1 * x.2 + x.1 * s.2) (s.2 * x.2) := rfl
theorem gcdI_mul (k n d : Int) (hk : 1 ≤ k) (hn : 0 ≤ n) (hd : 0 ≤ d) : gcdI (k * n) (k * d) = k * gcdI n d := by
  obtain ⟨k, rfl⟩ := Int.eq_ofNat_of_zero_le (show 0 ≤ k by omega)
  obtain ⟨n, rfl⟩ := Int.eq_ofNat_of_zero_le hn
  obtain ⟨d, rfl⟩ := Int.eq_ofNat_of_zero_le hd
  rw [show ((k : Int) * n) = ((k * n : Nat) : Int) from by push_cast; rfl, show ((k : Int) * d) = ((k * d : Nat) : Int) from by push_cast; rfl, gcdI_nat, gcdI_nat, Nat.gcd_mul_left]
  push_cast; rfl
theorem redF_mul (k n d : Int) (hk : 1 ≤ k) (hn : 0 ≤ n) (hd : 0 ≤ d) : redF (k * n) (k * d) = redF n d := by
  unfold redF
  rw [gcdI_mul k n d hk hn hd, Int.mul_ediv_mul_of_pos _ _ (by omega), Int.mul_ediv_mul_of_pos _ _ (by omega)]
theorem gcdI_dvd (n d : Int) (hn : 0 ≤ n) (hd : 0 ≤ d) : ∃ n' d', n = gcdI n d * n' ∧ d = gcdI n d * d' ∧ n / gcdI n d = n' ∧ d / gcdI n d = d' ∧ 0 ≤ n' ∧ 0 ≤ d' := by
  obtain ⟨n, rfl⟩ := Int.eq_ofNat_of_zero_le hn
  obtain ⟨d, rfl⟩ := Int.eq_ofNat_of_zero_le hd
  rw [gcdI_nat]
  refine ⟨((n / Nat.gcd n d : Nat) : Int), ((d / Nat.gcd n d : Nat) : Int), ?_, ?_, rfl, rfl, Int.natCast_nonneg _, Int.natCast_nonneg _⟩
  · rw [← Int.natCast_mul, Nat.mul_div_cancel' (Nat.gcd_dvd_left n d)]
  · rw [← Int.natCast_mul, Nat.mul_div_cancel' (Nat.gcd_dvd_right n d)]
/-- of two fractions -/
theorem fold_two {a b : Int × Int} (ha : Fine a) (hb : Fine b) : foldR [a, b] (0, 1) = redF (a.1 * b.2 + b.1 * a.2) (a.2 * b.2) := by
  obtain ⟨p, q⟩ := a
  obtain ⟨r, s⟩ := b
  obtain ⟨a1, a2, a3, a4⟩ := ha
  obtain ⟨b1, b2, b3, b4⟩ := hb
  simp only at *
  obtain ⟨g1, g2⟩ := gcdI_pos p q a2
  obtain ⟨p', q', ep, eq, dp, dq, p0, q0⟩ := gcdI_dvd p q a1 (by omega)
  have h1 : stepR (0, 1) (p, q) = some (p', q') := by
    rw [stepR_red]
    simp only [redF, Int.zero_mul, Int.zero_add, Int.mul_one, Int.one_mul]
    have l1 := Int.ediv_le_self (gcdI p q) a1
    have l2 := Int.ediv_le_self (gcdI p q) (show 0 ≤ q by omega)
    rw [if_pos ⟨by omega, by omega⟩, dp, dq]
  simp only [foldR, h1]
  rw [stepR_red]
  simp only
  have e1 : p * s + r * q = gcdI p q * (p' * s + r * q') := by
    have : p * s + r * q = gcdI p q * p' * s + r * (gcdI p q * q') := by rw [← ep, ← eq]
    rw [this, Int.mul_add, Int.mul_assoc, Int.mul_left_comm r]
  have e2 : q * s = gcdI p q * (q' * s) := by
    have : q * s = gcdI p q * q' * s := by rw [← eq]
    rw [this, Int.mul_assoc]
  rw [e1, e2, redF_mul _ _ _ g1]
  · cases redF (p' * s + r * q') (q' * s) <;> rfl
  · exact Int.add_nonneg (Int.mul_nonneg p0 (by omega)) (Int.mul_nonneg b1 q0)
  · exact Int.mul_nonneg q0 (by omega)
theorem all2 (a b : Int × Int) : allMay [a, b] = (mayB a.1 a.2 && mayB b.1 b.2) := by simp [allMay]
theorem small2 {a b : Int × Int} (ha : a.1 ≤ 9223372036854775807 ∧ a.2 ≤ 9223372036854775807) (hb : b.1 ≤ 9223372036854775807 ∧ b.2 ≤ 9223372036854775807) : Small [a, b] := by
  intro x hx
  simp at hx
  rcases hx with rfl | rfl
  · exact ha
  · exact hb
theorem may_is {p q : Int} (h : mayB p q = true) : 0 ≤ p ∧ 1 ≤ q := by simpa [mayB] using h
theorem sumS_two {a b : Int × Int} (ha : a.1 ≤ 9223372036854775807 ∧ a.2 ≤ 9223372036854775807) (hb : b.1 ≤ 9223372036854775807 ∧ b.2 ≤ 9223372036854775807) :
    sumS [a, b] = if mayB a.1 a.2 && mayB b.1 b.2 then redF (a.1 * b.2 + b.1 * a.2) (a.2 * b.2) else none := by
  rw [sum_eq (small2 ha hb), sumR, all2]
  cases h : (mayB a.1 a.2 && mayB b.1 b.2)
  · rfl
  · simp only [if_true]
    rw [Bool.and_eq_true] at h
    obtain ⟨h1, h2⟩ := may_is h.1
    obtain ⟨h3, h4⟩ := may_is h.2
    exact fold_two ⟨h1, h2, ha.1, ha.2⟩ ⟨h3, h4, hb.1, hb.2⟩
theorem sumS_turn {a b : Int × Int} (ha : a.1 ≤ 9223372036854775807 ∧ a.2 ≤ 9223372036854775807) (hb : b.1 ≤ 9223372036854775807 ∧ b.2 ≤ 9223372036854775807) : sumS [b, a] = sumS [a, b] := by
  rw [sumS_two ha hb, sumS_two hb ha, Bool.and_comm, Int.add_comm, Int.mul_comm b.2 a.2]
theorem sumN_turn {a b : Int × Int} (ha : a.1 ≤ 9223372036854775807 ∧ a.2 ≤ 9223372036854775807) (hb : b.1 ≤ 9223372036854775807 ∧ b.2 ≤ 9223372036854775807) : sumN [b, a] = sumN [a, b] ∧ sumD [b, a] = sumD [a, b] ∧ sumB [b, a] = sumB [a, b] := by
  simp only [sumN, sumD, sumB, sumS_turn ha hb, and_self]
/-- small ones have a sum -/
theorem sum_small {a b : Int × Int} (ha : mayB a.1 a.2 = true) (hb : mayB b.1 b.2 = true) (a1 : a.1 < 2147483648) (a2 : a.2 < 2147483648) (b1 : b.1 < 2147483648) (b2 : b.2 < 2147483648) : sumB [a, b] = true := by
  have h := sumS_two (a := a) (b := b) (by omega) (by omega)
  obtain ⟨h1, h2⟩ := may_is ha
  obtain ⟨h3, h4⟩ := may_is hb
  have m1 : a.1 * b.2 ≤ 2147483647 * 2147483647 := Int.mul_le_mul (by omega) (by omega) (by omega) (by omega)
  have m2 : b.1 * a.2 ≤ 2147483647 * 2147483647 := Int.mul_le_mul (by omega) (by omega) (by omega) (by omega)
  have m3 : a.2 * b.2 ≤ 2147483647 * 2147483647 := Int.mul_le_mul (by omega) (by omega) (by omega) (by omega)
  have m4 := Int.mul_nonneg h1 (show 0 ≤ b.2 by omega)
  have m5 := Int.mul_nonneg h3 (show 0 ≤ a.2 by omega)
  have m6 := Int.mul_nonneg (show 0 ≤ a.2 by omega) (show 0 ≤ b.2 by omega)
  have l1 := Int.ediv_le_self (gcdI (a.1 * b.2 + b.1 * a.2) (a.2 * b.2)) (show 0 ≤ a.1 * b.2 + b.1 * a.2 by omega)
  have l2 := Int.ediv_le_self (gcdI (a.1 * b.2 + b.1 * a.2) (a.2 * b.2)) m6
  rw [ha, hb] at h
  rw [sumB, h]
  simp only [Bool.and_self, if_true, redF]
  rw [if_pos ⟨by omega, by omega⟩]; rfl
theorem cmp_ge {a b c d : Int} (ha : 0 ≤ a) (hb : 1 ≤ b) (hc : 0 ≤ c) (hd : 1 ≤ d) (h : c * b ≤ a * d) : 0 ≤ cmpR a b c d := by
  have e1 := own_pos a b
  rw [cmpR_mul]
  have o1 : ownN a b = a ∧ ownD a b = b := by simp [ownN, ownD, mayB, ha, hb]
  have o2 : ownN c d = c ∧ ownD c d = d := by simp [ownN, ownD, mayB, hc, hd]
  rw [o1.1, o1.2, o2.1, o2.2]
  unfold cmpW
  split
  · omega
  · split <;> omega
/-- what a sum of two is -/
theorem sum_yes {a b : Int × Int} (ha : a.1 ≤ 9223372036854775807 ∧ a.2 ≤ 9223372036854775807) (hb : b.1 ≤ 9223372036854775807 ∧ b.2 ≤ 9223372036854775807) (h : sumB [a, b] = true) :
    0 ≤ sumN [a, b] ∧ 1 ≤ sumD [a, b] ∧ sumN [a, b] ≤ 9223372036854775807 ∧ sumD [a, b] ≤ 9223372036854775807 ∧
    sumN [(sumN [a, b], sumD [a, b])] = sumN [a, b] ∧ sumD [(sumN [a, b], sumD [a, b])] = sumD [a, b] ∧ sumB [(sumN [a, b], sumD [a, b])] = true ∧
    0 ≤ cmpR (sumN [a, b]) (sumD [a, b]) a.1 a.2 ∧ 0 ≤ cmpR (sumN [a, b]) (sumD [a, b]) b.1 b.2 := by
  obtain ⟨t, ht⟩ : ∃ t, sumS [a, b] = some t := by
    cases hs : sumS [a, b] with
    | none => simp [sumB, hs] at h
    | some t => exact ⟨t, rfl⟩
  obtain ⟨e1, e2, _⟩ := sum_some ht
  rw [e1, e2]
  rw [sumS_two ha hb] at ht
  cases hm : (mayB a.1 a.2 && mayB b.1 b.2)
  · rw [hm] at ht; cases ht
  · rw [hm] at ht
    simp only [if_true, redF] at ht
    rw [Bool.and_eq_true] at hm
    obtain ⟨h1, h2⟩ := may_is hm.1
    obtain ⟨h3, h4⟩ := may_is hm.2
    have m4 := Int.mul_nonneg h1 (show 0 ≤ b.2 by omega)
    have m5 := Int.mul_nonneg h3 (show 0 ≤ a.2 by omega)
    have m6 : 1 * 1 ≤ a.2 * b.2 := Int.mul_le_mul h2 h4 (by omega) (by omega)
    obtain ⟨g1, g2⟩ := gcdI_pos (a.1 * b.2 + b.1 * a.2) (a.2 * b.2) (by omega)
    obtain ⟨n', d', en, ed, dn, dd, n0, d0⟩ := gcdI_dvd (a.1 * b.2 + b.1 * a.2) (a.2 * b.2) (by omega) (by omega)
    obtain ⟨q1, _⟩ := div_bd (a.2 * b.2) _ g1 g2
    rw [dn, dd] at ht
    rw [dd] at q1
    split at ht
    · rename_i hb2
      cases ht
      simp only
      have hgg : gcdI n' d' = 1 := by
        have h0 := gcdI_mul (gcdI (a.1 * b.2 + b.1 * a.2) (a.2 * b.2)) n' d' g1 n0 d0
        rw [← en, ← ed] at h0
        have h5 : gcdI (a.1 * b.2 + b.1 * a.2) (a.2 * b.2) * 1 = gcdI (a.1 * b.2 + b.1 * a.2) (a.2 * b.2) * gcdI n' d' := by rw [Int.mul_one]; exact h0
        exact (Int.eq_of_mul_eq_mul_left (by omega) h5).symm
      have hS1 : sumS [(n', d')] = some (n', d') := by
        rw [sum_eq (by intro x hx; simp at hx; subst hx; exact hb2), sumR]
        have : allMay [(n', d')] = true := by simp [allMay, mayB]; omega
        rw [if_pos this]
        simp only [foldR, stepR_red, Int.zero_mul, Int.zero_add, Int.mul_one, Int.one_mul]
        rw [redF, hgg, Int.ediv_one, Int.ediv_one, if_pos hb2]
      obtain ⟨s1, s2, s3⟩ := sum_some hS1
      refine ⟨n0, q1, hb2.1, hb2.2, s1, s2, s3, ?_, ?_⟩
      · refine cmp_ge n0 q1 h1 h2 ?_
        generalize gcdI (a.1 * b.2 + b.1 * a.2) (a.2 * b.2) = g at *
        refine Int.le_of_mul_le_mul_left (a := g) ?_ (by omega)
        have k1 : g * (a.1 * d') = a.1 * (a.2 * b.2) := by rw [Int.mul_left_comm, ← ed]
        have k2 : g * (n' * a.2) = (a.1 * b.2 + b.1 * a.2) * a.2 := by rw [← Int.mul_assoc, ← en]
        rw [k1, k2, Int.add_mul]
        have k3 : a.1 * b.2 * a.2 = a.1 * (a.2 * b.2) := by rw [Int.mul_assoc, Int.mul_comm b.2]
        have k4 := Int.mul_nonneg m5 (show 0 ≤ a.2 by omega)
        omega
      · refine cmp_ge n0 q1 h3 h4 ?_
        generalize gcdI (a.1 * b.2 + b.1 * a.2) (a.2 * b.2) = g at *
        refine Int.le_of_mul_le_mul_left (a := g) ?_ (by omega)
        have k1 : g * (b.1 * d') = b.1 * (a.2 * b.2) := by rw [Int.mul_left_comm, ← ed]
        have k2 : g * (n' * b.2) = (a.1 * b.2 + b.1 * a.2) * b.2 := by rw [← Int.mul_assoc, ← en]
        rw [k1, k2, Int.add_mul]
        have k3 : b.1 * a.2 * b.2 = b.1 * (a.2 * b.2) := by rw [Int.mul_assoc]
        have k4 := Int.mul_nonneg m4 (show 0 ≤ b.2 by omega)
        omega
    · cases ht
end Go.Proofs.Ytlkiondacgcmdaa

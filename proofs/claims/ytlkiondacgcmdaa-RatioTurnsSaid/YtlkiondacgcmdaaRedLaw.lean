/- The plain law of reduced sums: what add makes of two reduced fractions is the sum's reduced form. No program in sight. -/
import Derived.WalkKit
namespace Go.Proofs.Ytlkiondacgcmdaa
namespace RedLaw
theorem gcd_sum (a b c d : Nat) (hb : 0 < b) (_hd : 0 < d) (hab : Nat.gcd a b = 1) (hcd : Nat.gcd c d = 1) :
    Nat.gcd (a * d + c * b) (b * d) = Nat.gcd b d * Nat.gcd (Nat.gcd b d) (a * (d / Nat.gcd b d) + c * (b / Nat.gcd b d)) := by
  have hg : 0 < Nat.gcd b d := Nat.gcd_pos_of_pos_left _ hb
  obtain ⟨L, hL⟩ := Nat.gcd_dvd_left b d
  obtain ⟨R, hR⟩ := Nat.gcd_dvd_right b d
  have eL : b / Nat.gcd b d = L := Nat.div_eq_of_eq_mul_right hg hL
  have eR : d / Nat.gcd b d = R := Nat.div_eq_of_eq_mul_right hg hR
  rw [eL, eR]
  have hLR : Nat.gcd L R = 1 := by
    have h := Nat.gcd_div_gcd_div_gcd_of_pos_left (n := b) (m := d) hb
    rw [eL, eR] at h; exact h
  generalize hgg : Nat.gcd b d = g at *
  have haL : Nat.gcd a L = 1 := Nat.Coprime.coprime_dvd_right ⟨g, by rw [Nat.mul_comm]; exact hL⟩ hab
  have hcR : Nat.gcd c R = 1 := Nat.Coprime.coprime_dvd_right ⟨g, by rw [Nat.mul_comm]; exact hR⟩ hcd
  have hTL : Nat.Coprime (a * R + c * L) L := by
    have h1 : Nat.gcd (a * R + c * L) L = Nat.gcd (a * R) L := by rw [Nat.add_comm]; simp
    show Nat.gcd (a * R + c * L) L = 1
    rw [h1]
    exact Nat.Coprime.mul_left haL (Nat.Coprime.symm hLR)
  have hTR : Nat.Coprime (a * R + c * L) R := by
    have h1 : Nat.gcd (a * R + c * L) R = Nat.gcd (c * L) R := by simp
    show Nat.gcd (a * R + c * L) R = 1
    rw [h1]
    exact Nat.Coprime.mul_left hcR hLR
  have e1 : a * d + c * b = g * (a * R + c * L) := by
    rw [hL, hR, Nat.mul_add, ← Nat.mul_assoc, ← Nat.mul_assoc, ← Nat.mul_assoc, ← Nat.mul_assoc, Nat.mul_comm a g, Nat.mul_comm c g]
  have e2 : b * d = g * (L * (g * R)) := by
    have : b * d = (g * L) * (g * R) := by rw [← hL, ← hR]
    rw [this, Nat.mul_assoc]
  rw [e1, e2, Nat.gcd_mul_left]
  congr 1
  rw [Nat.Coprime.gcd_mul_left_cancel_right _ hTL.symm, Nat.Coprime.gcd_mul_right_cancel_right _ hTR.symm, Nat.gcd_comm]
/-- the reduced sum's two numbers -/
theorem red_sum (a b c d : Nat) (hb : 0 < b) (hd : 0 < d) (hab : Nat.gcd a b = 1) (hcd : Nat.gcd c d = 1) :
    (a * d + c * b) / Nat.gcd (a * d + c * b) (b * d) = (a * (d / Nat.gcd b d) + c * (b / Nat.gcd b d)) / Nat.gcd (Nat.gcd b d) (a * (d / Nat.gcd b d) + c * (b / Nat.gcd b d)) ∧
    b * d / Nat.gcd (a * d + c * b) (b * d) = b / Nat.gcd b d * (d / Nat.gcd (Nat.gcd b d) (a * (d / Nat.gcd b d) + c * (b / Nat.gcd b d))) := by
  rw [gcd_sum a b c d hb hd hab hcd]
  have hg : 0 < Nat.gcd b d := Nat.gcd_pos_of_pos_left _ hb
  obtain ⟨L, hL⟩ := Nat.gcd_dvd_left b d
  obtain ⟨R, hR⟩ := Nat.gcd_dvd_right b d
  have eL : b / Nat.gcd b d = L := Nat.div_eq_of_eq_mul_right hg hL
  have eR : d / Nat.gcd b d = R := Nat.div_eq_of_eq_mul_right hg hR
  rw [eL, eR]
  have hH : Nat.gcd (Nat.gcd b d) (a * R + c * L) ∣ d := Nat.dvd_trans (Nat.gcd_dvd_left _ _) (Nat.gcd_dvd_right _ _)
  generalize Nat.gcd (Nat.gcd b d) (a * R + c * L) = H at *
  generalize hgg : Nat.gcd b d = g at *
  have e1 : a * d + c * b = g * (a * R + c * L) := by
    rw [hL, hR, Nat.mul_add, ← Nat.mul_assoc, ← Nat.mul_assoc, ← Nat.mul_assoc, ← Nat.mul_assoc, Nat.mul_comm a g, Nat.mul_comm c g]
  have e2 : b * d = g * (L * d) := by
    have : b * d = g * L * d := by rw [← hL]
    rw [this, Nat.mul_assoc]
  rw [e1, e2, Nat.mul_div_mul_left _ _ hg, Nat.mul_div_mul_left _ _ hg, Nat.mul_div_assoc _ hH]
  exact ⟨rfl, rfl⟩
end RedLaw
end Go.Proofs.Ytlkiondacgcmdaa

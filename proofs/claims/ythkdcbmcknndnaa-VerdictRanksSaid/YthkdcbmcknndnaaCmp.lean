/- Plain laws of comparing fractions by their products across. -/
import Derived.Test.YthkdcbmcknndnaaRatio
namespace Go.Proofs.Ythkdcbmcknndnaa
open Wide

theorem own_pos (a b : Int) : 0 ≤ ownN a b ∧ 1 ≤ ownD a b := by
  unfold ownN ownD mayB
  by_cases h : 0 ≤ a ∧ 1 ≤ b
  · simp [h]
  · simp [h]
theorem cmpR_mul (a b c d : Int) : cmpR a b c d = cmpW (ownN a b * ownD c d) (ownN c d * ownD a b) := by
  unfold cmpR
  have h1 := own_pos a b
  have h2 := own_pos c d
  rw [prod_nn _ _ h1.1 (by omega), prod_nn _ _ h2.1 (by omega)]
theorem cmpW_le {x y : Int} : cmpW x y ≤ 0 ↔ x ≤ y := by
  unfold cmpW; split
  · omega
  · split <;> omega
theorem cmpW_lt_iff {x y : Int} : cmpW x y < 0 ↔ x < y := by
  unfold cmpW; split
  · omega
  · split <;> omega
theorem cmpW_zero {x y : Int} : cmpW x y = 0 ↔ x = y := by
  unfold cmpW; split
  · omega
  · split <;> omega
theorem cmpW_turn (x y : Int) : cmpW y x = - cmpW x y := by
  unfold cmpW
  by_cases h1 : x < y
  · rw [if_pos h1, if_neg (by omega), if_neg (by omega)]; rfl
  · by_cases h2 : x = y
    · rw [if_neg (by omega), if_pos h2.symm, if_neg h1, if_pos h2]; rfl
    · rw [if_pos (by omega), if_neg h1, if_neg h2]
theorem cmpW_bd (x y : Int) : -1 ≤ cmpW x y ∧ cmpW x y ≤ 1 := by
  unfold cmpW; split
  · omega
  · split <;> omega
theorem cmpR_turn (a b c d : Int) : cmpR c d a b = - cmpR a b c d := by rw [cmpR_mul, cmpR_mul, cmpW_turn]
theorem cmpR_bd (a b c d : Int) : -1 ≤ cmpR a b c d ∧ cmpR a b c d ≤ 1 := cmpW_bd _ _
theorem cmpR_refl (a b : Int) : cmpR a b a b = 0 := by rw [cmpR_mul]; exact cmpW_zero.2 rfl
theorem mul_right_cancel_le {x y d : Int} (hd : 1 ≤ d) (h : x * d ≤ y * d) : x ≤ y :=
  Int.le_of_mul_le_mul_right h (by omega)
theorem frac_trans {A B C D E F : Int} (hB : 1 ≤ B) (hD : 1 ≤ D) (hF : 1 ≤ F) (h1 : A * D ≤ C * B) (h2 : C * F ≤ E * D) : A * F ≤ E * B := by
  have k1 : A * D * F ≤ C * B * F := Int.mul_le_mul_of_nonneg_right h1 (by omega)
  have k2 : C * F * B ≤ E * D * B := Int.mul_le_mul_of_nonneg_right h2 (by omega)
  apply mul_right_cancel_le hD
  have e1 : A * F * D = A * D * F := by rw [Int.mul_assoc, Int.mul_comm F D, ← Int.mul_assoc]
  have e2 : C * F * B = C * B * F := by rw [Int.mul_assoc, Int.mul_comm F B, ← Int.mul_assoc]
  have e3 : E * B * D = E * D * B := by rw [Int.mul_assoc, Int.mul_comm B D, ← Int.mul_assoc]
  omega
theorem frac_trans_lt1 {A B C D E F : Int} (hB : 1 ≤ B) (hD : 1 ≤ D) (hF : 1 ≤ F) (h1 : A * D < C * B) (h2 : C * F ≤ E * D) : A * F < E * B := by
  have k1 : A * D * F < C * B * F := Int.mul_lt_mul_of_pos_right h1 (by omega)
  have k2 : C * F * B ≤ E * D * B := Int.mul_le_mul_of_nonneg_right h2 (by omega)
  have e1 : A * F * D = A * D * F := by rw [Int.mul_assoc, Int.mul_comm F D, ← Int.mul_assoc]
  have e2 : C * F * B = C * B * F := by rw [Int.mul_assoc, Int.mul_comm F B, ← Int.mul_assoc]
  have e3 : E * B * D = E * D * B := by rw [Int.mul_assoc, Int.mul_comm B D, ← Int.mul_assoc]
  have k3 : A * F * D < E * B * D := by omega
  exact Int.lt_of_mul_lt_mul_right k3 (by omega)
theorem frac_trans_lt2 {A B C D E F : Int} (hB : 1 ≤ B) (hD : 1 ≤ D) (hF : 1 ≤ F) (h1 : A * D ≤ C * B) (h2 : C * F < E * D) : A * F < E * B := by
  have k1 : A * D * F ≤ C * B * F := Int.mul_le_mul_of_nonneg_right h1 (by omega)
  have k2 : C * F * B < E * D * B := Int.mul_lt_mul_of_pos_right h2 (by omega)
  have e1 : A * F * D = A * D * F := by rw [Int.mul_assoc, Int.mul_comm F D, ← Int.mul_assoc]
  have e2 : C * F * B = C * B * F := by rw [Int.mul_assoc, Int.mul_comm F B, ← Int.mul_assoc]
  have e3 : E * B * D = E * D * B := by rw [Int.mul_assoc, Int.mul_comm B D, ← Int.mul_assoc]
  have k3 : A * F * D < E * B * D := by omega
  exact Int.lt_of_mul_lt_mul_right k3 (by omega)
theorem cmpR_trans (a b c d e f : Int) (h1 : cmpR a b c d ≤ 0) (h2 : cmpR c d e f ≤ 0) : cmpR a b e f ≤ 0 := by
  rw [cmpR_mul, cmpW_le] at *
  exact frac_trans (own_pos a b).2 (own_pos c d).2 (own_pos e f).2 h1 h2
theorem cmpR_trans_lt (a b c d e f : Int) (h1 : cmpR a b c d ≤ 0) (h2 : cmpR c d e f ≤ 0) (h3 : cmpR a b c d + cmpR c d e f < 0) : cmpR a b e f < 0 := by
  by_cases h : cmpR a b c d < 0
  · rw [cmpR_mul, cmpW_lt_iff] at h
    rw [cmpR_mul c d e f, cmpW_le] at h2
    rw [cmpR_mul, cmpW_lt_iff]
    exact frac_trans_lt1 (own_pos a b).2 (own_pos c d).2 (own_pos e f).2 h h2
  · have h4 : cmpR c d e f < 0 := by omega
    rw [cmpR_mul, cmpW_lt_iff] at h4
    rw [cmpR_mul a b c d, cmpW_le] at h1
    rw [cmpR_mul, cmpW_lt_iff]
    exact frac_trans_lt2 (own_pos a b).2 (own_pos c d).2 (own_pos e f).2 h1 h4
end Go.Proofs.Ythkdcbmcknndnaa

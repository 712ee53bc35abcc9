/- The plain law of the reference's sums of fractions: each step of the program's sum is the reference's. No walk here. -/
import Derived.Test.YtlkiondacgcmdaaSum
import Derived.Test.YtlkiondacgcmdaaRedLaw
namespace Go.Proofs.Ytlkiondacgcmdaa
open Wide Knuth
namespace RedLaw
theorem red_sum2 (a b c d : Nat) (hb : 0 < b) (hd : 0 < d) (hab : Nat.gcd a b = 1) (c' d' : Nat) (hc : c / Nat.gcd c d = c') (hd' : d / Nat.gcd c d = d') :
    (a * d + c * b) / Nat.gcd (a * d + c * b) (b * d) = (a * (d' / Nat.gcd b d') + c' * (b / Nat.gcd b d')) / Nat.gcd (Nat.gcd b d') (a * (d' / Nat.gcd b d') + c' * (b / Nat.gcd b d')) ∧
    b * d / Nat.gcd (a * d + c * b) (b * d) = b / Nat.gcd b d' * (d' / Nat.gcd (Nat.gcd b d') (a * (d' / Nat.gcd b d') + c' * (b / Nat.gcd b d'))) := by
  have hk : 0 < Nat.gcd c d := Nat.gcd_pos_of_pos_right _ hd
  have hcop : Nat.gcd c' d' = 1 := by
    rw [← hc, ← hd']; exact Nat.gcd_div_gcd_div_gcd_of_pos_right hd
  have ec : c = Nat.gcd c d * c' := by rw [← hc]; exact (Nat.mul_div_cancel' (Nat.gcd_dvd_left c d)).symm
  have ed : d = Nat.gcd c d * d' := by rw [← hd']; exact (Nat.mul_div_cancel' (Nat.gcd_dvd_right c d)).symm
  generalize Nat.gcd c d = k at *
  have hd2 : 0 < d' := by
    rcases Nat.eq_zero_or_pos d' with h | h
    · rw [h, Nat.mul_zero] at ed; omega
    · exact h
  have e1 : a * d + c * b = k * (a * d' + c' * b) := by
    rw [ec, ed, Nat.mul_add, ← Nat.mul_assoc, ← Nat.mul_assoc, ← Nat.mul_assoc, Nat.mul_comm a k]
  have e2 : b * d = k * (b * d') := by
    rw [ed, ← Nat.mul_assoc, ← Nat.mul_assoc, Nat.mul_comm b k]
  rw [e1, e2, Nat.gcd_mul_left, Nat.mul_div_mul_left _ _ hk, Nat.mul_div_mul_left _ _ hk]
  exact red_sum a b c' d' hb hd2 hab hcop
end RedLaw
/-- one step of the reference's sum -/
def stepR (s x : Int × Int) : Option (Int × Int) :=
  if (s.1 * x.2 + x.1 * s.2) / gcdI (s.1 * x.2 + x.1 * s.2) (s.2 * x.2) ≤ 9223372036854775807 ∧ s.2 * x.2 / gcdI (s.1 * x.2 + x.1 * s.2) (s.2 * x.2) ≤ 9223372036854775807 then
    some ((s.1 * x.2 + x.1 * s.2) / gcdI (s.1 * x.2 + x.1 * s.2) (s.2 * x.2), s.2 * x.2 / gcdI (s.1 * x.2 + x.1 * s.2) (s.2 * x.2)) else none
theorem gcdI_nat (a b : Nat) : gcdI (a : Int) (b : Int) = (Nat.gcd a b : Int) := by simp [gcdI]
theorem gcd_mod_self (g t : Nat) : Nat.gcd g (t % g) = Nat.gcd g t := by
  rw [Nat.gcd_comm g (t % g), ← Nat.gcd_rec]
theorem step_eq {s x : Int × Int} (hs : Fine s) (hc : gcdI s.1 s.2 = 1) (hx : Fine x) : stepS s x = stepR s x := by
  obtain ⟨a, b⟩ := s
  obtain ⟨c, d⟩ := x
  obtain ⟨s1, s2, _, _⟩ := hs
  obtain ⟨x1, x2, _, _⟩ := hx
  simp only at s1 s2 x1 x2
  obtain ⟨a, rfl⟩ := Int.eq_ofNat_of_zero_le s1
  obtain ⟨b, rfl⟩ := Int.eq_ofNat_of_zero_le (show 0 ≤ b by omega)
  obtain ⟨c, rfl⟩ := Int.eq_ofNat_of_zero_le x1
  obtain ⟨d, rfl⟩ := Int.eq_ofNat_of_zero_le (show 0 ≤ d by omega)
  simp only [gcdI_nat] at hc
  have hab : Nat.gcd a b = 1 := by exact_mod_cast hc
  obtain ⟨c', hc'⟩ : ∃ c', c / Nat.gcd c d = c' := ⟨_, rfl⟩
  obtain ⟨d', hd'⟩ : ∃ d', d / Nat.gcd c d = d' := ⟨_, rfl⟩
  have e1 : ((c : Int) / gcdI c d) = (c' : Int) := by rw [gcdI_nat, ← hc']; rfl
  have e2 : ((d : Int) / gcdI c d) = (d' : Int) := by rw [gcdI_nat, ← hd']; rfl
  obtain ⟨r1, r2⟩ := RedLaw.red_sum2 a b c d (by omega) (by omega) hab c' d' hc' hd'
  have eT : addT a b c' d' = ((a * (d' / Nat.gcd b d') + c' * (b / Nat.gcd b d') : Nat) : Int) := by
    simp only [addT, addG, gcdI_nat]; push_cast; rfl
  have eH : addH a b c' d' = ((Nat.gcd (Nat.gcd b d') (a * (d' / Nat.gcd b d') + c' * (b / Nat.gcd b d')) : Nat) : Int) := by
    simp only [addH, eT, addG, gcdI_nat]
    rw [← Int.natCast_emod, gcdI_nat, gcd_mod_self]
  have eN : addN a b c' d' = ((((a * d + c * b) / Nat.gcd (a * d + c * b) (b * d) : Nat)) : Int) := by
    rw [addN, eT, eH, r1]; rfl
  have eD : addD a b c' d' = ((b * d / Nat.gcd (a * d + c * b) (b * d) : Nat) : Int) := by
    rw [addD, eH, r2]; simp only [addG, gcdI_nat]; push_cast; rfl
  have f1 : ((a : Int) * d + c * b) / gcdI ((a : Int) * d + c * b) (b * d) = ((((a * d + c * b) / Nat.gcd (a * d + c * b) (b * d) : Nat)) : Int) := by
    rw [show ((a : Int) * d + c * b) = ((a * d + c * b : Nat) : Int) from by push_cast; rfl, show ((b : Int) * d) = ((b * d : Nat) : Int) from by push_cast; rfl, gcdI_nat]; rfl
  have f2 : ((b : Int) * d) / gcdI ((a : Int) * d + c * b) (b * d) = ((b * d / Nat.gcd (a * d + c * b) (b * d) : Nat) : Int) := by
    rw [show ((a : Int) * d + c * b) = ((a * d + c * b : Nat) : Int) from by push_cast; rfl, show ((b : Int) * d) = ((b * d : Nat) : Int) from by push_cast; rfl, gcdI_nat]; rfl
  simp only [stepS, stepR, red, e1, e2, addB, eN, eD, f1, f2, decide_eq_true_eq]
/-- a step's answer is reduced -/
theorem step_red {s x t : Int × Int} (hs : Fine s) (hx : Fine x) (h : stepR s x = some t) : gcdI t.1 t.2 = 1 := by
  obtain ⟨a, b⟩ := s
  obtain ⟨c, d⟩ := x
  obtain ⟨s1, s2, _, _⟩ := hs
  obtain ⟨x1, x2, _, _⟩ := hx
  simp only at s1 s2 x1 x2
  obtain ⟨a, rfl⟩ := Int.eq_ofNat_of_zero_le s1
  obtain ⟨b, rfl⟩ := Int.eq_ofNat_of_zero_le (show 0 ≤ b by omega)
  obtain ⟨c, rfl⟩ := Int.eq_ofNat_of_zero_le x1
  obtain ⟨d, rfl⟩ := Int.eq_ofNat_of_zero_le (show 0 ≤ d by omega)
  unfold stepR at h
  split at h
  · cases h
    have hb : 0 < b := by omega
    have hd : 0 < d := by omega
    show gcdI (((a : Int) * d + c * b) / gcdI ((a : Int) * d + c * b) (b * d)) ((b : Int) * d / gcdI ((a : Int) * d + c * b) (b * d)) = 1
    rw [show ((a : Int) * d + c * b) = ((a * d + c * b : Nat) : Int) from by push_cast; rfl, show ((b : Int) * d) = ((b * d : Nat) : Int) from by push_cast; rfl, gcdI_nat,
      ← Int.natCast_ediv, ← Int.natCast_ediv, gcdI_nat, Nat.gcd_div_gcd_div_gcd_of_pos_right (Nat.mul_pos hb hd)]
    rfl
  · cases h
/-- the reference's sum -/
def foldR : List (Int × Int) → Int × Int → Option (Int × Int)
  | [], s => some s
  | x :: r, s => match stepR s x with
    | some t => foldR r t
    | none => none
theorem fold_eq : ∀ (l : List (Int × Int)) (s : Int × Int), Fine s → gcdI s.1 s.2 = 1 → (∀ x ∈ l, Fine x) → foldS l s = foldR l s
  | [], s, _, _, _ => rfl
  | x :: l, s, hs, hg, hl => by
    have hx : Fine x := hl x (by simp)
    simp only [foldS, foldR]
    rw [step_eq hs hg hx]
    cases h : stepR s x with
    | none => rfl
    | some t =>
      have h2 : stepS s x = some t := by rw [step_eq hs hg hx]; exact h
      exact fold_eq l t (step_fine hs hx h2) (step_red hs hx h) (fun y hy => hl y (by simp [hy]))
def sumR (xs : List (Int × Int)) : Option (Int × Int) := if allMay xs then foldR xs (0, 1) else none
theorem sum_eq {xs : List (Int × Int)} (hS : Small xs) : sumS xs = sumR xs := by
  unfold sumS sumR
  by_cases h : allMay xs = true
  · rw [if_pos h, if_pos h]
    refine fold_eq xs (0, 1) ⟨by decide, by decide, by decide, by decide⟩ (by decide) fun x hx => ?_
    obtain ⟨k, hk, e⟩ := List.mem_iff_getElem.1 hx
    exact may_fine h hS (k := k) (by rw [List.getElem?_eq_getElem hk, e])
  · rw [if_neg h, if_neg h]
theorem foldR_snoc : ∀ (l : List (Int × Int)) (s x : Int × Int), foldR (l ++ [x]) s = (foldR l s).bind fun t => stepR t x
  | [], s, x => by
    simp only [List.nil_append, foldR, Option.bind_some]
    cases stepR s x <;> rfl
  | y :: l, s, x => by
    simp only [List.cons_append, foldR]
    cases stepR s y with
    | none => rfl
    | some t => exact foldR_snoc l t x
theorem foldR_none : ∀ (l r : List (Int × Int)) (s : Int × Int), foldR l s = none → foldR (l ++ r) s = none
  | [], r, s, h => by simp [foldR] at h
  | y :: l, r, s, h => by
    simp only [List.cons_append, foldR] at *
    cases hs : stepR s y with
    | none => rfl
    | some t => rw [hs] at h; exact foldR_none l r t h
end Go.Proofs.Ytlkiondacgcmdaa

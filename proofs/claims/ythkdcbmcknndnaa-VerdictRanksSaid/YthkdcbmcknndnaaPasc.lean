/- Plain mathematics of choices: Pascal's triangle, rows as arrays of values. No program in sight. -/
import Derived.WalkKit
namespace Go.Proofs.Ythkdcbmcknndnaa
namespace Pasc

def C : Nat → Nat → Nat
  | _, 0 => 1
  | 0, _ + 1 => 0
  | n + 1, k + 1 => C n k + C n (k + 1)

theorem C_zero (n : Nat) : C n 0 = 1 := by cases n <;> rfl
theorem C_succ (n k : Nat) : C (n + 1) (k + 1) = C n k + C n (k + 1) := rfl
theorem C_over : ∀ (n k : Nat), n < k → C n k = 0
  | 0, 0, h => absurd h (by omega)
  | 0, _ + 1, _ => rfl
  | n + 1, 0, h => absurd h (by omega)
  | n + 1, k + 1, h => by rw [C_succ, C_over n k (by omega), C_over n (k + 1) (by omega)]
theorem C_le : ∀ (n k : Nat), C n k ≤ 2 ^ n
  | 0, 0 => by decide
  | 0, _ + 1 => by simp [C]
  | n + 1, 0 => by rw [C_zero]; exact Nat.one_le_two_pow
  | n + 1, k + 1 => by
    have h1 := C_le n k
    have h2 := C_le n (k + 1)
    rw [C_succ, Nat.pow_succ]; omega
theorem pow62 (n : Nat) (h : n ≤ 62) : 2 ^ n ≤ 4611686018427387904 := by
  have := Nat.pow_le_pow_right (n := 2) (by decide) h
  simpa using this
theorem C_le62 (n k : Nat) (h : n ≤ 62) : C n k ≤ 4611686018427387904 := Nat.le_trans (C_le n k) (pow62 n h)

/-- inside round i, the inner loop still to do k .. 1 -/
def mid (i k j : Nat) : Nat := if j ≤ k then C i j else C (i + 1) j
theorem mid_full (i : Nat) : mid i (i + 1) = C i := by
  funext j
  unfold mid
  split
  · rfl
  · rw [C_over (i + 1) j (by omega), C_over i j (by omega)]
theorem mid_zero (i : Nat) : mid i 0 = C (i + 1) := by
  funext j
  unfold mid
  split
  · have : j = 0 := by omega
    subst this; rw [C_zero, C_zero]
  · rfl
theorem mid_at (i k : Nat) : mid i k k = C i k := by simp [mid]
theorem mid_at_pred (i k : Nat) : mid i (k + 1) k = C i k := by simp [mid]
theorem mid_step (i k : Nat) : (fun j => if j = k + 1 then C i (k + 1) + C i k else mid i (k + 1) j) = mid i k := by
  funext j
  unfold mid
  by_cases h : j = k + 1
  · subst h; rw [if_pos rfl, if_neg (by omega), C_succ]; omega
  · rw [if_neg h]
    by_cases h2 : j ≤ k
    · rw [if_pos (by omega), if_pos h2]
    · rw [if_neg (by omega), if_neg h2]

/-- the row of the 63 numbers of f -/
def rowL (f : Nat → Nat) : List Value := (List.range 63).map fun k => Value.int .u64 (f k : Int)
def rowV (f : Nat → Nat) : Array Value := (rowL f).toArray
theorem rowV_size (f : Nat → Nat) : (rowV f).size = 63 := by simp [rowV, rowL]
theorem rowV_get (f : Nat → Nat) (k : Nat) (h : k < 63) : (rowV f)[k]? = some (.int .u64 (f k : Int)) := by
  simp [rowV, rowL, h]
theorem rowV_set (f : Nat → Nat) (k v : Nat) (h : k < 63) : (rowV f).setIfInBounds k (.int .u64 (v : Int)) = rowV (fun j => if j = k then v else f j) := by
  apply Array.ext_getElem?
  intro j
  rw [Array.getElem?_setIfInBounds]
  by_cases hj : j < 63
  · rw [rowV_get _ j hj, rowV_get _ j hj, rowV_size]
    by_cases e : k = j
    · subst e; simp [h]
    · rw [if_neg e, if_neg (by omega)]
  · have e : k ≠ j := by omega
    rw [if_neg e]
    simp [rowV, rowL, hj]
theorem rowV_one (f : Nat → Nat) : (rowV f).all (·.oneCell') = true := by
  rw [Array.all_eq_true_iff_forall_mem]
  intro v hv
  simp [rowV, rowL] at hv
  obtain ⟨k, _, rfl⟩ := hv
  rfl

/-- the first m choices of n together -/
def S (n : Nat) : Nat → Nat
  | 0 => 0
  | m + 1 => S n m + C n m
theorem S_step (n : Nat) : ∀ m, S (n + 1) (m + 1) = S n (m + 1) + S n m
  | 0 => by simp [S, C_zero]
  | m + 1 => by
    have ih := S_step n m
    have e : S (n + 1) (m + 1 + 1) = S (n + 1) (m + 1) + C (n + 1) (m + 1) := rfl
    have e1 : S n (m + 1 + 1) = S n (m + 1) + C n (m + 1) := rfl
    have e2 : S n (m + 1) = S n m + C n m := rfl
    rw [e, C_succ, e1]; omega
theorem S_zero : ∀ m, S 0 (m + 1) = 1
  | 0 => rfl
  | m + 1 => by
    have e : S 0 (m + 1 + 1) = S 0 (m + 1) + C 0 (m + 1) := rfl
    rw [e, S_zero m, C_over 0 (m + 1) (by omega)]
theorem S_full : ∀ (n m : Nat), n < m → S n m = 2 ^ n
  | 0, m + 1, _ => by rw [S_zero]
  | n + 1, m + 1, h => by rw [S_step, S_full n (m + 1) (by omega), S_full n m (by omega), Nat.pow_succ]; omega
theorem S_mono (n m : Nat) : ∀ j, S n m ≤ S n (m + j)
  | 0 => Nat.le_refl _
  | j + 1 => Nat.le_trans (S_mono n m j) (Nat.le_add_right _ _)
theorem S_le (n m : Nat) : S n m ≤ 2 ^ n := by
  rw [← S_full n (m + (n + 1)) (by omega)]; exact S_mono n m (n + 1)
/-- those from k on among the first m -/
def tl (n : Nat) (k : Int) : Nat → Nat
  | 0 => 0
  | m + 1 => tl n k m + if k ≤ (m : Int) then C n m else 0
theorem tl_le (n : Nat) (k : Int) : ∀ m, tl n k m ≤ S n m
  | 0 => Nat.le_refl _
  | m + 1 => by
    have ih := tl_le n k m
    unfold tl S
    split <;> omega
theorem tl_le62 (n : Nat) (k : Int) (m : Nat) (h : n ≤ 62) : tl n k m ≤ 4611686018427387904 :=
  Nat.le_trans (tl_le n k m) (Nat.le_trans (S_le n m) (pow62 n h))
theorem tl_yes (n : Nat) (k : Int) (m : Nat) (h : k ≤ (m : Int)) : tl n k (m + 1) = tl n k m + C n m := by simp [tl, h]
theorem tl_no (n : Nat) (k : Int) (m : Nat) (h : ¬ k ≤ (m : Int)) : tl n k (m + 1) = tl n k m := by simp [tl, h]

def pw (n : Nat) : Int := (2 : Int) ^ n
theorem pw_eq (n : Nat) : (2 : Int) ^ n = pw n := rfl
theorem pw_nat (n : Nat) : pw n = ((2 ^ n : Nat) : Int) := by simp [pw]
theorem pw_bd (n : Nat) (h : n ≤ 62) : 1 ≤ pw n ∧ pw n ≤ 4611686018427387904 := by
  rw [pw_nat]; have h1 := pow62 n h; have h2 : 1 ≤ 2 ^ n := Nat.one_le_two_pow; omega
theorem tl_pw (n : Nat) (k : Int) (m : Nat) : (tl n k m : Int) ≤ pw n := by
  rw [pw_nat]; have := Nat.le_trans (tl_le n k m) (S_le n m); omega

theorem C_self : ∀ n, C n n = 1
  | 0 => rfl
  | n + 1 => by rw [C_succ, C_self n, C_over n (n + 1) (by omega)]
theorem C_sym : ∀ (n i : Nat), i ≤ n → C n (n - i) = C n i
  | 0, i, h => by
    have : i = 0 := by omega
    subst this; rfl
  | n + 1, 0, _ => by rw [C_zero]; exact C_self (n + 1)
  | n + 1, i + 1, h => by
    rw [C_succ]
    by_cases e : i = n
    · subst e; rw [Nat.sub_self, C_zero, C_self, C_over i (i + 1) (by omega)]
    · have e1 : n + 1 - (i + 1) = (n - (i + 1)) + 1 := by omega
      rw [e1, C_succ, C_sym n (i + 1) (by omega), show n - (i + 1) + 1 = n - i from by omega, C_sym n i (by omega)]; omega

theorem tl_low (n : Nat) (k : Nat) : ∀ M, M ≤ k → tl n (k : Int) M = 0
  | 0, _ => rfl
  | M + 1, h => by rw [tl_no n k M (by omega)]; exact tl_low n k M (by omega)
theorem tl_S (n k : Nat) : ∀ M, k ≤ M → tl n (k : Int) M + S n k = S n M
  | 0, h => by
    have : k = 0 := by omega
    subst this; rfl
  | M + 1, h => by
    by_cases e : k = M + 1
    · subst e; rw [tl_low n (M + 1) (M + 1) (by omega)]; omega
    · have ih := tl_S n k M (by omega)
      rw [tl_yes n k M (by omega)]
      have e1 : S n (M + 1) = S n M + C n M := rfl
      omega
theorem tl_one (n k M : Nat) (h : k < M) : tl n (k : Int) M = tl n ((k + 1 : Nat) : Int) M + C n k := by
  have h1 := tl_S n k M (by omega)
  have h2 := tl_S n (k + 1) M (by omega)
  have e1 : S n (k + 1) = S n k + C n k := rfl
  omega
theorem tl_sym (n M : Nat) (hM : n < M) : ∀ j, j ≤ n + 1 → tl n ((n + 1 - j : Nat) : Int) M = S n j
  | 0, _ => by
    have h := tl_S n (n + 1) M (by omega)
    rw [S_full n (n + 1) (by omega), S_full n M hM] at h
    simp only [Nat.sub_zero]; rw [show S n 0 = 0 from rfl]; omega
  | j + 1, h => by
    have ih := tl_sym n M hM j (by omega)
    have h1 := tl_one n (n + 1 - (j + 1)) M (by omega)
    rw [show n + 1 - (j + 1) + 1 = n + 1 - j from by omega, ih] at h1
    rw [h1, show n + 1 - (j + 1) = n - j from by omega, C_sym n j (by omega)]
    rfl
theorem tl_both (n j : Nat) (h : j ≤ n + 1) (hn : n ≤ 62) : (tl n (j : Int) 63 : Int) + tl n ((n : Int) - j + 1) 63 = pw n := by
  have h1 := tl_sym n 63 (by omega) j h
  have h2 := tl_S n j 63 (by omega)
  rw [show (n : Int) - j + 1 = ((n + 1 - j : Nat) : Int) from by omega, h1, pw_nat, ← S_full n 63 (by omega)]
  omega
theorem tl_fall (n j : Nat) (h : j ≤ 62) : (tl n ((j : Int) + 1) 63 : Int) ≤ tl n (j : Int) 63 := by
  have h1 := tl_one n j 63 (by omega)
  rw [show ((j : Int) + 1) = ((j + 1 : Nat) : Int) from by omega]; omega

end Pasc
end Go.Proofs.Ythkdcbmcknndnaa

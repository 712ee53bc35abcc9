/- Layer 44, plain laws: what is in a pane, now and then. No walk here. -/
import Derived.Test.YtlmonbclloamiaaPKeys3
import Derived.Test.YtlmonbclloamiaaCmp
namespace Go.Proofs.Ytlmonbclloamiaa
set_option linter.unusedVariables false
open Wide
/-- may a season be, for a width? -/
def mayS (pe bk wd : Int) : Bool := decide (1 ≤ wd) && decide (1 ≤ pe) && decide (pe ≤ 1099511627776) && decide (pe % wd = 0) && decide (1 ≤ bk) && decide (bk ≤ 1000)
theorem mayS_iff (pe bk wd : Int) : mayS pe bk wd = true ↔ 1 ≤ wd ∧ 1 ≤ pe ∧ pe ≤ 1099511627776 ∧ pe % wd = 0 ∧ 1 ≤ bk ∧ bk ≤ 1000 := by
  simp [mayS, and_assoc]
def rightS (pe bk wd now : Int) : Bool := mayS pe bk wd && decide (0 ≤ now) && decide (now ≤ 1099511627776)
theorem rightS_iff (pe bk wd now : Int) : rightS pe bk wd now = true ↔ (1 ≤ wd ∧ 1 ≤ pe ∧ pe ≤ 1099511627776 ∧ pe % wd = 0 ∧ 1 ≤ bk ∧ bk ≤ 1000) ∧ 0 ≤ now ∧ now ≤ 1099511627776 := by
  rw [← mayS_iff]; simp [rightS, and_assoc]
/-- the pane of so many Periods ago -/
def agoQ (pe wd now : Int) (n : Int) : Int := now / wd - n * (pe / wd)
theorem psum_one (A : List Ad) (k : ByteArray) (q : Int) : psum A k q (q + 1) = sget A k q := by
  rw [psum_step A k q q (Int.le_refl q), psum_empty A k (Int.le_refl q), Int.zero_add]
/-- the ticks of that pane -/
theorem ago_from {pe bk wd now : Int} (h : rightS pe bk wd now = true) (n : Int) : now - now % wd - n * pe = wd * agoQ pe wd now n := by
  obtain ⟨⟨h1, h2, h3, h4, h5, h6⟩, h7, h8⟩ := (rightS_iff _ _ _ _).1 h
  have e1 : now - now % wd = wd * (now / wd) := by have := Int.mul_ediv_add_emod now wd; omega
  have e2 : pe = wd * (pe / wd) := by have := Int.mul_ediv_add_emod pe wd; omega
  rw [e1]
  unfold agoQ
  rw [Int.mul_sub]
  have e3 : n * pe = wd * (n * (pe / wd)) := by
    conv => lhs; rw [e2]
    rw [← Int.mul_assoc, Int.mul_comm n wd, Int.mul_assoc]
  rw [e3]
theorem ago_div {pe bk wd now : Int} (h : rightS pe bk wd now = true) (n : Int) : (now - now % wd - n * pe) / wd = agoQ pe wd now n ∧ (now - now % wd - n * pe + wd) / wd = agoQ pe wd now n + 1 := by
  obtain ⟨⟨h1, _⟩, _⟩ := (rightS_iff _ _ _ _).1 h
  rw [ago_from h]
  have hw : wd ≠ 0 := by omega
  refine ⟨Int.mul_ediv_cancel_left _ hw, ?_⟩
  have : wd * agoQ pe wd now n + wd = wd * (agoQ pe wd now n + 1) := by rw [Int.mul_add, Int.mul_one]
  rw [this, Int.mul_ediv_cancel_left _ hw]
/-- what is then: the sum of the first n Periods ago -/
def thenS (A : List Ad) (k : ByteArray) (pe wd now : Int) : Nat → Int
  | 0 => 0
  | n + 1 => thenS A k pe wd now n + sget A k (agoQ pe wd now ((n : Int) + 1))
theorem thenS_bd {A : List Ad} (ha : ∀ x ∈ A, AdOk x) (hl : A.length ≤ 1000) (k : ByteArray) (pe wd now : Int) (n : Nat) : 0 ≤ thenS A k pe wd now n ∧ thenS A k pe wd now n ≤ n * 1048576000 := by
  induction n with
  | zero => simp [thenS]
  | succ n ih =>
    have h1 := sget_nonneg ha k (agoQ pe wd now ((n : Int) + 1))
    have h2 := sget_le ha k (agoQ pe wd now ((n : Int) + 1))
    simp only [thenS]
    omega
def nowS (A : List Ad) (k : ByteArray) (wd now : Int) : Int := sget A k (now / wd)
theorem agoQ_zero (pe wd now : Int) : agoQ pe wd now 0 = now / wd := by simp [agoQ]
/-- is a key odd? -/
def oddB (A : List Ad) (pe bk wd now fl : Int) (k : ByteArray) : Bool := decide (fl ≤ nowS A k wd now) && decide (2 * thenS A k pe wd now bk.toNat < nowS A k wd now * bk)
theorem cmp_odd {n m d : Int} (hn : 0 ≤ n) (hm : 0 ≤ m) (hd : 1 ≤ d) : (0 < cmpR n 1 m d) ↔ m < n * d := by
  rw [cmpR_mul]
  have e1 : ownN n 1 = n ∧ ownD n 1 = 1 := by unfold ownN ownD mayB; simp [hn]
  have e2 : ownN m d = m ∧ ownD m d = d := by unfold ownN ownD mayB; simp [hm, hd]
  rw [e1.1, e1.2, e2.1, e2.2, Int.mul_one]
  unfold cmpW
  constructor
  · intro h
    split at h
    · omega
    · split at h
      · omega
      · omega
  · intro h
    rw [if_neg (by omega), if_neg (by omega)]; omega
end Go.Proofs.Ytlmonbclloamiaa

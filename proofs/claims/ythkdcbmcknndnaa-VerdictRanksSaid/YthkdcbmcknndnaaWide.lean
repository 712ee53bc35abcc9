/- Plain mathematics of long products: high and low words of a number below 2^128. No program in sight. -/
import Derived.WalkKit
import Derived.Laws.MathBits
namespace Go.Proofs.Ythkdcbmcknndnaa
theorem Bel.cells {W w1 : World} (hb : RowKit.Below W.heap.size W w1) : (∀ b o, b < W.heap.size → w1.cell? ⟨b, o, none⟩ = W.cell? ⟨b, o, none⟩) ∧ (∀ b o, b < W.heap.size → w1.frozen? ⟨b, o, none⟩ = W.frozen? ⟨b, o, none⟩) :=
  ⟨fun b o h => hb.cell (p := ⟨b, o, none⟩) h, fun b o h => hb.frozen (p := ⟨b, o, none⟩) h⟩
namespace Wide

def hi (x : Int) : Int := x / 18446744073709551616
def lo (x : Int) : Int := x % 18446744073709551616
theorem hi_lo (x : Int) : hi x * 18446744073709551616 + lo x = x := by unfold hi lo; omega
theorem lo_bd (x : Int) : 0 ≤ lo x ∧ lo x ≤ 18446744073709551615 := by unfold lo; omega
theorem hi_bd (x : Int) (h : 0 ≤ x) (h2 : x ≤ 340282366920938463463374607431768211455) : 0 ≤ hi x ∧ hi x ≤ 18446744073709551615 := by unfold hi; omega
theorem eq_iff (x y : Int) : (hi x = hi y ∧ lo x = lo y) ↔ x = y := by unfold hi lo; omega
theorem lt_iff (x y : Int) : (hi x < hi y ∨ (hi x = hi y ∧ lo x < lo y)) ↔ x < y := by unfold hi lo; omega

/-- the number V stands as the words H, L -/
def Val (V H L : Int) : Prop := 0 ≤ H ∧ 0 ≤ L ∧ L ≤ 18446744073709551615 ∧ H * 18446744073709551616 + L = V
theorem val_bd {V H L : Int} (h : Val V H L) (hV : V ≤ 85070591730234615865843651857942052864) : 0 ≤ H ∧ H ≤ 4611686018427387904 ∧ 0 ≤ L ∧ L ≤ 18446744073709551615 := by
  unfold Val at h; omega
theorem val_hi {V H L : Int} (h : Val V H L) : H = hi V := by unfold Val at h; unfold hi; omega
theorem val_lo {V H L : Int} (h : Val V H L) : L = lo V := by unfold Val at h; unfold lo; omega
theorem val_yes {V H L m : Int} (h : Val V H L) (h0 : 0 ≤ m) (h1 : m ≤ 18446744073709551615)
    (t : IntKind.u64.wrap (L + IntKind.u64.wrap (m * 4294967296)) < L) :
    Val (V + m * 4294967296) (H + m / 4294967296 + 1) (IntKind.u64.wrap (L + IntKind.u64.wrap (m * 4294967296))) := by
  simp only [IntKind.wrap, IntKind.bits, IntKind.signed] at *
  simp at *
  unfold Val at *
  omega
theorem val_no {V H L m : Int} (h : Val V H L) (h0 : 0 ≤ m) (h1 : m ≤ 18446744073709551615)
    (t : ¬ IntKind.u64.wrap (L + IntKind.u64.wrap (m * 4294967296)) < L) :
    Val (V + m * 4294967296) (H + m / 4294967296) (IntKind.u64.wrap (L + IntKind.u64.wrap (m * 4294967296))) := by
  simp only [IntKind.wrap, IntKind.bits, IntKind.signed] at *
  simp at *
  unfold Val at *
  omega

/-- what ratio.Product is -/
def prod (a b : Int) : Int := if a ≤ 0 ∨ b ≤ 0 then 0 else a * b
theorem prod_pos (a b : Int) (ha : 1 ≤ a) (hb : 1 ≤ b) : prod a b = a * b := by unfold prod; rw [if_neg (by omega)]
theorem prod_no (a b : Int) (h : a ≤ 0 ∨ b ≤ 0) : prod a b = 0 := by unfold prod; rw [if_pos h]
theorem prod_nn (a b : Int) (ha : 0 ≤ a) (hb : 0 ≤ b) : prod a b = a * b := by
  unfold prod
  split
  · rename_i h
    rcases h with h | h
    · have : a = 0 := by omega
      subst this; simp
    · have : b = 0 := by omega
      subst this; simp
  · rfl
theorem mul_le (a b : Int) (_ha : 0 ≤ a) (hb : 0 ≤ b) (ha2 : a ≤ 9223372036854775807) (hb2 : b ≤ 9223372036854775807) : a * b ≤ 85070591730234615865843651857942052864 := by
  have := Int.mul_le_mul ha2 hb2 hb (by decide)
  have e : (9223372036854775807 : Int) * 9223372036854775807 ≤ 85070591730234615865843651857942052864 := by decide
  omega
theorem prod_bd (a b : Int) (ha2 : a ≤ 9223372036854775807) (hb2 : b ≤ 9223372036854775807) : 0 ≤ prod a b ∧ prod a b ≤ 85070591730234615865843651857942052864 := by
  unfold prod
  split
  · omega
  · exact ⟨Int.mul_nonneg (by omega) (by omega), mul_le a b (by omega) (by omega) ha2 hb2⟩

/-- the four partial products, in the walk's spelling -/
theorem parts (a b : Int) (ha : 1 ≤ a) (hb : 1 ≤ b) (ha2 : a ≤ 9223372036854775807) (hb2 : b ≤ 9223372036854775807) :
    ∃ xl yl p0 p1 p2 p3 : Int, bits BinOp.and IntKind.u64 a 4294967295 = xl ∧ bits BinOp.and IntKind.u64 b 4294967295 = yl ∧
      IntKind.u64.wrap (a / 4294967296 * (b / 4294967296)) = p0 ∧ IntKind.u64.wrap (a / 4294967296 * yl) = p1 ∧ IntKind.u64.wrap (xl * (b / 4294967296)) = p2 ∧ IntKind.u64.wrap (xl * yl) = p3 ∧
      Val (p0 * 18446744073709551616 + p3) p0 p3 ∧ 0 ≤ p1 ∧ p1 ≤ 18446744073709551615 ∧ 0 ≤ p2 ∧ p2 ≤ 18446744073709551615 ∧
      p0 * 18446744073709551616 + p3 + p1 * 4294967296 + p2 * 4294967296 = a * b := by
  have ex : a = a / 4294967296 * 4294967296 + a % 4294967296 := by omega
  have ey : b = b / 4294967296 * 4294967296 + b % 4294967296 := by omega
  rw [and_low32 a (by omega) (by omega), and_low32 b (by omega) (by omega)]
  refine ⟨a % 4294967296, b % 4294967296, _, _, _, _, rfl, rfl, rfl, rfl, rfl, rfl, ?_⟩
  have hxy : a * b = a / 4294967296 * (b / 4294967296) * 18446744073709551616 + (a / 4294967296 * (b % 4294967296) + a % 4294967296 * (b / 4294967296)) * 4294967296 + a % 4294967296 * (b % 4294967296) := by
    have := split_mul (a / 4294967296) (a % 4294967296) (b / 4294967296) (b % 4294967296)
    rw [← ex, ← ey] at this; exact this
  have b1 : 0 ≤ a / 4294967296 ∧ a / 4294967296 ≤ 4294967295 := by omega
  have b2 : 0 ≤ a % 4294967296 ∧ a % 4294967296 ≤ 4294967295 := by omega
  have b3 : 0 ≤ b / 4294967296 ∧ b / 4294967296 ≤ 4294967295 := by omega
  have b4 : 0 ≤ b % 4294967296 ∧ b % 4294967296 ≤ 4294967295 := by omega
  have pA := prod_bound _ _ b1.1 b1.2 b3.1 b3.2
  have pB := prod_bound _ _ b1.1 b1.2 b4.1 b4.2
  have pC := prod_bound _ _ b2.1 b2.2 b4.1 b4.2
  have pD := prod_bound _ _ b2.1 b2.2 b3.1 b3.2
  rw [hxy]
  rw [IntWalk.u64_in _ ⟨pA.1, by omega⟩, IntWalk.u64_in _ ⟨pB.1, by omega⟩, IntWalk.u64_in _ ⟨pC.1, by omega⟩, IntWalk.u64_in _ ⟨pD.1, by omega⟩]
  generalize a / 4294967296 * (b / 4294967296) = A at *
  generalize a / 4294967296 * (b % 4294967296) = B at *
  generalize a % 4294967296 * (b % 4294967296) = C at *
  generalize a % 4294967296 * (b / 4294967296) = D at *
  refine ⟨⟨pA.1, pC.1, by omega, rfl⟩, pB.1, by omega, pD.1, by omega, ?_⟩
  omega
end Wide
end Go.Proofs.Ythkdcbmcknndnaa

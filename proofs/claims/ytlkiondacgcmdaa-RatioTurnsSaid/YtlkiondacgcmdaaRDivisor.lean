/- Contract of the reference's divisor. -/
import Derived.Test.YtlkiondacgcmdaaDivide
import Derived.Deep.LoopGhost
namespace Go.Proofs.Ytlkiondacgcmdaa
open Go.RowKit Wide
set_option linter.unusedVariables false
def GInv (w wr : World) (A B : Int) : Prop :=
  Below w.heap.size w wr ∧ Two wr w.heap.size (.int .u64 (hi A)) (.int .u64 (lo A)) 26 ∧ Two wr (w.heap.size + 1) (.int .u64 (hi B)) (.int .u64 (lo B)) 26 ∧ Two wr (w.heap.size + 1 + 1) (.int .u64 0) (.int .u64 0) 26
theorem GInv.bel {w wr w1 : World} {A B : Int} (h : GInv w wr A B) (hb : Below wr.heap.size wr w1) : GInv w w1 A B :=
  ⟨bel_trans h.1 hb, h.2.1.bel hb, h.2.2.1.bel hb, h.2.2.2.bel hb⟩
theorem GInv.old {w wr : World} {A B : Int} (h : GInv w wr A B) (o : Obj) : GInv w (wr.alloc o) A B :=
  ⟨bel_alloc h.1 o, h.2.1.old o, h.2.2.1.old o, h.2.2.2.old o⟩
theorem GInv.put {w wr : World} {A B : Int} (h : GInv w wr A B) (A' B' : Int) :
    GInv w ((((wr.setCell ⟨w.heap.size, 0, none⟩ (.int .u64 (hi A'))).setCell ⟨w.heap.size, 1, none⟩ (.int .u64 (lo A'))).setCell ⟨w.heap.size + 1, 0, none⟩ (.int .u64 (hi B'))).setCell ⟨w.heap.size + 1, 1, none⟩ (.int .u64 (lo B'))).drew A' B' :=
  ⟨(bel_set (bel_set (bel_set (bel_set h.1 _ _ _ (by omega)) _ _ _ (by omega)) _ _ _ (by omega)) _ _ _ (by omega)).drew, ((h.2.1.set _ _).other _ (by omega) _ _).drew, ((h.2.2.1.other _ (by omega) _ _).set _ _).drew, ((h.2.2.2.other _ (by omega) _ _).other _ (by omega) _ _).drew⟩
theorem pos_words (B : Int) (h0 : 0 ≤ B) (h : 0 < hi B ∨ (hi B = 0 ∧ 0 < lo B)) : 0 < B := by simp only [hi, lo] at h; omega

set_option maxHeartbeats 2000000 in
set_option maxRecDepth 100000 in
theorem rdivisor_any (a b : Nat) (w : World) (ha : a ≤ 340282366920938463463374607431768211455) (hb : b ≤ 170141183460469231731687303715884105728) :
    Calls Try.prog 36 #[.agg #[.int .u64 (hi a), .int .u64 (lo a)], .agg #[.int .u64 (hi b), .int .u64 (lo b)]] w fun e w' =>
      e = .returned (.agg #[.int .u64 (hi (Nat.gcd a b : Int)), .int .u64 (lo (Nat.gcd a b : Int))]) ∧ Below w.heap.size w w' := by
  obtain ⟨G, hG⟩ : ∃ G, Nat.gcd a b = G := ⟨_, rfl⟩
  rw [hG]
  have HG := Lib.hid hG
  have Ha := Lib.hid ha
  have Hb := Lib.hid hb
  clear hG ha hb
  go_enter Try.func36, Try.ntmps36
  go_wp2_with fail
  go_loopg [] b (fun m wr => ∃ A B : Nat, B ≤ m ∧ Nat.gcd A B = G ∧ A ≤ 340282366920938463463374607431768211455 ∧ B ≤ 170141183460469231731687303715884105728 ∧ GInv w wr A B)
  case atStart =>
    refine ⟨a, b, by omega, HG.out, Ha.out, Hb.out, bel3 _ _ _ _, ((Two.new _ _ _ _).old _).old _, (Two.news _ _ _ _ _ _).old _, ?_⟩
    have h := Two.news (w := w.alloc (.cells #[.int .u64 (hi a), .int .u64 (lo a)] 26)) (.int .u64 (hi b)) (.int .u64 (lo b)) (.int .u64 0) (.int .u64 0) 26 26
    simp only [World.size_alloc] at h; exact h
  case round =>
    obtain ⟨A, B, hm, hg, hA, hB, hI⟩ := hrel
    have HGG := Lib.hid hg
    have HA := Lib.hid hA
    have HB := Lib.hid hB
    clear hg hA hB
    obtain ⟨c0, c1, f0, f1, _⟩ := two_facts hI.2.1
    obtain ⟨c2, c3, f2, f3, _⟩ := two_facts hI.2.2.1
    by_cases hz : B = 0
    · subst hz
      have e0 : hi ((0 : Nat) : Int) = 0 := rfl
      have e1 : lo ((0 : Nat) : Int) = 0 := rfl
      rw [e0] at c2
      rw [e1] at c3
      have eG : A = G := by rw [← HGG.out, Nat.gcd_zero_right]
      subst eG
      obtain ⟨c4, c5, f4, f5, _⟩ := two_facts hI.2.2.2
      have bF := hI.1
      clear e0 e1 hI
      go_wp2_with fail
      refine bodyPost_ret (v := .agg #[.int .u64 (hi (A : Int)), .int .u64 (lo (A : Int))]) (by simp [results, Try.results36, go_sem, c4, c5]) rfl ⟨rfl, ?_⟩
      exact bel_set (bel_set bF _ _ _ (by omega)) _ _ _ (by omega)
    · have hw : 0 < hi (B : Int) ∨ (hi (B : Int) = 0 ∧ 0 < lo (B : Int)) := by simp only [hi, lo]; omega
      have hB1 : (1 : Int) ≤ (B : Int) := by omega
      have hrm : ((A % B : Nat) : Int) = (A : Int) % (B : Int) := by simp
      have Hrm := Lib.hid hrm
      have hlt := Nat.mod_lt A (show 0 < B by omega)
      clear hrm
      rcases hw with hw | ⟨hw0, hw⟩
      · go_wp2_with fail
        refine (divide_any A B _ (by omega) (by have := HA.out; omega) hB1 (by have := HB.out; omega)).mono ?_
        rintro e w1 ⟨rfl, b1⟩
        have i1 := (hI.bel b1).old (.cells #[.int .u64 (hi ((A : Int) / (B : Int))), .int .u64 (lo ((A : Int) / (B : Int)))] 26)
        have i2 := i1.old (.cells #[.int .u64 (hi ((A : Int) % (B : Int))), .int .u64 (lo ((A : Int) % (B : Int)))] 26)
        have t6 := Two.news (w := w1) (.int .u64 (hi ((A : Int) / (B : Int)))) (.int .u64 (lo ((A : Int) / (B : Int)))) (.int .u64 (hi ((A : Int) % (B : Int)))) (.int .u64 (lo ((A : Int) % (B : Int)))) 26 26
        have l1 := i1.2.2.1.lt
        have l0 := (hI.bel b1).2.2.1.lt
        go_wp2_with fail
        clear c0 c1 c2 c3 f0 f1 f2 f3 hI i1
        generalize (w1.alloc (.cells #[.int .u64 (hi ((A : Int) / (B : Int))), .int .u64 (lo ((A : Int) / (B : Int)))] 26)).alloc (.cells #[.int .u64 (hi ((A : Int) % (B : Int))), .int .u64 (lo ((A : Int) % (B : Int)))] 26) = V at *
        obtain ⟨c0, c1, f0, f1, _⟩ := two_facts i2.2.1
        obtain ⟨c2, c3, f2, f3, _⟩ := two_facts i2.2.2.1
        obtain ⟨c4, c5, _, _, _⟩ := two_facts t6
        go_region
        all_goals
          go_wp2_with fail
          go_roundg (A % B)
          case measure => omega
          case rel => exact ⟨B, A % B, Nat.le_refl _, by rw [← HGG.out, Nat.gcd_comm B, ← Nat.gcd_rec, Nat.gcd_comm], by have := HB.out; omega, by have := HB.out; omega, by rw [Hrm.out]; exact i2.put _ _⟩
      · have hw1 : decide (0 < hi (B : Int)) = false := by simp; omega
        clear hw0
        go_wp2_with fail
        refine (divide_any A B _ (by omega) (by have := HA.out; omega) hB1 (by have := HB.out; omega)).mono ?_
        rintro e w1 ⟨rfl, b1⟩
        have i1 := (hI.bel b1).old (.cells #[.int .u64 (hi ((A : Int) / (B : Int))), .int .u64 (lo ((A : Int) / (B : Int)))] 26)
        have i2 := i1.old (.cells #[.int .u64 (hi ((A : Int) % (B : Int))), .int .u64 (lo ((A : Int) % (B : Int)))] 26)
        have t6 := Two.news (w := w1) (.int .u64 (hi ((A : Int) / (B : Int)))) (.int .u64 (lo ((A : Int) / (B : Int)))) (.int .u64 (hi ((A : Int) % (B : Int)))) (.int .u64 (lo ((A : Int) % (B : Int)))) 26 26
        have l1 := i1.2.2.1.lt
        have l0 := (hI.bel b1).2.2.1.lt
        go_wp2_with fail
        clear c0 c1 c2 c3 f0 f1 f2 f3 hI i1
        generalize (w1.alloc (.cells #[.int .u64 (hi ((A : Int) / (B : Int))), .int .u64 (lo ((A : Int) / (B : Int)))] 26)).alloc (.cells #[.int .u64 (hi ((A : Int) % (B : Int))), .int .u64 (lo ((A : Int) % (B : Int)))] 26) = V at *
        obtain ⟨c0, c1, f0, f1, _⟩ := two_facts i2.2.1
        obtain ⟨c2, c3, f2, f3, _⟩ := two_facts i2.2.2.1
        obtain ⟨c4, c5, _, _, _⟩ := two_facts t6
        go_region
        all_goals
          go_wp2_with fail
          go_roundg (A % B)
          case measure => omega
          case rel => exact ⟨B, A % B, Nat.le_refl _, by rw [← HGG.out, Nat.gcd_comm B, ← Nat.gcd_rec, Nat.gcd_comm], by have := HB.out; omega, by have := HB.out; omega, by rw [Hrm.out]; exact i2.put _ _⟩
end Go.Proofs.Ytlkiondacgcmdaa

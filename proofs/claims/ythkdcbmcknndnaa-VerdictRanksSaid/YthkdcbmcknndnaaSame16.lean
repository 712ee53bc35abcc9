/- Two rows of texts held against one another: Same of the document's chapter 16. -/
import Derived.Test.YthkdcbmcknndnaaBase
namespace Go.Proofs.Ythkdcbmcknndnaa
open Go.RowKit
set_option linter.unusedVariables false
set_option maxHeartbeats 1000000 in
theorem same16_any (b1 b2 : Option Addr) (n1 n2 cap1 cap2 : Nat) (xs ys : List ByteArray) (w : World) (h1 : Strs w b1 xs) (h2 : Strs w b2 ys) (hn1 : xs.length = n1) (hn2 : ys.length = n2) (hc1 : n1 ≤ 1000000) (hc2 : n2 ≤ 1000000) :
    Calls Try.prog 5 #[.slice b1 n1 cap1, .slice b2 n2 cap2] w fun e w' => e = .returned (.bool (decide (xs = ys))) ∧ ∃ q, w' = w.drewN q := by
  have H1 := Lib.hid hn1
  have H2 := Lib.hid hn2
  clear hn1 hn2
  by_cases he : n1 = n2
  · subst he
    obtain ⟨r, hr⟩ : ∃ r, decide (xs = ys) = r := ⟨_, rfl⟩
    rw [hr]
    have HR := Lib.hid hr
    clear hr
    go_enter Try.func5, Try.ntmps5
    go_wp2_with fail
    go_loopw [5] (fun c wr => ∃ k q : Nat, k ≤ n1 ∧ c = .int .i64 k ∧ wr = w.drewN q ∧ Hid (xs.take k = ys.take k)) (fun c _ => n1 - (intOf c).toNat)
    case atStart => exact ⟨0, 0, by omega, rfl, rfl, Lib.hid (by simp)⟩
    case round =>
      obtain ⟨k, q, hk, rfl, rfl, HA⟩ := hrel
      by_cases hlt : k < n1
      · obtain ⟨a, ha⟩ : ∃ a, xs[k]? = some a := ⟨xs[k]'(by have := H1.out; omega), List.getElem?_eq_getElem _⟩
        obtain ⟨b, hb⟩ : ∃ a, ys[k]? = some a := ⟨ys[k]'(by have := H2.out; omega), List.getElem?_eq_getElem _⟩
        obtain ⟨B1, o1, rfl, _, c1⟩ := h1.at ha
        obtain ⟨B2, o2, rfl, _, c2⟩ := h2.at hb
        have HA1 := Lib.hid ha
        have HB1 := Lib.hid hb
        clear ha hb
        have hk0 : (0 : Int) ≤ (k : Int) := by omega
        have hk1 : (k : Int) < (n1 : Int) := by omega
        by_cases hab : a = b
        · subst hab
          go_wp2_with fail
          go_quiet (fail)
          go_wp2_with fail
          go_roundw
          case rel => exact ⟨k + 1, q + nq, by omega, by go_num, rfl, Lib.hid (by rw [List.take_add_one, List.take_add_one, HA.out, HA1.out, HB1.out])⟩
          case measure => simp [intOf]; omega
        · have hne : (a.toList == b.toList) = false := by rw [bytesEq]; exact decide_eq_false hab
          have hne2 : (a.toList != b.toList) = true := by simp [bne, hne]
          have er : r = false := by
            rw [← HR.out, decide_eq_false_iff_not]
            intro e; subst e
            have := HA1.out.symm.trans HB1.out
            exact hab (Option.some.inj this)
          subst er
          go_wp2_with fail
          go_quiet (fail)
          go_wp2_with fail
          go_ret
          exact ⟨rfl, q + nq, by simp⟩
      · have er : r = true := by
          rw [← HR.out, decide_eq_true_eq]
          have h := HA.out
          rw [List.take_of_length_le (by have := H1.out; omega), List.take_of_length_le (by have := H2.out; omega)] at h
          exact h
        subst er
        go_wp2_with fail
        go_ret
        exact ⟨rfl, _, rfl⟩
  · have e : decide (xs = ys) = false := by
      rw [decide_eq_false_iff_not]
      intro e; subst e
      exact he (H1.out.symm.trans H2.out)
    rw [e]
    clear e
    go_enter Try.func5, Try.ntmps5
    go_wp2_with fail
    go_ret
    exact ⟨rfl, 0, rfl⟩
end Go.Proofs.Ythkdcbmcknndnaa

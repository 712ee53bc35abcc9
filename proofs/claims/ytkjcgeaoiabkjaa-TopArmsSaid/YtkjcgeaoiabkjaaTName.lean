/- event.Name: is a text a name? -/
import Derived.Test.YtkjcgeaoiabkjaaTop1
namespace Go.Proofs.Ytkjcgeaoiabkjaa
open Go.RowKit
set_option linter.unusedVariables false
def signB (c : UInt8) : Bool := (decide (97 ≤ c.toNat) && decide (c.toNat ≤ 122)) || (decide (48 ≤ c.toNat) && decide (c.toNat ≤ 57)) || decide (c.toNat = 45)
def nameB (s : ByteArray) : Bool := decide (1 ≤ s.size) && decide (s.size ≤ 24) && s.data.toList.all signB
theorem byte_at (s : ByteArray) (k : Nat) (h : k < s.size) : s.data.toList[k]? = some s[k] := by
  have h' : k < s.data.toList.length := by simpa using h
  rw [List.getElem?_eq_getElem h']
  rfl
theorem take_snoc (s : ByteArray) (k : Nat) (h : k < s.size) : s.data.toList.take (k + 1) = s.data.toList.take k ++ [s[k]] := by
  rw [List.take_add_one, byte_at s k h]; rfl
theorem mem_byte (s : ByteArray) (k : Nat) (h : k < s.size) : s[k] ∈ s.data.toList := List.mem_of_getElem? (byte_at s k h)
theorem nameB_size {s : ByteArray} (h : nameB s = true) : 1 ≤ s.size ∧ s.size ≤ 24 := by
  simp only [nameB, Bool.and_eq_true, decide_eq_true_eq] at h
  exact h.1
set_option maxHeartbeats 2000000 in
theorem ename_any (s : ByteArray) (w : World) (hs : s.size ≤ maxLen) :
    Calls Try.prog 12 #[.string s] w fun e w' => e = .returned (.bool (nameB s)) ∧ w = w' := by
  obtain ⟨r, hr⟩ : ∃ r, nameB s = r := ⟨_, rfl⟩
  rw [hr]
  have HR := Lib.hid hr
  clear hr
  by_cases h1 : s.size < 1
  · have e : r = false := by rw [← HR.out]; unfold nameB; rw [decide_eq_false (show ¬ 1 ≤ s.size by omega)]; rfl
    subst e
    have t1 : decide ((s.size : Int) < 1) = true := decide_eq_true (by omega)
    go_enter Try.func12, Try.ntmps12
    go_wp2_with fail
    go_ret
    exact ⟨rfl, rfl⟩
  have t1 : decide ((s.size : Int) < 1) = false := decide_eq_false (by omega)
  by_cases h2 : 24 < s.size
  · have e : r = false := by rw [← HR.out]; unfold nameB; rw [decide_eq_false (show ¬ s.size ≤ 24 by omega), Bool.and_false]; rfl
    subst e
    have t2 : decide ((24 : Int) < (s.size : Int)) = true := decide_eq_true (by omega)
    go_enter Try.func12, Try.ntmps12
    go_wp2_with fail
    go_ret
    exact ⟨rfl, rfl⟩
  have t2 : decide ((24 : Int) < (s.size : Int)) = false := decide_eq_false (by omega)
  have HN : Hid (s.data.toList.all signB = r) := Lib.hid (by rw [← HR.out]; unfold nameB; rw [decide_eq_true (show 1 ≤ s.size by omega), decide_eq_true (show s.size ≤ 24 by omega)]; rfl)
  go_enter Try.func12, Try.ntmps12
  go_wp2_with fail
  go_loop [15] (fun i => ∃ k : Nat, k ≤ s.size ∧ i = .int .i64 k ∧ Hid ((s.data.toList.take k).all signB = true)) (fun i => s.size - (intOf i).toNat)
  case atStart => exact ⟨0, Nat.zero_le _, rfl, Lib.hid (by simp)⟩
  case round =>
    obtain ⟨k, hk, rfl, HA⟩ := hrel
    by_cases hlt : k < s.size
    · obtain ⟨c, hc⟩ : ∃ c, s[k].toNat = c := ⟨_, rfl⟩
      have hi1 : (k : Int) < (s.size : Int) := by omega
      rcases (show c < 45 ∨ c = 45 ∨ (46 ≤ c ∧ c ≤ 47) ∨ (48 ≤ c ∧ c ≤ 57) ∨ (58 ≤ c ∧ c ≤ 96) ∨ (97 ≤ c ∧ c ≤ 122) ∨ 123 ≤ c by omega) with hr | hr | hr | hr | hr | hr | hr
      · have d0 : decide (97 ≤ (s[k].toNat : Int)) = false := decide_eq_false (by omega)
        have d2 : decide (48 ≤ (s[k].toNat : Int)) = false := decide_eq_false (by omega)
        have d5 : ((s[k].toNat : Int) == 45) = false := by simp; omega
        have hr : r = false := by
          rw [← HR.out]
          have h1 : signB s[k] = false := by unfold signB; simp; omega
          have h2 : s.data.toList.all signB = false := by
            rw [List.all_eq_false]
            exact ⟨s[k], mem_byte s k hlt, by simp [h1]⟩
          unfold nameB
          rw [h2, Bool.and_false]
        subst hr
        clear hc
        go_wp2_with fail
        go_ret
        exact ⟨rfl, rfl⟩
      · have d0 : decide (97 ≤ (s[k].toNat : Int)) = false := decide_eq_false (by omega)
        have d2 : decide (48 ≤ (s[k].toNat : Int)) = false := decide_eq_false (by omega)
        have d5 : ((s[k].toNat : Int) == 45) = true := by simp; omega
        have HS' : Hid ((s.data.toList.take (k + 1)).all signB = true) := Lib.hid (by rw [take_snoc s k hlt, List.all_append, HA.out, Bool.true_and, List.all_cons, List.all_nil, Bool.and_true]; unfold signB; simp; omega)
        clear hc
        go_wp2_with fail
        go_round
        case rel => exact ⟨k + 1, by omega, by go_num, HS'⟩
        case measure => simp [intOf]; omega
      · have d0 : decide (97 ≤ (s[k].toNat : Int)) = false := decide_eq_false (by omega)
        have d2 : decide (48 ≤ (s[k].toNat : Int)) = false := decide_eq_false (by omega)
        have d5 : ((s[k].toNat : Int) == 45) = false := by simp; omega
        have hr : r = false := by
          rw [← HR.out]
          have h1 : signB s[k] = false := by unfold signB; simp; omega
          have h2 : s.data.toList.all signB = false := by
            rw [List.all_eq_false]
            exact ⟨s[k], mem_byte s k hlt, by simp [h1]⟩
          unfold nameB
          rw [h2, Bool.and_false]
        subst hr
        clear hc
        go_wp2_with fail
        go_ret
        exact ⟨rfl, rfl⟩
      · have d0 : decide (97 ≤ (s[k].toNat : Int)) = false := decide_eq_false (by omega)
        have d2 : decide (48 ≤ (s[k].toNat : Int)) = true := decide_eq_true (by omega)
        have d3 : decide ((s[k].toNat : Int) ≤ 57) = true := decide_eq_true (by omega)
        have d5 : ((s[k].toNat : Int) == 45) = false := by simp; omega
        have HS' : Hid ((s.data.toList.take (k + 1)).all signB = true) := Lib.hid (by rw [take_snoc s k hlt, List.all_append, HA.out, Bool.true_and, List.all_cons, List.all_nil, Bool.and_true]; unfold signB; simp; omega)
        clear hc
        go_wp2_with fail
        go_round
        case rel => exact ⟨k + 1, by omega, by go_num, HS'⟩
        case measure => simp [intOf]; omega
      · have d0 : decide (97 ≤ (s[k].toNat : Int)) = false := decide_eq_false (by omega)
        have d2 : decide (48 ≤ (s[k].toNat : Int)) = true := decide_eq_true (by omega)
        have d3 : decide ((s[k].toNat : Int) ≤ 57) = false := decide_eq_false (by omega)
        have d5 : ((s[k].toNat : Int) == 45) = false := by simp; omega
        have hr : r = false := by
          rw [← HR.out]
          have h1 : signB s[k] = false := by unfold signB; simp; omega
          have h2 : s.data.toList.all signB = false := by
            rw [List.all_eq_false]
            exact ⟨s[k], mem_byte s k hlt, by simp [h1]⟩
          unfold nameB
          rw [h2, Bool.and_false]
        subst hr
        clear hc
        go_wp2_with fail
        go_ret
        exact ⟨rfl, rfl⟩
      · have d0 : decide (97 ≤ (s[k].toNat : Int)) = true := decide_eq_true (by omega)
        have d1 : decide ((s[k].toNat : Int) ≤ 122) = true := decide_eq_true (by omega)
        have HS' : Hid ((s.data.toList.take (k + 1)).all signB = true) := Lib.hid (by rw [take_snoc s k hlt, List.all_append, HA.out, Bool.true_and, List.all_cons, List.all_nil, Bool.and_true]; unfold signB; simp; omega)
        clear hc
        go_wp2_with fail
        go_round
        case rel => exact ⟨k + 1, by omega, by go_num, HS'⟩
        case measure => simp [intOf]; omega
      · have d0 : decide (97 ≤ (s[k].toNat : Int)) = true := decide_eq_true (by omega)
        have d1 : decide ((s[k].toNat : Int) ≤ 122) = false := decide_eq_false (by omega)
        have d2 : decide (48 ≤ (s[k].toNat : Int)) = true := decide_eq_true (by omega)
        have d3 : decide ((s[k].toNat : Int) ≤ 57) = false := decide_eq_false (by omega)
        have d5 : ((s[k].toNat : Int) == 45) = false := by simp; omega
        have hr : r = false := by
          rw [← HR.out]
          have h1 : signB s[k] = false := by unfold signB; simp; omega
          have h2 : s.data.toList.all signB = false := by
            rw [List.all_eq_false]
            exact ⟨s[k], mem_byte s k hlt, by simp [h1]⟩
          unfold nameB
          rw [h2, Bool.and_false]
        subst hr
        clear hc
        go_wp2_with fail
        go_ret
        exact ⟨rfl, rfl⟩
    · have hk2 : s.data.toList.take k = s.data.toList := List.take_of_length_le (by simp; omega)
      have e : r = true := by rw [← HN.out]; have h := HA.out; rw [hk2] at h; exact h
      subst e
      clear hk2
      go_wp2_with fail
      go_ret
      exact ⟨rfl, rfl⟩
end Go.Proofs.Ytkjcgeaoiabkjaa

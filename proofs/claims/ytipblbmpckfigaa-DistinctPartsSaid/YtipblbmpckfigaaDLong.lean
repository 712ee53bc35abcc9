/- Contract of layer 13's long. -/
import Derived.Test.YtipblbmpckfigaaDAwake
import Derived.Test.YtipblbmpckfigaaStrs
namespace Go.Proofs.Ytipblbmpckfigaa
open Go.RowKit Dist
set_option linter.unusedVariables false
theorem ret_bool {a b : Bool} (h : a = b) : Ending.returned (.bool a) = .returned (.bool b) := by rw [h]
def longB (xs : List ByteArray) : Bool := xs.any (fun s => decide (60 < s.size)) || decide (200 < xs.length)
set_option maxHeartbeats 1000000 in
theorem long_any (b : Option Addr) (cap : Nat) (xs : List ByteArray) (w : World) (h : Strs w b xs) (hm : cap ≤ maxLen) (hl : xs.length ≤ cap) (ho : ∀ s ∈ xs, s.size ≤ maxLen) :
    Calls Try.prog 13 #[.slice b xs.length cap] w fun e w' => e = .returned (.bool (longB xs)) ∧ w = w' := by
  obtain ⟨r, hr⟩ : ∃ r, longB xs = r := ⟨_, rfl⟩
  rw [hr]
  have HR := Lib.hid hr
  clear hr
  unfold maxLen at hm
  generalize hn : xs.length = n at *
  have Hn := Lib.hid hn
  clear hn
  go_enter Try.func13, Try.ntmps13
  go_wp2_with fail
  go_loop [7] (fun c => ∃ k : Nat, k ≤ n ∧ c = .int .i64 k ∧ (xs.take k).any (fun s => decide (60 < s.size)) = false) (fun c => n - (intOf c).toNat)
  case atStart => exact ⟨0, by omega, rfl, by simp⟩
  case round =>
    obtain ⟨k, hk, rfl, hA⟩ := hrel
    have HA := Lib.hid hA
    clear hA
    by_cases hlt : k < n
    · obtain ⟨s, hs⟩ : ∃ s, xs[k]? = some s := ⟨xs[k]'(by have := Hn.out; omega), List.getElem?_eq_getElem _⟩
      obtain ⟨B, off, rfl, _, hc⟩ := h.at hs
      have hsz : s.size ≤ maxLen := ho s (List.mem_of_getElem? hs)
      unfold maxLen at hsz
      have HS := Lib.hid hs
      clear hs
      by_cases hbig : 60 < s.size
      · have e : r = true := by
          rw [← HR.out, longB, Bool.or_eq_true]
          left
          rw [List.any_eq_true]
          exact ⟨s, List.mem_of_getElem? HS.out, by simpa using hbig⟩
        subst e
        go_wp2_with fail
        go_ret
        exact ⟨rfl, rfl⟩
      · go_wp2_with fail
        go_round
        case rel =>
          refine ⟨k + 1, by omega, by go_num, ?_⟩
          rw [List.take_add_one, HS.out, List.any_append, HA.out]
          simpa using hbig
        case measure => simp [intOf]; omega
    · have hall : xs.any (fun s => decide (60 < s.size)) = false := by
        have h := HA.out
        rw [List.take_of_length_le (by have := Hn.out; omega)] at h; exact h
      have e : r = decide (200 < n) := by rw [← HR.out, longB, hall, Hn.out]; rfl
      have e2 : decide ((200 : Int) < (n : Int)) = r := by rw [e]; exact decide_eq_decide.2 (by omega)
      have E2 := Lib.hid e2
      clear e e2
      go_wp2_with fail
      go_ret
      exact ⟨ret_bool E2.out, rfl⟩
section
variable {H : Type} {enc : TypeId × Value → H} {W : World}
theorem open_l {r : Reach} {b0 : Nat} {v : Value} {d : DataW H} {p : List MemPlace} (hval : Value.okWide Try.prog W r b0 26 v) (h : DataW.Trod enc Try.prog W 0 (fun _ => true) true 26 v d p) :
    ∃ (b : Option Addr) (cap : Nat) (xs : List ByteArray), v = .slice b xs.length cap ∧ xs.length ≤ cap ∧ cap ≤ maxLen ∧ InW W b 1 (xs.map fun s => [.string s]) ∧ ∀ s ∈ xs, s.size ≤ maxLen :=
  open_texts Try.underlying26 Try.underlying9 (by kernel_rfl) hval h
end
/-- texts that are not too many, and short -/
theorem short_of {xs : List ByteArray} (h : longB xs = false) : xs.length ≤ 200 ∧ ∀ s ∈ xs, s.size ≤ 60 := by
  rw [longB, Bool.or_eq_false_iff] at h
  refine ⟨by have := h.2; simp at this; omega, fun s hs => ?_⟩
  have := List.any_eq_false.1 h.1 s hs
  simp at this; omega
end Go.Proofs.Ytipblbmpckfigaa

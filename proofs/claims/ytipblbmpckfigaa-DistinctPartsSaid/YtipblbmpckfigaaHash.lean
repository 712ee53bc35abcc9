/- Contracts of distinct.Hash and of the reference's. -/
import Derived.Test.YtipblbmpckfigaaChecked
import Derived.Test.YtipblbmpckfigaaOwn
import Derived.WalkLawsBesides
import Derived.WalkSpells
import Derived.Laws.Bits64
namespace Go.Proofs.Ytipblbmpckfigaa
open Go.RowKit
set_option linter.unusedVariables false
def hstep (h : Int) (c : UInt8) : Int := IntKind.u64.wrap (bits BinOp.xor IntKind.u64 h (IntKind.u64.wrap c.toNat) * 1099511628211)
def hturn (h : Int) : Int := bits BinOp.xor IntKind.u64 h (h / 8589934592)
def hmul (h p : Int) : Int := IntKind.u64.wrap (h * p)
theorem hmul_eq (h p : Int) : IntKind.u64.wrap (h * p) = hmul h p := rfl
theorem hturn_eq (h : Int) : bits BinOp.xor IntKind.u64 h (h / 8589934592) = hturn h := rfl
def hfold (l : List UInt8) : Int := l.foldl hstep 14695981039346656037
theorem hfold_snoc (l : List UInt8) (c : UInt8) : hfold (l ++ [c]) = hstep (hfold l) c := by simp [hfold]
theorem take_snoc (s : ByteArray) (k : Nat) (h : k < s.size) : s.data.toList.take (k + 1) = s.data.toList.take k ++ [s[k]] := by
  rw [List.take_succ_eq_append_getElem (by simpa using h)]; rfl
theorem u64_wrap_bd (n : Int) : 0 ≤ IntKind.u64.wrap n ∧ IntKind.u64.wrap n ≤ 18446744073709551615 := by
  simp [IntKind.wrap, IntKind.bits, IntKind.signed]; omega
theorem hfold_bd (l : List UInt8) : 0 ≤ hfold l ∧ hfold l ≤ 18446744073709551615 := by
  rcases List.eq_nil_or_concat l with rfl | ⟨m, c, rfl⟩
  · decide
  · rw [List.concat_eq_append, hfold_snoc]; exact u64_wrap_bd _
/-- a text's hash -/
def hash (l : List UInt8) : Int := hturn (hmul (hturn (hmul (hturn (hfold l)) 18397679294719823053)) 14181476777654086739)
theorem xor_bd (a b : Int) (h1 : 0 ≤ a) (h2 : a ≤ 18446744073709551615) (h3 : 0 ≤ b) (h4 : b ≤ 18446744073709551615) : 0 ≤ bits BinOp.xor IntKind.u64 a b ∧ bits BinOp.xor IntKind.u64 a b ≤ 18446744073709551615 := by
  obtain ⟨a, rfl⟩ := Int.eq_ofNat_of_zero_le h1
  obtain ⟨b, rfl⟩ := Int.eq_ofNat_of_zero_le h3
  rw [bits_xor_u64_nat a b (by omega) (by omega)]
  have : a ^^^ b < 2 ^ 64 := Nat.xor_lt_two_pow (by omega) (by omega)
  omega
theorem hturn_bd (h : Int) (h1 : 0 ≤ h) (h2 : h ≤ 18446744073709551615) : 0 ≤ hturn h ∧ hturn h ≤ 18446744073709551615 := xor_bd _ _ h1 h2 (by omega) (by omega)
theorem hash_bd (l : List UInt8) : 0 ≤ hash l ∧ hash l ≤ 18446744073709551615 := by
  have h3 := u64_wrap_bd (hturn (hmul (hturn (hfold l)) 18397679294719823053) * 14181476777654086739)
  exact hturn_bd _ h3.1 h3.2
theorem ret_u64 {a b : Int} (h : a = b) : Ending.returned (.int .u64 a) = .returned (.int .u64 b) := by rw [h]
set_option maxHeartbeats 1000000 in
theorem hash_any (s : ByteArray) (w : World) (hs : s.size ≤ maxLen) :
    Calls Try.prog 11 #[.string s] w fun e w' => e = .returned (.int .u64 (hash s.data.toList)) ∧ w = w' := by
  unfold maxLen at hs
  obtain ⟨H, hH⟩ : ∃ H, hash s.data.toList = H := ⟨_, rfl⟩
  rw [hH]
  have HH := Lib.hid hH
  clear hH
  go_enter Try.func11, Try.ntmps11
  go_wp2_with fail
  go_loop [3, 7] (fun h i => ∃ k : Nat, k ≤ s.size ∧ i = .int .i64 k ∧ h = .int .u64 (hfold (s.data.toList.take k))) (fun _ i => s.size - (intOf i).toNat)
  case atStart => exact ⟨0, Nat.zero_le _, rfl, rfl⟩
  case round =>
    obtain ⟨k, hk, rfl, rfl⟩ := hrel
    obtain ⟨h0, h1⟩ := hfold_bd (s.data.toList.take k)
    by_cases hlt : k < s.size
    · have HS : Hid (hfold (s.data.toList.take (k + 1)) = hstep (hfold (s.data.toList.take k)) s[k]) := by show _ = _; rw [take_snoc s k hlt, hfold_snoc]
      generalize hfold (s.data.toList.take k) = h at *
      go_wp2_with fail
      go_round
      case rel => exact ⟨k + 1, by omega, by go_num, by rw [HS.out, hstep]⟩
      case measure => simp [intOf]; omega
    · have hk2 : s.data.toList.take k = s.data.toList := List.take_of_length_le (by simp; omega)
      rw [hk2] at h0 h1
      have HF : Hid (hash s.data.toList = hturn (hmul (hturn (hmul (hturn (hfold s.data.toList)) 18397679294719823053)) 14181476777654086739)) := rfl
      rw [hk2]
      clear hk2
      generalize hfold s.data.toList = h at *
      go_wp2_with fail
      go_ret
      exact ⟨ret_u64 (by rw [← HH.out, HF.out, hmul, hmul, hturn, hturn, hturn]), rfl⟩
theorem turn_any (h : Int) (w : World) (h0 : 0 ≤ h) (h1 : h ≤ 18446744073709551615) :
    Calls Try.prog 28 #[.int .u64 h] w fun e w' => e = .returned (.int .u64 (hturn h)) ∧ w = w' := by
  go_enter Try.func28, Try.ntmps28
  go_wp2_with fail
  go_ret
  exact ⟨ret_u64 (by rw [hturn]), rfl⟩
set_option maxHeartbeats 1000000 in
theorem rhash_any (s : ByteArray) (w : World) (hs : s.size ≤ maxLen) :
    Calls Try.prog 12 #[.string s] w fun e w' => e = .returned (.int .u64 (hash s.data.toList)) ∧ w = w' := by
  unfold maxLen at hs
  obtain ⟨H, hH⟩ : ∃ H, hash s.data.toList = H := ⟨_, rfl⟩
  rw [hH]
  have HH := Lib.hid hH
  clear hH
  go_enter Try.func12, Try.ntmps12
  go_wp2_with fail
  go_loop [3, 4] (fun h i => ∃ k : Nat, k ≤ s.size ∧ i = .int .i64 k ∧ h = .int .u64 (hfold (s.data.toList.take k))) (fun _ i => s.size - (intOf i).toNat)
  case atStart => exact ⟨0, Nat.zero_le _, rfl, rfl⟩
  case round =>
    obtain ⟨k, hk, rfl, rfl⟩ := hrel
    obtain ⟨h0, h1⟩ := hfold_bd (s.data.toList.take k)
    by_cases hlt : k < s.size
    · have HS : Hid (hfold (s.data.toList.take (k + 1)) = hstep (hfold (s.data.toList.take k)) s[k]) := by show _ = _; rw [take_snoc s k hlt, hfold_snoc]
      generalize hfold (s.data.toList.take k) = h at *
      go_wp2_with fail
      go_round
      case rel => exact ⟨k + 1, by omega, by go_num, by rw [HS.out, hstep]⟩
      case measure => simp [intOf]; omega
    · have hk2 : s.data.toList.take k = s.data.toList := List.take_of_length_le (by simp; omega)
      rw [hk2] at h0 h1
      have HF : Hid (hash s.data.toList = hturn (hmul (hturn (hmul (hturn (hfold s.data.toList)) 18397679294719823053)) 14181476777654086739)) := rfl
      rw [hk2]
      clear hk2
      generalize hfold s.data.toList = h at *
      go_wp2_with fail
      refine (turn_any h _ h0 h1).mono ?_
      rintro e w1 ⟨rfl, rfl⟩
      go_wp2_with fail
      rw [hmul_eq]
      obtain ⟨b0, b1⟩ := u64_wrap_bd (hturn h * 18397679294719823053)
      rw [hmul_eq] at b0 b1
      generalize hmul (hturn h) 18397679294719823053 = p at *
      refine (turn_any p _ b0 b1).mono ?_
      rintro e w1 ⟨rfl, rfl⟩
      go_wp2_with fail
      rw [hmul_eq]
      obtain ⟨c0, c1⟩ := u64_wrap_bd (hturn p * 14181476777654086739)
      rw [hmul_eq] at c0 c1
      generalize hmul (hturn p) 14181476777654086739 = q at *
      refine (turn_any q _ c0 c1).mono ?_
      rintro e w1 ⟨rfl, rfl⟩
      go_wp2_with fail
      go_ret
      exact ⟨ret_u64 (by rw [← HH.out, HF.out]), rfl⟩
end Go.Proofs.Ytipblbmpckfigaa

/- draw.Hash, draw.Below, trial.Bucket. -/
import Derived.Test.YtkjcgeaoiabkjaaTName
import Derived.Test.YtkjcgeaoiabkjaaShelf
import Derived.WalkLawsBesides
import Derived.WalkSpells
import Derived.Laws.Bits64
namespace Go.Proofs.Ytkjcgeaoiabkjaa
open Go.RowKit Go.ChangeShapes Go.WideShapes
set_option linter.unusedVariables false
def dstep (h : Int) (c : UInt8) : Int := IntKind.u64.wrap (bits BinOp.xor IntKind.u64 h (IntKind.u64.wrap c.toNat) * 1099511628211)
def dend (h : Int) : Int := IntKind.u64.wrap (bits BinOp.xor IntKind.u64 h 256 * 1099511628211)
def dword (h : Int) (s : ByteArray) : Int := dend (s.data.toList.foldl dstep h)
def dwords (h : Int) (ws : List ByteArray) : Int := ws.foldl dword h
def dmix (p q h : Int) : Int := IntKind.u64.wrap (bits BinOp.xor IntKind.u64 h (h / p) * q)
def dlast (h : Int) : Int := bits BinOp.xor IntKind.u64 h (h / 8589934592)
def dhash (seed : Int) (ws : List ByteArray) : Int := dlast (dmix 134217728 9356908073163150413 (dmix 2147483648 9202087104158670213 (dwords (IntKind.u64.wrap (seed + 11400714819323198485)) ws)))
theorem u64_wrap_bd (n : Int) : 0 ≤ IntKind.u64.wrap n ∧ IntKind.u64.wrap n ≤ 18446744073709551615 := by
  simp [IntKind.wrap, IntKind.bits, IntKind.signed]; omega
theorem xor_bd (a b : Int) (h1 : 0 ≤ a) (h2 : a ≤ 18446744073709551615) (h3 : 0 ≤ b) (h4 : b ≤ 18446744073709551615) : 0 ≤ bits BinOp.xor IntKind.u64 a b ∧ bits BinOp.xor IntKind.u64 a b ≤ 18446744073709551615 := by
  obtain ⟨a, rfl⟩ := Int.eq_ofNat_of_zero_le h1
  obtain ⟨b, rfl⟩ := Int.eq_ofNat_of_zero_le h3
  rw [bits_xor_u64_nat a b (by omega) (by omega)]
  have : a ^^^ b < 2 ^ 64 := Nat.xor_lt_two_pow (by omega) (by omega)
  omega
theorem dsteps_bd {h : Int} (h0 : 0 ≤ h ∧ h ≤ 18446744073709551615) (l : List UInt8) : 0 ≤ l.foldl dstep h ∧ l.foldl dstep h ≤ 18446744073709551615 := by
  rcases List.eq_nil_or_concat l with rfl | ⟨m, c, rfl⟩
  · exact h0
  · rw [List.concat_eq_append, List.foldl_append]; exact u64_wrap_bd _
theorem dwords_bd {h : Int} (h0 : 0 ≤ h ∧ h ≤ 18446744073709551615) (l : List ByteArray) : 0 ≤ dwords h l ∧ dwords h l ≤ 18446744073709551615 := by
  unfold dwords
  rcases List.eq_nil_or_concat l with rfl | ⟨m, c, rfl⟩
  · exact h0
  · rw [List.concat_eq_append, List.foldl_append]; exact u64_wrap_bd _
theorem dlast_bd (h : Int) (h1 : 0 ≤ h) (h2 : h ≤ 18446744073709551615) : 0 ≤ dlast h ∧ dlast h ≤ 18446744073709551615 := xor_bd _ _ h1 h2 (by omega) (by omega)
theorem dmix_bd (p q h : Int) : 0 ≤ dmix p q h ∧ dmix p q h ≤ 18446744073709551615 := u64_wrap_bd _
theorem dhash_bd (seed : Int) (l : List ByteArray) : 0 ≤ dhash seed l ∧ dhash seed l ≤ 18446744073709551615 := dlast_bd _ (dmix_bd _ _ _).1 (dmix_bd _ _ _).2
theorem txt_at {w : World} {b : Option Addr} {xs : List ByteArray} (h : InW w b 1 (xs.map fun s => [.string s])) {i : Nat} {a : ByteArray} (hi : xs[i]? = some a) :
    ∃ B off, b = some ⟨B, off, none⟩ ∧ B < w.heap.size ∧ w.cell? ⟨B, off + i, none⟩ = some (.string a) := by
  rcases h with h | ⟨B, off, hb, hl, hc⟩
  · rw [List.map_eq_nil_iff.1 h] at hi; cases hi
  · have hm : (xs.map fun s => [Value.string s])[i]? = some [.string a] := by rw [List.getElem?_map, hi]; rfl
    have := hc i _ hm 0 _ rfl
    rw [Nat.mul_one] at this
    exact ⟨B, off, hb, hl, this⟩
theorem ret_u64 {a b : Int} (h : a = b) : Ending.returned (.int .u64 a) = .returned (.int .u64 b) := by rw [h]
set_option maxHeartbeats 2000000 in
theorem dhash_any (seed : Int) (b : Option Addr) (cap : Nat) (ws : List ByteArray) (w : World) (h0 : 0 ≤ seed) (h1 : seed ≤ 2) (hi : InW w b 1 (ws.map fun s => [.string s])) (hl : ws.length ≤ cap) (hm : cap ≤ maxLen) (ho : ∀ s ∈ ws, s.size ≤ maxLen) :
    Calls Try.prog 27 #[.int .u64 seed, .slice b ws.length cap] w fun e w' => e = .returned (.int .u64 (dhash seed ws)) ∧ w = w' := by
  obtain ⟨H, hH⟩ : ∃ H, dhash seed ws = H := ⟨_, rfl⟩
  rw [hH]
  have HH := Lib.hid hH
  have HI := Lib.hid hi
  have HO := Lib.hid ho
  unfold maxLen at hm
  clear hH hi ho
  generalize hwl : ws.length = n at *
  have Hn := Lib.hid hwl
  clear hwl
  have HB0 := Lib.hid (u64_wrap_bd (seed + 11400714819323198485))
  obtain ⟨s0, hs0⟩ : ∃ x, IntKind.u64.wrap (seed + 11400714819323198485) = x := ⟨_, rfl⟩
  rw [hs0] at HB0
  have HS0 := Lib.hid hs0
  go_enter Try.func27, Try.ntmps27
  go_wp2_with fail
  go_loop [5, 13] (fun h c => ∃ i : Nat, i ≤ n ∧ c = .int .i64 i ∧ h = .int .u64 (dwords s0 (ws.take i))) (fun _ c => n - (intOf c).toNat)
  case atStart => exact ⟨0, Nat.zero_le _, rfl, rfl⟩
  case round =>
    obtain ⟨i, hin, rfl, rfl⟩ := hrel
    clear hs0
    by_cases hlt : i < n
    · obtain ⟨s, hs⟩ : ∃ x, ws[i]? = some x := ⟨ws[i]'(by have := Hn.out; omega), List.getElem?_eq_getElem _⟩
      obtain ⟨B, off, rfl, hB, cx⟩ := txt_at HI.out hs
      have hsz := HO.out s (List.mem_of_getElem? hs)
      unfold maxLen at hsz
      have HT : Hid (dwords s0 (ws.take (i + 1)) = dword (dwords s0 (ws.take i)) s) := Lib.hid (by
        unfold dwords
        rw [List.take_add_one, hs, List.foldl_append]; rfl)
      have HD0 := Lib.hid (dwords_bd HB0.out (ws.take i))
      have hi0 : (0 : Int) ≤ (i : Int) := by omega
      have hi1 : (i : Int) < (n : Int) := by omega
      clear hs
      generalize dwords s0 (ws.take i) = g at *
      go_wp2_with fail
      go_loop [5, 19] (fun h c => ∃ k : Nat, k ≤ s.size ∧ c = .int .i64 k ∧ h = .int .u64 ((s.data.toList.take k).foldl dstep g)) (fun _ c => s.size - (intOf c).toNat)
      case atStart => exact ⟨0, Nat.zero_le _, rfl, rfl⟩
      case round =>
        obtain ⟨k, hk, rfl, rfl⟩ := hrel
        obtain ⟨h0, h1⟩ := dsteps_bd HD0.out (s.data.toList.take k)
        by_cases hlt2 : k < s.size
        · have HS : Hid ((s.data.toList.take (k + 1)).foldl dstep g = dstep ((s.data.toList.take k).foldl dstep g) s[k]) := by show _ = _; rw [take_snoc s k hlt2, List.foldl_append]; rfl
          generalize (s.data.toList.take k).foldl dstep g = h at *
          go_wp2_with fail
          go_round
          case rel => exact ⟨k + 1, by omega, by go_num, by rw [HS.out, dstep]⟩
          case measure => simp [intOf]; omega
        · have hk2 : s.data.toList.take k = s.data.toList := List.take_of_length_le (by simp; omega)
          rw [hk2] at h0 h1
          have HW : Hid (dword g s = dend (s.data.toList.foldl dstep g)) := rfl
          rw [hk2]
          clear hk2
          generalize s.data.toList.foldl dstep g = h at *
          go_wp2_with fail
          go_round
          case rel => exact ⟨i + 1, by omega, by go_num, by rw [HT.out, HW.out, dend]⟩
          case measure => simp [intOf]; omega
    · have hk2 : ws.take i = ws := List.take_of_length_le (by have := Hn.out; omega)
      obtain ⟨h0, h1⟩ := dwords_bd HB0.out ws
      have HF : Hid (H = dlast (dmix 134217728 9356908073163150413 (dmix 2147483648 9202087104158670213 (dwords s0 ws)))) := Lib.hid (by rw [← HH.out, ← HS0.out]; rfl)
      rw [hk2]
      clear hk2
      generalize dwords s0 ws = h at *
      go_wp2_with fail
      go_ret
      exact ⟨ret_u64 (by rw [HF.out, dlast, dmix, dmix]), rfl⟩
/-- what a hash draws of n -/
def belowF (h n : Nat) : Nat := h * n / 18446744073709551616
theorem belowF_lt {h n : Nat} (hh : h < 18446744073709551616) (hn : 1 ≤ n) : belowF h n < n := by
  unfold belowF
  refine Nat.div_lt_of_lt_mul ?_
  exact Nat.mul_lt_mul_of_pos_right hh hn
set_option maxHeartbeats 1000000 in
theorem below_any (h n : Nat) (w : World) (hh : h < 18446744073709551616) (h1 : 1 ≤ n) (h2 : n ≤ 1000) :
    Calls Try.prog 26 #[.int .u64 h, .int .i64 n] w fun e w' => e = .returned (.int .i64 (belowF h n : Nat)) ∧ w = w' := by
  have HM := Lib.hid (Try.bits_Mul64 h n hh (by omega) w)
  have hb := belowF_lt hh h1
  unfold belowF at *
  generalize h * n / 18446744073709551616 = r at *
  generalize h * n % 18446744073709551616 = r2 at *
  have t1 : decide ((n : Int) < 1) = false := decide_eq_false (by omega)
  have q1 : IntKind.u64.wrap (n : Int) = (n : Int) := by simp [IntKind.wrap, IntKind.bits, IntKind.signed]; omega
  have q2 : IntKind.i64.wrap (r : Int) = (r : Int) := IntWalk.i64_in _ (by omega)
  go_enter Try.func26, Try.ntmps26
  go_wp2_with fail
  refine HM.out.mono ?_
  rintro e w1 ⟨rfl, rfl⟩
  go_wp2_with fail
  go_ret
  exact ⟨rfl, rfl⟩
end Go.Proofs.Ytkjcgeaoiabkjaa

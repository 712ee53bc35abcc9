/- Contracts of the reference's Kept, Least, Size, Count, and of layer 13's like. -/
import Derived.Test.YtipblbmpckfigaaDRef
namespace Go.Proofs.Ytipblbmpckfigaa
open Go.RowKit Dist
set_option linter.unusedVariables false

theorem kept_any (v : Value) (L T : List Int) (k : Nat) (w : World) (hr : w.ownsRow 0 23 1 v L.length (L.map (Value.int .u64))) (hT : L.take k = T) (hk1 : 1 ≤ k) (hk2 : k ≤ 4096) (hL : L.length ≤ 1000000) :
    Calls Try.prog 20 #[v, .int .i64 k] w fun e w' => (∃ v', e = .returned v' ∧ w'.ownsRow 0 23 1 v' T.length (T.map (Value.int .u64))) ∧ w = w' := by
  obtain ⟨hl, h1 | ⟨r, cap, cs, rfl, h2, h3, h4, h5, h6⟩⟩ := bk_of_row hr
  · obtain ⟨rfl, h7, h8⟩ := h1
    have hLn : L = [] := List.map_eq_nil_iff.1 h8
    subst hLn
    have : T = [] := by rw [← hT]; simp
    subst this
    go_enter Try.func20, Try.ntmps20
    go_wp2
    go_ret
    exact ⟨⟨_, rfl, World.ownsRow_nil _ _ _ _⟩, rfl⟩
  · by_cases hlt : k < L.length
    · have hTl : T.length = k := by rw [← hT, List.length_take]; omega
      have hc := Lib.hid (row_cut hr (m := k) (by omega))
      have HT := Lib.hid hT
      unfold maxLen at h5
      clear hr h2 h3 h6 hT
      generalize hn : L.length = n at *
      have b1 : (k : Int) ≤ (cap : Int) := by omega
      go_enter Try.func20, Try.ntmps20
      go_wp2
      go_ret
      exact ⟨⟨_, rfl, by rw [hTl, ← HT.out, List.map_take]; exact hc.out⟩, rfl⟩
    · have hTL : T = L := by rw [← hT]; exact List.take_of_length_le (by omega)
      subst hTL
      have hc := Lib.hid hr
      unfold maxLen at h5
      clear hr h2 h3 h6 hT
      generalize hn : T.length = n at *
      go_enter Try.func20, Try.ntmps20
      go_wp2
      go_ret
      exact ⟨⟨_, rfl, hc.out⟩, rfl⟩
theorem rleast_any (b : Option Addr) (cap : Nat) (L : List Int) (k : Nat) (w : World) (hk2 : k ≤ 4096) (hL : L.length ≤ 1000000) :
    Calls Try.prog 32 #[.slice b L.length cap, .int .i64 k] w fun e w' => e = .returned (.int .i64 (leastOf k L)) ∧ w = w' := by
  unfold leastOf
  by_cases h : k < L.length
  · rw [if_pos h]
    generalize L.length = n at *
    go_enter Try.func32, Try.ntmps32
    go_wp2
    go_ret
    exact ⟨by simp, rfl⟩
  · rw [if_neg h]
    generalize L.length = n at *
    go_enter Try.func32, Try.ntmps32
    go_wp2
    go_ret
    exact ⟨rfl, rfl⟩
theorem rsize_any (k : Int) (w : World) :
    Calls Try.prog 19 #[.int .i64 k] w fun e w' => e = .returned (.int .i64 (sizeK k)) ∧ w = w' := by
  by_cases h1 : k < 1
  · have e : sizeK k = 1 := by simp [sizeK, h1]
    rw [e]
    go_enter Try.func19, Try.ntmps19
    go_wp2
    go_ret
    exact ⟨rfl, rfl⟩
  · by_cases h2 : k > 4096
    · have e : sizeK k = 4096 := by simp [sizeK, h1, h2]
      rw [e]
      go_enter Try.func19, Try.ntmps19
      go_wp2
      go_ret
      exact ⟨rfl, rfl⟩
    · have e : sizeK k = k.toNat := by simp [sizeK, h1, h2]
      rw [e]
      obtain ⟨n, rfl⟩ := Int.eq_ofNat_of_zero_le (show 0 ≤ k by omega)
      clear e
      go_enter Try.func19, Try.ntmps19
      go_wp2
      go_ret
      exact ⟨rfl, rfl⟩

/-- so many bits of the quotient are found -/
def Bits (d h : Int) (i : Nat) (q r : Int) : Prop := 0 ≤ q ∧ 0 ≤ r ∧ r < h ∧ q * h + r = d * 2 ^ i
theorem bits_q {d h : Int} {i : Nat} {q r : Int} (b : Bits d h i q r) (hd : 0 ≤ d) (hdh : d < h) (hi : i ≤ 64) : q ≤ 2 ^ i - 1 := by
  obtain ⟨b1, b2, b3, b4⟩ := b
  have hp : (0 : Int) < 2 ^ i := Int.pow_pos (by omega)
  rcases Int.lt_or_le q (2 ^ i) with k | k
  · omega
  · exfalso
    have h1 : 2 ^ i * h ≤ q * h := Int.mul_le_mul_of_nonneg_right k (by omega)
    have h2 : 2 ^ i * (d + 1) ≤ 2 ^ i * h := Int.mul_le_mul_of_nonneg_left (by omega) (by omega)
    rw [Int.mul_add, Int.mul_one, Int.mul_comm (2 ^ i) d] at h2
    omega
theorem bits_more {d h : Int} {i : Nat} {q r : Int} (b : Bits d h i q r) (hr : h ≤ 2 * r) : Bits d h (i + 1) (2 * q + 1) (2 * r - h) := by
  obtain ⟨b1, b2, b3, b4⟩ := b
  refine ⟨by omega, by omega, by omega, ?_⟩
  rw [Int.pow_succ, ← Int.mul_assoc, ← b4, Int.add_mul, Int.one_mul, Int.mul_assoc]
  generalize q * h = x
  omega
theorem bits_less {d h : Int} {i : Nat} {q r : Int} (b : Bits d h i q r) (hr : 2 * r < h) : Bits d h (i + 1) (2 * q) (2 * r) := by
  obtain ⟨b1, b2, b3, b4⟩ := b
  refine ⟨by omega, by omega, by omega, ?_⟩
  rw [Int.pow_succ, ← Int.mul_assoc, ← b4, Int.mul_assoc]
  generalize q * h = x
  omega
theorem bits_all {d h q r : Int} (b : Bits d h 64 q r) : q = d * 18446744073709551616 / h := by
  obtain ⟨b1, b2, b3, b4⟩ := b
  have e : d * 2 ^ 64 = d * 18446744073709551616 := by rfl
  rw [e] at b4
  have u := Int.ediv_emod_unique (a := d * 18446744073709551616) (b := h) (r := r) (q := q) (by omega)
  exact ((u.2 ⟨by rw [Int.mul_comm]; omega, b2, b3⟩).1).symm
theorem pow_le_64 {i : Nat} (h : i < 64) : (2 : Int) ^ i ≤ 9223372036854775808 := by
  have h1 : (2 : Nat) ^ i ≤ 2 ^ 63 := Nat.pow_le_pow_right (by omega) (by omega)
  have h2 : ((2 ^ i : Nat) : Int) ≤ ((2 ^ 63 : Nat) : Int) := by exact_mod_cast h1
  rw [Int.natCast_pow] at h2
  exact h2
theorem u64w (n : Int) : IntKind.u64.wrap n = n % 18446744073709551616 := by simp [IntKind.wrap, IntKind.bits, IntKind.signed]
/-- the doubled remainder, in words of 64 bits -/
theorem dbl_high (r h : Int) (h1 : 9223372036854775808 ≤ r) (h2 : r < h) (h3 : h ≤ 18446744073709551615) : ∃ r2, IntKind.u64.wrap (2 * r) = r2 ∧ IntKind.u64.wrap (r2 - h) = 2 * r - h ∧ 0 ≤ r2 := by
  refine ⟨_, rfl, ?_, ?_⟩ <;> (simp only [u64w]; omega)

set_option maxHeartbeats 4000000 in
set_option maxRecDepth 100000 in
theorem rcount_more (b : Option Addr) (cap : Nat) (L : List Int) (k : Nat) (w : World) (hN : Nums w b L) (hk1 : 1 ≤ k) (hk2 : k ≤ 4096) (hL : L.length ≤ 1000000) (hu : ∀ x ∈ L, 0 ≤ x ∧ x ≤ 18446744073709551615) (hm : k < L.length) :
    Calls Try.prog 31 #[.slice b L.length cap, .int .i64 k] w fun e w' => e = .returned (.int .i64 (nearly k (L.getD (k - 1) 0))) ∧ w = w' := by
  have hx : L[k - 1]? = some (L.getD (k - 1) 0) := by rw [List.getD_eq_getElem?_getD, List.getElem?_eq_getElem (by omega)]; rfl
  obtain ⟨x0, x1⟩ := hu _ (List.mem_of_getElem? hx)
  obtain ⟨B, o, rfl, lb, cx⟩ := hN.at hx
  generalize L.getD (k - 1) 0 = x at *
  clear hx hu hN
  generalize L.length = n at *
  have e1 : IntKind.i64.wrap ((k : Int) - 1) = ((k - 1 : Nat) : Int) := by rw [IntKind.wrap_i64]; omega
  have e2 : (k : Int) - 1 = ((k - 1 : Nat) : Int) := by omega
  obtain ⟨y, hy, hyc⟩ : ∃ y : Int, (if x = 0 then (1 : Int) else x) = y ∧ ((x = 0 ∧ y = 1) ∨ (1 ≤ x ∧ y = x)) := by
    by_cases h : x = 0
    · exact ⟨1, by rw [if_pos h], .inl ⟨h, rfl⟩⟩
    · exact ⟨x, by rw [if_neg h], .inr ⟨by omega, rfl⟩⟩
  have HN : Hid (nearly k x = if y ≤ (k : Int) - 1 then 4611686018427387904
      else if 4611686018427387904 < ((k : Int) - 1) * 18446744073709551616 / y then 4611686018427387904
      else if ((k : Int) - 1) * 18446744073709551616 / y < (k : Int) + 1 then (k : Int) + 1
      else ((k : Int) - 1) * 18446744073709551616 / y) := by show nearly k x = _; unfold nearly; rw [hy]
  clear hy
  rw [e2] at HN
  obtain ⟨d, hd⟩ : ∃ d : Nat, k - 1 = d := ⟨_, rfl⟩
  rw [hd] at HN e1 e2 cx
  have hkd : k = d + 1 := by omega
  generalize nearly k x = N at *
  have hy1 : 1 ≤ y ∧ y ≤ 18446744073709551615 := by omega
  obtain ⟨y1, y2⟩ := hy1
  have tn : ((d : Nat) : Int).toNat = d := by omega
  have dlt : (d : Int) < (n : Int) := by omega
  clear hd
  have Hkd := Lib.hid hkd
  clear hkd
  by_cases hge : y ≤ (d : Int)
  · have hN' : N = 4611686018427387904 := by rw [HN.out, if_pos hge]
    subst hN'
    rcases hyc with ⟨rfl, rfl⟩ | ⟨hx1, rfl⟩
    · go_enter Try.func31, Try.ntmps31
      go_wp2_with fail
      go_ret
      exact ⟨rfl, rfl⟩
    · have t0 : (y == 0) = false := by simp; omega
      go_enter Try.func31, Try.ntmps31
      go_wp2_with fail
      go_ret
      exact ⟨rfl, rfl⟩
  · rw [if_neg hge] at HN
    have B0 : Bits d y 0 0 d := ⟨by omega, by omega, by omega, by simp⟩
    have HB0 := Lib.hid B0
    clear B0
    have t9 : decide (y ≤ (d : Int)) = false := decide_eq_false hge
    rcases hyc with ⟨rfl, rfl⟩ | ⟨hx1, rfl⟩
    · skip
      go_enter Try.func31, Try.ntmps31
      go_wp2_with fail
      go_loop [6, 7, 8, 9] (fun s6 s7 c _ => ∃ (i : Nat) (q r : Int), i ≤ 64 ∧ c = .int .i64 i ∧ s6 = .int .u64 q ∧ s7 = .int .u64 r ∧ Bits d 1 i q r) (fun _ _ c _ => 64 - (intOf c).toNat)
      case atStart => exact ⟨0, 0, d, by omega, rfl, rfl, rfl, HB0.out⟩
      case round =>
        obtain ⟨i, q, r, hi, rfl, rfl, rfl, hB⟩ := hrel
        have hB' := hB
        obtain ⟨q0, r0, ry, _⟩ := hB'
        have hq := bits_q hB (by omega) (by omega) hi
        have HB := Lib.hid hB
        clear hB
        by_cases hlt : i < 64
        · have hp := pow_le_64 hlt
          have hq2 : q ≤ 9223372036854775807 := by omega
          clear hp hq
          have u2 : IntKind.u64.wrap (2 * q) = 2 * q := by rw [u64w]; omega
          have u3 : IntKind.u64.wrap (2 * q + 1) = 2 * q + 1 := by rw [u64w]; omega
          by_cases hh : 9223372036854775808 ≤ r
          · obtain ⟨r2, w1, w2, w3⟩ := dbl_high r 1 hh ry y2
            have HN1 := Lib.hid (bits_more HB.out (by omega))
            have t1 : decide (9223372036854775808 ≤ r) = true := decide_eq_true hh
            go_wp2_with fail
            all_goals
              go_round
              case rel => exact ⟨i + 1, _, _, by omega, by go_num, rfl, rfl, HN1.out⟩
              case measure => simp [intOf]; omega
          · have u4 : IntKind.u64.wrap (2 * r) = 2 * r := by rw [u64w]; omega
            have t1 : decide (9223372036854775808 ≤ r) = false := decide_eq_false hh
            by_cases hr : 1 ≤ 2 * r
            · have u5 : IntKind.u64.wrap (2 * r - 1) = 2 * r - 1 := by rw [u64w]; omega
              have t2 : decide (1 ≤ 2 * r) = true := decide_eq_true hr
              have HN1 := Lib.hid (bits_more HB.out hr)
              go_wp2_with fail
              all_goals
                go_round
                case rel => exact ⟨i + 1, _, _, by omega, by go_num, rfl, rfl, HN1.out⟩
                case measure => simp [intOf]; omega
            · have t2 : decide (1 ≤ 2 * r) = false := decide_eq_false hr
              have HN1 := Lib.hid (bits_less HB.out (by omega))
              go_wp2_with fail
              all_goals
                go_round
                case rel => exact ⟨i + 1, _, _, by omega, by go_num, rfl, rfl, HN1.out⟩
                case measure => simp [intOf]; omega
        · obtain rfl : i = 64 := by omega
          have hqq := bits_all HB.out
          have HQ := Lib.hid hqq
          have hN2 : (4611686018427387904 < q ∧ N = 4611686018427387904) ∨ (q ≤ 4611686018427387904 ∧ q < (k : Int) + 1 ∧ N = (k : Int) + 1) ∨ (q ≤ 4611686018427387904 ∧ (k : Int) + 1 ≤ q ∧ N = q) := by
            have h0 := HN.out
            rw [← HQ.out] at h0
            rw [h0]
            by_cases h1 : 4611686018427387904 < q
            · exact .inl ⟨h1, by rw [if_pos h1]⟩
            · rw [if_neg h1]
              by_cases h2 : q < (k : Int) + 1
              · exact .inr (.inl ⟨by omega, h2, by rw [if_pos h2]⟩)
              · exact .inr (.inr ⟨by omega, by omega, by rw [if_neg h2]⟩)
          have hqm : q ≤ 18446744073709551615 := by
            have : (2 : Int) ^ 64 - 1 = 18446744073709551615 := by rfl
            omega
          clear hqq hq HN HQ HB
          rcases hN2 with ⟨h1, rfl⟩ | ⟨h1, h2, rfl⟩ | ⟨h1, h2, rfl⟩
          all_goals
            (go_wp2_with fail) <;> (go_ret; exact ⟨rfl, rfl⟩)
    · have t0 : (y == 0) = false := by simp; omega
      go_enter Try.func31, Try.ntmps31
      go_wp2_with fail
      go_loop [6, 7, 8, 9] (fun s6 s7 c _ => ∃ (i : Nat) (q r : Int), i ≤ 64 ∧ c = .int .i64 i ∧ s6 = .int .u64 q ∧ s7 = .int .u64 r ∧ Bits d y i q r) (fun _ _ c _ => 64 - (intOf c).toNat)
      case atStart => exact ⟨0, 0, d, by omega, rfl, rfl, rfl, HB0.out⟩
      case round =>
        obtain ⟨i, q, r, hi, rfl, rfl, rfl, hB⟩ := hrel
        have hB' := hB
        obtain ⟨q0, r0, ry, _⟩ := hB'
        have hq := bits_q hB (by omega) (by omega) hi
        have HB := Lib.hid hB
        clear hB
        by_cases hlt : i < 64
        · have hp := pow_le_64 hlt
          have hq2 : q ≤ 9223372036854775807 := by omega
          clear hp hq
          have u2 : IntKind.u64.wrap (2 * q) = 2 * q := by rw [u64w]; omega
          have u3 : IntKind.u64.wrap (2 * q + 1) = 2 * q + 1 := by rw [u64w]; omega
          by_cases hh : 9223372036854775808 ≤ r
          · obtain ⟨r2, w1, w2, w3⟩ := dbl_high r y hh ry y2
            have HN1 := Lib.hid (bits_more HB.out (by omega))
            have t1 : decide (9223372036854775808 ≤ r) = true := decide_eq_true hh
            go_wp2_with fail
            all_goals
              go_round
              case rel => exact ⟨i + 1, _, _, by omega, by go_num, rfl, rfl, HN1.out⟩
              case measure => simp [intOf]; omega
          · have u4 : IntKind.u64.wrap (2 * r) = 2 * r := by rw [u64w]; omega
            have t1 : decide (9223372036854775808 ≤ r) = false := decide_eq_false hh
            by_cases hr : y ≤ 2 * r
            · have u5 : IntKind.u64.wrap (2 * r - y) = 2 * r - y := by rw [u64w]; omega
              have t2 : decide (y ≤ 2 * r) = true := decide_eq_true hr
              have HN1 := Lib.hid (bits_more HB.out hr)
              go_wp2_with fail
              all_goals
                go_round
                case rel => exact ⟨i + 1, _, _, by omega, by go_num, rfl, rfl, HN1.out⟩
                case measure => simp [intOf]; omega
            · have t2 : decide (y ≤ 2 * r) = false := decide_eq_false hr
              have HN1 := Lib.hid (bits_less HB.out (by omega))
              go_wp2_with fail
              all_goals
                go_round
                case rel => exact ⟨i + 1, _, _, by omega, by go_num, rfl, rfl, HN1.out⟩
                case measure => simp [intOf]; omega
        · obtain rfl : i = 64 := by omega
          have hqq := bits_all HB.out
          have HQ := Lib.hid hqq
          have hN2 : (4611686018427387904 < q ∧ N = 4611686018427387904) ∨ (q ≤ 4611686018427387904 ∧ q < (k : Int) + 1 ∧ N = (k : Int) + 1) ∨ (q ≤ 4611686018427387904 ∧ (k : Int) + 1 ≤ q ∧ N = q) := by
            have h0 := HN.out
            rw [← HQ.out] at h0
            rw [h0]
            by_cases h1 : 4611686018427387904 < q
            · exact .inl ⟨h1, by rw [if_pos h1]⟩
            · rw [if_neg h1]
              by_cases h2 : q < (k : Int) + 1
              · exact .inr (.inl ⟨by omega, h2, by rw [if_pos h2]⟩)
              · exact .inr (.inr ⟨by omega, by omega, by rw [if_neg h2]⟩)
          have hqm : q ≤ 18446744073709551615 := by
            have : (2 : Int) ^ 64 - 1 = 18446744073709551615 := by rfl
            omega
          clear hqq hq HN HQ HB
          rcases hN2 with ⟨h1, rfl⟩ | ⟨h1, h2, rfl⟩ | ⟨h1, h2, rfl⟩
          all_goals
            (go_wp2_with fail) <;> (go_ret; exact ⟨rfl, rfl⟩)
theorem rcount_any (b : Option Addr) (cap : Nat) (L : List Int) (k : Nat) (w : World) (hN : Nums w b L) (hk1 : 1 ≤ k) (hk2 : k ≤ 4096) (hL : L.length ≤ 1000000) (hu : ∀ x ∈ L, 0 ≤ x ∧ x ≤ 18446744073709551615) :
    Calls Try.prog 31 #[.slice b L.length cap, .int .i64 k] w fun e w' => e = .returned (.int .i64 (countOf k L)) ∧ w = w' := by
  unfold countOf
  by_cases h : k < L.length
  · rw [if_pos h]; exact rcount_more b cap L k w hN hk1 hk2 hL hu h
  · rw [if_neg h]
    clear hN hu
    generalize L.length = n at *
    have t : decide (n ≤ k) = true := decide_eq_true (by omega)
    go_enter Try.func31, Try.ntmps31
    go_wp2_with fail
    go_ret
    exact ⟨rfl, rfl⟩

set_option maxHeartbeats 2000000 in
/-- a counter that is what the document says -/
theorem like_any (g k : Nat) (v va : Value) (L : List Int) (w : World) (hC : Cnt w g v k L) (hr : w.ownsRow 0 23 1 va L.length (L.map (Value.int .u64))) (hL : L.length ≤ 1000000) :
    Calls Try.prog 22 #[.pointer (some ⟨g, 0, none⟩), va, .int .i64 k] w fun e w' => e = .returned (.bool true) ∧ Below w.heap.size w w' := by
  obtain ⟨T, hT⟩ : ∃ T, L.take k = T := ⟨_, rfl⟩
  have hk1 := hC.k1
  have hk2 := hC.k2
  have hu := hC.u64
  have hTl : T.length ≤ 1000000 := by rw [← hT, List.length_take]; omega
  have HT := Lib.hid hT
  obtain ⟨p1, q1, rfl, _, _, N1, _⟩ := nums_of_row hr
  obtain ⟨n, hn⟩ : ∃ n, L.length = n := ⟨_, rfl⟩
  have t1 : (!decide (k < n)) = decide (n ≤ k) := by
    by_cases h : k < n
    · rw [decide_eq_true h, decide_eq_false (by omega)]; rfl
    · rw [decide_eq_false h, decide_eq_true (by omega)]; rfl
  have KE := Lib.hid (fun wx (c : Cnt wx g v k L) => Exact_any g k v L wx c)
  have KC := Lib.hid (fun wx (c : Cnt wx g v k L) => Count_any g k v L wx c)
  have KL := Lib.hid (fun wx (c : Cnt wx g v k L) => Least_any g k v L wx c)
  have RC := Lib.hid (fun wx (c : Nums wx p1 L) => rcount_any p1 q1 L k wx c hk1 hk2 hL hu)
  have RL := Lib.hid (fun wx => rleast_any p1 q1 L k wx hk2 hL)
  have KK := Lib.hid (fun wx (r : wx.ownsRow 0 23 1 (.slice p1 L.length q1) L.length (L.map (Value.int .u64))) => kept_any _ L T k wx r hT hk1 hk2 hL)
  rw [hn, t1] at KE
  generalize countOf k L = cc at *
  generalize leastOf k L = ll at *
  rw [hn] at RC RL KK hL hr
  rw [hn]
  clear t1 hT hn hu
  obtain ⟨z, hz⟩ : ∃ z, decide (n ≤ k) = z := ⟨_, rfl⟩
  have zz : (z == z) = true := by simp
  go_enter Try.func22, Try.ntmps22
  go_wp2_with fail
  refine (Hashes_as g k v L T _ hC HT.out).mono ?_
  rintro e w1 ⟨x1, rfl, R1, X1, b1⟩
  obtain ⟨p2, q2, rfl, _, _, N2, _⟩ := nums_of_row R1
  have C1 := hC.bel b1
  have M1 := N1.bel b1
  have r1 : w1.ownsRow 0 23 1 (.slice p1 n q1) n (L.map (Value.int .u64)) := (Fr.of_bel (S := none') b1).row hr (fun _ _ => id)
  clear hC N1 hr R1 X1
  go_wp2_with fail
  refine (KK.out _ r1).mono ?_
  rintro e w2 ⟨⟨x2, rfl, R2⟩, rfl⟩
  obtain ⟨p3, q3, rfl, _, _, N3, _⟩ := nums_of_row R2
  clear R2
  go_wp2_with fail
  refine (same_any p2 p3 q2 q3 T T _ N2 N3 hTl hTl).mono ?_
  rintro e w3 ⟨rfl, b3⟩
  rw [decide_eq_true (rfl : T = T)]
  have C3 := C1.bel b3
  have M3 := M1.bel b3
  have B3 := b1.trans (b3.mono b1.size)
  clear C1 M1 r1 N2 N3 b1 b3
  go_wp2_with fail
  refine (KE.out _ C3).mono ?_
  rintro e w4 ⟨rfl, rfl⟩
  rw [hz]
  go_wp2_with fail
  refine (KC.out _ C3).mono ?_
  rintro e w4 ⟨rfl, b4⟩
  have C4 := C3.bel b4
  have M4 := M3.bel b4
  have B4 := B3.trans (b4.mono B3.size)
  clear C3 M3 B3 b4
  go_wp2_with fail
  refine (RC.out _ M4).mono ?_
  rintro e w5 ⟨rfl, rfl⟩
  go_wp2_with fail
  refine (KL.out _ C4).mono ?_
  rintro e w5 ⟨rfl, rfl⟩
  go_wp2_with fail
  refine (RL.out _).mono ?_
  rintro e w5 ⟨rfl, rfl⟩
  go_wp2_with fail
  go_ret
  exact ⟨rfl, B4⟩
end Go.Proofs.Ytipblbmpckfigaa

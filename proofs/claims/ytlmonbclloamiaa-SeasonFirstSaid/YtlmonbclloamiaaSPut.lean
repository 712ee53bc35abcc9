/- Contracts of the document's in, Put and Same of texts (layer 16). -/
import Derived.Test.YtlmonbclloamiaaSRef2
import Derived.Test.YtlmonbclloamiaaIns
import Derived.Laws.Strings
namespace Go.Proofs.Ytlmonbclloamiaa
open Go.RowKit Go.MapKept Go.Maps
set_option linter.unusedVariables false
def memB (ks : List ByteArray) (k : ByteArray) : Bool := ks.any fun x => decide (x = k)
theorem memB_iff (ks : List ByteArray) (k : ByteArray) : memB ks k = true ↔ k ∈ ks := by
  unfold memB
  rw [List.any_eq_true]
  constructor
  · rintro ⟨x, h1, h2⟩
    have := of_decide_eq_true h2
    exact this ▸ h1
  · exact fun h => ⟨k, h, decide_eq_true rfl⟩
theorem memB_no {ks : List ByteArray} {k : ByteArray} (h : k ∉ ks) : memB ks k = false := by
  cases e : memB ks k with
  | false => rfl
  | true => exact absurd ((memB_iff ks k).1 e) h
set_option maxHeartbeats 1000000 in
theorem in16_any (b : Option Addr) (cap : Nat) (ks : List ByteArray) (k : ByteArray) (w : World) (h : Strs w b ks) (hl : ks.length ≤ 1000000) :
    Calls Try.prog 42 #[.slice b ks.length cap, .string k] w fun e w' => e = .returned (.bool (memB ks k)) ∧ w = w' := by
  obtain ⟨r, hr⟩ : ∃ r, memB ks k = r := ⟨_, rfl⟩
  rw [hr]
  have HR := Lib.hid hr
  have HS := Lib.hid h
  clear hr h
  generalize hn : ks.length = n at *
  have Hn := Lib.hid hn
  clear hn
  go_enter Try.func42, Try.ntmps42
  go_wp2_with fail
  go_loop [5] (fun c => ∃ i : Nat, i ≤ n ∧ c = .int .i64 i ∧ Hid (k ∉ ks.take i)) (fun c => n - (intOf c).toNat)
  case atStart => exact ⟨0, by omega, rfl, Lib.hid (by simp)⟩
  case round =>
    obtain ⟨i, hi, rfl, HA⟩ := hrel
    by_cases hlt : i < n
    · obtain ⟨x, hx⟩ : ∃ x, ks[i]? = some x := ⟨ks[i]'(by rw [Hn.out]; exact hlt), List.getElem?_eq_getElem _⟩
      obtain ⟨B, off, rfl, _, c0⟩ := HS.out.at hx
      have hi0 : (0 : Int) ≤ (i : Int) := by omega
      have hi1 : (i : Int) < (n : Int) := by omega
      have HX := Lib.hid hx
      clear hx
      by_cases he : x = k
      · have t1 : (x.toList == k.toList) = true := by rw [bytesEq]; exact decide_eq_true he
        have e : r = true := by rw [← HR.out]; exact (memB_iff ks k).2 (he ▸ List.mem_of_getElem? HX.out)
        subst e
        clear he
        go_wp2_with fail
        go_ret
        exact ⟨rfl, rfl⟩
      · have t1 : (x.toList == k.toList) = false := by rw [bytesEq]; exact decide_eq_false he
        have HA' : Hid (k ∉ ks.take (i + 1)) := Lib.hid (by
          rw [List.take_add_one, HX.out]
          intro c
          rcases List.mem_append.1 c with c | c
          · exact HA.out c
          · simp at c; exact he c.symm)
        clear he
        go_wp2_with fail
        go_round
        case rel => exact ⟨i + 1, by omega, by go_num, HA'⟩
        case measure => simp [intOf]; omega
    · have e : r = false := by
        rw [← HR.out]
        have h := HA.out
        rw [List.take_of_length_le (by rw [Hn.out]; omega)] at h
        exact memB_no h
      subst e
      go_wp2_with fail
      go_ret
      exact ⟨rfl, rfl⟩
set_option maxHeartbeats 1000000 in
theorem same16_any (b1 b2 : Option Addr) (n1 n2 cap1 cap2 : Nat) (xs ys : List ByteArray) (w : World) (h1 : Strs w b1 xs) (h2 : Strs w b2 ys) (hn1 : xs.length = n1) (hn2 : ys.length = n2) (hc1 : n1 ≤ 1000000) (hc2 : n2 ≤ 1000000) :
    Calls Try.prog 21 #[.slice b1 n1 cap1, .slice b2 n2 cap2] w fun e w' => e = .returned (.bool (decide (xs = ys))) ∧ ∃ q, w' = w.drewN q := by
  have H1 := Lib.hid hn1
  have H2 := Lib.hid hn2
  clear hn1 hn2
  by_cases he : n1 = n2
  · subst he
    obtain ⟨r, hr⟩ : ∃ r, decide (xs = ys) = r := ⟨_, rfl⟩
    rw [hr]
    have HR := Lib.hid hr
    clear hr
    go_enter Try.func21, Try.ntmps21
    go_wp2_with fail
    go_loopw [5] (fun c wr => ∃ k q : Nat, k ≤ n1 ∧ c = .int .i64 k ∧ wr = w.drewN q ∧ Hid (xs.take k = ys.take k)) (fun c _ => n1 - (intOf c).toNat)
    case atStart => exact ⟨0, 0, by omega, rfl, rfl, Lib.hid (by simp)⟩
    case round =>
      obtain ⟨k, q, hk, rfl, rfl, HA⟩ := hrel
      by_cases hlt : k < n1
      · obtain ⟨a, ha⟩ : ∃ a, xs[k]? = some a := ⟨xs[k]'(by have := H1.out; omega), List.getElem?_eq_getElem _⟩
        obtain ⟨b, hb⟩ : ∃ a, ys[k]? = some a := ⟨ys[k]'(by have := H2.out; omega), List.getElem?_eq_getElem _⟩
        obtain ⟨B1, o1, rfl, _, c1⟩ := h1.at ha
        obtain ⟨B2, o2, rfl, _, c2⟩ := h2.at hb
        have HA1 := Lib.hid ha
        have HB1 := Lib.hid hb
        clear ha hb
        have hk0 : (0 : Int) ≤ (k : Int) := by omega
        have hk1 : (k : Int) < (n1 : Int) := by omega
        by_cases hab : a = b
        · subst hab
          go_wp2_with fail
          go_quiet (fail)
          go_wp2_with fail
          go_roundw
          case rel => exact ⟨k + 1, q + nq, by omega, by go_num, rfl, Lib.hid (by rw [List.take_add_one, List.take_add_one, HA.out, HA1.out, HB1.out])⟩
          case measure => simp [intOf]; omega
        · have hne : (a.toList == b.toList) = false := by rw [bytesEq]; exact decide_eq_false hab
          have hne2 : (a.toList != b.toList) = true := by simp [bne, hne]
          have er : r = false := by
            rw [← HR.out, decide_eq_false_iff_not]
            intro e; subst e
            have := HA1.out.symm.trans HB1.out
            exact hab (Option.some.inj this)
          subst er
          go_wp2_with fail
          go_quiet (fail)
          go_wp2_with fail
          go_ret
          exact ⟨rfl, q + nq, by simp⟩
      · have er : r = true := by
          rw [← HR.out, decide_eq_true_eq]
          have h := HA.out
          rw [List.take_of_length_le (by have := H1.out; omega), List.take_of_length_le (by have := H2.out; omega)] at h
          exact h
        subst er
        go_wp2_with fail
        go_ret
        exact ⟨rfl, _, rfl⟩
  · have e : decide (xs = ys) = false := by
      rw [decide_eq_false_iff_not]
      intro e; subst e
      exact he (H1.out.symm.trans H2.out)
    rw [e]
    clear e
    go_enter Try.func21, Try.ntmps21
    go_wp2_with fail
    go_ret
    exact ⟨rfl, 0, rfl⟩
/-- Put, as it goes: the first i texts, and the new one among them, if its place is passed -/
def putI (ks : List ByteArray) (k : ByteArray) (i : Nat) : List ByteArray := if i ≤ belowB ks k then ks.take i else ks.take (belowB ks k) ++ k :: (ks.drop (belowB ks k)).take (i - belowB ks k)
theorem putI_zero (ks : List ByteArray) (k : ByteArray) : putI ks k 0 = [] := by simp [putI]
theorem take_drop_snoc {ks : List ByteArray} {be i : Nat} {x : ByteArray} (hx : ks[i]? = some x) (h : be ≤ i) : (ks.drop be).take (i + 1 - be) = (ks.drop be).take (i - be) ++ [x] := by
  rw [show i + 1 - be = (i - be) + 1 by omega, List.take_add_one, List.getElem?_drop, show be + (i - be) = i by omega, hx]
  rfl
theorem putI_low {ks : List ByteArray} {k : ByteArray} {i : Nat} {x : ByteArray} (hx : ks[i]? = some x) (h : i < belowB ks k) : putI ks k (i + 1) = putI ks k i ++ [x] := by
  unfold putI
  rw [if_pos (by omega), if_pos (by omega), List.take_add_one, hx]
  rfl
theorem putI_at {ks : List ByteArray} {k : ByteArray} {i : Nat} {x : ByteArray} (hx : ks[i]? = some x) (h : i = belowB ks k) : putI ks k (i + 1) = (putI ks k i ++ [k]) ++ [x] := by
  unfold putI
  rw [if_neg (by omega), if_pos (by omega), ← h, take_drop_snoc hx (Nat.le_refl _)]
  simp
theorem putI_high {ks : List ByteArray} {k : ByteArray} {i : Nat} {x : ByteArray} (hx : ks[i]? = some x) (h : belowB ks k < i) : putI ks k (i + 1) = putI ks k i ++ [x] := by
  unfold putI
  rw [if_neg (by omega), if_neg (by omega), take_drop_snoc hx (by omega)]
  simp
theorem putI_len {ks : List ByteArray} {k : ByteArray} (i : Nat) : (putI ks k i).length ≤ i + 1 := by
  unfold putI
  split
  · rw [List.length_take]; omega
  · rw [List.length_append, List.length_cons, List.length_take, List.length_take]; omega
theorem putI_end {ks : List ByteArray} {k : ByteArray} (hn : k ∉ ks) (h : belowB ks k < ks.length) : putI ks k ks.length = putB ks k := by
  unfold putI putB
  have e : (ks.drop (belowB ks k)).take (ks.length - belowB ks k) = ks.drop (belowB ks k) := List.take_of_length_le (by rw [List.length_drop]; exact Nat.le_refl _)
  rw [if_neg (by omega), if_neg (fun e => hn (List.mem_of_getElem? e)), e]
theorem putI_last {ks : List ByteArray} {k : ByteArray} (hn : k ∉ ks) (h : belowB ks k = ks.length) : putI ks k ks.length ++ [k] = putB ks k := by
  unfold putI putB
  rw [if_pos (by omega), if_neg (fun e => hn (List.mem_of_getElem? e)), h, List.take_of_length_le (Nat.le_refl _), List.drop_of_length_le (Nat.le_refl _)]
theorem putB_of_mem {ks : List ByteArray} {k : ByteArray} (hr : Rise ks) (hm : k ∈ ks) : putB ks k = ks := by
  have h1 := putB_rise hr k
  refine h1.ext hr (fun x => ?_)
  rw [putB_mem]
  exact ⟨fun h => h.elim (fun e => e ▸ hm) id, .inr⟩
/-- is the new text ahead of the i-th one? -/
theorem ahead_iff {ks : List ByteArray} {k x : ByteArray} {i : Nat} (hn : k ∉ ks) (hx : ks[i]? = some x) (hi : i ≤ belowB ks k) : ltB k x ↔ i = belowB ks k := by
  have hne : x ≠ k := fun e => hn (e ▸ List.mem_of_getElem? hx)
  constructor
  · intro h
    rcases Nat.lt_or_eq_of_le hi with h' | h'
    · exact absurd (belowB_lt h' hx) (fun c => ltB_irrefl k (ltB_trans h c))
    · exact h'
  · rintro rfl
    rcases ltB_total hne with h | h
    · exact absurd h (belowB_at hx)
    · exact h
end Go.Proofs.Ytlmonbclloamiaa

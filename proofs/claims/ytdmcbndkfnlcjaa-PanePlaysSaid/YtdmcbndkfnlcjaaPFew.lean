/- Layer 9's few; Texts. -/
import Derived.Test.YtdmcbndkfnlcjaaPAwake
import Derived.Test.YtdmcbndkfnlcjaaRowAny
import Derived.Laws.Strings
namespace Go.Proofs.Ytdmcbndkfnlcjaa
open Go.RowKit Go.MapKept Go.Maps
set_option linter.unusedVariables false
theorem acts_at {w : World} {b : Option Addr} {xs : List Act9} (h : InW w b 4 (xs.map actC)) {i : Nat} {a : Act9} (hi : xs[i]? = some a) :
    ∃ B off, b = some ⟨B, off, none⟩ ∧ B < w.heap.size ∧ w.cell? ⟨B, off + i * 4, none⟩ = some (.int .i64 a.1) ∧ w.cell? ⟨B, off + i * 4 + 1, none⟩ = some (.string a.2.1) ∧ w.cell? ⟨B, off + i * 4 + 2, none⟩ = some (.int .i64 a.2.2.1) ∧ w.cell? ⟨B, off + i * 4 + 3, none⟩ = some (.int .i64 a.2.2.2) := by
  rcases h with h | ⟨B, off, hb, hl, hc⟩
  · rw [List.map_eq_nil_iff.1 h] at hi; cases hi
  · have hm : (xs.map actC)[i]? = some (actC a) := by rw [List.getElem?_map, hi]; rfl
    exact ⟨B, off, hb, hl, hc i _ hm 0 _ rfl, hc i _ hm 1 _ rfl, hc i _ hm 2 _ rfl, hc i _ hm 3 _ rfl⟩
def fewB (xs : List Act9) : Bool := xs.all (fun a => decide (a.2.1.size ≤ 100)) && decide (xs.length ≤ 101)
theorem few_of {xs : List Act9} (h : fewB xs = true) : xs.length ≤ 101 ∧ ∀ a ∈ xs, a.2.1.size ≤ 100 := by
  rw [fewB, Bool.and_eq_true] at h
  exact ⟨by simpa using h.2, fun a ha => by simpa using List.all_eq_true.1 h.1 a ha⟩
set_option maxHeartbeats 1000000 in
theorem few_any (b : Option Addr) (cap : Nat) (xs : List Act9) (w : World) (h : InW w b 4 (xs.map actC)) (hm : cap ≤ maxLen) (hl : xs.length ≤ cap) (ho : ∀ a ∈ xs, actOk a) :
    Calls Try.prog 11 #[.slice b xs.length cap] w fun e w' => e = .returned (.bool (fewB xs)) ∧ w = w' := by
  obtain ⟨r, hr⟩ : ∃ r, fewB xs = r := ⟨_, rfl⟩
  rw [hr]
  have HR := Lib.hid hr
  clear hr
  unfold maxLen at hm
  generalize hn : xs.length = n at *
  have Hn := Lib.hid hn
  clear hn
  go_enter Try.func11, Try.ntmps11
  go_wp2_with fail
  go_loop [3] (fun c => ∃ k : Nat, k ≤ n ∧ k ≤ 101 ∧ c = .int .i64 k ∧ Hid ((xs.take k).all (fun a => decide (a.2.1.size ≤ 100)) = true)) (fun c => n - (intOf c).toNat)
  case atStart => exact ⟨0, by omega, by omega, rfl, Lib.hid (by simp)⟩
  case round =>
    obtain ⟨k, hk, hk2, rfl, HA⟩ := hrel
    by_cases hlt : k < n
    · obtain ⟨a, ha⟩ : ∃ a, xs[k]? = some a := ⟨xs[k]'(by have := Hn.out; omega), List.getElem?_eq_getElem _⟩
      obtain ⟨B, off, rfl, _, c0, c1, c2, c3⟩ := acts_at h ha
      have hsz : a.2.1.size ≤ maxLen := (ho a (List.mem_of_getElem? ha)).1
      unfold maxLen at hsz
      have HS := Lib.hid ha
      clear ha c0 c2 c3
      generalize hs : a.2.1 = s at *
      have HZ := Lib.hid hs
      clear hs
      by_cases hbig : s.size ≤ 100 ∧ k ≤ 100
      · obtain ⟨g1, g2⟩ := hbig
        go_wp2_with fail
        go_round
        case rel =>
          refine ⟨k + 1, by omega, by omega, by go_num, Lib.hid ?_⟩
          rw [List.take_add_one, HS.out, List.all_append, HA.out]
          simp [HZ.out, g1]
        case measure => simp [intOf]; omega
      · have e : r = false := by
          rw [← HR.out, fewB, Bool.and_eq_false_iff]
          by_cases g : s.size ≤ 100
          · right; simp [Hn.out]; omega
          · left
            rw [List.all_eq_false]
            exact ⟨a, List.mem_of_getElem? HS.out, by rw [HZ.out]; simpa using g⟩
        subst e
        by_cases g : s.size ≤ 100
        · have g2 : 100 < k := by omega
          go_wp2_with fail
          go_ret
          exact ⟨rfl, rfl⟩
        · go_wp2_with fail
          go_ret
          exact ⟨rfl, rfl⟩
    · have e : r = true := by
        rw [← HR.out, fewB, Bool.and_eq_true]
        have h := HA.out
        rw [List.take_of_length_le (by have := Hn.out; omega)] at h
        exact ⟨h, by simp [Hn.out]; omega⟩
      subst e
      go_wp2_with fail
      go_ret
      exact ⟨rfl, rfl⟩
set_option maxHeartbeats 1000000 in
theorem texts_any (b1 b2 : Option Addr) (n1 n2 cap1 cap2 : Nat) (xs ys : List ByteArray) (w : World) (h1 : Strs w b1 xs) (h2 : Strs w b2 ys) (hn1 : xs.length = n1) (hn2 : ys.length = n2) (hc1 : n1 ≤ 1000000) (hc2 : n2 ≤ 1000000) :
    Calls Try.prog 19 #[.slice b1 n1 cap1, .slice b2 n2 cap2] w fun e w' => e = .returned (.bool (decide (xs = ys))) ∧ ∃ q, w' = w.drewN q := by
  have H1 := Lib.hid hn1
  have H2 := Lib.hid hn2
  clear hn1 hn2
  by_cases he : n1 = n2
  · subst he
    obtain ⟨r, hr⟩ : ∃ r, decide (xs = ys) = r := ⟨_, rfl⟩
    rw [hr]
    have HR := Lib.hid hr
    clear hr
    go_enter Try.func19, Try.ntmps19
    go_wp2_with fail
    go_loopw [5] (fun c wr => ∃ k q : Nat, k ≤ n1 ∧ c = .int .i64 k ∧ wr = w.drewN q ∧ Hid (xs.take k = ys.take k)) (fun c _ => n1 - (intOf c).toNat)
    case atStart => exact ⟨0, 0, by omega, rfl, rfl, Lib.hid (by simp)⟩
    case round =>
      obtain ⟨k, q, hk, rfl, rfl, HA⟩ := hrel
      by_cases hlt : k < n1
      · obtain ⟨a, ha⟩ : ∃ a, xs[k]? = some a := ⟨xs[k]'(by have := H1.out; omega), List.getElem?_eq_getElem _⟩
        obtain ⟨b, hb⟩ : ∃ a, ys[k]? = some a := ⟨ys[k]'(by have := H2.out; omega), List.getElem?_eq_getElem _⟩
        obtain ⟨B1, o1, rfl, _, c1⟩ := h1.at ha
        obtain ⟨B2, o2, rfl, _, c2⟩ := h2.at hb
        have HA1 := Lib.hid ha
        have HB1 := Lib.hid hb
        clear ha hb
        have hk0 : (0 : Int) ≤ (k : Int) := by omega
        have hk1 : (k : Int) < (n1 : Int) := by omega
        by_cases hab : a = b
        · subst hab
          go_wp2_with fail
          go_quiet (fail)
          go_wp2_with fail
          go_roundw
          case rel => exact ⟨k + 1, q + nq, by omega, by go_num, rfl, Lib.hid (by rw [List.take_add_one, List.take_add_one, HA.out, HA1.out, HB1.out])⟩
          case measure => simp [intOf]; omega
        · have hne : (a.toList == b.toList) = false := by
            rw [beq_eq_false_iff_ne]
            intro e
            rw [Go.ByteArray.toList_eq, Go.ByteArray.toList_eq] at e
            exact hab (byte_ext e)
          have hne2 : (a.toList != b.toList) = true := by simp [bne, hne]
          have er : r = false := by
            rw [← HR.out, decide_eq_false_iff_not]
            intro e; subst e
            have := HA1.out.symm.trans HB1.out
            exact hab (Option.some.inj this)
          subst er
          go_wp2_with fail
          go_quiet (fail)
          go_wp2_with fail
          go_ret
          exact ⟨rfl, q + nq, by simp⟩
      · have er : r = true := by
          rw [← HR.out, decide_eq_true_eq]
          have h := HA.out
          rw [List.take_of_length_le (by have := H1.out; omega), List.take_of_length_le (by have := H2.out; omega)] at h
          exact h
        subst er
        go_wp2_with fail
        go_ret
        exact ⟨rfl, _, rfl⟩
  · have e : decide (xs = ys) = false := by
      rw [decide_eq_false_iff_not]
      intro e; subst e
      exact he (H1.out.symm.trans H2.out)
    rw [e]
    clear e
    go_enter Try.func19, Try.ntmps19
    go_wp2_with fail
    go_ret
    exact ⟨rfl, 0, rfl⟩
end Go.Proofs.Ytdmcbndkfnlcjaa

/- Contract of the document's Sum. -/
import Derived.Test.YtdmcbndkfnlcjaaPRef2
import Derived.Test.YtdmcbndkfnlcjaaPTwo
namespace Go.Proofs.Ytdmcbndkfnlcjaa
open Go.RowKit Go.MapKept Go.Maps
set_option linter.unusedVariables false
theorem psum_take (A : List Ad) (k : ByteArray) (lo hi : Int) {i : Nat} {x : Ad} (h : A[i]? = some x) : psum (A.take (i + 1)) k lo hi = psum (A.take i) k lo hi + if x.1 = k ∧ lo ≤ x.2.1 ∧ x.2.1 < hi then x.2.2 else 0 := by
  rw [List.take_add_one, h, psum_append]
  simp [psum]
theorem sums_at {w : World} {b : Option Addr} {A : List Ad} (h : InW w b 3 (A.map adC)) {i : Nat} {x : Ad} (hi : A[i]? = some x) :
    ∃ B off, b = some ⟨B, off, none⟩ ∧ w.cell? ⟨B, off + i * 3, none⟩ = some (.string x.1) ∧ w.cell? ⟨B, off + i * 3 + 1, none⟩ = some (.int .i64 x.2.1) ∧ w.cell? ⟨B, off + i * 3 + 2, none⟩ = some (.int .i64 x.2.2) := by
  rcases h with h | ⟨B, off, hb, hl, hc⟩
  · rw [List.map_eq_nil_iff.1 h] at hi; cases hi
  · have hm : (A.map adC)[i]? = some (adC x) := by rw [List.getElem?_map, hi]; rfl
    exact ⟨B, off, hb, hc i _ hm 0 _ rfl, hc i _ hm 1 _ rfl, hc i _ hm 2 _ rfl⟩
set_option maxRecDepth 100000 in
set_option maxHeartbeats 4000000 in
theorem rsum_any (m : Nat) (v : Value) (wd cnt : Int) (A : List Ad) (k : ByteArray) (f t : Int) (w : World) (h : RefAt w m v wd cnt A) (hf : I64 f) (ht : I64 t) :
    Calls Try.prog 25 #[.pointer (some ⟨m, 0, none⟩), .string k, .int .i64 f, .int .i64 t] w fun e w' => e = .returned (.int .i64 (psum A k (f / wd) (t / wd))) ∧ ∃ q, w' = w.drewN q := by
  obtain ⟨c0, c1, c2⟩ := h.cells
  obtain ⟨bv, cv, rfl, _, _, hvi, _⟩ := inw_of_rowm adLen (by omega) h.row
  have a1 := h.a1
  have a2 := h.a2
  have HP1 := Lib.hid (fun n => rpane_any m wd f (w.drewN n) c0 h.w1 hf)
  have HP2 := Lib.hid (fun n => rpane_any m wd t (w.drewN n) c0 h.w1 ht)
  have HOK := Lib.hid h.ok
  have HVI := Lib.hid hvi
  have b1 := floor_le f wd h.w1 hf
  have b2 := floor_le t wd h.w1 ht
  have HW1 := Lib.hid h.w1
  clear h hvi
  generalize hal : A.length = al at *
  have HAL := Lib.hid hal
  clear hal
  have HNN : Hid (∀ i lo hi, 0 ≤ psum (A.take i) k lo hi ∧ psum (A.take i) k lo hi ≤ 1099511627776) := Lib.hid (fun i lo hi => by
    have ho : ∀ x ∈ A.take i, AdOk x := fun x hx => HOK.out x (List.mem_of_mem_take hx)
    have h1 := psum_nonneg ho k lo hi
    have h2 := psum_le ho k lo hi
    have h3 : (A.take i).length ≤ al := by rw [List.length_take, HAL.out]; omega
    omega)
  unfold I64 at b1 b2
  have HPO : Hid (∀ (n : Nat) (y : Int), y = f ∨ y = t → Calls Try.prog 36 #[.pointer (some ⟨m, 0, none⟩), .int .i64 y] (w.drewN n) fun e w' => e = .returned (.int .i64 (y / wd)) ∧ w.drewN n = w') := Lib.hid (fun n y hy => by
    rcases hy with rfl | rfl
    · exact HP1.out n
    · exact HP2.out n)
  go_enter Try.func25, Try.ntmps25
  go_wp2_with fail
  go_loopw [9, 10] (fun u c wr => ∃ (i z : Nat), i ≤ al ∧ c = .int .i64 i ∧ u = .int .i64 (psum (A.take i) k (f / wd) (t / wd)) ∧ wr = w.drewN z) (fun _ c _ => al - (intOf c).toNat)
  case atStart => exact ⟨0, 0, by omega, rfl, rfl, rfl⟩
  case round =>
    obtain ⟨i, z, hin, rfl, rfl, rfl⟩ := hrel
    have hnn := HNN.out i (f / wd) (t / wd)
    have HPP : Hid (∀ (n : Nat) (y : Int), y = f ∨ y = t → Calls Try.prog 36 #[.pointer (some ⟨m, 0, none⟩), .int .i64 y] ((w.drewN z).drewN n) fun e w' => e = .returned (.int .i64 (y / wd)) ∧ (w.drewN z).drewN n = w') := Lib.hid (fun n y hy => by
      have := HPO.out (z + n) y hy
      rw [World.drewN_drewN]; exact this)
    have e0 : (w.drewN z).cell? ⟨m, 0, none⟩ = some (.int .i64 wd) := c0
    have e1 : (w.drewN z).cell? ⟨m, 1, none⟩ = some (.slice bv al cv) := c1
    by_cases hlt : i < al
    · obtain ⟨x, hx⟩ : ∃ x, A[i]? = some x := ⟨A[i]'(by rw [HAL.out]; exact hlt), List.getElem?_eq_getElem _⟩
      obtain ⟨B, off, rfl, d0, d1, d2⟩ := sums_at HVI.out hx
      have g0 : (w.drewN z).cell? ⟨B, off + i * 3, none⟩ = some (.string x.1) := d0
      have g1 : (w.drewN z).cell? ⟨B, off + i * 3 + 1, none⟩ = some (.int .i64 x.2.1) := d1
      have g2 : (w.drewN z).cell? ⟨B, off + i * 3 + 2, none⟩ = some (.int .i64 x.2.2) := d2
      have hxo := HOK.out x (List.mem_of_getElem? hx)
      unfold AdOk at hxo
      have HT := Lib.hid (psum_take A k (f / wd) (t / wd) hx)
      have hi0 : (0 : Int) ≤ (i : Int) := by omega
      have hi1 : (i : Int) < (al : Int) := by omega
      clear hx d0 d1 d2
      generalize hW : w.drewN z = V at *
      have HW := Lib.hid hW
      clear hW c0 c1 c2
      generalize psum (A.take i) k (f / wd) (t / wd) = Z at *
      by_cases hk : x.1 = k
      · have t1 : (x.1.toList == k.toList) = true := by rw [bytesEq]; exact decide_eq_true hk
        by_cases h1 : f / wd ≤ x.2.1
        · have t2 : decide (f / wd ≤ x.2.1) = true := decide_eq_true h1
          by_cases h2 : x.2.1 < t / wd
          · have t3 : decide (x.2.1 < t / wd) = true := decide_eq_true h2
            rw [hk] at g0
            go_wp2_with fail
            go_quiet ((go_at_call 36; exact quiet_same (HPP.out _ _ (by first | exact .inl rfl | exact .inr rfl))))
            go_wp2_with fail
            go_roundw
            case rel => exact ⟨i + 1, z + nq, by omega, by go_num, by rw [HT.out, if_pos ⟨hk, h1, h2⟩], by rw [← HW.out]; simp⟩
            case measure => simp [intOf]; omega
          · have t3 : decide (x.2.1 < t / wd) = false := decide_eq_false h2
            rw [hk] at g0
            go_wp2_with fail
            go_quiet ((go_at_call 36; exact quiet_same (HPP.out _ _ (by first | exact .inl rfl | exact .inr rfl))))
            go_wp2_with fail
            go_roundw
            case rel => exact ⟨i + 1, z + nq, by omega, by go_num, by rw [HT.out, if_neg (by rintro ⟨h1, h2, h3⟩; first | exact hk h1 | omega)]; go_num, by rw [← HW.out]; simp⟩
            case measure => simp [intOf]; omega
        · have t2 : decide (f / wd ≤ x.2.1) = false := decide_eq_false h1
          rw [hk] at g0
          go_wp2_with fail
          go_quiet ((go_at_call 36; exact quiet_same (HPP.out _ _ (by first | exact .inl rfl | exact .inr rfl))))
          go_wp2_with fail
          go_roundw
          case rel => exact ⟨i + 1, z + nq, by omega, by go_num, by rw [HT.out, if_neg (by rintro ⟨h1, h2, h3⟩; first | exact hk h1 | omega)]; go_num, by rw [← HW.out]; simp⟩
          case measure => simp [intOf]; omega
      · have t1 : (x.1.toList == k.toList) = false := by rw [bytesEq]; exact decide_eq_false hk
        go_wp2_with fail
        go_quiet ((go_at_call 36; exact quiet_same (HPP.out _ _ (by first | exact .inl rfl | exact .inr rfl))))
        go_wp2_with fail
        go_roundw
        case rel => exact ⟨i + 1, z + nq, by omega, by go_num, by rw [HT.out, if_neg (by rintro ⟨h1, h2, h3⟩; first | exact hk h1 | omega)]; go_num, by rw [← HW.out]; simp⟩
        case measure => simp [intOf]; omega
    · obtain rfl : i = al := by omega
      have htk : A.take i = A := List.take_of_length_le (by rw [HAL.out]; exact Nat.le_refl _)
      rw [htk] at *
      go_wp2_with fail
      go_ret
      exact ⟨rfl, z, rfl⟩
end Go.Proofs.Ytdmcbndkfnlcjaa

/- Contract of the reference's Unlike: at least as many as there are hashes. -/
import Derived.Test.YtipblbmpckfigaaDMisc
import Derived.BigQuiet
import Derived.WalkSmall
namespace Go.Proofs.Ytipblbmpckfigaa
open Go.RowKit Dist
set_option linter.unusedVariables false

theorem unl_no {xs : List ByteArray} {i u : Nat} {s : ByteArray} (hu : (allOf (hs (xs.take i)) []).length ≤ u) (hi : xs[i]? = some s) (hs' : s ∈ xs.take i) : (allOf (hs (xs.take (i + 1))) []).length ≤ u := by
  rw [hs_snoc hi, all_snoc]
  have : hash s.data.toList ∈ allOf (hs (xs.take i)) [] := mem_all _ |>.2 (.inl (List.mem_map.2 ⟨s, hs', rfl⟩))
  rw [insU, if_pos this]
  exact hu
theorem unl_yes {xs : List ByteArray} {i u : Nat} {s : ByteArray} (hu : (allOf (hs (xs.take i)) []).length ≤ u) (hi : xs[i]? = some s) : (allOf (hs (xs.take (i + 1))) []).length ≤ u + 1 := by
  rw [hs_snoc hi, all_snoc]
  have := (insU_length (allOf (hs (xs.take i)) []) (hash s.data.toList)).2
  omega
set_option maxHeartbeats 2000000 in
set_option maxRecDepth 100000 in
theorem unlike_any (b : Option Addr) (cap : Nat) (xs : List ByteArray) (w : World) (h : Strs w b xs) (ho : ∀ s ∈ xs, s.size ≤ maxLen) (hl : xs.length ≤ 10000) :
    Calls Try.prog 26 #[.slice b xs.length cap] w fun e w' => (∃ n : Nat, n ≤ 10000 ∧ e = .returned (.int .i64 n) ∧ (allOf (hs xs) []).length ≤ n) ∧ Below w.heap.size w w' := by
  generalize hn : xs.length = n at *
  have Hn := Lib.hid hn
  clear hn
  go_enter Try.func26, Try.ntmps26
  go_wp2_with fail
  go_loopg [3, 4] n (fun m s3 c wr => ∃ (i u : Nat), i ≤ n ∧ n - i ≤ m ∧ u ≤ i ∧ s3 = .int .i64 u ∧ c = .int .i64 i ∧ (allOf (hs (xs.take i)) []).length ≤ u ∧ Below w.heap.size w wr)
  case atStart => exact ⟨0, 0, by omega, by omega, by omega, rfl, rfl, Nat.le_refl _, Below.refl _ _⟩
  case round =>
    obtain ⟨i, u, hin, hm, hui, rfl, rfl, hU, hB⟩ := hrel
    have HU := Lib.hid hU
    clear hU
    by_cases hlt : i < n
    · obtain ⟨s, hs'⟩ : ∃ s, xs[i]? = some s := ⟨xs[i]'(by have := Hn.out; omega), List.getElem?_eq_getElem _⟩
      have HSs := Lib.hid hs'
      obtain ⟨B, off, rfl, hBl, hc⟩ := Strs.at h hs'
      clear hs'
      go_wp2_with fail
      obtain ⟨wo, rfl⟩ : ∃ wo : World, wo = wr := ⟨_, rfl⟩
      go_loopw [5, 6] (fun s5 c wi => ∃ (j : Nat) (f : Bool), j ≤ i ∧ c = .int .i64 j ∧ s5 = .bool f ∧ (f = false → s ∈ xs.take i) ∧ Below w.heap.size w wi) (fun _ c _ => i - (intOf c).toNat)
      case atStart => exact ⟨0, true, by omega, rfl, rfl, (fun h => by cases h), hB⟩
      case round =>
        clear hB
        obtain ⟨j, f, hj, rfl, rfl, hf, hB⟩ := hrel
        have Hf := Lib.hid hf
        clear hf
        by_cases hjl : j < i
        · obtain ⟨t, ht⟩ : ∃ t, xs[j]? = some t := ⟨xs[j]'(by have := Hn.out; omega), List.getElem?_eq_getElem _⟩
          obtain ⟨B', off', e', hBl', hc'⟩ := Strs.at h ht
          cases e'
          have c1 := hB.cell (p := ⟨B, off + i, none⟩) hBl
          rw [hc] at c1
          have c2 := hB.cell (p := ⟨B, off + j, none⟩) hBl
          rw [hc'] at c2
          have k1 : (i : Int) < (n : Int) := by omega
          have k2 : (j : Int) < (n : Int) := by omega
          cases f
          · have HE := Hf.out rfl
            have HE' := Lib.hid HE
            clear HE hc' hc
            go_wp2_with fail
            go_quiet (fail)
            have B1 : Below w.heap.size w (wr.drewN nq) := below_drewN hB nq
            go_wp2_with fail
            go_roundw
            case rel => exact ⟨j + 1, false, by omega, by go_num, rfl, (fun _ => HE'.out), B1⟩
            case measure => simp [intOf]; omega
          · have HE : Hid ((!t.toList == s.toList) = false → s ∈ xs.take i) := fun h => by
              have h1 : t.toList = s.toList := by simpa using h
              rw [Go.ByteArray.toList_eq, Go.ByteArray.toList_eq] at h1
              have h2 : t = s := Go.WideShapes.bytes_inj h1
              rw [← h2]
              exact List.mem_of_getElem? (i := j) (by rw [List.getElem?_take, if_pos hjl]; exact ht)
            clear hc' hc ht Hf
            go_wp2_with fail
            go_quiet (fail)
            have B1 : Below w.heap.size w (wr.drewN nq) := below_drewN hB nq
            obtain ⟨F, hF⟩ : ∃ F : Bool, (!t.toList == s.toList) = F := ⟨_, rfl⟩
            rw [hF]
            rw [hF] at HE
            clear hF
            go_wp2_with fail
            go_roundw
            case rel => exact ⟨j + 1, F, by omega, by go_num, rfl, HE.out, B1⟩
            case measure => simp [intOf]; omega
        · obtain rfl : j = i := by omega
          cases f
          · have HN := Lib.hid (unl_no HU.out HSs.out (Hf.out rfl))
            go_wp2_with fail
            go_roundg (n - (j + 1))
            case measure => omega
            case rel => exact ⟨j + 1, u, by omega, Nat.le_refl _, by omega, rfl, by go_num, HN.out, hB⟩
          · have HN := Lib.hid (unl_yes HU.out HSs.out)
            go_wp2_with fail
            go_roundg (n - (j + 1))
            case measure => omega
            case rel => exact ⟨j + 1, u + 1, by omega, Nat.le_refl _, by omega, by go_num, by go_num, HN.out, hB⟩
    · obtain rfl : i = n := by omega
      have HU2 : Hid ((allOf (hs xs) []).length ≤ u) := by
        have h1 := HU.out
        rw [List.take_of_length_le (by have := Hn.out; omega)] at h1
        exact h1
      clear HU
      go_wp2_with fail
      go_ret
      exact ⟨⟨u, by omega, rfl, HU2.out⟩, hB⟩
end Go.Proofs.Ytipblbmpckfigaa

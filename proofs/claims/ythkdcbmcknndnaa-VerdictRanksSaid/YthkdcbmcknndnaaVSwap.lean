/- swapRange: two parts of a row are exchanged. -/
import Derived.Test.YthkdcbmcknndnaaVRow
import Derived.BigRegion
import Derived.Shelf.RegionOpenPlain
import Derived.Shelf.SlicesQ.Reverse
import Derived.IntWalk
import Derived.Deep.LoopGhost
namespace Go.Proofs.Ythkdcbmcknndnaa
open Go.RowKit Go.ChangeShapes Go.WideShapes
set_option linter.unusedVariables false
set_option linter.unusedSimpArgs false
namespace Rk
def swpR (l : List Rw) (a b : Nat) : Nat → List Rw
  | 0 => l
  | n + 1 => swp (swpR l a b n) (a + n) (b + n)
theorem swpR_len (l : List Rw) (a b n : Nat) : (swpR l a b n).length = l.length := by
  induction n with
  | zero => rfl
  | succ n ih => rw [swpR, swp_len, ih]
set_option maxHeartbeats 4000000 in
theorem swap_any (w : World) (b : Nat) (sp : List Value) (l : List Rw) (n cap s t k : Nat) (fv : Value) (hl : l.length = n) (hn : n ≤ 1000) (h : Bk w b (l.flatMap rwC ++ sp) 24) (h1 : s + k ≤ n) (h2 : t + k ≤ n) (hst : s ≠ t) (hcap : n ≤ cap) (hm : cap ≤ maxLen) :
    Calls Try.prog 37 #[.slice (some ⟨b, 0, none⟩) n cap, .int .i64 s, .int .i64 t, .int .i64 k, fv] w fun e w' => e = .returned (.tuple #[]) ∧ SW w b sp (swpR l s t k) w' := by
  have HS := Lib.hid (SW.start h)
  have HL := Lib.hid hl
  clear h hl
  unfold maxLen at hm
  go_enter Try.func37, Try.ntmps37
  go_wp2_with fail
  go_loopg [10] k (fun g c wr => ∃ i : Nat, c = .int .i64 i ∧ i ≤ k ∧ k - i ≤ g ∧ Hid (SW w b sp (swpR l s t i) wr))
  case atStart => exact ⟨0, rfl, by omega, by omega, HS⟩
  case round =>
    obtain ⟨i, rfl, hi, hg, H⟩ := hrel
    by_cases hlt : i < k
    · obtain ⟨x, hx⟩ : ∃ x, (swpR l s t i)[s + i]? = some x := ⟨(swpR l s t i)[s + i]'(by rw [swpR_len]; have := HL.out; omega), List.getElem?_eq_getElem _⟩
      obtain ⟨y, hy⟩ : ∃ y, (swpR l s t i)[t + i]? = some y := ⟨(swpR l s t i)[t + i]'(by rw [swpR_len]; have := HL.out; omega), List.getElem?_eq_getElem _⟩
      have hW := H.out
      obtain ⟨a0, a1, a2, a3⟩ := hW.cells hx
      obtain ⟨c0, c1, c2, c3⟩ := hW.cells hy
      have w1 : IntKind.i64.wrap ((s : Int) + i) = (s : Int) + i := IntWalk.i64_in _ (by omega)
      have w2 : IntKind.i64.wrap ((t : Int) + i) = (t : Int) + i := IntWalk.i64_in _ (by omega)
      have e1 : ((s : Int) + i).toNat = s + i := by omega
      have e2 : ((t : Int) + i).toNat = t + i := by omega
      have z1 : (0 : Int) ≤ (s : Int) + i := by omega
      have z2 : (0 : Int) ≤ (t : Int) + i := by omega
      have z3 : (s : Int) + i < n := by omega
      have z4 : (t : Int) + i < n := by omega
      have HX := Lib.hid hx
      have HY := Lib.hid hy
      have g0 : ∀ j, wr.frozen? ⟨b, j, none⟩ = false := fun j => hW.free j
      have hW2 := (hW.set4 (i := s + i) (by rw [swpR_len]; have := HL.out; omega) y).drew
      have hy2 : ((swpR l s t i).set (s + i) y)[t + i]? = some y := by rw [List.getElem?_set_ne (by omega)]; exact hy
      obtain ⟨d0, d1, d2, d3⟩ := hW2.cells hy2
      have g1 := fun j => hW2.free j
      have H2 := Lib.hid hW2
      clear hx hy hW HS hW2 hy2
      go_wp2_with fail
      go_big_region
      all_goals
        go_wp2_with fail
        go_roundg (k - (i + 1))
        case measure => omega
        case rel =>
          refine ⟨i + 1, by go_num, by omega, Nat.le_refl _, Lib.hid ?_⟩
          have e : swpR l s t (i + 1) = ((swpR l s t i).set (s + i) y).set (t + i) x := by rw [swpR, swp_eq HX.out HY.out]
          rw [e]
          exact (SW.set4 (SW.set4 H.out (by have := HX.out; exact (List.getElem?_eq_some_iff.1 this).1) y) (by rw [List.length_set]; have := HY.out; exact (List.getElem?_eq_some_iff.1 this).1) x).drew
    · obtain rfl : i = k := by omega
      go_wp2_with fail
      go_end0
      exact ⟨rfl, H.out⟩
end Rk
end Go.Proofs.Ythkdcbmcknndnaa

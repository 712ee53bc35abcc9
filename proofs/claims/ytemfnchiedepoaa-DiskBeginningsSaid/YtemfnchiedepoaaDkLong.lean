/- The law's long. -/
import Derived.Test.YtemfnchiedepoaaDkOp
namespace Go.Proofs.Ytemfnchiedepoaa
open Go.RowKit Go.MapKept Go.Maps
set_option linter.unusedVariables false
def longO (o : OpD) : Bool := decide (100 < o.name.size) || decide (200 < o.s.size) || decide (20 < o.keep.length)
def longB (l : List OpD) : Bool := l.any longO || decide (60 < l.length)
theorem long_of {l : List OpD} (h : longB l = false) : l.length ≤ 60 ∧ ∀ o ∈ l, o.name.size ≤ 100 ∧ o.s.size ≤ 200 ∧ o.keep.length ≤ 20 := by
  rw [longB, Bool.or_eq_false_iff] at h
  refine ⟨by simpa using h.2, fun o ho => ?_⟩
  have := List.any_eq_false.1 h.1 o ho
  simp [longO] at this
  omega
set_option maxRecDepth 100000 in
set_option maxHeartbeats 1000000 in
theorem long_any (b : Option Addr) (cap : Nat) (l : List OpD) (w : World) (h : InW w b 5 (l.map opC)) (hm : cap ≤ maxLen) (hl : l.length ≤ cap) (ho : ∀ a ∈ l, OpOk w a) :
    Calls Try.prog 21 #[.slice b l.length cap] w fun e w' => e = .returned (.bool (longB l)) ∧ Below w.heap.size w w' := by
  obtain ⟨r, hr⟩ : ∃ r, longB l = r := ⟨_, rfl⟩
  rw [hr]
  have HR := Lib.hid hr
  clear hr
  unfold maxLen at hm
  have HIW := Lib.hid h
  have HO := Lib.hid ho
  clear h ho
  generalize hn : l.length = n at *
  have Hn := Lib.hid hn
  clear hn
  go_enter Try.func21, Try.ntmps21
  go_wp2_with fail
  go_loopw [7] (fun c wr => ∃ i : Nat, i ≤ n ∧ c = .int .i64 i ∧ Below w.heap.size w wr ∧ Hid ((l.take i).any longO = false)) (fun c _ => n - (intOf c).toNat)
  case atStart => exact ⟨0, by omega, rfl, Below.refl _ _, Lib.hid (by simp)⟩
  case round =>
    obtain ⟨i, hi, rfl, hbl, HA⟩ := hrel
    have HB := Lib.hid hbl
    clear hbl
    by_cases hlt : i < n
    · obtain ⟨q, hq⟩ : ∃ p, l[i]? = some p := ⟨l[i]'(by rw [Hn.out]; exact hlt), List.getElem?_eq_getElem _⟩
      have hok := HO.out q (List.mem_of_getElem? hq)
      obtain ⟨B, off, rfl, hB, d0, d1, d2, d3, d4⟩ := ops_at HIW.out hq
      have c0 := (HB.out.cell (p := ⟨B, off + i * 5, none⟩) hB).trans d0
      have c1 := (HB.out.cell (p := ⟨B, off + i * 5 + 1, none⟩) hB).trans d1
      have c2 := (HB.out.cell (p := ⟨B, off + i * 5 + 2, none⟩) hB).trans d2
      have c3 := (HB.out.cell (p := ⟨B, off + i * 5 + 3, none⟩) hB).trans d3
      have c4 := (HB.out.cell (p := ⟨B, off + i * 5 + 4, none⟩) hB).trans d4
      have hi0 : (0 : Int) ≤ (i : Int) := by omega
      have hi1 : (i : Int) < (n : Int) := by omega
      have HSN : Hid ((l.take (i + 1)).any longO = ((l.take i).any longO || longO q)) := Lib.hid (by rw [List.take_add_one, hq]; simp)
      have HM : Hid (q ∈ l) := Lib.hid (List.mem_of_getElem? hq)
      have z1 := hok.name
      have z2 := hok.s
      have z3 := hok.kl
      have z4 := hok.kc
      unfold maxLen at z1 z2 z4
      have HLO : Hid (longO q = (decide (100 < q.name.size) || decide (200 < q.s.size) || decide (20 < q.keep.length))) := Lib.hid rfl
      have HBA : Hid (Below w.heap.size w (wr.alloc (.cells #[.int .i64 q.kind, .int .i64 q.n, .string q.name, .string q.s, .slice q.kb q.keep.length q.kc] 43))) := Lib.hid (HB.out.trans (((Below.refl _ _).alloc (Nat.le_refl _) _).mono HB.out.size))
      clear hq d0 d1 d2 d3 d4 hok
      generalize q.keep.length = kl at *
      by_cases g1 : 100 < q.name.size
      · have e : r = true := by
          rw [← HR.out, longB, Bool.or_eq_true]
          exact .inl (List.any_eq_true.2 ⟨q, HM.out, by rw [HLO.out]; simp [g1]⟩)
        subst e
        have t1 : decide ((100 : Int) < (q.name.size : Int)) = true := decide_eq_true (by omega)
        go_wp2_with fail
        go_ret
        exact ⟨rfl, HBA.out⟩
      have t1 : decide ((100 : Int) < (q.name.size : Int)) = false := decide_eq_false (by omega)
      by_cases g2 : 200 < q.s.size
      · have e : r = true := by
          rw [← HR.out, longB, Bool.or_eq_true]
          exact .inl (List.any_eq_true.2 ⟨q, HM.out, by rw [HLO.out]; simp [g2]⟩)
        subst e
        have t2 : decide ((200 : Int) < (q.s.size : Int)) = true := decide_eq_true (by omega)
        go_wp2_with fail
        go_ret
        exact ⟨rfl, HBA.out⟩
      have t2 : decide ((200 : Int) < (q.s.size : Int)) = false := decide_eq_false (by omega)
      by_cases g3 : 20 < kl
      · have e : r = true := by
          rw [← HR.out, longB, Bool.or_eq_true]
          exact .inl (List.any_eq_true.2 ⟨q, HM.out, by rw [HLO.out]; simp [g3]⟩)
        subst e
        have t3 : decide ((20 : Int) < (kl : Int)) = true := decide_eq_true (by omega)
        go_wp2_with fail
        go_ret
        exact ⟨rfl, HBA.out⟩
      have t3 : decide ((20 : Int) < (kl : Int)) = false := decide_eq_false (by omega)
      go_wp2_with fail
      go_roundw
      case rel => exact ⟨i + 1, by omega, by go_num, HBA.out, Lib.hid (by rw [HSN.out, HA.out, HLO.out]; simp [g1, g2, g3])⟩
      case measure => simp [intOf]; omega
    · obtain rfl : i = n := by omega
      have HE : Hid (r = decide (60 < i)) := Lib.hid (by
        have h1 := HA.out
        rw [List.take_of_length_le (by rw [Hn.out]; omega)] at h1
        rw [← HR.out, longB, h1, Hn.out]; rfl)
      by_cases g : 60 < i
      · have e : r = true := by rw [HE.out]; exact decide_eq_true g
        subst e
        have t1 : decide ((60 : Int) < (i : Int)) = true := decide_eq_true (by omega)
        go_wp2_with fail
        go_ret
        exact ⟨rfl, HB.out⟩
      · have e : r = false := by rw [HE.out]; exact decide_eq_false g
        subst e
        have t1 : decide ((60 : Int) < (i : Int)) = false := decide_eq_false (by omega)
        go_wp2_with fail
        go_ret
        exact ⟨rfl, HB.out⟩
end Go.Proofs.Ytemfnchiedepoaa

/- The closure of trial.New, slices.ContainsFunc and IndexFunc of it: no trial clashes. -/
import Derived.Test.YtkjcgeaoiabkjaaTArm
import Derived.Test.YtkjcgeaoiabkjaaRise
namespace Go.Proofs.Ytkjcgeaoiabkjaa
open Go.RowKit Go.ChangeShapes Go.WideShapes
set_option linter.unusedVariables false
structure TV where
  nm : ByteArray
  ly : ByteArray
  f : Int
  t : Int
  b : Option Addr
  n : Nat
  c : Nat
def tvC (x : TV) : List Value := [.string x.nm, .string x.ly, .int .i64 x.f, .int .i64 x.t, .slice x.b x.n x.c]
theorem tv_at {w : World} {b : Option Addr} {xs : List TV} (h : InW w b 5 (xs.map tvC)) {i : Nat} {a : TV} (hi : xs[i]? = some a) :
    ∃ B off, b = some ⟨B, off, none⟩ ∧ B < w.heap.size ∧ w.cell? ⟨B, off + i * 5, none⟩ = some (.string a.nm) ∧ w.cell? ⟨B, off + i * 5 + 1, none⟩ = some (.string a.ly) ∧ w.cell? ⟨B, off + i * 5 + 2, none⟩ = some (.int .i64 a.f) ∧ w.cell? ⟨B, off + i * 5 + 3, none⟩ = some (.int .i64 a.t) ∧ w.cell? ⟨B, off + i * 5 + 4, none⟩ = some (.slice a.b a.n a.c) := by
  rcases h with h | ⟨B, off, hb, hl, hc⟩
  · rw [List.map_eq_nil_iff.1 h] at hi; cases hi
  · have hm : (xs.map tvC)[i]? = some (tvC a) := by rw [List.getElem?_map, hi]; rfl
    exact ⟨B, off, hb, hl, hc i _ hm 0 _ rfl, hc i _ hm 1 _ rfl, hc i _ hm 2 _ rfl, hc i _ hm 3 _ rfl, hc i _ hm 4 _ rfl⟩
set_option maxHeartbeats 1000000 in
theorem clash_no (x : TV) (nm ly : ByteArray) (g : Nat) (w : World) (hg : g < w.heap.size) (c0 : w.cell? ⟨g, 0, none⟩ = some (.string nm)) (c1 : w.cell? ⟨g, 1, none⟩ = some (.string ly)) (h0 : x.nm ≠ nm) (h1 : x.ly ≠ ly) :
    Calls Try.prog 28 #[.agg #[.string x.nm, .string x.ly, .int .i64 x.f, .int .i64 x.t, .slice x.b x.n x.c], .pointer (some ⟨g, 0, none⟩)] w fun e w' => e = .returned (.bool false) ∧ Below w.heap.size w w' := by
  have HB : Hid (Below w.heap.size w (w.alloc (.cells #[.string x.nm, .string x.ly, .int .i64 x.f, .int .i64 x.t, .slice x.b x.n x.c] 41))) := Lib.hid ((Below.refl _ _).alloc (Nat.le_refl _) _)
  have y0 : (w.alloc (.cells #[.string x.nm, .string x.ly, .int .i64 x.f, .int .i64 x.t, .slice x.b x.n x.c] 41)).cell? ⟨g, 0, none⟩ = some (.string nm) := (HB.out.cell (p := ⟨g, 0, none⟩) hg).trans c0
  have y1 : (w.alloc (.cells #[.string x.nm, .string x.ly, .int .i64 x.f, .int .i64 x.t, .slice x.b x.n x.c] 41)).cell? ⟨g, 1, none⟩ = some (.string ly) := (HB.out.cell (p := ⟨g, 1, none⟩) hg).trans c1
  have t1 : (x.nm.toList == nm.toList) = false := by rw [bytesEq]; exact decide_eq_false h0
  have t2 : (x.ly.toList == ly.toList) = false := by rw [bytesEq]; exact decide_eq_false h1
  clear h0 h1 c0 c1 hg
  go_enter Try.func28, Try.ntmps28
  go_wp2_with fail
  go_ret
  exact ⟨rfl, HB.out⟩
set_option maxHeartbeats 1000000 in
theorem index_no (ub : Option Addr) (uc : Nat) (ts : List TV) (nm ly : ByteArray) (g : Nat) (w : World) (hi : InW w ub 5 (ts.map tvC)) (hl : ts.length ≤ uc) (hm : uc ≤ maxLen) (hg : g < w.heap.size) (c0 : w.cell? ⟨g, 0, none⟩ = some (.string nm)) (c1 : w.cell? ⟨g, 1, none⟩ = some (.string ly)) (hx : ∀ x ∈ ts, x.nm ≠ nm ∧ x.ly ≠ ly) :
    Calls Try.prog 34 #[.slice ub ts.length uc, .func (.func 28) #[] #[.pointer (some ⟨g, 0, none⟩)]] w fun e w' => e = .returned (.int .i64 (-1)) ∧ Below w.heap.size w w' := by
  have HI := Lib.hid hi
  have HX := Lib.hid hx
  have HG := Lib.hid hg
  have HC : Hid (w.cell? ⟨g, 0, none⟩ = some (.string nm) ∧ w.cell? ⟨g, 1, none⟩ = some (.string ly)) := Lib.hid ⟨c0, c1⟩
  unfold maxLen at hm
  generalize hln : ts.length = n at *
  have Hn := Lib.hid hln
  clear hi hx hg c0 c1 hln
  go_enter Try.func34, Try.ntmps34
  go_wp2_with fail
  go_loopw [8] (fun c wr => ∃ i : Nat, i ≤ n ∧ c = .int .i64 i ∧ Below w.heap.size w wr) (fun c _ => n - (intOf c).toNat)
  case atStart => exact ⟨0, Nat.zero_le _, rfl, Below.refl _ _⟩
  case round =>
    obtain ⟨i, hin, rfl, hb⟩ := hrel
    have HB := Lib.hid hb
    clear hb
    by_cases hlt : i < n
    · obtain ⟨x, hx⟩ : ∃ x, ts[i]? = some x := ⟨ts[i]'(by have := Hn.out; omega), List.getElem?_eq_getElem _⟩
      obtain ⟨B, off, rfl, hB, d0, d1, d2, d3, d4⟩ := tv_at HI.out hx
      have k0 : wr.cell? ⟨B, off + i * 5, none⟩ = some (.string x.nm) := (HB.out.cell (p := ⟨B, off + i * 5, none⟩) hB).trans d0
      have k1 : wr.cell? ⟨B, off + i * 5 + 1, none⟩ = some (.string x.ly) := (HB.out.cell (p := ⟨B, off + i * 5 + 1, none⟩) hB).trans d1
      have k2 : wr.cell? ⟨B, off + i * 5 + 2, none⟩ = some (.int .i64 x.f) := (HB.out.cell (p := ⟨B, off + i * 5 + 2, none⟩) hB).trans d2
      have k3 : wr.cell? ⟨B, off + i * 5 + 3, none⟩ = some (.int .i64 x.t) := (HB.out.cell (p := ⟨B, off + i * 5 + 3, none⟩) hB).trans d3
      have k4 : wr.cell? ⟨B, off + i * 5 + 4, none⟩ = some (.slice x.b x.n x.c) := (HB.out.cell (p := ⟨B, off + i * 5 + 4, none⟩) hB).trans d4
      have hxx := HX.out x (List.mem_of_getElem? hx)
      have HK := Lib.hid (clash_no x nm ly g wr (Nat.lt_of_lt_of_le HG.out HB.out.size) ((HB.out.cell (p := ⟨g, 0, none⟩) HG.out).trans HC.out.1) ((HB.out.cell (p := ⟨g, 1, none⟩) HG.out).trans HC.out.2) hxx.1 hxx.2)
      have hi0 : (0 : Int) ≤ (i : Int) := by omega
      have hi1 : (i : Int) < (n : Int) := by omega
      clear hx d0 d1 d2 d3 d4 hxx
      go_wp2_with fail
      refine HK.out.mono ?_
      rintro e w1 ⟨rfl, b1⟩
      have HB1 := Lib.hid (HB.out.trans (b1.mono HB.out.size))
      clear b1 HK k0 k1 k2 k3 k4
      go_wp2_with fail
      go_roundw
      case rel => exact ⟨i + 1, by omega, by go_num, HB1.out⟩
      case measure => simp [intOf]; omega
    · go_wp2_with fail
      go_ret
      exact ⟨rfl, HB.out⟩
set_option maxHeartbeats 400000 in
theorem contains_no (ub : Option Addr) (uc : Nat) (ts : List TV) (nm ly : ByteArray) (g : Nat) (w : World) (hi : InW w ub 5 (ts.map tvC)) (hl : ts.length ≤ uc) (hm : uc ≤ maxLen) (hg : g < w.heap.size) (c0 : w.cell? ⟨g, 0, none⟩ = some (.string nm)) (c1 : w.cell? ⟨g, 1, none⟩ = some (.string ly)) (hx : ∀ x ∈ ts, x.nm ≠ nm ∧ x.ly ≠ ly) :
    Calls Try.prog 29 #[.slice ub ts.length uc, .func (.func 28) #[] #[.pointer (some ⟨g, 0, none⟩)]] w fun e w' => e = .returned (.bool false) ∧ Below w.heap.size w w' := by
  have HK := Lib.hid (index_no ub uc ts nm ly g w hi hl hm hg c0 c1 hx)
  clear hi hx
  go_enter Try.func29, Try.ntmps29
  go_wp2_with fail
  refine HK.out.mono ?_
  rintro e w1 ⟨rfl, b1⟩
  have HB1 := Lib.hid b1
  clear b1 HK
  go_wp2_with fail
  go_ret
  exact ⟨rfl, HB1.out⟩
end Go.Proofs.Ytkjcgeaoiabkjaa

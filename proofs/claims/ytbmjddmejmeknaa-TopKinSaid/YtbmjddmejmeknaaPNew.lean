/- Contracts of pane.New, Width, of. -/
import Derived.Test.YtbmjddmejmeknaaPane
import Derived.IntWalk
namespace Go.Proofs.Ytbmjddmejmeknaa.Pn
open Go.RowKit Go.MapKept Go.Maps
set_option linter.unusedVariables false
def I64 (x : Int) : Prop := -9223372036854775808 ≤ x ∧ x ≤ 9223372036854775807
theorem tdiv_floor (a d : Int) (hd : 1 ≤ d) (h : ¬ a.tmod d < 0) : a.tdiv d = a / d := by
  rcases Int.lt_or_le a 0 with ha | ha
  · have h1 : a.tmod d ≤ 0 := by
      have := Int.tmod_nonneg (a := -a) d (by omega)
      rw [Int.neg_tmod] at this; omega
    have h0 : a.tmod d = 0 := by omega
    have h2 := Int.mul_tdiv_add_tmod a d
    rw [h0] at h2
    have h3 : a = d * a.tdiv d := by omega
    have h4 := Int.mul_ediv_cancel_left (a.tdiv d) (show d ≠ 0 by omega)
    rw [← h3] at h4
    exact h4.symm
  · exact Int.tdiv_eq_ediv_of_nonneg ha
theorem tdiv_down (a d : Int) (hd : 1 ≤ d) (h : a.tmod d < 0) : a.tdiv d - 1 = a / d := by
  have h2 := Int.mul_tdiv_add_tmod a d
  have h3 : -d < a.tmod d := by
    have := Int.tmod_lt_of_pos (-a) (show 0 < d by omega)
    rw [Int.neg_tmod] at this; omega
  have e : a = (a.tmod d + d) + d * (a.tdiv d - 1) := by rw [Int.mul_sub]; omega
  have h4 : a / d = (a.tmod d + d) / d + (a.tdiv d - 1) := by
    conv => lhs; rw [e]
    exact Int.add_mul_ediv_left _ _ (by omega)
  rw [h4, Int.ediv_eq_zero_of_lt (by omega) (by omega)]; omega
theorem floor_le (a d : Int) (hd : 1 ≤ d) (ha : I64 a) : I64 (a / d) := by
  unfold I64 at *
  have h1 := Int.mul_ediv_add_emod a d
  have h2 := Int.emod_nonneg a (show d ≠ 0 by omega)
  have h3 := Int.emod_lt_of_pos a (show 0 < d by omega)
  constructor
  · rcases Int.lt_or_le (a / d) (-9223372036854775808) with h | h
    · have h5 : d * (a / d) ≤ d * (-9223372036854775809) := Int.mul_le_mul_of_nonneg_left (by omega) (by omega)
      omega
    · exact h
  · rcases Int.lt_or_le 9223372036854775807 (a / d) with h | h
    · have h5 : d * 9223372036854775808 ≤ d * (a / d) := Int.mul_le_mul_of_nonneg_left (by omega) (by omega)
      omega
    · exact h
theorem tdiv_in (a d : Int) (hd : 1 ≤ d) (ha : I64 a) : I64 (a.tdiv d) := by
  have h0 := floor_le a d hd ha
  by_cases h : a.tmod d < 0
  · have := tdiv_down a d hd h
    have h2 : a < 0 := by
      rcases Int.lt_or_le a 0 with h' | h'
      · exact h'
      · have := Int.tmod_nonneg d h'; omega
    have h3 : a.tdiv d ≤ 0 := by
      have := Int.tdiv_nonneg (a := -a) (b := d) (by omega) (by omega)
      rw [Int.neg_tdiv] at this; omega
    unfold I64 at *; omega
  · rw [tdiv_floor a d hd h]; exact h0
set_option maxHeartbeats 400000 in
theorem of_any (p : Nat) (wd a : Int) (w : World) (hc : w.cell? ⟨p, 0, none⟩ = some (.int .i64 wd)) (h1 : 1 ≤ wd) (ha : I64 a) :
    Calls Try.prog 29 #[.pointer (some ⟨p, 0, none⟩), .int .i64 a] w fun e w' => e = .returned (.int .i64 (a / wd)) ∧ w = w' := by
  have hi := tdiv_in a wd h1 ha
  have hf := floor_le a wd h1 ha
  have hw1 : IntKind.i64.wrap (a.tdiv wd) = a.tdiv wd := IntWalk.i64_in _ hi
  have hz : (wd == 0) = false := by simp; omega
  have hz' : wd ≠ 0 := by omega
  unfold I64 at ha
  by_cases hm : a.tmod wd < 0
  · have hd := tdiv_down a wd h1 hm
    have hw2 : IntKind.i64.wrap (a.tdiv wd - 1) = a.tdiv wd - 1 := IntWalk.i64_in _ (by rw [hd]; exact hf)
    clear hi hf
    rw [← hd]; clear hd
    go_enter Try.func29, Try.ntmps29
    go_wp2_with fail
    go_ret
    exact ⟨rfl, rfl⟩
  · have hd := tdiv_floor a wd h1 hm
    clear hi hf
    rw [← hd]; clear hd
    go_enter Try.func29, Try.ntmps29
    go_wp2_with fail
    go_ret
    exact ⟨rfl, rfl⟩
/-- a width that may be -/
def wdOf (x : Int) : Int := min (max x 1) 1099511627776
theorem wdOf_in (x : Int) : 1 ≤ wdOf x ∧ wdOf x ≤ 1099511627776 := by unfold wdOf; omega
set_option maxHeartbeats 400000 in
theorem new_any (x : Int) (w : World) (hx : I64 x) :
    Calls Try.prog 15 #[.int .i64 x] w fun e w' => e = .returned (.pointer (some ⟨w.heap.size + 2, 0, none⟩)) ∧
      w' = ((w.alloc (.map #[] 0)).alloc (.map #[] 0)).alloc (.cells #[.int .i64 (wdOf x), .int .i64 0, .map (some w.heap.size), .map (some (w.heap.size + 1))] 77) := by
  unfold I64 at hx
  have hmm := @run_makeMap Try.prog
  go_enter Try.func15, Try.ntmps15
  go_wp2_with fail
  all_goals
    go_ret
    refine ⟨rfl, ?_⟩
    unfold wdOf
    first
      | rw [show min (max x 1) 1099511627776 = x by omega]
      | rw [show min (max x 1) 1099511627776 = 1 by omega]
      | rw [show min (max x 1) 1099511627776 = 1099511627776 by omega]
theorem PaneAt.made (w : World) (x : Int) :
    PaneAt (((w.alloc (.map #[] 0)).alloc (.map #[] 0)).alloc (.cells #[.int .i64 (wdOf x), .int .i64 0, .map (some w.heap.size), .map (some (w.heap.size + 1))] 77)) (w.heap.size + 2) [w.heap.size + 2, w.heap.size, w.heap.size + 1] (wdOf x) 0 [] := by
  have m1 : Mp encC okC (w.alloc (.map #[] 0)) w.heap.size [] := Mp.made w
  have m2 : Mp encS okS ((w.alloc (.map #[] 0)).alloc (.map #[] 0)) (w.heap.size + 1) [] := by simpa using (Mp.made (enc := encS) (Ok := okS) (w.alloc (.map #[] 0)))
  have b2 := Bk.new ((w.alloc (.map #[] 0)).alloc (.map #[] 0)) [.int .i64 (wdOf x), .int .i64 0, .map (some w.heap.size), .map (some (w.heap.size + 1))] 77
  refine ⟨(fun _ h => by cases h), (wdOf_in x).1, (wdOf_in x).2, by simp, by omega, w.heap.size, w.heap.size + 1, [], [], rfl, ⟨?_, ?_, ?_, (fun _ h => by cases h), by simp [pblocks]⟩, ⟨by simp [mkeys], by simp [mkeys], fun k n => by simp [mget, sget], fun k _ n => rfl, fun k v l h => by cases h⟩⟩
  · simpa using b2
  · exact (m1.bel ((Below.refl _ _).alloc (Nat.le_refl _) _)).bel ((Below.refl _ _).alloc (Nat.le_refl _) _)
  · exact m2.bel ((Below.refl _ _).alloc (Nat.le_refl _) _)
/-- pane.New, as a whole -/
theorem new_pane (x : Int) (w : World) (hx : I64 x) :
    Calls Try.prog 15 #[.int .i64 x] w fun e w' => e = .returned (.pointer (some ⟨w.heap.size + 2, 0, none⟩)) ∧
      PaneAt w' (w.heap.size + 2) [w.heap.size + 2, w.heap.size, w.heap.size + 1] (wdOf x) 0 [] ∧ Below w.heap.size w w' ∧ w'.heap.size = w.heap.size + 3 := by
  refine (new_any x w hx).mono ?_
  rintro e w' ⟨rfl, rfl⟩
  exact ⟨rfl, PaneAt.made w x, (((Below.refl _ _).alloc (Nat.le_refl _) _).alloc (by simp) _).alloc (by simp; omega) _, by simp⟩
end Go.Proofs.Ytbmjddmejmeknaa.Pn

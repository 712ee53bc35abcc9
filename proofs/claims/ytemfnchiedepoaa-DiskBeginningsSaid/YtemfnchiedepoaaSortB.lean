/- slices.Sort of texts of the call's own. -/
import Derived.Test.YtemfnchiedepoaaRise
import Derived.Test.YtemfnchiedepoaaShelf
import Derived.Sort.Walk0
namespace Go.Proofs.Ytemfnchiedepoaa
open Go.RowKit Go.Sort
set_option linter.unusedVariables false
theorem sortB_data (l : List ByteArray) : ((l.map fun s => s.data.toList).mergeSort fun x y => decide (x ≤ y)).map encStr = (sortB l).map Value.string := by
  unfold sortB
  rw [← List.map_mergeSort (f := fun s : ByteArray => s.data.toList) (r := fun a b : ByteArray => decide (a.data.toList ≤ b.data.toList)) (fun a _ b _ => rfl), List.map_map]
  rfl
theorem texts_enc (l : List ByteArray) : l.map Value.string = (l.map fun s => s.data.toList).map encStr := by rw [List.map_map]; rfl
/-- slices.Sort -/
theorem sort_texts (v : Value) (l : List ByteArray) (w : World) (h : w.ownsRow 0 9 1 v l.length (l.map Value.string)) (hl : l.length ≤ 1000000000) :
    Calls Try.prog 46 #[v] w fun e w' => e = .returned (.tuple #[]) ∧ w'.ownsRow 0 9 1 v l.length ((sortB l).map Value.string) ∧ Fr (fun b => v.ownBlock = some b) w w' := by
  rcases h.2 with ⟨rfl, h0⟩ | ⟨g, cap, cur, rfl, hbase, hb, h1, h2, h3, h4⟩
  · have hl0 : l = [] := List.eq_nil_of_length_eq_zero h0
    subst hl0
    refine (Try.slices_Sort_string_none none 0 w).mono ?_
    rintro e w' ⟨rfl, rfl⟩
    exact ⟨rfl, by simpa [sortB] using h, Fr.refl _ _⟩
  · have e1 : (l.map fun s => s.data.toList).length = l.length := by simp
    have hH : Holds encStr w g 0 (l.map fun s => s.data.toList).toArray := holds_of_block hb (by rw [e1, ← texts_enc]; simpa using h4)
    have := Try.slices_Sort_string g 0 cap (l.map fun s => s.data.toList) w hH (lt_of_at hb) (by rw [e1]; omega)
    rw [e1] at this
    refine this.mono ?_
    rintro e w' ⟨rfl, n, os, rfl⟩
    refine ⟨rfl, ?_, (Fr.of_grown (grownBy_sorted _)).mono (fun b _ e => by rw [← e]; rfl)⟩
    rw [← sortB_data]
    have h5 := ownsRow_sorted (w := w) (n := n) (os := os) (ss := l.map fun s => s.data.toList) (ts := (l.map fun s => s.data.toList).mergeSort fun x y => decide (x ≤ y)) (by simp) hbase hb (by rw [e1]; exact h1) h2 (by simpa using h3)
    rw [e1] at h5
    exact h5
end Go.Proofs.Ytemfnchiedepoaa

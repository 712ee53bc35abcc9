/- Blocks of two cells of the call's own, and what a call leaves of them. -/
import Derived.WalkKit
namespace Go.Proofs.Ythkdcbmcknndnaa
open Go.RowKit
theorem bel2 (w : World) (o1 o2 : Obj) : Below w.heap.size w ((w.alloc o1).alloc o2) :=
  ((Below.refl _ _).alloc (Nat.le_refl _) _).alloc (by simp) _

/-- a block of two cells of the call's own -/
def Two (w : World) (g : Nat) (x y : Value) (t : TypeId) : Prop := w.heap[g]? = some (.cells #[x, y] t (0, 0))
theorem Two.c0 {w : World} {g : Nat} {x y : Value} {t : TypeId} (h : Two w g x y t) : w.cell? ⟨g, 0, none⟩ = some x := by rw [cell_of_row _ _ _ _ _ _ h]; rfl
theorem Two.c1 {w : World} {g : Nat} {x y : Value} {t : TypeId} (h : Two w g x y t) : w.cell? ⟨g, 1, none⟩ = some y := by rw [cell_of_row _ _ _ _ _ _ h]; rfl
theorem Two.f {w : World} {g : Nat} {x y : Value} {t : TypeId} (h : Two w g x y t) (i : Nat) : w.frozen? ⟨g, i, none⟩ = false := frozen_of_row _ _ _ _ _ h
theorem Two.lt {w : World} {g : Nat} {x y : Value} {t : TypeId} (h : Two w g x y t) : g < w.heap.size := by
  rcases Nat.lt_or_ge g w.heap.size with k | k
  · exact k
  · simp [Two, Array.getElem?_eq_none k] at h
theorem Two.bel {w w' : World} {g : Nat} {x y : Value} {t : TypeId} (h : Two w g x y t) (hb : Below w.heap.size w w') : Two w' g x y t := (hb.block g h.lt).trans h
theorem Two.set {w : World} {g : Nat} {x y : Value} {t : TypeId} (h : Two w g x y t) (x' y' : Value) : Two ((w.setCell ⟨g, 0, none⟩ x').setCell ⟨g, 1, none⟩ y') g x' y' t := by
  have h1 := heap_setCell_same w g 0 _ t x' h
  have h2 := heap_setCell_same _ g 1 _ t y' h1
  exact h2
theorem Two.other {w : World} {g : Nat} {x y : Value} {t : TypeId} (h : Two w g x y t) (k : Nat) (hk : g ≠ k) (x' y' : Value) : Two ((w.setCell ⟨k, 0, none⟩ x').setCell ⟨k, 1, none⟩ y') g x y t := by
  unfold Two; rw [heap_setCell_other _ _ _ _ hk, heap_setCell_other _ _ _ _ hk]; exact h
theorem Two.new (w : World) (x y : Value) (t : TypeId) : Two (w.alloc (.cells #[x, y] t)) w.heap.size x y t := heap_alloc_new w _
theorem Two.old {w : World} {g : Nat} {x y : Value} {t : TypeId} (h : Two w g x y t) (o : Obj) : Two (w.alloc o) g x y t := (Below.heap_alloc w o g h.lt).trans h
theorem Two.drew {w : World} {g : Nat} {x y : Value} {t : TypeId} (h : Two w g x y t) : Two w.drew g x y t := h

theorem World.size_alloc (w : World) (o : Obj) : (w.alloc o).heap.size = w.heap.size + 1 := by simp
theorem two_facts {w : World} {g : Nat} {x y : Value} {t : TypeId} (h : Two w g x y t) : w.cell? ⟨g, 0, none⟩ = some x ∧ w.cell? ⟨g, 1, none⟩ = some y ∧ w.frozen? ⟨g, 0, none⟩ = false ∧ w.frozen? ⟨g, 1, none⟩ = false ∧ g < w.heap.size :=
  ⟨h.c0, h.c1, h.f 0, h.f 1, h.lt⟩
theorem bel_alloc {V w : World} (h : Below V.heap.size V w) (o : Obj) : Below V.heap.size V (w.alloc o) := h.alloc h.size o
theorem bel_trans {V w w' : World} (h : Below V.heap.size V w) (k : Below w.heap.size w w') : Below V.heap.size V w' := h.trans (k.mono h.size)
theorem bel_set {V w : World} (h : Below V.heap.size V w) (g i : Nat) (v : Value) (hg : V.heap.size ≤ g) : Below V.heap.size V (w.setCell ⟨g, i, none⟩ v) := h.setCell hg v
theorem two_keep {V X : World} {g k : Nat} {x y x' y' : Value} {t t' : TypeId} (i1 : Two V g x y t) (i2 : Two V k x' y' t') (hb : Below V.heap.size V X) :
    X.cell? ⟨g, 0, none⟩ = some x ∧ X.cell? ⟨g, 1, none⟩ = some y ∧ X.cell? ⟨k, 0, none⟩ = some x' ∧ X.cell? ⟨k, 1, none⟩ = some y' :=
  ⟨(i1.bel hb).c0, (i1.bel hb).c1, (i2.bel hb).c0, (i2.bel hb).c1⟩

theorem cell_keep {w w' : World} (hb : Below w.heap.size w w') {g i : Nat} {x : Value} (h : w.cell? ⟨g, i, none⟩ = some x) : w'.cell? ⟨g, i, none⟩ = some x := by
  rw [hb.cell (p := ⟨g, i, none⟩) (block_lt_of_cell h)]; exact h
theorem two_cells_keep {w w' : World} (hb : Below w.heap.size w w') {g k : Nat} {x y x' y' : Value} (h0 : w.cell? ⟨g, 0, none⟩ = some x) (h1 : w.cell? ⟨g, 1, none⟩ = some y) (h2 : w.cell? ⟨k, 0, none⟩ = some x') (h3 : w.cell? ⟨k, 1, none⟩ = some y') :
    w'.cell? ⟨g, 0, none⟩ = some x ∧ w'.cell? ⟨g, 1, none⟩ = some y ∧ w'.cell? ⟨k, 0, none⟩ = some x' ∧ w'.cell? ⟨k, 1, none⟩ = some y' :=
  ⟨cell_keep hb h0, cell_keep hb h1, cell_keep hb h2, cell_keep hb h3⟩

theorem Two.news {w : World} (x y x' y' : Value) (t t' : TypeId) : Two ((w.alloc (.cells #[x, y] t)).alloc (.cells #[x', y'] t')) (w.heap.size + 1) x' y' t' := by
  have h := Two.new (w.alloc (.cells #[x, y] t)) x' y' t'
  rw [World.size_alloc] at h; exact h
end Go.Proofs.Ythkdcbmcknndnaa

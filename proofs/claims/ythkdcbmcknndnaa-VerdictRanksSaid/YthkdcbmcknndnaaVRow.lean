/- A row of rows of the call's own, in place: what stands there, an element set; plain laws of swapping. -/
import Derived.Test.YthkdcbmcknndnaaVCmp
import Derived.Deep.LoopGhost
namespace Go.Proofs.Ythkdcbmcknndnaa
open Go.RowKit Go.ChangeShapes Go.WideShapes
set_option linter.unusedVariables false
namespace Rk
theorem rwC_len (x : Rw) : (rwC x).length = 4 := rfl
theorem rwC_one (x : Rw) : ∀ u ∈ rwC x, u.oneCell' = true := fun u hu => by
  simp [rwC] at hu
  rcases hu with rfl | rfl | rfl | rfl <;> rfl
/-- the row stands in block b (spare cells sp behind it), all else is as it was in w0 -/
structure SW (w0 : World) (b : Nat) (sp : List Value) (l : List Rw) (W : World) : Prop where
  row : Bk W b (l.flatMap rwC ++ sp) 24
  fr : Fr (fun k => k = b) w0 W
theorem SW.bel {w0 W W' : World} {b : Nat} {sp : List Value} {l : List Rw} (h : SW w0 b sp l W) (hb : Below W.heap.size W W') : SW w0 b sp l W' :=
  ⟨h.row.bel hb, h.fr.bel hb⟩
theorem SW.drew {w0 W : World} {b : Nat} {sp : List Value} {l : List Rw} (h : SW w0 b sp l W) : SW w0 b sp l W.drew := ⟨h.row, h.fr.drew⟩
theorem SW.cell {w0 W : World} {b : Nat} {sp : List Value} {l : List Rw} (h : SW w0 b sp l W) {i : Nat} {x : Rw} (hi : l[i]? = some x) {j : Nat} {u : Value} (hj : (rwC x)[j]? = some u) : W.cell? ⟨b, i * 4 + j, none⟩ = some u := by
  rw [h.row.cell]
  have := flat_at rwC_len hi hj
  rw [List.getElem?_append_left (List.getElem?_eq_some_iff.1 this).1]
  exact this
theorem SW.cells {w0 W : World} {b : Nat} {sp : List Value} {l : List Rw} (h : SW w0 b sp l W) {i : Nat} {x : Rw} (hi : l[i]? = some x) :
    W.cell? ⟨b, i * 4, none⟩ = some (.string x.arm) ∧ W.cell? ⟨b, i * 4 + 1, none⟩ = some (.int .i64 x.pe) ∧ W.cell? ⟨b, i * 4 + 2, none⟩ = some (.int .i64 x.bo) ∧ W.cell? ⟨b, i * 4 + 3, none⟩ = some (.int .i64 x.wo) :=
  ⟨h.cell hi (j := 0) rfl, h.cell hi (j := 1) rfl, h.cell hi (j := 2) rfl, h.cell hi (j := 3) rfl⟩
theorem flat_set (l : List Rw) (i : Nat) (y : Rw) (sp : List Value) (h : i < l.length) : putAt (l.flatMap rwC ++ sp) (i * 4) (rwC y) = (l.set i y).flatMap rwC ++ sp := by
  obtain ⟨l1, x, l2, rfl, rfl⟩ : ∃ l1 x l2, l = l1 ++ x :: l2 ∧ l1.length = i := ⟨l.take i, l[i], l.drop (i + 1), by simp, by simp; omega⟩
  have e : (l1 ++ x :: l2).set l1.length y = l1 ++ y :: l2 := by simp
  rw [e, List.flatMap_append, List.flatMap_append, List.flatMap_cons, List.flatMap_cons, ← flat_len rwC_len l1]
  generalize l1.flatMap rwC = F1
  generalize l2.flatMap rwC = F2
  rw [putAt_eq _ _ _ (by simp [rwC_len]), List.append_assoc, List.append_assoc, List.take_left' rfl]
  have e2 : (F1 ++ (rwC x ++ F2 ++ sp)).drop (F1.length + (rwC y).length) = F2 ++ sp := by
    rw [← List.drop_drop, List.drop_left' rfl, List.append_assoc, List.drop_left' (show (rwC x).length = (rwC y).length from rfl)]
  rw [e2]
  simp [List.append_assoc]
theorem SW.set {w0 W : World} {b : Nat} {sp : List Value} {l : List Rw} (h : SW w0 b sp l W) {i : Nat} (hi : i < l.length) (y : Rw) : SW w0 b sp (l.set i y) (W.setCells b (i * 4) (rwC y)) := by
  refine ⟨?_, Fr.setCells (S := fun k => k = b) (.inr rfl) _ _ h.fr⟩
  have := Bk.setCells (rwC y) (l.flatMap rwC ++ sp) (i * 4) h.row
  rw [flat_set l i y sp hi] at this
  exact this
theorem SW.set4 {w0 W : World} {b : Nat} {sp : List Value} {l : List Rw} (h : SW w0 b sp l W) {i : Nat} (hi : i < l.length) (y : Rw) :
    SW w0 b sp (l.set i y) ((((W.setCell ⟨b, i * 4, none⟩ (.string y.arm)).setCell ⟨b, i * 4 + 1, none⟩ (.int .i64 y.pe)).setCell ⟨b, i * 4 + 2, none⟩ (.int .i64 y.bo)).setCell ⟨b, i * 4 + 3, none⟩ (.int .i64 y.wo)) := h.set hi y
theorem SW.free {w0 W : World} {b : Nat} {sp : List Value} {l : List Rw} (h : SW w0 b sp l W) (j : Nat) : W.frozen? ⟨b, j, none⟩ = false := h.row.free j
theorem SW.start {w : World} {b : Nat} {sp : List Value} {l : List Rw} (h : Bk w b (l.flatMap rwC ++ sp) 24) : SW w b sp l w := ⟨h, Fr.refl _ _⟩
/-- two places swapped -/
def swp (l : List Rw) (i j : Nat) : List Rw := match l[i]?, l[j]? with
  | some x, some y => (l.set i y).set j x
  | _, _ => l
theorem swp_eq {l : List Rw} {i j : Nat} {x y : Rw} (hx : l[i]? = some x) (hy : l[j]? = some y) : swp l i j = (l.set i y).set j x := by unfold swp; rw [hx, hy]
theorem swp_len (l : List Rw) (i j : Nat) : (swp l i j).length = l.length := by
  unfold swp; split <;> simp
end Rk
end Go.Proofs.Ythkdcbmcknndnaa

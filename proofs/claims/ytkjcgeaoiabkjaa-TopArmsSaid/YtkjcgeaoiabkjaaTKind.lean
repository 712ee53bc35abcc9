/- Boxes and rows beside one another (for trial.New): contracts by one word. -/
import Derived.Test.YtkjcgeaoiabkjaaTBook
import Derived.Test.YtkjcgeaoiabkjaaHere
import Derived.Test.YtkjcgeaoiabkjaaMk
namespace Go.Proofs.Ytkjcgeaoiabkjaa
open Go.RowKit Go.MapKept Go.Maps
set_option linter.unusedVariables false
inductive ObN where
  | box (b : Nat) (cs : List Value) (t : TypeId)
  | row (v : Value) (e : TypeId) (sz : Nat) (n : Nat) (xs : List Value)
def HoldsN (w : World) : ObN → List Nat → Prop
  | .box b cs t, B => Bk w b cs t ∧ B = [b]
  | .row v e sz n xs, B => w.ownsRow 0 e sz v n xs ∧ B = v.ownBlock.toList
theorem HoldsN.fr {S : Nat → Prop} {w w' : World} {o : ObN} {B : List Nat} (h : HoldsN w o B) (hf : Fr S w w') (hs : ∀ b ∈ B, ¬ S b) : HoldsN w' o B := by
  cases o with
  | box b cs t =>
    obtain ⟨h1, rfl⟩ := h
    exact ⟨h1.fr hf (hs b (by simp)), rfl⟩
  | row v e sz n xs =>
    obtain ⟨h1, rfl⟩ := h
    exact ⟨hf.row h1 (fun b hb => hs b (by simp [hb])), rfl⟩
theorem ownN_lt {w : World} {e : TypeId} {sz n : Nat} {v : Value} {xs : List Value} (h : w.ownsRow 0 e sz v n xs) {b : Nat} (hb : v.ownBlock = some b) : b < w.heap.size := by
  obtain ⟨_, h | ⟨g, cap, cs, hv, h1, h2, h3, h4, h5⟩⟩ := h
  · rw [h.1] at hb; simp [Value.ownBlock] at hb
  · rw [hv] at hb
    simp [Value.ownBlock] at hb
    subst hb
    first | exact lt_of_at h1 | exact lt_of_at h2 | exact lt_of_at h3 | exact lt_of_at h4 | exact lt_of_at h5
theorem HoldsN.lt {w : World} {o : ObN} {B : List Nat} (h : HoldsN w o B) : ∀ b ∈ B, b < w.heap.size := by
  cases o with
  | box b cs t =>
    obtain ⟨h1, rfl⟩ := h
    intro b' hb
    simp at hb
    subst hb
    exact h1.lt
  | row v e sz n xs =>
    obtain ⟨h1, rfl⟩ := h
    intro b' hb
    exact ownN_lt h1 (Option.mem_toList.1 hb)
def KN : Kind ObN := ⟨HoldsN, HoldsN.fr, HoldsN.lt⟩
theorem n_box {w0 w : World} {os : List ObN} (h : Here KN w0 w os) (cs : List Value) (t : TypeId) : Here KN w0 (w.alloc (.cells cs.toArray t)) (os ++ [.box w.heap.size cs t]) :=
  h.push ((Below.refl _ _).alloc (Nat.le_refl _) _) (o := .box _ _ _) ⟨Bk.new w cs t, rfl⟩ (fun b hb => by simp at hb; omega)
theorem n_boxAt {w0 w : World} {os : List ObN} (h : Here KN w0 w os) {i b : Nat} {cs : List Value} {t : TypeId} (hi : os[i]? = some (.box b cs t)) : Bk w b cs t := by
  obtain ⟨B, h1, _⟩ := h.use hi
  exact h1.1
theorem n_row {w0 w w' : World} {os : List ObN} (h : Here KN w0 w os) {v : Value} {e : TypeId} {sz n : Nat} {xs : List Value} (hb : Below w.heap.size w w') (ht : w'.ownsRow 0 e sz v n xs) (hn : ∀ b, v.ownBlock = some b → w.heap.size ≤ b) : Here KN w0 w' (os ++ [.row v e sz n xs]) :=
  h.push hb (o := .row _ _ _ _ _) ⟨ht, rfl⟩ (fun b hb => hn b (Option.mem_toList.1 hb))
theorem n_rowAt {w0 w : World} {os : List ObN} (h : Here KN w0 w os) {i : Nat} {v : Value} {e : TypeId} {sz n : Nat} {xs : List Value} (hi : os[i]? = some (.row v e sz n xs)) : w.ownsRow 0 e sz v n xs := by
  obtain ⟨B, h1, _⟩ := h.use hi
  exact h1.1
/-- a row that grew -/
theorem n_more {w0 w w' : World} {os : List ObN} (h : Here KN w0 w os) {i : Nat} {v v' : Value} {e : TypeId} {sz n n' : Nat} {xs xs' : List Value} (hi : os[i]? = some (.row v e sz n xs)) (ho : w'.ownsRow 0 e sz v' n' xs') (hf : Fr (fun b => v.ownBlock = some b) w w') (he : Hence v v' w) : Here KN w0 w' (os.set i (.row v' e sz n' xs')) := by
  obtain ⟨B, h1, _, h3, _⟩ := h.use hi
  obtain ⟨_, rfl⟩ := h1
  refine h3 w' (.row v' e sz n' xs') v'.ownBlock.toList ⟨ho, rfl⟩ (hf.mono fun b _ hb => Option.mem_toList.2 hb) (fun b hb => ?_)
  have hb' := Option.mem_toList.1 hb
  rcases he with e1 | e1
  · exact .inl (Option.mem_toList.2 (by rw [← e1]; exact hb'))
  · have := Option.some.inj (e1.symm.trans hb')
    exact .inr (by omega)
/-- a box's cell that was stored to -/
theorem n_set {w0 w : World} {os : List ObN} (h : Here KN w0 w os) {i b : Nat} {cs : List Value} {t : TypeId} (hi : os[i]? = some (.box b cs t)) (k : Nat) (u : Value) : Here KN w0 (w.setCell ⟨b, k, none⟩ u) (os.set i (.box b (cs.set k u) t)) := by
  obtain ⟨B, h1, _, h3, _⟩ := h.use hi
  obtain ⟨h2, rfl⟩ := h1
  exact h3 _ (.box b (cs.set k u) t) [b] ⟨h2.set k u, rfl⟩ ((Fr.refl _ _).setCell b k u (.inr (by simp))) (fun b' hb => .inl hb)
end Go.Proofs.Ytkjcgeaoiabkjaa

/- Boxes, rows and maps with texts for keys, beside one another: contracts by one word. -/
import Derived.Test.YtbmjddmejmeknaaBase
import Derived.Test.YtbmjddmejmeknaaMk
namespace Go.Proofs.Ytbmjddmejmeknaa
open Go.RowKit Go.MapKept Go.Maps
open Go.ChangeMaps (setBlock)
set_option linter.unusedVariables false
set_option linter.unusedSectionVars false
inductive ObM where
  | box (b : Nat) (cs : List Value) (t : TypeId)
  | row (v : Value) (e : TypeId) (sz : Nat) (n : Nat) (xs : List Value)
  | mp (r : Nat) (m : List (ByteArray × Value))
def HoldsM (w : World) : ObM → List Nat → Prop
  | .box b cs t, B => Bk w b cs t ∧ B = [b]
  | .row v e sz n xs, B => w.ownsRow 0 e sz v n xs ∧ B = v.ownBlock.toList
  | .mp r m, B => Mp encS okS w r m ∧ B = [r]
theorem HoldsM.fr {S : Nat → Prop} {w w' : World} {o : ObM} {B : List Nat} (h : HoldsM w o B) (hf : Fr S w w') (hs : ∀ b ∈ B, ¬ S b) : HoldsM w' o B := by
  cases o with
  | box b cs t =>
    obtain ⟨h1, rfl⟩ := h
    exact ⟨h1.fr hf (hs b (by simp)), rfl⟩
  | row v e sz n xs =>
    obtain ⟨h1, rfl⟩ := h
    exact ⟨hf.row h1 (fun b hb => hs b (by simp [hb])), rfl⟩
  | mp r m =>
    obtain ⟨h1, rfl⟩ := h
    exact ⟨h1.fr hf (hs r (by simp)), rfl⟩
theorem HoldsM.lt {w : World} {o : ObM} {B : List Nat} (h : HoldsM w o B) : ∀ b ∈ B, b < w.heap.size := by
  cases o with
  | box b cs t =>
    obtain ⟨h1, rfl⟩ := h
    intro b' hb
    simp at hb
    subst hb
    exact h1.lt
  | row v e sz n xs =>
    obtain ⟨h1, rfl⟩ := h
    intro b' hb
    exact own_lt h1 (Option.mem_toList.1 hb)
  | mp r m =>
    obtain ⟨h1, rfl⟩ := h
    intro b' hb
    simp at hb
    subst hb
    exact h1.lt
def KM : Kind ObM := ⟨HoldsM, HoldsM.fr, HoldsM.lt⟩
section
variable {w0 w w' : World} {os : List ObM} {i b r n n' sz : Nat} {cs : List Value} {t e : TypeId} {v v' : Value} {xs xs' : List Value} {m m' : List (ByteArray × Value)}
theorem m_box (h : Here KM w0 w os) (cs : List Value) (t : TypeId) : Here KM w0 (w.alloc (.cells cs.toArray t)) (os ++ [.box w.heap.size cs t]) :=
  h.push ((Below.refl _ _).alloc (Nat.le_refl _) _) (o := .box _ _ _) ⟨Bk.new w cs t, rfl⟩ (fun b hb => by simp at hb; omega)
theorem m_boxAt (h : Here KM w0 w os) (hi : os[i]? = some (.box b cs t)) : Bk w b cs t := by
  obtain ⟨B, h1, _⟩ := h.use hi
  exact h1.1
theorem m_row (h : Here KM w0 w os) (hb : Below w.heap.size w w') (ht : w'.ownsRow 0 e sz v n xs) (hn : ∀ b, v.ownBlock = some b → w.heap.size ≤ b) : Here KM w0 w' (os ++ [.row v e sz n xs]) :=
  h.push hb (o := .row _ _ _ _ _) ⟨ht, rfl⟩ (fun b hb => hn b (Option.mem_toList.1 hb))
theorem m_rowAt (h : Here KM w0 w os) (hi : os[i]? = some (.row v e sz n xs)) : w.ownsRow 0 e sz v n xs := by
  obtain ⟨B, h1, _⟩ := h.use hi
  exact h1.1
theorem m_rowNew (h : Here KM w0 w os) (hi : os[i]? = some (.row v e sz n xs)) : ∀ b, v.ownBlock = some b → w0.heap.size ≤ b := by
  obtain ⟨B, ⟨_, rfl⟩, h2, _⟩ := h.use hi
  exact fun b hb => h2 b (Option.mem_toList.2 hb)
theorem m_map (h : Here KM w0 w os) (hb : Below w.heap.size w w') (ht : Mp encS okS w' r m) (hn : w.heap.size ≤ r) : Here KM w0 w' (os ++ [.mp r m]) :=
  h.push hb (o := .mp _ _) ⟨ht, rfl⟩ (fun b hb => by simp at hb; omega)
theorem m_mapAt (h : Here KM w0 w os) (hi : os[i]? = some (.mp r m)) : Mp encS okS w r m := by
  obtain ⟨B, h1, _⟩ := h.use hi
  exact h1.1
theorem m_mapNew (h : Here KM w0 w os) (hi : os[i]? = some (.mp r m)) : w0.heap.size ≤ r := by
  obtain ⟨B, ⟨_, rfl⟩, h2, _⟩ := h.use hi
  exact h2 r (by simp)
theorem m_boxRow {j g : Nat} (h : Here KM w0 w os) (hi : os[i]? = some (.box b cs t)) (hj : os[j]? = some (.row v e sz n xs)) (hne : j ≠ i) (hv : v.ownBlock = some g) : b ≠ g := by
  obtain ⟨B, ⟨_, rfl⟩, _, _, h4⟩ := h.use hi
  obtain ⟨C, ⟨_, rfl⟩, h5⟩ := h4 j _ hne hj
  exact fun c => h5 b (by simp) (by rw [hv, c]; simp)
theorem m_boxMap {j : Nat} (h : Here KM w0 w os) (hi : os[i]? = some (.box b cs t)) (hj : os[j]? = some (.mp r m)) (hne : j ≠ i) : b ≠ r := by
  obtain ⟨B, ⟨_, rfl⟩, _, _, h4⟩ := h.use hi
  obtain ⟨C, ⟨_, rfl⟩, h5⟩ := h4 j _ hne hj
  exact fun c => h5 b (by simp) (by rw [c]; simp)
theorem m_boxBox {j b' : Nat} {cs' : List Value} {t' : TypeId} (h : Here KM w0 w os) (hi : os[i]? = some (.box b cs t)) (hj : os[j]? = some (.box b' cs' t')) (hne : j ≠ i) : b ≠ b' := by
  obtain ⟨B, ⟨_, rfl⟩, _, _, h4⟩ := h.use hi
  obtain ⟨C, ⟨_, rfl⟩, h5⟩ := h4 j _ hne hj
  exact fun c => h5 b (by simp) (by rw [c]; simp)
/-- a row that grew -/
theorem m_more (h : Here KM w0 w os) (hi : os[i]? = some (.row v e sz n xs)) (ho : w'.ownsRow 0 e sz v' n' xs') (hf : Fr (fun b => v.ownBlock = some b) w w') (he : Hence v v' w) : Here KM w0 w' (os.set i (.row v' e sz n' xs')) := by
  obtain ⟨B, h1, _, h3, _⟩ := h.use hi
  obtain ⟨_, rfl⟩ := h1
  refine h3 w' (.row v' e sz n' xs') v'.ownBlock.toList ⟨ho, rfl⟩ (hf.mono fun b _ hb => Option.mem_toList.2 hb) (fun b hb => ?_)
  have hb' := Option.mem_toList.1 hb
  rcases he with e1 | e1
  · exact .inl (Option.mem_toList.2 (by rw [← e1]; exact hb'))
  · have := Option.some.inj (e1.symm.trans hb')
    exact .inr (by omega)
/-- a box's cell that was stored to -/
theorem m_set (h : Here KM w0 w os) (hi : os[i]? = some (.box b cs t)) (k : Nat) (u : Value) : Here KM w0 (w.setCell ⟨b, k, none⟩ u) (os.set i (.box b (cs.set k u) t)) := by
  obtain ⟨B, h1, _, h3, _⟩ := h.use hi
  obtain ⟨h2, rfl⟩ := h1
  exact h3 _ (.box b (cs.set k u) t) [b] ⟨h2.set k u, rfl⟩ ((Fr.refl _ _).setCell b k u (.inr (by simp))) (fun b' hb => .inl hb)
/-- a map that was changed -/
theorem m_mapSet (h : Here KM w0 w os) (hi : os[i]? = some (.mp r m)) (hm : Mp encS okS w' r m') (hf : Fr (fun b => b = r) w w') : Here KM w0 w' (os.set i (.mp r m')) := by
  obtain ⟨B, h1, _, h3, _⟩ := h.use hi
  obtain ⟨h2, rfl⟩ := h1
  exact h3 _ (.mp r m') [r] ⟨hm, rfl⟩ (hf.mono fun b _ hb => by simp [hb]) (fun b' hb => .inl hb)
/-- a cell of a row, stored to -/
theorem own_set {g cap k : Nat} {u : Value} (h : w.ownsRow 0 e sz (.slice (some ⟨g, 0, none⟩) n cap) n xs) (hk : k < n * sz) : (w.setCell ⟨g, k, none⟩ u).ownsRow 0 e sz (.slice (some ⟨g, 0, none⟩) n cap) n (xs.set k u) := by
  obtain ⟨h1, h2 | ⟨g', cap', cur, hv, h3, h4, h5, h6, h7, h8⟩⟩ := h
  · cases h2.1
  · cases hv
    refine ⟨by rw [List.length_set]; exact h1, .inr ⟨g, cap, cur.set! k u, rfl, h3, ?_, h5, h6, by simpa using h7, ?_⟩⟩
    · have := heap_setCell_same w g k cur e u h4
      rw [this]
      simp [Array.set!_eq_setIfInBounds]
    · have : (cur.set! k u).toList = cur.toList.set k u := by simp [Array.set!_eq_setIfInBounds]
      rw [this, ← h8, List.take_set]
theorem m_rowSet {g cap k : Nat} {u : Value} (h : Here KM w0 w os) (hi : os[i]? = some (.row (.slice (some ⟨g, 0, none⟩) n cap) e sz n xs)) (hk : k < n * sz) : Here KM w0 (w.setCell ⟨g, k, none⟩ u) (os.set i (.row (.slice (some ⟨g, 0, none⟩) n cap) e sz n (xs.set k u))) := by
  obtain ⟨B, h1, _, h3, _⟩ := h.use hi
  obtain ⟨h2, rfl⟩ := h1
  exact h3 _ (.row _ e sz n (xs.set k u)) _ ⟨own_set h2 hk, rfl⟩ ((Fr.refl _ _).setCell g k u (.inr (by simp [Value.ownBlock]))) (fun b' hb => .inl hb)
theorem own_free {g cap : Nat} (h : w.ownsRow 0 e sz (.slice (some ⟨g, 0, none⟩) n cap) n xs) (k : Nat) : w.frozen? ⟨g, k, none⟩ = false := by
  obtain ⟨h1, h2 | ⟨g', cap', cur, hv, h3, h4, h5, h6, h7, h8⟩⟩ := h
  · cases h2.1
  · cases hv
    exact frozen_of_row _ _ _ _ _ h4
end
section
variable {P : Program} {k t e : TypeId} {α : Type} [DecidableEq α] {enc : α → Value} {Ok : α → Prop} {w : World} {r : Nat} {m : List (α × Value)}
/-- 'clear(m)' -/
theorem Mp.wiped (h : Mp enc Ok w r m) (ht : P.underlying t = some (.map k e)) :
    ∃ w', (∀ ty, (Builtin.clear_ #[t] ty #[.map (some r)]).run P w = .ok (.tuple #[]) w') ∧ Mp enc Ok w' r [] ∧ Fr (fun b => b = r) w w' ∧ w'.heap.size = w.heap.size := by
  have hlt := h.lt
  obtain ⟨es, clock, hb, hs, he⟩ := h.ex
  refine ⟨setBlock w r (.map #[] clock), fun ty => ?_, ⟨by simp, by simp [mkeys], #[], clock, at_setBlock hlt _, (stamped_iff _ _).2 (by simp), rfl⟩, fr_setBlock _ _ _, by simp [setBlock]⟩
  simp [Builtin.clear_, run_underlying ht, Go.MapKept.run_getObj_map hb, Go.MapKept.run_setObj_map _ hb, Result.andThen, setBlock]
end
end Go.Proofs.Ytbmjddmejmeknaa

/- Rows that a call is making, of elements of whatever kind. No program in sight. -/
import Derived.Test.YthkdcbmcknndnaaInsR
namespace Go.Proofs.Ythkdcbmcknndnaa
open Go.RowKit
structure MkG {α : Type} (t : TypeId) (sz : Nat) (f : α → List Value) (w0 wr : World) (u : Value) (xs : List α) : Prop where
  tx : wr.ownsRow 0 t sz u xs.length (xs.flatMap f)
  nw : ∀ b, u.ownBlock = some b → w0.heap.size ≤ b
  bl : Below w0.heap.size w0 wr
section
variable {α : Type} {t : TypeId} {sz : Nat} {f : α → List Value} {w0 wr w' : World} {u u' : Value} {xs xs' : List α}
theorem MkG.bel (h : MkG t sz f w0 wr u xs) (hb : Below wr.heap.size wr w') : MkG t sz f w0 w' u xs :=
  ⟨(Fr.of_bel (S := none') hb).row h.tx (fun _ _ => id), h.nw, h.bl.trans (hb.mono h.bl.size)⟩
theorem MkG.alloc (h : MkG t sz f w0 wr u xs) (o : Obj) : MkG t sz f w0 (wr.alloc o) u xs := h.bel ((Below.refl _ _).alloc (Nat.le_refl _) _)
theorem MkG.drewN (h : MkG t sz f w0 wr u xs) (n : Nat) : MkG t sz f w0 (wr.drewN n) u xs := h.bel (bdrewN (Below.refl _ _) n)
theorem MkG.drew (h : MkG t sz f w0 wr u xs) : MkG t sz f w0 wr.drew u xs := h.drewN 1
theorem MkG.more (h : MkG t sz f w0 wr u xs) (ho : w'.ownsRow 0 t sz u' xs'.length (xs'.flatMap f)) (hf : Fr (fun b => u.ownBlock = some b) wr w') (he : Hence u u' wr) : MkG t sz f w0 w' u' xs' := by
  refine ⟨ho, fun b hb => ?_, h.bl.trans (hf.below h.bl.size (fun b hb => h.nw b hb))⟩
  rcases he with e | e
  · exact h.nw b (by rw [← e]; exact hb)
  · have := Option.some.inj (e.symm.trans hb)
    have := h.bl.size
    omega
theorem MkG.empty (w : World) : MkG t sz f w (w.alloc (.cells #[] t)) (.slice (some ⟨w.heap.size, 0, none⟩) 0 0) [] :=
  ⟨row_empty (f := f) (Bk.new w [] t), own_at (Nat.le_refl _), (Below.refl _ _).alloc (Nat.le_refl _) _⟩
theorem MkG.nil (w : World) : MkG t sz f w w (.slice none 0 0) [] := ⟨⟨by simp, .inl ⟨rfl, rfl⟩⟩, by simp [Value.ownBlock], Below.refl _ _⟩
/-- begun later -/
theorem MkG.from {w : World} (h : MkG t sz f w wr u xs) (hb : Below w0.heap.size w0 w) : MkG t sz f w0 wr u xs :=
  ⟨h.tx, fun b hb' => Nat.le_trans hb.size (h.nw b hb'), hb.trans (h.bl.mono hb.size)⟩
theorem MkG.read (hf : ∀ a, (f a).length = sz) (hsz : 0 < sz) (h : MkG t sz f w0 wr u xs) : ∃ b cap, u = .slice b xs.length cap ∧ xs.length ≤ cap ∧ cap ≤ maxLen ∧ InW wr b sz (xs.map f) := by
  obtain ⟨b, cap, h1, h2, h3, h4, _⟩ := inw_of_rowm hf hsz h.tx
  exact ⟨b, cap, h1, h2, h3, h4⟩
end
end Go.Proofs.Ythkdcbmcknndnaa

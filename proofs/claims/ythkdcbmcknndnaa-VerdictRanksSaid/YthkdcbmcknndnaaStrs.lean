/- Slices of texts that came in. No walk here. -/
import Derived.Test.YthkdcbmcknndnaaSlice
namespace Go.Proofs.Ythkdcbmcknndnaa
open Go.RowKit Go.ChangeShapes Go.WideShapes
/-- the texts of a slice -/
def Strs (w : World) (b : Option Addr) (xs : List ByteArray) : Prop := InW w b 1 (xs.map fun s => [.string s])
theorem Strs.bel {w w' : World} {b : Option Addr} {xs : List ByteArray} (h : Strs w b xs) (hb : Below w.heap.size w w') : Strs w' b xs := InW.bel h hb
theorem Strs.at {w : World} {b : Option Addr} {xs : List ByteArray} (h : Strs w b xs) {i : Nat} {s : ByteArray} (hi : xs[i]? = some s) : ∃ B off, b = some ⟨B, off, none⟩ ∧ B < w.heap.size ∧ w.cell? ⟨B, off + i, none⟩ = some (.string s) := by
  rcases h with h | ⟨B, off, hb, hl, hc⟩
  · rw [List.map_eq_nil_iff.1 h] at hi; cases hi
  · refine ⟨B, off, hb, hl, ?_⟩
    have := hc i [.string s] (by rw [List.getElem?_map, hi]; rfl) 0 _ rfl
    simpa using this
/-- the first ones -/
theorem Strs.take {w : World} {b : Option Addr} {xs : List ByteArray} (h : Strs w b xs) (n : Nat) : Strs w b (xs.take n) := by
  rcases h with h | ⟨B, off, hb, hl, hc⟩
  · rw [List.map_eq_nil_iff.1 h]; left; simp
  · refine .inr ⟨B, off, hb, hl, fun i c hi => ?_⟩
    rw [List.map_take, List.getElem?_take] at hi
    split at hi
    · exact hc i c hi
    · cases hi
section
variable {H : Type} {enc : TypeId × Value → H} {P : Program} {W : World}
theorem open_texts {t e : TypeId} {r : Reach} {b0 : Nat} {v : Value} {d : DataW H} {p : List MemPlace} (ht : P.underlying t = some (.slice e)) (he : P.underlying e = some .string) (hc : P.cellsOf e = 1)
    (hval : Value.okWide P W r b0 t v) (h : DataW.Trod enc P W 0 (fun _ => true) true t v d p) :
    ∃ (b : Option Addr) (cap : Nat) (xs : List ByteArray), v = .slice b xs.length cap ∧ xs.length ≤ cap ∧ cap ≤ maxLen ∧ InW W b 1 (xs.map fun s => [.string s]) ∧ ∀ s ∈ xs, s.size ≤ maxLen := by
  refine open_slice_as 1 _ _ ht hc (by omega) hval h fun c fuel x hl hx => ?_
  match c, hl with
  | [u], _ =>
    obtain ⟨s, e0, _, hs⟩ := DataW.trod_string he hx
    simp at e0
    subst e0
    exact ⟨s, rfl, hs⟩
end
end Go.Proofs.Ythkdcbmcknndnaa

/- A map, cloned. No program in sight. -/
import Derived.Test.YtgflfjmlhapplaaMapRange
namespace Go.Proofs.Ytgflfjmlhapplaa
open Go.RowKit Go.MapKept Go.Maps
theorem Mp.cloned {α : Type} {enc : α → Value} {Ok : α → Prop} {w : World} {r : Nat} {m : List (α × Value)} (h : Mp enc Ok w r m) : ∃ es clock, w.heap[r]? = some (.map es clock) ∧ Mp enc Ok (w.alloc (.map es clock)) w.heap.size m := by
  obtain ⟨es, clock, hb, hs, he⟩ := h.ex
  exact ⟨es, clock, hb, h.ok, h.nd, es, clock, (heap_alloc w _).1, hs, he⟩
end Go.Proofs.Ytgflfjmlhapplaa

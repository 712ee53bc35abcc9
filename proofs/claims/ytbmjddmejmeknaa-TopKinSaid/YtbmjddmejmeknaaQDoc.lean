/- The document's functions of chapter 17: Count, Items, Near, Things, Heavy; sessions that came in. -/
import Derived.Test.YtbmjddmejmeknaaQAdd
namespace Go.Proofs.Ytbmjddmejmeknaa.Pr
open Go.RowKit Go.MapKept Go.Maps Go.ChangeShapes Go.WideShapes Go.Shelf Go.Sort
set_option linter.unusedVariables false
set_option linter.unusedSimpArgs false
structure SvIn (w : World) (b : Option Addr) (l : List Sv) : Prop where
  i : InW w b 4 (l.map svC)
  o : ∀ x ∈ l, SvOk w x
theorem SvIn.bel {w w' : World} {b : Option Addr} {l : List Sv} (h : SvIn w b l) (hb : Below w.heap.size w w') : SvIn w' b l := ⟨h.i.bel hb, fun x hx => (h.o x hx).bel hb⟩
theorem svAt {w : World} {b : Option Addr} {l : List Sv} (h : SvIn w b l) {i : Nat} {a : Sv} (ha : l[i]? = some a) : ∃ B off, b = some ⟨B, off, none⟩ ∧ B < w.heap.size ∧ w.cell? ⟨B, off + i * 4, none⟩ = some (.string a.p) ∧ w.cell? ⟨B, off + i * 4 + 1, none⟩ = some (.int .i64 a.f) ∧ w.cell? ⟨B, off + i * 4 + 2, none⟩ = some (.int .i64 a.t) ∧ w.cell? ⟨B, off + i * 4 + 3, none⟩ = some (.slice a.ib a.its.length a.ic) := by
  have hm : (l.map svC)[i]? = some (svC a) := by rw [List.getElem?_map, ha]; rfl
  rcases h.i with h | ⟨B, off, hb, hl, hc⟩
  · rw [h] at hm; simp at hm
  · exact ⟨B, off, hb, hl, hc i _ hm 0 _ rfl, hc i _ hm 1 _ rfl, hc i _ hm 2 _ rfl, hc i _ hm 3 _ rfl⟩
def hasB (x : Sv) (a b : ByteArray) : Bool := memB x.its a && memB x.its b
def cntB (l : List Sv) (a b : ByteArray) : Nat := l.countP fun x => hasB x a b
theorem cntB_snoc {l : List Sv} {k : Nat} {x : Sv} (h : l[k]? = some x) (a b : ByteArray) : cntB (l.take (k + 1)) a b = cntB (l.take k) a b + if hasB x a b then 1 else 0 := by
  unfold cntB
  rw [List.take_add_one, h, Option.toList_some, List.countP_append]
  simp [List.countP_cons]
theorem cntB_le (l : List Sv) (a b : ByteArray) : cntB l a b ≤ l.length := List.countP_le_length
/-- few sessions of few things -/
def Light (l : List Sv) : Prop := l.length ≤ 100 ∧ ∀ x ∈ l, x.its.length ≤ 100
end Go.Proofs.Ytbmjddmejmeknaa.Pr

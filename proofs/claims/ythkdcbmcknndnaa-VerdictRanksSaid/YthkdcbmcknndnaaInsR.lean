/- An element put into a row: 'append(append(append([]T{}, l[:k]...), x), l[k:]...)'. No program in sight. -/
import Derived.Test.YthkdcbmcknndnaaSub
namespace Go.Proofs.Ythkdcbmcknndnaa
open Go.RowKit
section
variable {α : Type} {f : α → List Value} {sz : Nat}
/-- an empty row that was made -/
theorem row_empty {W : World} {g : Nat} {e : TypeId} (h : Bk W g [] e) : W.ownsRow 0 e sz (.slice (some ⟨g, 0, none⟩) 0 0) ([] : List α).length (([] : List α).flatMap f) :=
  ⟨by simp, .inr ⟨g, 0, #[], rfl, Nat.zero_le _, h, Nat.le_refl _, Nat.zero_le _, by simp, by simp⟩⟩
/-- one element in a block of its own -/
theorem inw_one {W : World} {g : Nat} {e : TypeId} {x : α} (h : Bk W g (f x) e) : InW W (some ⟨g, 0, none⟩) sz ([x].map f) :=
  .inr ⟨g, 0, rfl, h.lt, fun i c hi j u hj => by
    cases i with
    | zero =>
      simp at hi
      subst hi
      simp only [Nat.zero_mul, Nat.zero_add]
      exact (h.cell j).trans hj
    | succ i => simp at hi⟩
theorem inw_fr {V W : World} {b : Option Addr} {css : List (List Value)} (h : InW V b sz css) (hF : Fr (fun b => V.heap.size ≤ b) V W) : InW W b sz css := InW.bel h (hF.below (Nat.le_refl _) (fun _ h => h))
theorem InW.take' {W : World} {b : Option Addr} {xs : List α} (h : InW W b sz (xs.map f)) (n : Nat) : InW W b sz ((xs.take n).map f) := by rw [List.map_take]; exact h.take n
theorem fr_new (V : World) : Fr (fun b => V.heap.size ≤ b) V V := Fr.refl _ _
/-- what an append to a row of one's own leaves -/
theorem fr_append {V W w' : World} {v v' : Value} (hF : Fr (fun b => V.heap.size ≤ b) V W) (hN : ∀ b, v.ownBlock = some b → V.heap.size ≤ b) (f5 : Fr (fun b => v.ownBlock = some b) W w') (h5 : Hence v v' W) :
    Fr (fun b => V.heap.size ≤ b) V w' ∧ (∀ b, v'.ownBlock = some b → V.heap.size ≤ b) := by
  refine ⟨hF.trans f5 (fun b _ e => hN b e), fun b hb => ?_⟩
  rcases h5 with h | h
  · exact hN b (by rw [← h]; exact hb)
  · have := Option.some.inj (h.symm.trans hb)
    have := hF.size
    omega
theorem own_at {g n c : Nat} {N : Nat} (h : N ≤ g) : ∀ b, (Value.slice (some ⟨g, 0, none⟩) n c).ownBlock = some b → N ≤ b := fun b hb => by
  have hb' : g = b := by simpa [Value.ownBlock] using hb
  omega
end
theorem Bk.new' (V : World) (o : Obj) (cs : List Value) (t : TypeId) : Bk ((V.alloc o).alloc (.cells cs.toArray t)) (V.heap.size + 1) cs t := by
  have h := Bk.new (V.alloc o) cs t
  simpa using h
theorem ins_len1 {α : Type} {xs : List α} {k : Nat} (h : xs.length ≤ 900000) : ([] : List α).length + (xs.take k).length ≤ 1000000 := by simp; omega
theorem ins_len2 {α : Type} {xs : List α} {k : Nat} {x : α} (h : xs.length ≤ 900000) : ([] ++ xs.take k).length + [x].length ≤ 1000000 := by simp; omega
theorem ins_len3 {α : Type} {xs : List α} {k : Nat} {x : α} (h : xs.length ≤ 900000) : (([] ++ xs.take k) ++ [x]).length + (xs.drop k).length ≤ 1000000 := by simp; omega
theorem bdrewN {N : Nat} {w W : World} (h : Below N w W) (n : Nat) : Below N w (W.drewN n) := ⟨h.os, h.tape, h.output, h.size, h.block⟩
theorem text_flat (ks : List ByteArray) : ks.flatMap (fun s => [Value.string s]) = ks.map Value.string := by
  induction ks with
  | nil => rfl
  | cons k ks ih => simp [ih]
def tC (s : ByteArray) : List Value := [.string s]
theorem tLen (s : ByteArray) : (tC s).length = 1 := rfl
theorem tOne (s : ByteArray) : ∀ u ∈ tC s, u.oneCell' = true := fun u hu => by
  simp only [tC, List.mem_cons, List.not_mem_nil, or_false] at hu
  subst hu; rfl
theorem tC_flat (ks : List ByteArray) : ks.flatMap tC = ks.map Value.string := text_flat ks
end Go.Proofs.Ythkdcbmcknndnaa

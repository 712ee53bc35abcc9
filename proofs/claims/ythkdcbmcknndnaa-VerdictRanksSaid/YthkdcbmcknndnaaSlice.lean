/- Slices that came in, opened: a list of elements, each a row of cells. No program in sight. -/
import Derived.WalkKit
import Derived.ProofKit
import Derived.OpenShut
import Derived.Deep.Slices
import Derived.Lib.SmallJoins
namespace Go.Proofs.Ythkdcbmcknndnaa
open Go.ChangeShapes Go.WideShapes Go.RowKit Go.Deep

/-- the cells of a slice's elements, sz each, in W: nothing is asked of an empty one -/
def InW (W : World) (b : Option Addr) (sz : Nat) (css : List (List Value)) : Prop :=
  css = [] ∨ ∃ B off, b = some ⟨B, off, none⟩ ∧ B < W.heap.size ∧ ∀ i c, css[i]? = some c → ∀ j u, c[j]? = some u → W.cell? ⟨B, off + i * sz + j, none⟩ = some u
theorem InW.bel {W W' : World} {b : Option Addr} {sz : Nat} {css : List (List Value)} (h : InW W b sz css) (hb : Below W.heap.size W W') : InW W' b sz css := by
  rcases h with h | ⟨B, off, hB, hl, hc⟩
  · exact .inl h
  · exact .inr ⟨B, off, hB, Nat.lt_of_lt_of_le hl hb.size, fun i c hi j u hj => by rw [hb.cell (p := ⟨B, _, none⟩) hl]; exact hc i c hi j u hj⟩

section
variable {H : Type} {enc : TypeId × Value → H} {P : Program} {W : World}
theorem list_choose {α β : Type} (f : α → β) (Ok : α → Prop) : ∀ (l : List β), (∀ x ∈ l, ∃ a, x = f a ∧ Ok a) → ∃ xs : List α, l = xs.map f ∧ ∀ a ∈ xs, Ok a
  | [], _ => ⟨[], rfl, fun _ h => by cases h⟩
  | y :: l, h => by
    obtain ⟨a, ha, hk⟩ := h y (by simp)
    obtain ⟨xs, hx, hs⟩ := list_choose f Ok l (fun x hx => h x (by simp [hx]))
    refine ⟨a :: xs, by simp [ha, hx], fun b hb => ?_⟩
    rcases List.mem_cons.1 hb with rfl | hb
    · exact hk
    · exact hs b hb
theorem add_lit' (B off i j : Nat) : ((⟨B, off, none⟩ : Addr).add i).add j = ⟨B, off + i + j, none⟩ := by
  rw [add_add]
  unfold Addr.add
  split
  · rename_i h
    have h1 : i = 0 := by omega
    have h2 : j = 0 := by omega
    subst h1 h2; rfl
  · simp; omega
/-- a slice of elements of a plain type, whatever slice came in -/
theorem open_slice_as {α : Type} {t e : TypeId} {r : Reach} {b0 : Nat} {v : Value} {d : DataW H} {p : List MemPlace} (sz : Nat) (f : α → List Value) (Ok : α → Prop) (ht : P.underlying t = some (.slice e)) (he : P.cellsOf e = sz) (hsz : 0 < sz)
    (hval : Value.okWide P W r b0 t v) (h : DataW.Trod enc P W 0 (fun _ => true) true t v d p)
    (hf : ∀ c fuel x, c.length = sz → DataW.trod enc P W 0 (fun _ => true) true fuel e c = some x → ∃ a, c = f a ∧ Ok a) :
    ∃ (b : Option Addr) (cap : Nat) (xs : List α), v = .slice b xs.length cap ∧ xs.length ≤ cap ∧ cap ≤ maxLen ∧ InW W b sz (xs.map f) ∧ ∀ a ∈ xs, Ok a := by
  obtain ⟨b, n, cap, rfl⟩ := okWide_slice ht hval
  obtain ⟨fuel, hf0⟩ := h
  rcases open_slice ht hf0 with ⟨hcs, _⟩ | ⟨a, len, cap', m, k, D, Pl, hcs, _, hl, hm, hmm, _, hx⟩
  · simp only [Value.cells, List.cons.injEq, and_true] at hcs
    cases hcs
    exact ⟨none, 0, [], rfl, Nat.le_refl _, Nat.zero_le _, .inl rfl, fun _ h => by cases h⟩
  · simp only [Value.cells, List.cons.injEq, and_true] at hcs
    cases hcs
    simp only [if_true] at hmm
    subst hmm
    have each : ∀ i, ∃ c : List Value, i < n → c.length = sz ∧ (∃ x, DataW.trod enc P W 0 (fun _ => true) true k e c = some x) ∧ ∀ j, j < sz → W.cell? ((a.add (i * sz)).add j) = c[j]? := fun i => by
      by_cases hi : i < n
      · obtain ⟨cs', h1, h2⟩ := hx i (by omega)
        rw [he] at h1
        obtain ⟨_, hlen, hcell⟩ := World.cells?_some h1
        exact ⟨cs', fun _ => ⟨hlen, ⟨_, h2⟩, hcell⟩⟩
      · exact ⟨[], fun h => absurd h hi⟩
    have ⟨c, hc⟩ := Classical.axiomOfChoice each
    obtain ⟨xs, hxs, hok⟩ := list_choose f Ok ((List.range n).map c) (fun x hx => by
      obtain ⟨i, hi, rfl⟩ := List.mem_map.1 hx
      obtain ⟨q1, ⟨x, q2⟩, _⟩ := hc i (List.mem_range.1 hi)
      exact hf _ _ _ q1 q2)
    have hlen : xs.length = n := by
      have := congrArg List.length hxs
      simpa using this.symm
    subst hlen
    refine ⟨some a, m, xs, rfl, hl, hm, ?_, hok⟩
    by_cases hn : xs.length = 0
    · left
      rw [List.length_eq_zero_iff.1 hn]; rfl
    · right
      obtain ⟨q1, _, q3⟩ := hc 0 (by omega)
      have hs : a.spot = none := by
        have h0 := q3 0 hsz
        simp only [Nat.zero_mul, Addr.add, if_true] at h0
        rw [List.getElem?_eq_getElem (by omega)] at h0
        exact World.cell?_spot h0
      obtain ⟨B, off, spot⟩ := a
      simp only at hs
      subst hs
      refine ⟨B, off, rfl, ?_, ?_⟩
      · have h0 := q3 0 hsz
        simp only [Nat.zero_mul, Addr.add, if_true] at h0
        rw [List.getElem?_eq_getElem (by omega)] at h0
        exact World.block_lt_of_cell? _ _ h0
      · intro i c' hi j u hj
        rw [← hxs, List.getElem?_map] at hi
        obtain ⟨i', hi', e1⟩ := Option.map_eq_some_iff.1 hi
        obtain ⟨hi3, e3⟩ := List.getElem?_eq_some_iff.1 hi'
        simp only [List.getElem_range] at e3
        subst e3
        obtain ⟨p1, _, p3⟩ := hc i (by simpa using hi3)
        rw [e1] at p1 p3
        have hj2 : j < sz := by rw [← p1]; exact (List.getElem?_eq_some_iff.1 hj).1
        have := p3 j hj2
        rw [add_lit', hj] at this
        exact this
end
end Go.Proofs.Ythkdcbmcknndnaa

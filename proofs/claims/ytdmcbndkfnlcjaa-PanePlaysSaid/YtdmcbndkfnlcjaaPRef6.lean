/- Contract of the document's Drop: plain laws, and what a round leaves. -/
import Derived.Test.YtdmcbndkfnlcjaaPRef5
namespace Go.Proofs.Ytdmcbndkfnlcjaa
open Go.RowKit Go.MapKept Go.Maps
set_option linter.unusedVariables false
def cellOf (x : Ad) : CK := (x.1, x.2.1)
/-- what was found gone so far: each cell once -/
structure Gone (A : List Ad) (least : Int) (i : Nat) (g : List Ad) : Prop where
  nd : (g.map cellOf).Nodup
  mem : ∀ c, c ∈ g.map cellOf ↔ c.2 < least ∧ ∃ a ∈ A.take i, cellOf a = c ∧ a.2.2 ≠ 0
  len : g.length ≤ i
theorem Gone.nil (A : List Ad) (least : Int) : Gone A least 0 [] := ⟨by simp, by simp, by simp⟩
theorem Gone.skip {A : List Ad} {least : Int} {i : Nat} {g : List Ad} {a : Ad} (h : Gone A least i g) (ha : A[i]? = some a) (hs : a.2.1 < least → a.2.2 ≠ 0 → cellOf a ∈ g.map cellOf) : Gone A least (i + 1) g := by
  refine ⟨h.nd, fun c => ?_, by have := h.len; omega⟩
  rw [h.mem, List.take_add_one, ha]
  constructor
  · rintro ⟨h1, a', h2, h3, h4⟩; exact ⟨h1, a', by simp [h2], h3, h4⟩
  · rintro ⟨h1, a', h2, h3, h4⟩
    rcases List.mem_append.1 h2 with h2 | h2
    · exact ⟨h1, a', h2, h3, h4⟩
    · have : a' = a := by simpa using h2
      subst this; subst h3
      exact (h.mem _).1 (hs h1 h4)
theorem Gone.more {A : List Ad} {least : Int} {i : Nat} {g : List Ad} {a : Ad} (h : Gone A least i g) (ha : A[i]? = some a) (hl : a.2.1 < least) (h0 : a.2.2 ≠ 0) (hn : cellOf a ∉ g.map cellOf) : Gone A least (i + 1) (g ++ [a]) := by
  refine ⟨?_, fun c => ?_, by have := h.len; simp; omega⟩
  · rw [List.map_append, List.nodup_append]
    exact ⟨h.nd, by simp, fun x hx y hy => by simp at hy; subst hy; exact fun e => hn (e ▸ hx)⟩
  rw [List.map_append, List.mem_append, h.mem, List.take_add_one, ha]
  constructor
  · rintro (⟨h1, a', h2, h3, h4⟩ | hc)
    · exact ⟨h1, a', by simp [h2], h3, h4⟩
    · have : c = cellOf a := by simpa using hc
      subst this
      exact ⟨hl, a, by simp, rfl, h0⟩
  · rintro ⟨h1, a', h2, h3, h4⟩
    rcases List.mem_append.1 h2 with h2 | h2
    · exact .inl ⟨h1, a', h2, h3, h4⟩
    · have : a' = a := by simpa using h2
      subst this
      exact .inr (by simp [h3])
theorem Gone.count {A : List Ad} {least : Int} {n : Nat} {g : List Ad} (h : Gone A least n g) (hn : A.length = n) (hok : ∀ x ∈ A, AdOk x) : DropCount A least g.length := by
  refine ⟨g.map cellOf, h.nd, by simp, fun k p => ?_⟩
  rw [h.mem, List.take_of_length_le (by omega)]
  constructor
  · rintro ⟨h1, a, h2, h3, h4⟩
    have h5 := sget_of_mem hok h2 h4
    have e1 : a.1 = k := congrArg Prod.fst h3
    have e2 : a.2.1 = p := congrArg Prod.snd h3
    rw [e1, e2] at h5
    exact ⟨h1, h5⟩
  · rintro ⟨h1, h2⟩
    obtain ⟨a, ha, e1, e2, h0⟩ := mem_of_sget h2
    exact ⟨h1, a, ha, by unfold cellOf; rw [e1, e2], h0⟩
def highA (least : Int) (A : List Ad) : List Ad := A.filter fun x => decide (least ≤ x.2.1)
theorem highA_take {A : List Ad} {least : Int} {i : Nat} {a : Ad} (ha : A[i]? = some a) : highA least (A.take (i + 1)) = if least ≤ a.2.1 then highA least (A.take i) ++ [a] else highA least (A.take i) := by
  unfold highA
  rw [List.take_add_one, ha, List.filter_append]
  by_cases h : least ≤ a.2.1 <;> simp [h]
theorem highA_len (least : Int) (A : List Ad) : (highA least A).length ≤ A.length := List.length_filter_le _ _
structure DropIn (w wr : World) (A : List Ad) (least : Int) (i : Nat) (vk vg : Value) (g : List Ad) : Prop where
  rk : wr.ownsRow 0 70 3 vk (highA least (A.take i)).length ((highA least (A.take i)).flatMap adC)
  rg : wr.ownsRow 0 70 3 vg g.length (g.flatMap adC)
  nk : ∀ b, vk.ownBlock = some b → w.heap.size ≤ b
  ng : ∀ b, vg.ownBlock = some b → w.heap.size ≤ b
  ap : ∀ b, vk.ownBlock = some b → vg.ownBlock ≠ some b
  bl : Below w.heap.size w wr
  go : Gone A least i g
theorem DropIn.still {w wr W : World} {A : List Ad} {least : Int} {i : Nat} {vk vg : Value} {g : List Ad} (h : DropIn w wr A least i vk vg g) (hf : Fr none' wr W) : DropIn w W A least i vk vg g :=
  ⟨hf.row h.rk (fun _ _ => id), hf.row h.rg (fun _ _ => id), h.nk, h.ng, h.ap, Fr.belOf h.bl hf (fun _ h => h.elim), h.go⟩
theorem DropIn.skip {w wr : World} {A : List Ad} {least : Int} {i : Nat} {vk vg : Value} {g : List Ad} {a : Ad} (h : DropIn w wr A least i vk vg g) (ha : A[i]? = some a) (hl : a.2.1 < least) (hs : a.2.2 ≠ 0 → cellOf a ∈ g.map cellOf) : DropIn w wr A least (i + 1) vk vg g := by
  have e : highA least (A.take (i + 1)) = highA least (A.take i) := by rw [highA_take ha, if_neg (by omega)]
  exact ⟨by rw [e]; exact h.rk, h.rg, h.nk, h.ng, h.ap, h.bl, h.go.skip ha (fun _ => hs)⟩
theorem DropIn.keep {w wr w7 : World} {A : List Ad} {least : Int} {i : Nat} {vk vg v7 : Value} {g : List Ad} {a : Ad} (h : DropIn w wr A least i vk vg g) (ha : A[i]? = some a) (hl : least ≤ a.2.1)
    (o7 : w7.ownsRow 0 70 3 v7 (highA least (A.take i) ++ [a]).length ((highA least (A.take i) ++ [a]).flatMap adC)) (f7 : Fr (fun b => vk.ownBlock = some b) wr w7) (h7 : Hence vk v7 wr) : DropIn w w7 A least (i + 1) v7 vg g := by
  have e : highA least (A.take (i + 1)) = highA least (A.take i) ++ [a] := by rw [highA_take ha, if_pos hl]
  have hz := h.bl.size
  have hn : ∀ b, v7.ownBlock = some b → vk.ownBlock = some b ∨ wr.heap.size = b := fun b hb => by
    rcases h7 with h' | h'
    · exact .inl (by rw [← h']; exact hb)
    · exact .inr (Option.some.inj (h'.symm.trans hb))
  refine ⟨by rw [e]; exact o7, f7.row h.rg (fun b hb hk => h.ap b hk hb), fun b hb => ?_, h.ng, fun b hb hg => ?_, Fr.belOf h.bl f7 h.nk, h.go.skip ha (fun c => by omega)⟩
  · rcases hn b hb with h' | h'
    · exact h.nk b h'
    · omega
  · rcases hn b hb with h' | h'
    · exact h.ap b h' hg
    · have := own_lt h.rg hg; omega
theorem DropIn.more {w wr w7 : World} {A : List Ad} {least : Int} {i : Nat} {vk vg v7 : Value} {g : List Ad} {a : Ad} (h : DropIn w wr A least i vk vg g) (ha : A[i]? = some a) (hl : a.2.1 < least) (h0 : a.2.2 ≠ 0) (hne : cellOf a ∉ g.map cellOf)
    (o7 : w7.ownsRow 0 70 3 v7 (g ++ [a]).length ((g ++ [a]).flatMap adC)) (f7 : Fr (fun b => vg.ownBlock = some b) wr w7) (h7 : Hence vg v7 wr) : DropIn w w7 A least (i + 1) vk v7 (g ++ [a]) := by
  have e : highA least (A.take (i + 1)) = highA least (A.take i) := by rw [highA_take ha, if_neg (by omega)]
  have hz := h.bl.size
  have hn : ∀ b, v7.ownBlock = some b → vg.ownBlock = some b ∨ wr.heap.size = b := fun b hb => by
    rcases h7 with h' | h'
    · exact .inl (by rw [← h']; exact hb)
    · exact .inr (Option.some.inj (h'.symm.trans hb))
  refine ⟨by rw [e]; exact f7.row h.rk (fun b hb hk => h.ap b hb hk), o7, h.nk, fun b hb => ?_, fun b hb hg => ?_, Fr.belOf h.bl f7 h.ng, h.go.more ha hl h0 hne⟩
  · rcases hn b hb with h' | h'
    · exact h.ng b h'
    · omega
  · rcases hn b hg with h' | h'
    · exact h.ap b hb h'
    · have := own_lt h.rk hb; omega
/-- is a cell among some? -/
def metB (g : List Ad) (a : Ad) : Bool := g.any fun x => decide (x.1 = a.1 ∧ x.2.1 = a.2.1)
theorem metB_mem (g : List Ad) (a : Ad) : metB g a = true ↔ cellOf a ∈ g.map cellOf := by
  unfold metB
  rw [List.any_eq_true, List.mem_map]
  constructor
  · rintro ⟨x, h1, h2⟩
    have h3 := of_decide_eq_true h2
    exact ⟨x, h1, Prod.ext h3.1 h3.2⟩
  · rintro ⟨x, h1, h2⟩
    have h3 : x.1 = a.1 ∧ x.2.1 = a.2.1 := by
      unfold cellOf at h2
      exact Prod.mk.inj h2
    exact ⟨x, h1, decide_eq_true h3⟩
theorem metB_take {g : List Ad} {j : Nat} {x : Ad} (hx : g[j]? = some x) (a : Ad) : metB (g.take (j + 1)) a = (metB (g.take j) a || decide (x.1 = a.1 ∧ x.2.1 = a.2.1)) := by
  unfold metB
  rw [List.take_add_one, hx, List.any_append]
  simp
end Go.Proofs.Ytdmcbndkfnlcjaa

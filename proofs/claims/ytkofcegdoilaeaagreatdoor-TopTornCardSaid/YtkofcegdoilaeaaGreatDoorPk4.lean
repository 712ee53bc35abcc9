/- Rows of elements of several cells, of the call's own: read, and appended to. No program in sight. A part of a slice, 's[k:]' and 's[:k]', whatever slice it is. No program in sight. An element put into a row: 'append(append(append([]T{}, l[:k]...), x), l[k:]...)'. No program in sight. Things of the call's own beside one another: one word for all that is there. No program in sight. What all chapters' memory shares: maps with texts for keys, rows of texts, small facts. Rows that a call is making, of elements of whatever kind. No program in sight. Blocks of two cells of the call's own, and what a call leaves of them. -/
import Derived.Test.YtkofcegdoilaeaaGreatDoorPk3
import Derived.Test.YtkofcegdoilaeaaGreatDoorPk2
import Derived.Test.YtkofcegdoilaeaaGreatDoorProg
import Derived.KernelRfl
import Derived.IntWalk
import Derived.LoopTactic
import Derived.Deep.LoopGhost
import Derived.Deep.QuietTactic
import Derived.BigQuiet
import Derived.StillTailTactics
import Derived.Deep.RegionHeld3
import Derived.Deep.RegionLaw
import Derived.Deep.RegionWith
import Derived.Outline
import Derived.WalkLawsBesides
import Derived.WalkSpells
import Derived.WalkKit
namespace Go.Proofs.YtkofcegdoilaeaaGreatDoor
open Go.RowKit Go.ChangeShapes Go.WideShapes
section
variable {α : Type} {f : α → List Value} {sz : Nat}
theorem flat_len (hf : ∀ a, (f a).length = sz) (xs : List α) : (xs.flatMap f).length = xs.length * sz := by
  induction xs with
  | nil => simp
  | cons x xs ih => rw [List.flatMap_cons, List.length_append, ih, hf, List.length_cons, Nat.add_mul]; omega
theorem flat_at (hf : ∀ a, (f a).length = sz) : ∀ {xs : List α} {i : Nat} {x : α} {j : Nat} {u : Value}, xs[i]? = some x → (f x)[j]? = some u → (xs.flatMap f)[i * sz + j]? = some u
  | [], _, _, _, _, h, _ => by simp at h
  | y :: xs, 0, x, j, u, h, hu => by
    simp at h
    subst h
    have hj := (List.getElem?_eq_some_iff.1 hu).1
    rw [List.flatMap_cons, Nat.zero_mul, Nat.zero_add, List.getElem?_append_left hj]
    exact hu
  | y :: xs, i + 1, x, j, u, h, hu => by
    simp at h
    have ih := flat_at hf (xs := xs) h hu
    rw [List.flatMap_cons, List.getElem?_append_right (by rw [hf, Nat.add_mul]; omega), hf, show (i + 1) * sz + j - sz = i * sz + j by rw [Nat.add_mul]; omega]
    exact ih
theorem flat_inv (hf : ∀ a, (f a).length = sz) : ∀ {xs : List α} {j : Nat} {u : Value}, (xs.flatMap f)[j]? = some u → ∃ i x r, xs[i]? = some x ∧ (f x)[r]? = some u ∧ j = i * sz + r
  | [], _, _, h => by simp at h
  | y :: xs, j, u, h => by
    rw [List.flatMap_cons] at h
    by_cases hj : j < (f y).length
    · rw [List.getElem?_append_left hj] at h
      exact ⟨0, y, j, rfl, h, by omega⟩
    · rw [List.getElem?_append_right (by omega)] at h
      obtain ⟨i, x, r, h1, h2, h3⟩ := flat_inv hf h
      rw [hf] at h3 hj
      exact ⟨i + 1, x, r, by simpa using h1, h2, by rw [Nat.add_mul]; omega⟩
variable {P : Program} (hf : ∀ a, (f a).length = sz) (h1 : ∀ a, ∀ u ∈ f a, u.oneCell' = true)
include hf h1
theorem run_append_m (w : World) (t ty e : TypeId) (i : TypeInfo) (z : Value) (bytes : Nat) (ht : P.underlying t = some (.slice e)) (hi : P.info? e = some i) (hz : i.zero = some z) (hsize : i.size = sz) (hby : i.bytes = bytes) (hzs : z.cells.size = sz) (hsz : 0 < sz) (h16 : bytes ≤ 1000)
    (v : Value) (xs ys : List α) (hown : w.ownsRow 0 e sz v xs.length (xs.flatMap f)) (b : Option Addr) (c : Nat) (hs : InW w b sz (ys.map f)) (hlen : xs.length + ys.length ≤ 1000000) :
    ∃ v' w', (Builtin.append_ #[t, t] ty #[v, .slice b ys.length c]).run P w = .ok v' w' ∧ w'.ownsRow 0 e sz v' (xs ++ ys).length ((xs ++ ys).flatMap f) ∧ Fr (fun b => v.ownBlock = some b) w w' ∧ Hence v v' w := by
  rcases hs with h | ⟨B, off, rfl, _, hc⟩
  · have : ys = [] := List.map_eq_nil_iff.1 h
    subst this
    exact ⟨v, w, run_append_nothing w t ty e i ht hi sz v _ _ hown b c, by simpa using hown, Fr.refl _ _, .inl rfl⟩
  · have := run_append_row (P := P) w t ty e i z sz bytes ht hi hz hsize hby hzs hsz v xs.length (xs.flatMap f) hown ⟨B, off, none⟩ ys.length c (ys.flatMap f) (flat_len hf ys)
      (fun j u hj => by
        obtain ⟨k, x, r, e1, e2, e3⟩ := flat_inv hf hj
        have := hc k (f x) (by rw [List.getElem?_map, e1]; rfl) r u e2
        rw [Addr.add_lit, e3, ← Nat.add_assoc]
        exact this) (fun u hu => by obtain ⟨x, _, hx⟩ := List.mem_flatMap.1 hu; exact h1 x u hx) (by unfold maxLen; omega) (by have := Nat.mul_le_mul hlen h16; omega)
    obtain ⟨v', w', h1, h2, h3, h4⟩ := this
    exact ⟨v', w', h1, by simpa using h2, h3, h4⟩
theorem wpList_append_m (w : World) {ops : Array Oper} {rest : List Oper} {o : Oper} {a : Act} {Q : Exit → Act → World → Prop} (hgd : o.guard = none) (s x : Operand) (t : TypeId)
    (ho : o.op = .call { callee := .builtin .append, args := #[s, x], argTypes := #[t, t] })
    (e : TypeId) (i : TypeInfo) (z : Value) (bytes : Nat) (ht : P.underlying t = some (.slice e)) (hi : P.info? e = some i) (hz : i.zero = some z) (hsize : i.size = sz) (hby : i.bytes = bytes) (hzs : z.cells.size = sz) (hsz : 0 < sz) (h16 : bytes ≤ 1000)
    (v : Value) (xs ys : List α) (hs : a.eval s = v) (hown : w.ownsRow 0 e sz v xs.length (xs.flatMap f)) (b : Option Addr) (n c : Nat) (hx : a.eval x = .slice b n c) (hn : n = ys.length) (hst : InW w b sz (ys.map f)) (hlen : xs.length + ys.length ≤ 1000000)
    (h : ∀ v' w', w'.ownsRow 0 e sz v' (xs ++ ys).length ((xs ++ ys).flatMap f) → Fr (fun b => v.ownBlock = some b) w w' → Hence v v' w → wpList P ops Q rest (a.put o.dst v') w') : wpList P ops Q (o :: rest) a w := by
  subst hn
  refine wpList_plain hgd fun _ hK => ?_
  obtain ⟨v', w', hr, h2, h3, h4⟩ := run_append_m hf h1 (P := P) w t o.type e i z bytes ht hi hz hsize hby hzs hsz h16 v xs ys hown b c hst hlen
  unfold Oper.wp execOp
  simp only [ho, resolve, invoke, builtin, Sem.run_bind, Sem.run_pure, Result.andThen_ok, List.map_toArray, List.map_cons, List.map_nil, hs, hx, hr]
  exact hK _ _ (h v' w' h2 h3 h4)
theorem step_append_m {ops : Array Oper} {o : Oper} {a : Act} {w : World} {K : Act → World → Prop} {Q : Exit → Act → World → Prop} {E : Prop} (hgd : o.guard = none) (s x : Operand) (t : TypeId)
    (ho : o.op = .call { callee := .builtin .append, args := #[s, x], argTypes := #[t, t] })
    (e : TypeId) (i : TypeInfo) (z : Value) (bytes : Nat) (ht : P.underlying t = some (.slice e)) (hi : P.info? e = some i) (hz : i.zero = some z) (hsize : i.size = sz) (hby : i.bytes = bytes) (hzs : z.cells.size = sz) (hsz : 0 < sz) (h16 : bytes ≤ 1000)
    (v : Value) (xs ys : List α) (hs : a.eval s = v) (hown : w.ownsRow 0 e sz v xs.length (xs.flatMap f)) (b : Option Addr) (n c : Nat) (hx : a.eval x = .slice b n c) (hn : n = ys.length) (hst : InW w b sz (ys.map f)) (hlen : xs.length + ys.length ≤ 1000000)
    (h : ∀ v' w', w'.ownsRow 0 e sz v' (xs ++ ys).length ((xs ++ ys).flatMap f) → Fr (fun b => v.ownBlock = some b) w w' → Hence v v' w → K (a.put o.dst v') w') : if Region.wanted o (yielded ops a.tmps) = true then Oper.wp P o a w K Q else E := by
  subst hn
  have hw : Region.wanted o (yielded ops a.tmps) = true := by simp [Region.wanted, hgd]
  rw [if_pos hw]
  obtain ⟨v', w', hr, h2, h3, h4⟩ := run_append_m hf h1 (P := P) w t o.type e i z bytes ht hi hz hsize hby hzs hsz h16 v xs ys hown b c hst hlen
  unfold Oper.wp execOp
  simp only [ho, resolve, invoke, builtin, Sem.run_bind, Sem.run_pure, Result.andThen_ok, List.map_toArray, List.map_cons, List.map_nil, hs, hx, hr]
  exact h v' w' h2 h3 h4
omit h1
/-- a row of the call's own, read -/
theorem inw_of_rowm {w : World} {e : TypeId} {v : Value} {xs : List α} {n : Nat} (hsz : 0 < sz) (h : w.ownsRow 0 e sz v n (xs.flatMap f)) : ∃ b cap, v = .slice b xs.length cap ∧ xs.length ≤ cap ∧ cap ≤ maxLen ∧ InW w b sz (xs.map f) ∧ n = xs.length := by
  have hl : xs.length * sz = n * sz := by rw [← flat_len hf]; exact h.1
  have hl' : xs.length = n := Nat.eq_of_mul_eq_mul_right hsz hl
  subst hl'
  have hcs := h
  rcases h.2 with ⟨rfl, h0⟩ | ⟨g, cap, cur, rfl, _, hg, hn, hm, hs, ht⟩
  · have : xs = [] := List.eq_nil_of_length_eq_zero h0
    subst this
    exact ⟨none, 0, rfl, Nat.le_refl _, Nat.zero_le _, Or.inl rfl, rfl⟩
  · refine ⟨some ⟨g, 0, none⟩, cap, rfl, hn, hm, .inr ⟨g, 0, rfl, lt_of_at hg, fun i c hi j u hj => ?_⟩, rfl⟩
    rw [List.getElem?_map] at hi
    obtain ⟨x, hx, rfl⟩ := Option.map_eq_some_iff.1 hi
    have h2 := hcs.cells (g := g) rfl (i * sz + j) u (flat_at hf hx hj)
    rw [Addr.add_lit] at h2
    rw [Nat.add_assoc]
    exact h2
omit hf
/-- a part of a slice -/
theorem InW.take {w : World} {b : Option Addr} {css : List (List Value)} (h : InW w b sz css) (n : Nat) : InW w b sz (css.take n) := by
  rcases h with h | ⟨B, off, hb, hl, hc⟩
  · left; rw [h]; simp
  · refine .inr ⟨B, off, hb, hl, fun i c hi => ?_⟩
    rw [List.getElem?_take] at hi
    split at hi
    · exact hc i c hi
    · cases hi
theorem InW.drop {w : World} {B off : Nat} {css : List (List Value)} (h : InW w (some ⟨B, off, none⟩) sz css) (n : Nat) : InW w (some ⟨B, off + n * sz, none⟩) sz (css.drop n) := by
  rcases h with h | ⟨B', off', hb, hl, hc⟩
  · left; rw [h]; simp
  · cases hb
    refine .inr ⟨B, off + n * sz, rfl, hl, fun i c hi j u hj => ?_⟩
    rw [List.getElem?_drop] at hi
    have := hc (n + i) c hi j u hj
    rw [Nat.add_mul, ← Nat.add_assoc] at this
    exact this
end
end Go.Proofs.YtkofcegdoilaeaaGreatDoor
namespace Go.Proofs.YtkofcegdoilaeaaGreatDoor
open Go.RowKit
/-- where 's[k:]' lies -/
def subB (b : Option Addr) (cap k sz : Nat) : Option Addr := if cap = k then b else b.map (·.add (k * sz))
theorem subB_inw {w : World} {b : Option Addr} {cap k sz : Nat} {css : List (List Value)} (h : InW w b sz css) (hc : css.length ≤ cap) : InW w (subB b cap k sz) sz (css.drop k) := by
  unfold subB
  by_cases e : cap = k
  · rw [if_pos e]; left
    rw [List.drop_eq_nil_iff]; omega
  · rw [if_neg e]
    rcases h with h | ⟨B, off, rfl, hl, hx⟩
    · left; rw [h]; simp
    · have h' : InW w (some ⟨B, off, none⟩) sz css := .inr ⟨B, off, rfl, hl, hx⟩
      rw [Option.map_some, Addr.add_lit]
      exact h'.drop k
theorem subB_zero (b : Option Addr) (cap sz : Nat) : subB b cap 0 sz = b := by
  unfold subB
  split
  · rfl
  · cases b <;> simp [Addr.add]
section
variable {P : Program}
theorem run_bound (w : World) (k y : Nat) (c : BoundsCode) (h : k ≤ y) : (Instr.sliceBound (.int .i64 k) y c).run P w = .ok k w := by
  have h' : (0 : Int) ≤ (k : Int) ∧ (k : Int) ≤ (y : Int) := by omega
  simp [Instr.sliceBound, asIntOf, h]
theorem run_slice_from (w : World) (t e : TypeId) (b : Option Addr) (n cap k sz : Nat) (ht : P.underlying t = some (.slice e)) (hinfo : ∃ i, P.info? e = some i ∧ i.size = sz) (hk : k ≤ n) :
    (Instr.slice t (.slice b n cap) (some (.int .i64 k)) none none).run P w = .ok (.slice (subB b cap k sz) (n - k) (cap - k)) w := by
  obtain ⟨i, hi, hsz⟩ := hinfo
  simp [Instr.slice, run_underlying ht, Instr.sliceBounds, run_bound w k n _ hk, sizeOf, typeInfo, hi, hsz, Result.andThen, subB]
theorem run_slice_to (w : World) (t e : TypeId) (b : Option Addr) (n cap k sz : Nat) (ht : P.underlying t = some (.slice e)) (hinfo : ∃ i, P.info? e = some i ∧ i.size = sz) (hk : k ≤ cap) :
    (Instr.slice t (.slice b n cap) none (some (.int .i64 k)) none).run P w = .ok (.slice b k cap) w := by
  obtain ⟨i, hi, hsz⟩ := hinfo
  have h0 := subB_zero b cap sz
  unfold subB at h0
  simp only [Nat.zero_mul] at h0
  simp [Instr.slice, run_underlying ht, Instr.sliceBounds, run_bound w k cap _ hk, sizeOf, typeInfo, hi, Result.andThen, h0]
end
end Go.Proofs.YtkofcegdoilaeaaGreatDoor
namespace Go.Proofs.YtkofcegdoilaeaaGreatDoor
open Go.RowKit
section
variable {α : Type} {f : α → List Value} {sz : Nat}
/-- an empty row that was made -/
theorem row_empty {W : World} {g : Nat} {e : TypeId} (h : Bk W g [] e) : W.ownsRow 0 e sz (.slice (some ⟨g, 0, none⟩) 0 0) ([] : List α).length (([] : List α).flatMap f) :=
  ⟨by simp, .inr ⟨g, 0, #[], rfl, Nat.zero_le _, h, Nat.le_refl _, Nat.zero_le _, by simp, by simp⟩⟩
/-- one element in a block of its own -/
theorem inw_one {W : World} {g : Nat} {e : TypeId} {x : α} (h : Bk W g (f x) e) : InW W (some ⟨g, 0, none⟩) sz ([x].map f) :=
  .inr ⟨g, 0, rfl, h.lt, fun i c hi j u hj => by
    cases i with
    | zero =>
      simp at hi
      subst hi
      simp only [Nat.zero_mul, Nat.zero_add]
      exact (h.cell j).trans hj
    | succ i => simp at hi⟩
theorem inw_fr {V W : World} {b : Option Addr} {css : List (List Value)} (h : InW V b sz css) (hF : Fr (fun b => V.heap.size ≤ b) V W) : InW W b sz css := InW.bel h (hF.below (Nat.le_refl _) (fun _ h => h))
theorem InW.take' {W : World} {b : Option Addr} {xs : List α} (h : InW W b sz (xs.map f)) (n : Nat) : InW W b sz ((xs.take n).map f) := by rw [List.map_take]; exact h.take n
theorem fr_new (V : World) : Fr (fun b => V.heap.size ≤ b) V V := Fr.refl _ _
/-- what an append to a row of one's own leaves -/
theorem fr_append {V W w' : World} {v v' : Value} (hF : Fr (fun b => V.heap.size ≤ b) V W) (hN : ∀ b, v.ownBlock = some b → V.heap.size ≤ b) (f5 : Fr (fun b => v.ownBlock = some b) W w') (h5 : Hence v v' W) :
    Fr (fun b => V.heap.size ≤ b) V w' ∧ (∀ b, v'.ownBlock = some b → V.heap.size ≤ b) := by
  refine ⟨hF.trans f5 (fun b _ e => hN b e), fun b hb => ?_⟩
  rcases h5 with h | h
  · exact hN b (by rw [← h]; exact hb)
  · have := Option.some.inj (h.symm.trans hb)
    have := hF.size
    omega
theorem own_at {g n c : Nat} {N : Nat} (h : N ≤ g) : ∀ b, (Value.slice (some ⟨g, 0, none⟩) n c).ownBlock = some b → N ≤ b := fun b hb => by
  have hb' : g = b := by simpa [Value.ownBlock] using hb
  omega
end
theorem Bk.new' (V : World) (o : Obj) (cs : List Value) (t : TypeId) : Bk ((V.alloc o).alloc (.cells cs.toArray t)) (V.heap.size + 1) cs t := by
  have h := Bk.new (V.alloc o) cs t
  simpa using h
theorem ins_len1 {α : Type} {xs : List α} {k : Nat} (h : xs.length ≤ 900000) : ([] : List α).length + (xs.take k).length ≤ 1000000 := by simp; omega
theorem ins_len2 {α : Type} {xs : List α} {k : Nat} {x : α} (h : xs.length ≤ 900000) : ([] ++ xs.take k).length + [x].length ≤ 1000000 := by simp; omega
theorem ins_len3 {α : Type} {xs : List α} {k : Nat} {x : α} (h : xs.length ≤ 900000) : (([] ++ xs.take k) ++ [x]).length + (xs.drop k).length ≤ 1000000 := by simp; omega
theorem bdrewN {N : Nat} {w W : World} (h : Below N w W) (n : Nat) : Below N w (W.drewN n) := ⟨h.os, h.tape, h.output, h.size, h.block⟩
theorem text_flat (ks : List ByteArray) : ks.flatMap (fun s => [Value.string s]) = ks.map Value.string := by
  induction ks with
  | nil => rfl
  | cons k ks ih => simp [ih]
def tC (s : ByteArray) : List Value := [.string s]
theorem tLen (s : ByteArray) : (tC s).length = 1 := rfl
theorem tOne (s : ByteArray) : ∀ u ∈ tC s, u.oneCell' = true := fun u hu => by
  simp only [tC, List.mem_cons, List.not_mem_nil, or_false] at hu
  subst hu; rfl
theorem tC_flat (ks : List ByteArray) : ks.flatMap tC = ks.map Value.string := text_flat ks
end Go.Proofs.YtkofcegdoilaeaaGreatDoor
namespace Go.Proofs.YtkofcegdoilaeaaGreatDoor
open Go.RowKit
set_option linter.unusedVariables false
theorem below_of_fr {S : Nat → Prop} {w0 w w' : World} (h : Below w0.heap.size w0 w) (hf : Fr S w w') (hS : ∀ b, S b → w0.heap.size ≤ b) : Below w0.heap.size w0 w' := h.trans (hf.below h.size hS)
def Sprd (w : World) (B B' : List Nat) : Prop := ∀ b ∈ B', b ∈ B ∨ w.heap.size ≤ b
def Aprt (B C : List Nat) : Prop := ∀ b ∈ B, b ∉ C
/-- a kind of things: what it means that one is there, in blocks -/
structure Kind (Ob : Type) where
  Holds : World → Ob → List Nat → Prop
  fr : ∀ {S : Nat → Prop} {w w' : World} {o : Ob} {B : List Nat}, Holds w o B → Fr S w w' → (∀ b ∈ B, ¬ S b) → Holds w' o B
  lt : ∀ {w : World} {o : Ob} {B : List Nat}, Holds w o B → ∀ b ∈ B, b < w.heap.size
section
variable {Ob : Type} {K : Kind Ob}
/-- all that a call has made, and nothing that was there has changed -/
structure Here (K : Kind Ob) (w0 w : World) (os : List Ob) : Prop where
  bel : Below w0.heap.size w0 w
  ex : ∃ Bs : Nat → List Nat, (∀ i o, os[i]? = some o → K.Holds w o (Bs i) ∧ ∀ b ∈ Bs i, w0.heap.size ≤ b) ∧ ∀ i j oi oj, i ≠ j → os[i]? = some oi → os[j]? = some oj → Aprt (Bs i) (Bs j)
theorem Here.nil {w0 w : World} (h : Below w0.heap.size w0 w) : Here K w0 w [] := ⟨h, fun _ => [], by simp, by simp⟩
theorem Here.still {w0 w w' : World} {os : List Ob} (h : Here K w0 w os) (hf : Fr none' w w') : Here K w0 w' os := by
  obtain ⟨Bs, h1, h2⟩ := h.ex
  exact ⟨below_of_fr h.bel hf (fun _ e => e.elim), Bs, fun i o hi => ⟨K.fr (h1 i o hi).1 hf (fun _ _ => id), (h1 i o hi).2⟩, h2⟩
theorem Here.step_bel {w0 w w' : World} {os : List Ob} (h : Here K w0 w os) (hb : Below w.heap.size w w') : Here K w0 w' os := h.still (Fr.of_bel hb)
theorem Here.drew {w0 w : World} {os : List Ob} (h : Here K w0 w os) : Here K w0 w.drew os := h.still (Fr.refl _ _).drew
theorem Here.drewN {w0 w : World} {os : List Ob} (h : Here K w0 w os) (n : Nat) : Here K w0 (w.drewN n) os := h.still ((Fr.refl _ _).drewN n)
/-- a new one -/
theorem Here.push {w0 w w' : World} {os : List Ob} (h : Here K w0 w os) (hb : Below w.heap.size w w') {o : Ob} {B : List Nat} (ho : K.Holds w' o B) (hB : ∀ b ∈ B, w.heap.size ≤ b) : Here K w0 w' (os ++ [o]) := by
  have hz := h.bel.size
  have hlt : ∀ i o', os[i]? = some o' → i < os.length := fun i o' hi => (List.getElem?_eq_some_iff.1 hi).1
  obtain ⟨Bs, h1, h2⟩ := h.ex
  have hs := (h.step_bel hb)
  refine ⟨hs.bel, fun i => if i < os.length then Bs i else B, fun i o' hi => ?_, fun i j oi oj hij hi hj => ?_⟩
  · rw [List.getElem?_append] at hi
    dsimp only
    by_cases e : i < os.length
    · rw [if_pos e] at hi ⊢
      exact ⟨K.fr (h1 i o' hi).1 (Fr.of_bel (S := none') hb) (fun _ _ => id), (h1 i o' hi).2⟩
    · rw [if_neg e] at hi ⊢
      have : o' = o := by
        cases hk : i - os.length with
        | zero => rw [hk] at hi; simpa using hi.symm
        | succ k => rw [hk] at hi; simp at hi
      subst this
      exact ⟨ho, fun b hb' => by have := hB b hb'; omega⟩
  · have hlast : ∀ i o', (os ++ [o])[i]? = some o' → ¬ i < os.length → i = os.length := fun i o' hi hn => by
      have := (List.getElem?_eq_some_iff.1 hi).1
      simp at this; omega
    by_cases ei : i < os.length
    · by_cases ej : j < os.length
      · simp only [if_pos ei, if_pos ej]
        rw [List.getElem?_append_left ei] at hi
        rw [List.getElem?_append_left ej] at hj
        exact h2 i j oi oj hij hi hj
      · simp only [if_pos ei, if_neg ej]
        rw [List.getElem?_append_left ei] at hi
        exact fun b hb' hc => by have := K.lt (h1 i oi hi).1 b hb'; have := hB b hc; omega
    · by_cases ej : j < os.length
      · simp only [if_neg ei, if_pos ej]
        rw [List.getElem?_append_left ej] at hj
        exact fun b hb' hc => by have := K.lt (h1 j oj hj).1 b hc; have := hB b hb'; omega
      · exact absurd ((hlast i oi hi ei).trans (hlast j oj hj ej).symm) hij
/-- the first ones -/
theorem Here.init {w0 w : World} {os us : List Ob} (h : Here K w0 w (os ++ us)) : Here K w0 w os := by
  obtain ⟨Bs, h1, h2⟩ := h.ex
  have hup : ∀ i o, os[i]? = some o → (os ++ us)[i]? = some o := fun i o hi => by
    rw [List.getElem?_append_left (List.getElem?_eq_some_iff.1 hi).1]; exact hi
  exact ⟨h.bel, Bs, fun i o hi => h1 i o (hup i o hi), fun i j oi oj hij hi hj => h2 i j oi oj hij (hup i oi hi) (hup j oj hj)⟩
/-- one of them, and how it may be changed -/
theorem Here.use {w0 w : World} {os : List Ob} (h : Here K w0 w os) {i : Nat} {o : Ob} (hi : os[i]? = some o) :
    ∃ B, K.Holds w o B ∧ (∀ b ∈ B, w0.heap.size ≤ b) ∧ (∀ w' o' B', K.Holds w' o' B' → Fr (fun b => b ∈ B) w w' → Sprd w B B' → Here K w0 w' (os.set i o')) ∧ ∀ j oj, j ≠ i → os[j]? = some oj → ∃ C, K.Holds w oj C ∧ Aprt B C := by
  obtain ⟨Bs, h1, h2⟩ := h.ex
  have hil := (List.getElem?_eq_some_iff.1 hi).1
  refine ⟨Bs i, (h1 i o hi).1, (h1 i o hi).2, fun w' o' B' ho hf hs => ?_, fun j oj hj hoj => ⟨Bs j, (h1 j oj hoj).1, h2 i j o oj (fun e => hj e.symm) hi hoj⟩⟩
  have hz := h.bel.size
  refine ⟨below_of_fr h.bel hf (fun b hb => (h1 i o hi).2 b hb), fun j => if j = i then B' else Bs j, fun j oj hj => ?_, fun j k oj ok hjk hj hk => ?_⟩
  · dsimp only
    by_cases e : j = i
    · subst e
      rw [List.getElem?_set_self hil] at hj
      cases hj
      rw [if_pos rfl]
      refine ⟨ho, fun b hb => ?_⟩
      rcases hs b hb with h' | h'
      · exact (h1 j o hi).2 b h'
      · omega
    · rw [List.getElem?_set_ne (fun c => e c.symm)] at hj
      rw [if_neg e]
      exact ⟨K.fr (h1 j oj hj).1 hf (fun b hb hc => h2 j i oj o e hj hi b hb hc), (h1 j oj hj).2⟩
  · dsimp only
    by_cases ej : j = i
    · subst ej
      have ek : ¬ k = j := fun c => hjk c.symm
      rw [List.getElem?_set_ne (fun c => ek c.symm)] at hk
      rw [if_pos rfl, if_neg ek]
      intro b hb hc
      rcases hs b hb with h' | h'
      · exact h2 j k o ok hjk hi hk b h' hc
      · have := K.lt (h1 k ok hk).1 b hc; omega
    · rw [List.getElem?_set_ne (fun c => ej c.symm)] at hj
      by_cases ek : k = i
      · subst ek
        rw [if_neg ej, if_pos rfl]
        intro b hb hc
        rcases hs b hc with h' | h'
        · exact h2 j k oj o hjk hj hi b hb h'
        · have := K.lt (h1 j oj hj).1 b hb; omega
      · rw [List.getElem?_set_ne (fun c => ek c.symm)] at hk
        simp only [if_neg ej, if_neg ek]
        exact h2 j k oj ok hjk hj hk
end
end Go.Proofs.YtkofcegdoilaeaaGreatDoor
namespace Go.Proofs.YtkofcegdoilaeaaGreatDoor
open Go.RowKit Go.MapKept Go.Maps
set_option linter.unusedVariables false
def encS (s : ByteArray) : Value := .string s
def okS (s : ByteArray) : Prop := s.size ≤ maxLen
theorem keyS : KeyEnc Tryz.prog 9 encS okS where
  law := string_keyed Tryz.underlying9
  key := fun {a} h => ⟨_, WideMaps.keyOf_string_mk Tryz.underlying9 h⟩
  inj := fun {a b} h => by simpa [encS] using h
def I64 (x : Int) : Prop := -9223372036854775808 ≤ x ∧ x ≤ 9223372036854775807
theorem wf64 {q : Int} (h : I64 q) : (Lit.int .i64 q).wf = true := by
  unfold I64 at h
  simp only [Lit.wf, Bool.and_eq_true, decide_eq_true_eq]
  exact h
theorem i64_wf {q : Int} (h : (Lit.int .i64 q).wf = true) : I64 q := by
  simp only [Lit.wf, Bool.and_eq_true, decide_eq_true_eq] at h
  exact h
theorem ret_bool {a b : Bool} (h : a = b) : Ending.returned (.bool a) = .returned (.bool b) := by rw [h]
theorem bk_at {W : World} {n : Nat} (cs : List Value) (t : TypeId) (h : W.heap.size = n) : Bk (W.alloc (.cells cs.toArray t)) n cs t := by subst h; exact Bk.new W cs t
theorem infoText : (Tryz.prog.info? 9).map (fun i => (i.zero, i.size, i.bytes)) = some (some (.string ⟨#[]⟩), 1, 16) := by kernel_rfl
theorem own_nil (w : World) (e : TypeId) : w.ownsRow 0 e 1 (.slice none 0 0) 0 [] := ⟨rfl, .inl ⟨rfl, rfl⟩⟩
theorem own_lt {w : World} {v : Value} {n sz : Nat} {e : TypeId} {xs : List Value} (h : w.ownsRow 0 e sz v n xs) {b : Nat} (hb : v.ownBlock = some b) : b < w.heap.size := by
  rcases h.2 with ⟨rfl, _⟩ | ⟨g, cap, cur, rfl, _, hg, _⟩
  · cases hb
  · have : g = b := by simpa [Value.ownBlock] using hb
    subst this
    exact lt_of_at hg
/-- a row of texts of the call's own -/
def TextsAt (w : World) (v : Value) (ks : List ByteArray) : Prop := w.ownsRow 0 9 1 v ks.length (ks.map Value.string)
theorem TextsAt.strs {w : World} {v : Value} {ks : List ByteArray} (h : TextsAt w v ks) : ∃ b cap, v = .slice b ks.length cap ∧ ks.length ≤ cap ∧ cap ≤ maxLen ∧ Strs w b ks := by
  obtain ⟨b, cap, h1, h2, h3, h4, h5⟩ := inw_of_row Value.string h
  exact ⟨b, cap, h1, h2, h3, h4⟩
theorem TextsAt.fr {S : Nat → Prop} {w w' : World} {v : Value} {ks : List ByteArray} (h : TextsAt w v ks) (hf : Fr S w w') (hs : ∀ b, v.ownBlock = some b → ¬ S b) : TextsAt w' v ks := hf.row h hs
theorem TextsAt.bel {w w' : World} {v : Value} {ks : List ByteArray} (h : TextsAt w v ks) (hb : Below w.heap.size w w') : TextsAt w' v ks := h.fr (Fr.of_bel (S := none') hb) (fun _ _ => id)
theorem TextsAt.flat {w : World} {v : Value} {ks : List ByteArray} (h : TextsAt w v ks) : w.ownsRow 0 9 1 v ks.length (ks.flatMap tC) := by rw [tC_flat]; exact h
/-- a row of texts that a call is making -/
structure MkT (w0 wr : World) (u : Value) (ks : List ByteArray) : Prop where
  tx : TextsAt wr u ks
  nw : ∀ b, u.ownBlock = some b → w0.heap.size ≤ b
  bl : Below w0.heap.size w0 wr
theorem MkT.bel {w0 wr w' : World} {u : Value} {ks : List ByteArray} (h : MkT w0 wr u ks) (hb : Below wr.heap.size wr w') : MkT w0 w' u ks :=
  ⟨h.tx.bel hb, h.nw, h.bl.trans (hb.mono h.bl.size)⟩
theorem MkT.alloc {w0 wr : World} {u : Value} {ks : List ByteArray} (h : MkT w0 wr u ks) (o : Obj) : MkT w0 (wr.alloc o) u ks := h.bel ((Below.refl _ _).alloc (Nat.le_refl _) _)
theorem MkT.drewN {w0 wr : World} {u : Value} {ks : List ByteArray} (h : MkT w0 wr u ks) (n : Nat) : MkT w0 (wr.drewN n) u ks := h.bel (bdrewN (Below.refl _ _) n)
theorem MkT.drew {w0 wr : World} {u : Value} {ks : List ByteArray} (h : MkT w0 wr u ks) : MkT w0 wr.drew u ks := h.drewN 1
/-- behind an append -/
theorem MkT.more {w0 wr w' : World} {u u' : Value} {ks ks' : List ByteArray} (h : MkT w0 wr u ks) (ho : w'.ownsRow 0 9 1 u' ks'.length (ks'.flatMap tC)) (hf : Fr (fun b => u.ownBlock = some b) wr w') (he : Hence u u' wr) : MkT w0 w' u' ks' := by
  refine ⟨by unfold TextsAt; rw [← tC_flat]; exact ho, fun b hb => ?_, h.bl.trans (hf.below h.bl.size (fun b hb => h.nw b hb))⟩
  rcases he with e | e
  · exact h.nw b (by rw [← e]; exact hb)
  · have := Option.some.inj (e.symm.trans hb)
    have := h.bl.size
    omega
theorem MkT.empty (w : World) : MkT w (w.alloc (.cells #[] 9)) (.slice (some ⟨w.heap.size, 0, none⟩) 0 0) [] := ⟨texts_empty w 9, own_at (Nat.le_refl _), (Below.refl _ _).alloc (Nat.le_refl _) _⟩
theorem MkT.nil (w : World) : MkT w w (.slice none 0 0) [] := ⟨own_nil w _, by simp [Value.ownBlock], Below.refl _ _⟩
section
variable {α β γ : Type} [DecidableEq α]
theorem mget_map (f : β → γ) (m : List (α × β)) (a : α) : mget (m.map fun x => (x.1, f x.2)) a = (mget m a).map f := by
  induction m with
  | nil => rfl
  | cons p m ih =>
    simp only [List.map_cons, mget, ih]
    split <;> rfl
theorem mput_map (f : β → γ) (m : List (α × β)) (a : α) (v : β) : mput (m.map fun x => (x.1, f x.2)) a (f v) = (mput m a v).map fun x => (x.1, f x.2) := by
  induction m with
  | nil => rfl
  | cons p m ih =>
    simp only [List.map_cons, mput, ih]
    split <;> rfl
theorem mdel_map (f : β → γ) (m : List (α × β)) (a : α) : mdel (m.map fun x => (x.1, f x.2)) a = (mdel m a).map fun x => (x.1, f x.2) := by
  induction m with
  | nil => rfl
  | cons p m ih =>
    simp only [List.map_cons, mdel, ih]
    split <;> rfl
omit [DecidableEq α] in
theorem mkeys_map (f : β → γ) (m : List (α × β)) : mkeys (m.map fun x => (x.1, f x.2)) = mkeys m := by
  unfold mkeys; rw [List.map_map]; rfl
end
/-- what a call has made joins what is here -/
theorem Here.adopt {Ob : Type} {K : Kind Ob} {w0 w w' : World} {os : List Ob} {o : Ob} (h : Here K w0 w os) (g : Here K w w' [o]) : Here K w0 w' (os ++ [o]) := by
  obtain ⟨B, h1, h2, _⟩ := g.use (i := 0) rfl
  exact h.push g.bel h1 h2
/-- rows are alike -/
def memB (ks : List ByteArray) (k : ByteArray) : Bool := ks.any fun x => decide (x = k)
theorem memB_iff (ks : List ByteArray) (k : ByteArray) : memB ks k = true ↔ k ∈ ks := by
  unfold memB
  rw [List.any_eq_true]
  constructor
  · rintro ⟨x, h1, h2⟩
    have := of_decide_eq_true h2
    exact this ▸ h1
  · exact fun h => ⟨k, h, decide_eq_true rfl⟩
theorem memB_no {ks : List ByteArray} {k : ByteArray} (h : k ∉ ks) : memB ks k = false := by
  cases e : memB ks k with
  | false => rfl
  | true => exact absurd ((memB_iff ks k).1 e) h
end Go.Proofs.YtkofcegdoilaeaaGreatDoor
namespace Go.Proofs.YtkofcegdoilaeaaGreatDoor
open Go.RowKit
structure MkG {α : Type} (t : TypeId) (sz : Nat) (f : α → List Value) (w0 wr : World) (u : Value) (xs : List α) : Prop where
  tx : wr.ownsRow 0 t sz u xs.length (xs.flatMap f)
  nw : ∀ b, u.ownBlock = some b → w0.heap.size ≤ b
  bl : Below w0.heap.size w0 wr
section
variable {α : Type} {t : TypeId} {sz : Nat} {f : α → List Value} {w0 wr w' : World} {u u' : Value} {xs xs' : List α}
theorem MkG.bel (h : MkG t sz f w0 wr u xs) (hb : Below wr.heap.size wr w') : MkG t sz f w0 w' u xs :=
  ⟨(Fr.of_bel (S := none') hb).row h.tx (fun _ _ => id), h.nw, h.bl.trans (hb.mono h.bl.size)⟩
theorem MkG.alloc (h : MkG t sz f w0 wr u xs) (o : Obj) : MkG t sz f w0 (wr.alloc o) u xs := h.bel ((Below.refl _ _).alloc (Nat.le_refl _) _)
theorem MkG.drewN (h : MkG t sz f w0 wr u xs) (n : Nat) : MkG t sz f w0 (wr.drewN n) u xs := h.bel (bdrewN (Below.refl _ _) n)
theorem MkG.drew (h : MkG t sz f w0 wr u xs) : MkG t sz f w0 wr.drew u xs := h.drewN 1
theorem MkG.more (h : MkG t sz f w0 wr u xs) (ho : w'.ownsRow 0 t sz u' xs'.length (xs'.flatMap f)) (hf : Fr (fun b => u.ownBlock = some b) wr w') (he : Hence u u' wr) : MkG t sz f w0 w' u' xs' := by
  refine ⟨ho, fun b hb => ?_, h.bl.trans (hf.below h.bl.size (fun b hb => h.nw b hb))⟩
  rcases he with e | e
  · exact h.nw b (by rw [← e]; exact hb)
  · have := Option.some.inj (e.symm.trans hb)
    have := h.bl.size
    omega
theorem MkG.empty (w : World) : MkG t sz f w (w.alloc (.cells #[] t)) (.slice (some ⟨w.heap.size, 0, none⟩) 0 0) [] :=
  ⟨row_empty (f := f) (Bk.new w [] t), own_at (Nat.le_refl _), (Below.refl _ _).alloc (Nat.le_refl _) _⟩
theorem MkG.nil (w : World) : MkG t sz f w w (.slice none 0 0) [] := ⟨⟨by simp, .inl ⟨rfl, rfl⟩⟩, by simp [Value.ownBlock], Below.refl _ _⟩
/-- begun later -/
theorem MkG.from {w : World} (h : MkG t sz f w wr u xs) (hb : Below w0.heap.size w0 w) : MkG t sz f w0 wr u xs :=
  ⟨h.tx, fun b hb' => Nat.le_trans hb.size (h.nw b hb'), hb.trans (h.bl.mono hb.size)⟩
theorem MkG.read (hf : ∀ a, (f a).length = sz) (hsz : 0 < sz) (h : MkG t sz f w0 wr u xs) : ∃ b cap, u = .slice b xs.length cap ∧ xs.length ≤ cap ∧ cap ≤ maxLen ∧ InW wr b sz (xs.map f) := by
  obtain ⟨b, cap, h1, h2, h3, h4, _⟩ := inw_of_rowm hf hsz h.tx
  exact ⟨b, cap, h1, h2, h3, h4⟩
end
end Go.Proofs.YtkofcegdoilaeaaGreatDoor
namespace Go.Proofs.YtkofcegdoilaeaaGreatDoor
open Go.RowKit
theorem bel2 (w : World) (o1 o2 : Obj) : Below w.heap.size w ((w.alloc o1).alloc o2) :=
  ((Below.refl _ _).alloc (Nat.le_refl _) _).alloc (by simp) _

/-- a block of two cells of the call's own -/
def Two (w : World) (g : Nat) (x y : Value) (t : TypeId) : Prop := w.heap[g]? = some (.cells #[x, y] t (0, 0))
theorem Two.c0 {w : World} {g : Nat} {x y : Value} {t : TypeId} (h : Two w g x y t) : w.cell? ⟨g, 0, none⟩ = some x := by rw [cell_of_row _ _ _ _ _ _ h]; rfl
theorem Two.c1 {w : World} {g : Nat} {x y : Value} {t : TypeId} (h : Two w g x y t) : w.cell? ⟨g, 1, none⟩ = some y := by rw [cell_of_row _ _ _ _ _ _ h]; rfl
theorem Two.f {w : World} {g : Nat} {x y : Value} {t : TypeId} (h : Two w g x y t) (i : Nat) : w.frozen? ⟨g, i, none⟩ = false := frozen_of_row _ _ _ _ _ h
theorem Two.lt {w : World} {g : Nat} {x y : Value} {t : TypeId} (h : Two w g x y t) : g < w.heap.size := by
  rcases Nat.lt_or_ge g w.heap.size with k | k
  · exact k
  · simp [Two, Array.getElem?_eq_none k] at h
theorem Two.bel {w w' : World} {g : Nat} {x y : Value} {t : TypeId} (h : Two w g x y t) (hb : Below w.heap.size w w') : Two w' g x y t := (hb.block g h.lt).trans h
theorem Two.set {w : World} {g : Nat} {x y : Value} {t : TypeId} (h : Two w g x y t) (x' y' : Value) : Two ((w.setCell ⟨g, 0, none⟩ x').setCell ⟨g, 1, none⟩ y') g x' y' t := by
  have h1 := heap_setCell_same w g 0 _ t x' h
  have h2 := heap_setCell_same _ g 1 _ t y' h1
  exact h2
theorem Two.other {w : World} {g : Nat} {x y : Value} {t : TypeId} (h : Two w g x y t) (k : Nat) (hk : g ≠ k) (x' y' : Value) : Two ((w.setCell ⟨k, 0, none⟩ x').setCell ⟨k, 1, none⟩ y') g x y t := by
  unfold Two; rw [heap_setCell_other _ _ _ _ hk, heap_setCell_other _ _ _ _ hk]; exact h
theorem Two.new (w : World) (x y : Value) (t : TypeId) : Two (w.alloc (.cells #[x, y] t)) w.heap.size x y t := heap_alloc_new w _
theorem Two.old {w : World} {g : Nat} {x y : Value} {t : TypeId} (h : Two w g x y t) (o : Obj) : Two (w.alloc o) g x y t := (Below.heap_alloc w o g h.lt).trans h
theorem Two.drew {w : World} {g : Nat} {x y : Value} {t : TypeId} (h : Two w g x y t) : Two w.drew g x y t := h

theorem World.size_alloc (w : World) (o : Obj) : (w.alloc o).heap.size = w.heap.size + 1 := by simp
theorem two_facts {w : World} {g : Nat} {x y : Value} {t : TypeId} (h : Two w g x y t) : w.cell? ⟨g, 0, none⟩ = some x ∧ w.cell? ⟨g, 1, none⟩ = some y ∧ w.frozen? ⟨g, 0, none⟩ = false ∧ w.frozen? ⟨g, 1, none⟩ = false ∧ g < w.heap.size :=
  ⟨h.c0, h.c1, h.f 0, h.f 1, h.lt⟩
theorem bel_alloc {V w : World} (h : Below V.heap.size V w) (o : Obj) : Below V.heap.size V (w.alloc o) := h.alloc h.size o
theorem bel_trans {V w w' : World} (h : Below V.heap.size V w) (k : Below w.heap.size w w') : Below V.heap.size V w' := h.trans (k.mono h.size)
theorem bel_set {V w : World} (h : Below V.heap.size V w) (g i : Nat) (v : Value) (hg : V.heap.size ≤ g) : Below V.heap.size V (w.setCell ⟨g, i, none⟩ v) := h.setCell hg v
theorem two_keep {V X : World} {g k : Nat} {x y x' y' : Value} {t t' : TypeId} (i1 : Two V g x y t) (i2 : Two V k x' y' t') (hb : Below V.heap.size V X) :
    X.cell? ⟨g, 0, none⟩ = some x ∧ X.cell? ⟨g, 1, none⟩ = some y ∧ X.cell? ⟨k, 0, none⟩ = some x' ∧ X.cell? ⟨k, 1, none⟩ = some y' :=
  ⟨(i1.bel hb).c0, (i1.bel hb).c1, (i2.bel hb).c0, (i2.bel hb).c1⟩

theorem cell_keep {w w' : World} (hb : Below w.heap.size w w') {g i : Nat} {x : Value} (h : w.cell? ⟨g, i, none⟩ = some x) : w'.cell? ⟨g, i, none⟩ = some x := by
  rw [hb.cell (p := ⟨g, i, none⟩) (block_lt_of_cell h)]; exact h
theorem two_cells_keep {w w' : World} (hb : Below w.heap.size w w') {g k : Nat} {x y x' y' : Value} (h0 : w.cell? ⟨g, 0, none⟩ = some x) (h1 : w.cell? ⟨g, 1, none⟩ = some y) (h2 : w.cell? ⟨k, 0, none⟩ = some x') (h3 : w.cell? ⟨k, 1, none⟩ = some y') :
    w'.cell? ⟨g, 0, none⟩ = some x ∧ w'.cell? ⟨g, 1, none⟩ = some y ∧ w'.cell? ⟨k, 0, none⟩ = some x' ∧ w'.cell? ⟨k, 1, none⟩ = some y' :=
  ⟨cell_keep hb h0, cell_keep hb h1, cell_keep hb h2, cell_keep hb h3⟩

theorem Two.news {w : World} (x y x' y' : Value) (t t' : TypeId) : Two ((w.alloc (.cells #[x, y] t)).alloc (.cells #[x', y'] t')) (w.heap.size + 1) x' y' t' := by
  have h := Two.new (w.alloc (.cells #[x, y] t)) x' y' t'
  rw [World.size_alloc] at h; exact h
end Go.Proofs.YtkofcegdoilaeaaGreatDoor

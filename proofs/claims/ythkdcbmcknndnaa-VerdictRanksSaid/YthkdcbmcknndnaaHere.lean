/- Things of the call's own beside one another: one word for all that is there. No program in sight. -/
import Derived.Test.YthkdcbmcknndnaaOwn
namespace Go.Proofs.Ythkdcbmcknndnaa
open Go.RowKit
set_option linter.unusedVariables false
theorem below_of_fr {S : Nat → Prop} {w0 w w' : World} (h : Below w0.heap.size w0 w) (hf : Fr S w w') (hS : ∀ b, S b → w0.heap.size ≤ b) : Below w0.heap.size w0 w' := h.trans (hf.below h.size hS)
def Sprd (w : World) (B B' : List Nat) : Prop := ∀ b ∈ B', b ∈ B ∨ w.heap.size ≤ b
def Aprt (B C : List Nat) : Prop := ∀ b ∈ B, b ∉ C
/-- a kind of things: what it means that one is there, in blocks -/
structure Kind (Ob : Type) where
  Holds : World → Ob → List Nat → Prop
  fr : ∀ {S : Nat → Prop} {w w' : World} {o : Ob} {B : List Nat}, Holds w o B → Fr S w w' → (∀ b ∈ B, ¬ S b) → Holds w' o B
  lt : ∀ {w : World} {o : Ob} {B : List Nat}, Holds w o B → ∀ b ∈ B, b < w.heap.size
section
variable {Ob : Type} {K : Kind Ob}
/-- all that a call has made, and nothing that was there has changed -/
structure Here (K : Kind Ob) (w0 w : World) (os : List Ob) : Prop where
  bel : Below w0.heap.size w0 w
  ex : ∃ Bs : Nat → List Nat, (∀ i o, os[i]? = some o → K.Holds w o (Bs i) ∧ ∀ b ∈ Bs i, w0.heap.size ≤ b) ∧ ∀ i j oi oj, i ≠ j → os[i]? = some oi → os[j]? = some oj → Aprt (Bs i) (Bs j)
theorem Here.nil {w0 w : World} (h : Below w0.heap.size w0 w) : Here K w0 w [] := ⟨h, fun _ => [], by simp, by simp⟩
theorem Here.still {w0 w w' : World} {os : List Ob} (h : Here K w0 w os) (hf : Fr none' w w') : Here K w0 w' os := by
  obtain ⟨Bs, h1, h2⟩ := h.ex
  exact ⟨below_of_fr h.bel hf (fun _ e => e.elim), Bs, fun i o hi => ⟨K.fr (h1 i o hi).1 hf (fun _ _ => id), (h1 i o hi).2⟩, h2⟩
theorem Here.step_bel {w0 w w' : World} {os : List Ob} (h : Here K w0 w os) (hb : Below w.heap.size w w') : Here K w0 w' os := h.still (Fr.of_bel hb)
theorem Here.drew {w0 w : World} {os : List Ob} (h : Here K w0 w os) : Here K w0 w.drew os := h.still (Fr.refl _ _).drew
theorem Here.drewN {w0 w : World} {os : List Ob} (h : Here K w0 w os) (n : Nat) : Here K w0 (w.drewN n) os := h.still ((Fr.refl _ _).drewN n)
/-- a new one -/
theorem Here.push {w0 w w' : World} {os : List Ob} (h : Here K w0 w os) (hb : Below w.heap.size w w') {o : Ob} {B : List Nat} (ho : K.Holds w' o B) (hB : ∀ b ∈ B, w.heap.size ≤ b) : Here K w0 w' (os ++ [o]) := by
  have hz := h.bel.size
  have hlt : ∀ i o', os[i]? = some o' → i < os.length := fun i o' hi => (List.getElem?_eq_some_iff.1 hi).1
  obtain ⟨Bs, h1, h2⟩ := h.ex
  have hs := (h.step_bel hb)
  refine ⟨hs.bel, fun i => if i < os.length then Bs i else B, fun i o' hi => ?_, fun i j oi oj hij hi hj => ?_⟩
  · rw [List.getElem?_append] at hi
    dsimp only
    by_cases e : i < os.length
    · rw [if_pos e] at hi ⊢
      exact ⟨K.fr (h1 i o' hi).1 (Fr.of_bel (S := none') hb) (fun _ _ => id), (h1 i o' hi).2⟩
    · rw [if_neg e] at hi ⊢
      have : o' = o := by
        cases hk : i - os.length with
        | zero => rw [hk] at hi; simpa using hi.symm
        | succ k => rw [hk] at hi; simp at hi
      subst this
      exact ⟨ho, fun b hb' => by have := hB b hb'; omega⟩
  · have hlast : ∀ i o', (os ++ [o])[i]? = some o' → ¬ i < os.length → i = os.length := fun i o' hi hn => by
      have := (List.getElem?_eq_some_iff.1 hi).1
      simp at this; omega
    by_cases ei : i < os.length
    · by_cases ej : j < os.length
      · simp only [if_pos ei, if_pos ej]
        rw [List.getElem?_append_left ei] at hi
        rw [List.getElem?_append_left ej] at hj
        exact h2 i j oi oj hij hi hj
      · simp only [if_pos ei, if_neg ej]
        rw [List.getElem?_append_left ei] at hi
        exact fun b hb' hc => by have := K.lt (h1 i oi hi).1 b hb'; have := hB b hc; omega
    · by_cases ej : j < os.length
      · simp only [if_neg ei, if_pos ej]
        rw [List.getElem?_append_left ej] at hj
        exact fun b hb' hc => by have := K.lt (h1 j oj hj).1 b hc; have := hB b hb'; omega
      · exact absurd ((hlast i oi hi ei).trans (hlast j oj hj ej).symm) hij
/-- the first ones -/
theorem Here.init {w0 w : World} {os us : List Ob} (h : Here K w0 w (os ++ us)) : Here K w0 w os := by
  obtain ⟨Bs, h1, h2⟩ := h.ex
  have hup : ∀ i o, os[i]? = some o → (os ++ us)[i]? = some o := fun i o hi => by
    rw [List.getElem?_append_left (List.getElem?_eq_some_iff.1 hi).1]; exact hi
  exact ⟨h.bel, Bs, fun i o hi => h1 i o (hup i o hi), fun i j oi oj hij hi hj => h2 i j oi oj hij (hup i oi hi) (hup j oj hj)⟩
/-- one of them, and how it may be changed -/
theorem Here.use {w0 w : World} {os : List Ob} (h : Here K w0 w os) {i : Nat} {o : Ob} (hi : os[i]? = some o) :
    ∃ B, K.Holds w o B ∧ (∀ b ∈ B, w0.heap.size ≤ b) ∧ (∀ w' o' B', K.Holds w' o' B' → Fr (fun b => b ∈ B) w w' → Sprd w B B' → Here K w0 w' (os.set i o')) ∧ ∀ j oj, j ≠ i → os[j]? = some oj → ∃ C, K.Holds w oj C ∧ Aprt B C := by
  obtain ⟨Bs, h1, h2⟩ := h.ex
  have hil := (List.getElem?_eq_some_iff.1 hi).1
  refine ⟨Bs i, (h1 i o hi).1, (h1 i o hi).2, fun w' o' B' ho hf hs => ?_, fun j oj hj hoj => ⟨Bs j, (h1 j oj hoj).1, h2 i j o oj (fun e => hj e.symm) hi hoj⟩⟩
  have hz := h.bel.size
  refine ⟨below_of_fr h.bel hf (fun b hb => (h1 i o hi).2 b hb), fun j => if j = i then B' else Bs j, fun j oj hj => ?_, fun j k oj ok hjk hj hk => ?_⟩
  · dsimp only
    by_cases e : j = i
    · subst e
      rw [List.getElem?_set_self hil] at hj
      cases hj
      rw [if_pos rfl]
      refine ⟨ho, fun b hb => ?_⟩
      rcases hs b hb with h' | h'
      · exact (h1 j o hi).2 b h'
      · omega
    · rw [List.getElem?_set_ne (fun c => e c.symm)] at hj
      rw [if_neg e]
      exact ⟨K.fr (h1 j oj hj).1 hf (fun b hb hc => h2 j i oj o e hj hi b hb hc), (h1 j oj hj).2⟩
  · dsimp only
    by_cases ej : j = i
    · subst ej
      have ek : ¬ k = j := fun c => hjk c.symm
      rw [List.getElem?_set_ne (fun c => ek c.symm)] at hk
      rw [if_pos rfl, if_neg ek]
      intro b hb hc
      rcases hs b hb with h' | h'
      · exact h2 j k o ok hjk hi hk b h' hc
      · have := K.lt (h1 k ok hk).1 b hc; omega
    · rw [List.getElem?_set_ne (fun c => ej c.symm)] at hj
      by_cases ek : k = i
      · subst ek
        rw [if_neg ej, if_pos rfl]
        intro b hb hc
        rcases hs b hc with h' | h'
        · exact h2 j k oj o hjk hj hi b hb h'
        · have := K.lt (h1 j oj hj).1 b hb; omega
      · rw [List.getElem?_set_ne (fun c => ek c.symm)] at hk
        simp only [if_neg ej, if_neg ek]
        exact h2 j k oj ok hjk hj hk
end
end Go.Proofs.Ythkdcbmcknndnaa

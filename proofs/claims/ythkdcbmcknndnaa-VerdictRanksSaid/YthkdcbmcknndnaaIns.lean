/- A text put into rising texts: plain laws. No program in sight. -/
import Derived.Test.YthkdcbmcknndnaaRise
namespace Go.Proofs.Ythkdcbmcknndnaa
set_option linter.unusedVariables false
/-- how many texts are below one -/
def belowB (ks : List ByteArray) (k : ByteArray) : Nat := (ks.takeWhile fun x => decide (ltB x k)).length
theorem belowB_le (ks : List ByteArray) (k : ByteArray) : belowB ks k ≤ ks.length := by
  unfold belowB
  have := (List.takeWhile_sublist (fun x => decide (ltB x k)) (l := ks)).length_le
  exact this
theorem belowB_lt {ks : List ByteArray} {k : ByteArray} {i : Nat} {x : ByteArray} (hi : i < belowB ks k) (hx : ks[i]? = some x) : ltB x k := by
  induction ks generalizing i with
  | nil => cases hx
  | cons y ks ih =>
    unfold belowB at hi
    rw [List.takeWhile_cons] at hi
    by_cases e : ltB y k
    · rw [if_pos (by simpa using e)] at hi
      cases i with
      | zero => simp at hx; subst hx; exact e
      | succ i => simp at hx hi; exact ih (by unfold belowB; omega) hx
    · rw [if_neg (by simpa using e)] at hi
      simp at hi
theorem belowB_at {ks : List ByteArray} {k x : ByteArray} (hx : ks[belowB ks k]? = some x) : ¬ ltB x k := by
  induction ks with
  | nil => cases hx
  | cons y ks ih =>
    unfold belowB at hx
    rw [List.takeWhile_cons] at hx
    by_cases e : ltB y k
    · rw [if_pos (by simpa using e)] at hx
      simp at hx
      exact ih hx
    · rw [if_neg (by simpa using e)] at hx
      simp at hx
      subst hx; exact e
/-- a text put where it belongs -/
def putB (ks : List ByteArray) (k : ByteArray) : List ByteArray := if ks[belowB ks k]? = some k then ks else ks.take (belowB ks k) ++ k :: ks.drop (belowB ks k)
theorem belowB_ge {ks : List ByteArray} {k : ByteArray} (h : Rise ks) {i : Nat} {x : ByteArray} (hi : belowB ks k ≤ i) (hx : ks[i]? = some x) : ¬ ltB x k := by
  have hil := (List.getElem?_eq_some_iff.1 hx).1
  have hb : belowB ks k < ks.length := by omega
  have hy : ks[belowB ks k]? = some ks[belowB ks k] := List.getElem?_eq_getElem hb
  have h1 := belowB_at hy
  by_cases e : belowB ks k = i
  · subst e
    exact belowB_at hx
  · have h2 := List.pairwise_iff_getElem.1 h (belowB ks k) i hb hil (by omega)
    have h3 := (List.getElem?_eq_some_iff.1 hx).2
    rw [h3] at h2
    exact fun c => h1 (ltB_trans h2 c)
theorem putB_mem (ks : List ByteArray) (k x : ByteArray) : x ∈ putB ks k ↔ x = k ∨ x ∈ ks := by
  unfold putB
  by_cases e : ks[belowB ks k]? = some k
  · rw [if_pos e]
    exact ⟨.inr, fun h => h.elim (fun h => h ▸ List.mem_of_getElem? e) id⟩
  · rw [if_neg e]
    rw [List.mem_append, List.mem_cons]
    have : x ∈ ks ↔ x ∈ ks.take (belowB ks k) ∨ x ∈ ks.drop (belowB ks k) := by
      conv => lhs; rw [← List.take_append_drop (belowB ks k) ks]
      exact List.mem_append
    rw [this]
    constructor
    · rintro (h | h | h)
      · exact .inr (.inl h)
      · exact .inl h
      · exact .inr (.inr h)
    · rintro (h | h | h)
      · exact .inr (.inl h)
      · exact .inl h
      · exact .inr (.inr h)
theorem putB_rise {ks : List ByteArray} (h : Rise ks) (k : ByteArray) : Rise (putB ks k) := by
  unfold putB
  by_cases e : ks[belowB ks k]? = some k
  · rw [if_pos e]; exact h
  · rw [if_neg e]
    have hlow : ∀ x ∈ ks.take (belowB ks k), ltB x k := fun x hx => by
      obtain ⟨i, hi, ei⟩ := List.mem_iff_getElem.1 hx
      have hi' : i < belowB ks k ∧ i < ks.length := by simp at hi; omega
      simp at ei
      exact belowB_lt hi'.1 (by rw [List.getElem?_eq_getElem hi'.2, ei])
    have hhigh : ∀ x ∈ ks.drop (belowB ks k), ltB k x := fun x hx => by
      obtain ⟨i, hi, ei⟩ := List.mem_iff_getElem.1 hx
      have hi' : belowB ks k + i < ks.length := by rw [List.length_drop] at hi; omega
      rw [List.getElem_drop] at ei
      have hx' : ks[belowB ks k + i]? = some x := by rw [List.getElem?_eq_getElem hi', ei]
      have h1 := belowB_ge h (Nat.le_add_right _ i) hx'
      have hne : x ≠ k := fun c => by
        subst c
        by_cases hz : i = 0
        · subst hz; exact e hx'
        · have hb : belowB ks x < ks.length := by omega
          have h2 := List.pairwise_iff_getElem.1 h (belowB ks x) (belowB ks x + i) hb hi' (by omega)
          rw [ei] at h2
          exact belowB_at (List.getElem?_eq_getElem hb) h2
      rcases ltB_total hne with h' | h'
      · exact absurd h' h1
      · exact h'
    unfold Rise
    rw [List.pairwise_append, List.pairwise_cons]
    refine ⟨h.sublist (List.take_sublist _ _), ⟨hhigh, h.sublist (List.drop_sublist _ _)⟩, fun a ha b hb => ?_⟩
    rcases List.mem_cons.1 hb with rfl | hb
    · exact hlow a ha
    · exact ltB_trans (hlow a ha) (hhigh b hb)
end Go.Proofs.Ythkdcbmcknndnaa

/- A thing put into things that rise, by whatever strict order: plain laws. No program in sight. -/
import Derived.Test.YtbmjddmejmeknaaRise
namespace Go.Proofs.Ytbmjddmejmeknaa
set_option linter.unusedVariables false
set_option linter.unusedSectionVars false
structure Ordr {α : Type} (lt : α → α → Prop) : Prop where
  irr : ∀ a, ¬ lt a a
  trans : ∀ {a b c}, lt a b → lt b c → lt a c
  total : ∀ {a b}, a ≠ b → lt a b ∨ lt b a
section
variable {α : Type} [DecidableEq α] (lt : α → α → Prop) [DecidableRel lt]
def RiseG (l : List α) : Prop := l.Pairwise lt
/-- how many texts are below one -/
def belowG (ks : List α) (k : α) : Nat := (ks.takeWhile fun x => decide (lt x k)).length
/-- a text put where it belongs -/
def putG (ks : List α) (k : α) : List α := if ks[belowG lt ks k]? = some k then ks else ks.take (belowG lt ks k) ++ k :: ks.drop (belowG lt ks k)
variable {lt}
theorem RiseG.nodup (O : Ordr lt) {l : List α} (h : RiseG lt l) : l.Nodup := List.Pairwise.imp (S := fun a b => a ≠ b) (fun {a b} (h : lt a b) (e : a = b) => O.irr a (by rw [← e] at h; exact h)) h
theorem RiseG.ext (O : Ordr lt) {l m : List α} (hl : RiseG lt l) (hm : RiseG lt m) (h : ∀ x, x ∈ l ↔ x ∈ m) : l = m := by
  have hp : l.Perm m := List.perm_ext_iff_of_nodup (hl.nodup O) (hm.nodup O) |>.2 h
  exact hp.eq_of_pairwise (fun a b _ _ h1 h2 => absurd (O.trans h1 h2) (O.irr _)) hl hm
theorem RiseG.filter {l : List α} (h : RiseG lt l) (p : α → Bool) : RiseG lt (l.filter p) := h.sublist List.filter_sublist
theorem belowG_le (ks : List α) (k : α) : belowG lt ks k ≤ ks.length := by
  unfold belowG
  have := (List.takeWhile_sublist (fun x => decide (lt x k)) (l := ks)).length_le
  exact this
theorem belowG_lt {ks : List α} {k : α} {i : Nat} {x : α} (hi : i < belowG lt ks k) (hx : ks[i]? = some x) : lt x k := by
  induction ks generalizing i with
  | nil => cases hx
  | cons y ks ih =>
    unfold belowG at hi
    rw [List.takeWhile_cons] at hi
    by_cases e : lt y k
    · rw [if_pos (by simpa using e)] at hi
      cases i with
      | zero => simp at hx; subst hx; exact e
      | succ i => simp at hx hi; exact ih (by unfold belowG; omega) hx
    · rw [if_neg (by simpa using e)] at hi
      simp at hi
theorem belowG_at {ks : List α} {k x : α} (hx : ks[belowG lt ks k]? = some x) : ¬ lt x k := by
  induction ks with
  | nil => cases hx
  | cons y ks ih =>
    unfold belowG at hx
    rw [List.takeWhile_cons] at hx
    by_cases e : lt y k
    · rw [if_pos (by simpa using e)] at hx
      simp at hx
      exact ih hx
    · rw [if_neg (by simpa using e)] at hx
      simp at hx
      subst hx; exact e
theorem belowG_ge (O : Ordr lt) {ks : List α} {k : α} (h : RiseG lt ks) {i : Nat} {x : α} (hi : belowG lt ks k ≤ i) (hx : ks[i]? = some x) : ¬ lt x k := by
  have hil := (List.getElem?_eq_some_iff.1 hx).1
  have hb : belowG lt ks k < ks.length := by omega
  have hy : ks[belowG lt ks k]? = some ks[belowG lt ks k] := List.getElem?_eq_getElem hb
  have h1 := belowG_at hy
  by_cases e : belowG lt ks k = i
  · subst e
    exact belowG_at hx
  · have h2 := List.pairwise_iff_getElem.1 h (belowG lt ks k) i hb hil (by omega)
    have h3 := (List.getElem?_eq_some_iff.1 hx).2
    rw [h3] at h2
    exact fun c => h1 (O.trans h2 c)
theorem putG_mem (ks : List α) (k x : α) : x ∈ putG lt ks k ↔ x = k ∨ x ∈ ks := by
  unfold putG
  by_cases e : ks[belowG lt ks k]? = some k
  · rw [if_pos e]
    exact ⟨.inr, fun h => h.elim (fun h => h ▸ List.mem_of_getElem? e) id⟩
  · rw [if_neg e]
    rw [List.mem_append, List.mem_cons]
    have : x ∈ ks ↔ x ∈ ks.take (belowG lt ks k) ∨ x ∈ ks.drop (belowG lt ks k) := by
      conv => lhs; rw [← List.take_append_drop (belowG lt ks k) ks]
      exact List.mem_append
    rw [this]
    constructor
    · rintro (h | h | h)
      · exact .inr (.inl h)
      · exact .inl h
      · exact .inr (.inr h)
    · rintro (h | h | h)
      · exact .inr (.inl h)
      · exact .inl h
      · exact .inr (.inr h)
theorem putG_rise (O : Ordr lt) {ks : List α} (h : RiseG lt ks) (k : α) : RiseG lt (putG lt ks k) := by
  unfold putG
  by_cases e : ks[belowG lt ks k]? = some k
  · rw [if_pos e]; exact h
  · rw [if_neg e]
    have hlow : ∀ x ∈ ks.take (belowG lt ks k), lt x k := fun x hx => by
      obtain ⟨i, hi, ei⟩ := List.mem_iff_getElem.1 hx
      have hi' : i < belowG lt ks k ∧ i < ks.length := by simp at hi; omega
      simp at ei
      exact belowG_lt hi'.1 (by rw [List.getElem?_eq_getElem hi'.2, ei])
    have hhigh : ∀ x ∈ ks.drop (belowG lt ks k), lt k x := fun x hx => by
      obtain ⟨i, hi, ei⟩ := List.mem_iff_getElem.1 hx
      have hi' : belowG lt ks k + i < ks.length := by rw [List.length_drop] at hi; omega
      rw [List.getElem_drop] at ei
      have hx' : ks[belowG lt ks k + i]? = some x := by rw [List.getElem?_eq_getElem hi', ei]
      have h1 := belowG_ge O h (Nat.le_add_right _ i) hx'
      have hne : x ≠ k := fun c => by
        subst c
        by_cases hz : i = 0
        · subst hz; exact e hx'
        · have hb : belowG lt ks x < ks.length := by omega
          have h2 := List.pairwise_iff_getElem.1 h (belowG lt ks x) (belowG lt ks x + i) hb hi' (by omega)
          rw [ei] at h2
          exact belowG_at (List.getElem?_eq_getElem hb) h2
      rcases O.total hne with h' | h'
      · exact absurd h' h1
      · exact h'
    unfold RiseG
    rw [List.pairwise_append, List.pairwise_cons]
    refine ⟨h.sublist (List.take_sublist _ _), ⟨hhigh, h.sublist (List.drop_sublist _ _)⟩, fun a ha b hb => ?_⟩
    rcases List.mem_cons.1 hb with rfl | hb
    · exact hlow a ha
    · exact O.trans (hlow a ha) (hhigh b hb)
end
end Go.Proofs.Ytbmjddmejmeknaa

/- The plain law of the reference's insertion: a list gone through once. No program in sight. -/
import Derived.Test.YtipblbmpckfigaaDistLaw
namespace Go.Proofs.Ytipblbmpckfigaa
namespace Dist
/-- one element of the old list -/
def stepN (h : Int) (s : List Int × Bool) (x : Int) : List Int × Bool :=
  if !s.2 && decide (h ≤ x) then (if x ≠ h then (s.1 ++ [h] ++ [x], true) else (s.1 ++ [h], true)) else (if x ≠ h then (s.1 ++ [x], s.2) else s)
def mkN (l : List Int) (h : Int) : List Int × Bool := l.foldl (stepN h) ([], false)
theorem mkN_snoc (l : List Int) (h x : Int) : mkN (l ++ [x]) h = stepN h (mkN l h) x := by simp [mkN]
theorem fold_less {h : Int} : ∀ (l : List Int) (A : List Int), (∀ x ∈ l, x < h) → l.foldl (stepN h) (A, false) = (A ++ l, false)
  | [], A, _ => by simp
  | y :: l, A, hl => by
    have hy := hl y (by simp)
    have e : stepN h (A, false) y = (A ++ [y], false) := by
      have h1 : decide (h ≤ y) = false := decide_eq_false (by omega)
      have h2 : y ≠ h := by omega
      simp [stepN, h1, h2]
    rw [List.foldl_cons, e, fold_less l _ (fun x hx => hl x (by simp [hx]))]; simp
theorem fold_more {h : Int} : ∀ (l : List Int) (A : List Int), (∀ x ∈ l, h < x) → l.foldl (stepN h) (A, true) = (A ++ l, true)
  | [], A, _ => by simp
  | y :: l, A, hl => by
    have hy := hl y (by simp)
    have e : stepN h (A, true) y = (A ++ [y], true) := by
      have h2 : y ≠ h := by omega
      simp [stepN, h2]
    rw [List.foldl_cons, e, fold_more l _ (fun x hx => hl x (by simp [hx]))]; simp
theorem mkN_all {L : List Int} (hu : Up L) (h : Int) : (if (mkN L h).2 then (mkN L h).1 else (mkN L h).1 ++ [h]) = insU L h := by
  have hb := below_le L h
  have h1 := below_take hu (h := h)
  have h2 := below_drop hu (h := h)
  have e0 : mkN L h = (L.drop (below L h)).foldl (stepN h) (L.take (below L h), false) := by
    have : mkN L h = (L.take (below L h) ++ L.drop (below L h)).foldl (stepN h) ([], false) := by rw [List.take_append_drop]; rfl
    rw [this, List.foldl_append, fold_less _ _ h1]; simp
  have hud : Up (L.drop (below L h)) := List.Pairwise.sublist (List.drop_sublist _ _) hu
  cases hd : L.drop (below L h) with
  | nil =>
    rw [hd] at e0
    have hL : L.take (below L h) = L := by
      have := List.take_append_drop (below L h) L
      rw [hd, List.append_nil] at this; exact this
    rw [e0]
    simp only [List.foldl_nil, Bool.false_eq_true, if_false]
    have hn : h ∉ L := fun hm => by rw [← hL] at hm; have := h1 h hm; omega
    rw [insU, if_neg hn, ins, hd]
  | cons y r =>
    rw [hd] at e0 hud h2
    obtain ⟨u1, u2⟩ := up_cons.1 hud
    have hy := h2 y (by simp)
    by_cases e : y = h
    · subst e
      have e1 : stepN y (L.take (below L y), false) y = (L.take (below L y) ++ [y], true) := by simp [stepN]
      rw [e0, List.foldl_cons, e1, fold_more _ _ u1]
      simp only [if_true]
      have hm : y ∈ L := by
        have : y ∈ L.drop (below L y) := by rw [hd]; simp
        exact List.mem_of_mem_drop this
      rw [insU, if_pos hm, List.append_assoc]
      have := List.take_append_drop (below L y) L
      rw [hd] at this; simpa using this
    · have h3 : decide (h ≤ y) = true := decide_eq_true hy
      have e1 : stepN h (L.take (below L h), false) y = (L.take (below L h) ++ [h] ++ [y], true) := by simp [stepN, h3, e]
      rw [e0, List.foldl_cons, e1, fold_more _ _ (fun x hx => by have := u1 x hx; omega)]
      simp only [if_true]
      have hn : h ∉ L := fun hm => by
        rw [← List.take_append_drop (below L h) L, hd, List.mem_append] at hm
        rcases hm with hm | hm
        · have := h1 h hm; omega
        · rcases List.mem_cons.1 hm with hm | hm
          · exact e hm.symm
          · have := u1 h hm; omega
      rw [insU, if_neg hn, ins, hd]; simp
theorem stepN_length (h : Int) (s : List Int × Bool) (x : Int) : (stepN h s x).1.length ≤ s.1.length + 2 := by
  unfold stepN; split <;> split <;> simp
theorem fold_length (h : Int) : ∀ (l : List Int) (s : List Int × Bool), (l.foldl (stepN h) s).1.length ≤ s.1.length + 2 * l.length
  | [], s => by simp
  | x :: l, s => by
    have h1 := fold_length h l (stepN h s x)
    have h2 := stepN_length h s x
    rw [List.foldl_cons, List.length_cons]; omega
theorem mkN_length (h : Int) (l : List Int) : (mkN l h).1.length ≤ 2 * l.length := by
  have := fold_length h l ([], false)
  simpa [mkN] using this
end Dist
end Go.Proofs.Ytipblbmpckfigaa

/- Sessions by a greater gap: each session lies within one of these: plain law. No program in sight. -/
import Derived.Test.YtbmjddmejmeknaaEAll
namespace Go.Proofs.Ytbmjddmejmeknaa
set_option linter.unusedVariables false
def offS (y x : Se) : Bool := decide (y.p ≠ x.p) || decide (y.t < x.f)
/-- the walk through the sessions of the greater gap -/
def okW : List Se → List Se → Prop
  | [], _ => True
  | x :: a, b => ∃ pre y b', b = pre ++ y :: b' ∧ (∀ z ∈ pre, offS z x = true) ∧ offS y x = false ∧ y.f ≤ x.f ∧ x.t ≤ y.t ∧ okW a (y :: b')
theorem okW_skip {x z : Se} {a b : List Se} (h : okW (x :: a) (z :: b)) (hz : offS z x = true) : okW (x :: a) b := by
  obtain ⟨pre, y, b', h1, h2, h3, h4⟩ := h
  cases pre with
  | nil =>
    simp only [List.nil_append, List.cons.injEq] at h1
    rw [h1.1, h3] at hz
    exact absurd hz (by simp)
  | cons u pre =>
    simp only [List.cons_append, List.cons.injEq] at h1
    exact ⟨pre, y, b', h1.2, fun z hz => h2 z (by simp [hz]), h3, h4⟩
theorem okW_push {x z : Se} {a b : List Se} (h : okW (x :: a) b) (hz : offS z x = true) : okW (x :: a) (z :: b) := by
  obtain ⟨pre, y, b', h1, h2, h3, h4⟩ := h
  refine ⟨z :: pre, y, b', by rw [h1]; rfl, fun u hu => ?_, h3, h4⟩
  rcases List.mem_cons.1 hu with rfl | hu
  · exact hz
  · exact h2 u hu
theorem okW_nil {x : Se} {a : List Se} (h : okW (x :: a) []) : False := by
  obtain ⟨pre, y, b', h1, h2⟩ := h
  simp at h1
theorem okW_stop {x z : Se} {a b : List Se} (h : okW (x :: a) (z :: b)) (hz : offS z x = false) : z.f ≤ x.f ∧ x.t ≤ z.t ∧ okW a (z :: b) := by
  obtain ⟨pre, y, b', h1, h2, h3, h4⟩ := h
  cases pre with
  | nil =>
    simp only [List.nil_append, List.cons.injEq] at h1
    obtain ⟨rfl, rfl⟩ := h1
    exact h4
  | cons u pre =>
    simp only [List.cons_append, List.cons.injEq] at h1
    have := h2 u (by simp)
    rw [← h1.1, hz] at this
    exact absurd this (by simp)
theorem okW_here {x y : Se} {a b : List Se} (h : offS y x = false) (h1 : y.f ≤ x.f) (h2 : x.t ≤ y.t) (h3 : okW a (y :: b)) : okW (x :: a) (y :: b) := ⟨[], y, b, rfl, by simp, h, h1, h2, h3⟩
/-- what comes behind a session -/
def aftS (x : Se) (L : List Tri) : Prop := ∀ a ∈ L, a.1 = x.p → x.t ≤ a.2.1
theorem joinB_iff {gap : Int} {x : Se} {a : Tri} : joinB gap x a = true ↔ x.p = a.1 ∧ a.2.1 - x.t ≤ gap := by simp [joinB]
theorem joinB_no {gap : Int} {x : Se} {a : Tri} : joinB gap x a = false ↔ ¬ (x.p = a.1 ∧ a.2.1 - x.t ≤ gap) := by rw [← joinB_iff]; simp
theorem aft_tail {a : Tri} {L : List Tri} (h : RiseT (a :: L)) (y : Se) (hy : y.p = a.1) (ht : y.t = a.2.1) : aftS y L := by
  intro b hb e
  have := (List.pairwise_cons.1 h).1 b hb
  rcases this with k | ⟨_, k | ⟨k, _⟩⟩
  · rw [e, hy] at k; exact absurd k (ltB_irrefl _)
  · omega
  · omega
theorem run_head (gap : Int) : ∀ (L : List Tri) (x : Se), RiseT L → aftS x L → ∃ z R, runS gap x L = z :: R ∧ z.p = x.p ∧ z.f = x.f ∧ x.t ≤ z.t
  | [], x, _, _ => ⟨x, [], rfl, rfl, rfl, Int.le_refl _⟩
  | a :: L, x, hr, hx => by
    rw [runS]
    by_cases e : joinB gap x a
    · rw [if_pos e]
      obtain ⟨e1, e2⟩ := joinB_iff.1 e
      obtain ⟨z, R, h1, h2, h3, h4⟩ := run_head gap L (extS x a) (List.pairwise_cons.1 hr).2 (aft_tail hr _ e1 rfl)
      have := hx a (by simp) e1.symm
      exact ⟨z, R, h1, h2, h3, by simp only [extS] at h4; omega⟩
    · rw [if_neg e]
      exact ⟨x, _, rfl, rfl, rfl, Int.le_refl _⟩
theorem okW_run {g g' : Int} (hg : 0 ≤ g) (hg' : g ≤ g') : ∀ (L : List Tri) (x y : Se), RiseT L → aftS x L → y.p = x.p → y.f ≤ x.f → y.t = x.t → x.f ≤ x.t → okW (runS g x L) (runS g' y L) ∧ (runS g' y L).length ≤ (runS g x L).length
  | [], x, y, _, _, hp, hf, ht, hx => ⟨okW_here (by simp [offS, hp]; omega) hf (by omega) trivial, Nat.le_refl _⟩
  | a :: L, x, y, hr, ha, hp, hf, ht, hx => by
    have hr' := (List.pairwise_cons.1 hr).2
    rw [runS, runS]
    by_cases e : joinB g x a
    · obtain ⟨e1, e2⟩ := joinB_iff.1 e
      have e' : joinB g' y a = true := joinB_iff.2 ⟨hp.trans e1, by omega⟩
      rw [if_pos e, if_pos e']
      have := ha a (by simp) e1.symm
      exact okW_run hg hg' L (extS x a) (extS y a) hr' (aft_tail hr _ e1 rfl) hp hf rfl (by simp only [extS]; omega)
    · rw [if_neg e]
      have hn : aftS (newS a) L := aft_tail hr _ rfl rfl
      by_cases e' : joinB g' y a
      · rw [if_pos e']
        obtain ⟨e1, e2⟩ := joinB_iff.1 e'
        have hax := ha a (by simp) (e1.symm.trans hp)
        obtain ⟨i1, i2⟩ := okW_run hg hg' L (newS a) (extS y a) hr' hn e1 (by simp only [extS, newS]; omega) rfl (Int.le_refl _)
        obtain ⟨z, R, h1, h2, h3, h4⟩ := run_head g' L (extS y a) hr' (aft_tail hr _ e1 rfl)
        rw [h1] at i1 i2 ⊢
        simp only [extS] at h2 h3 h4
        refine ⟨okW_here ?_ (by omega) (by omega) i1, by simp only [List.length_cons] at i2 ⊢; omega⟩
        simp only [offS, h2, hp, ne_eq, not_true_eq_false, decide_false, Bool.false_or, decide_eq_false_iff_not]
        omega
      · rw [if_neg e']
        obtain ⟨i1, i2⟩ := okW_run hg hg' L (newS a) (newS a) hr' hn rfl (Int.le_refl _) rfl (Int.le_refl _)
        obtain ⟨z, R, h1, h2, h3, h4⟩ := run_head g L (newS a) hr' hn
        rw [h1] at i1 i2 ⊢
        refine ⟨okW_here (by simp [offS, hp]; omega) hf (by omega) (okW_push i1 ?_), by simp only [List.length_cons] at i2 ⊢; omega⟩
        simp only [newS] at h2 h3
        simp only [offS, Bool.or_eq_true, decide_eq_true_eq]
        rcases Decidable.em (y.p = a.1) with e1 | e1
        · right
          have : ¬ a.2.1 - y.t ≤ g' := fun c => e' (joinB_iff.2 ⟨e1, c⟩)
          omega
        · left
          rw [h2]; exact e1
theorem okW_all {g g' : Int} (hg : 0 ≤ g) (hg' : g ≤ g') {L : List Tri} (h : RiseT L) : okW (allS g L) (allS g' L) ∧ (allS g' L).length ≤ (allS g L).length ∧ ((allS g' L).length = 0 ↔ (allS g L).length = 0) := by
  cases L with
  | nil => exact ⟨trivial, Nat.le_refl _, Iff.rfl⟩
  | cons a L =>
    have hn : aftS (newS a) L := aft_tail h _ rfl rfl
    rw [all_cons, all_cons]
    obtain ⟨i1, i2⟩ := okW_run hg hg' L (newS a) (newS a) (List.pairwise_cons.1 h).2 hn rfl (Int.le_refl _) rfl (Int.le_refl _)
    refine ⟨i1, i2, ?_⟩
    obtain ⟨z, R, h1, _⟩ := run_head g L (newS a) (List.pairwise_cons.1 h).2 hn
    obtain ⟨z', R', h1', _⟩ := run_head g' L (newS a) (List.pairwise_cons.1 h).2 hn
    rw [h1, h1']
    simp
end Go.Proofs.Ytbmjddmejmeknaa

/- Plain: any two sorted orders of one list, under a preorder whose ties have one key, have the same keys; insertion sorts. No program in sight. -/
import Derived.WalkKit
namespace Go.Proofs.YtkofcegdoilaeaaGreatDoor
namespace Rk
structure Pre {α β : Type} (lt : α → α → Bool) (key : α → β) : Prop where
  as : ∀ a b, lt a b = true → lt b a = false
  tr : ∀ a b c, lt b a = false → lt c b = false → lt c a = false
  tie : ∀ a b, lt a b = false → lt b a = false → key a = key b
def Srt {α : Type} (lt : α → α → Bool) (l : List α) : Prop := l.Pairwise fun a b => lt b a = false
theorem keys_front {β : Type} (k : β) : ∀ (l : List β), (∀ z ∈ l, z = k) → ∀ m, l ++ k :: m = k :: (l ++ m)
  | [], _, m => rfl
  | z :: l, h, m => by
    have ih := keys_front k l (fun y hy => h y (by simp [hy])) m
    have hz : z = k := h z (by simp)
    subst hz
    rw [List.cons_append, ih, List.cons_append]
theorem keys_eq {α β : Type} {lt : α → α → Bool} {key : α → β} (hp : Pre lt key) : ∀ (l m : List α), l.Perm m → Srt lt l → Srt lt m → l.map key = m.map key
  | [], m, h, _, _ => by rw [List.nil_perm.1 h]
  | x :: l, m, h, hl, hm => by
    have hx : x ∈ m := h.mem_iff.1 (by simp)
    obtain ⟨m1, m2, rfl⟩ := List.append_of_mem hx
    have hl' := List.pairwise_cons.1 hl
    have hm' := List.pairwise_append.1 hm
    have htie : ∀ z ∈ m1, key z = key x := fun z hz => by
      have h1 : lt x z = false := hm'.2.2 z hz x (by simp)
      have h2 : lt z x = false := by
        have hz' : z ∈ x :: l := h.mem_iff.2 (by simp [hz])
        rcases List.mem_cons.1 hz' with rfl | hz'
        · exact h1
        · exact hl'.1 z hz'
      exact hp.tie z x h2 h1
    have hperm : l.Perm (m1 ++ m2) := by
      have h3 : (m1 ++ x :: m2).Perm (x :: (m1 ++ m2)) := List.perm_middle
      exact (h.trans h3).cons_inv
    have hs : Srt lt (m1 ++ m2) := by
      refine List.pairwise_append.2 ⟨hm'.1, (List.pairwise_cons.1 hm'.2.1).2, fun a ha b hb => hm'.2.2 a ha b (by simp [hb])⟩
    have ih := keys_eq hp l (m1 ++ m2) hperm hl'.2 hs
    rw [List.map_cons, ih, List.map_append, List.map_append, List.map_cons, keys_front]
    intro z hz
    obtain ⟨y, hy, rfl⟩ := List.mem_map.1 hz
    exact htie y hy
/-- ahead of the first one that it is less than -/
def ins {α : Type} (lt : α → α → Bool) (x : α) : List α → List α
  | [] => [x]
  | y :: l => if lt x y = true then x :: y :: l else y :: ins lt x l
theorem ins_perm {α : Type} (lt : α → α → Bool) (x : α) : ∀ l, (ins lt x l).Perm (x :: l)
  | [] => List.Perm.refl _
  | y :: l => by
    rw [ins]
    split
    · exact List.Perm.refl _
    · exact ((ins_perm lt x l).cons y).trans (List.Perm.swap x y l)
theorem ins_srt {α β : Type} {lt : α → α → Bool} {key : α → β} (hp : Pre lt key) (x : α) : ∀ l, Srt lt l → Srt lt (ins lt x l)
  | [], _ => List.pairwise_singleton _ _
  | y :: l, h => by
    have h' := List.pairwise_cons.1 h
    rw [ins]
    split
    · rename_i e
      have hyx := hp.as x y e
      refine List.pairwise_cons.2 ⟨fun z hz => ?_, h⟩
      rcases List.mem_cons.1 hz with rfl | hz
      · exact hyx
      · exact hp.tr x y z hyx (h'.1 z hz)
    · rename_i e
      refine List.pairwise_cons.2 ⟨fun z hz => ?_, ins_srt hp x l h'.2⟩
      have hz' := (ins_perm lt x l).mem_iff.1 hz
      rcases List.mem_cons.1 hz' with rfl | hz'
      · simpa using e
      · exact h'.1 z hz'
/-- one behind the other, each put in -/
def insAll {α : Type} (lt : α → α → Bool) (l : List α) : List α := l.foldl (fun m x => ins lt x m) []
theorem insAll_go {α β : Type} {lt : α → α → Bool} {key : α → β} (hp : Pre lt key) : ∀ (l m : List α), Srt lt m → Srt lt (l.foldl (fun m x => ins lt x m) m) ∧ (l.foldl (fun m x => ins lt x m) m).Perm (l ++ m)
  | [], m, h => ⟨h, List.Perm.refl _⟩
  | x :: l, m, h => by
    obtain ⟨h1, h2⟩ := insAll_go hp l (ins lt x m) (ins_srt hp x m h)
    refine ⟨h1, h2.trans ?_⟩
    have h3 : (l ++ ins lt x m).Perm (l ++ x :: m) := (ins_perm lt x m).append_left l
    exact h3.trans List.perm_middle
theorem insAll_is {α β : Type} {lt : α → α → Bool} {key : α → β} (hp : Pre lt key) (l : List α) : Srt lt (insAll lt l) ∧ (insAll lt l).Perm l := by
  have := insAll_go hp l [] List.Pairwise.nil
  rw [List.append_nil] at this
  exact this
/-- any sorted order has the keys of the document's -/
theorem rank_keys {α β : Type} {lt : α → α → Bool} {key : α → β} (hp : Pre lt key) {l m : List α} (h1 : m.Perm l) (h2 : Srt lt m) : m.map key = (insAll lt l).map key :=
  keys_eq hp _ _ (h1.trans (insAll_is hp l).2.symm) h2 (insAll_is hp l).1
theorem Srt.at {α : Type} {lt : α → α → Bool} {l : List α} (h : Srt lt l) {i j : Nat} {x y : α} (hij : i < j) (hx : l[i]? = some x) (hy : l[j]? = some y) : lt y x = false := by
  obtain ⟨a1, b1⟩ := List.getElem?_eq_some_iff.1 hx
  obtain ⟨a2, b2⟩ := List.getElem?_eq_some_iff.1 hy
  have := List.pairwise_iff_getElem.1 h i j a1 a2 hij
  rw [b1, b2] at this
  exact this
/-- one step of symMerge: u1 v1 | u2 v2, each sorted by itself, is sorted -/
theorem merge_step {α : Type} {lt : α → α → Bool} {u1 u2 v1 v2 w1 w2 : List α} (hu : Srt lt (u1 ++ u2)) (hv : Srt lt (v1 ++ v2))
    (h1 : ∀ x ∈ u1, ∀ y ∈ v2, lt y x = false) (h2 : ∀ y ∈ v1, ∀ x ∈ u2, lt x y = false) (p1 : w1.Perm (u1 ++ v1)) (p2 : w2.Perm (u2 ++ v2)) (s1 : Srt lt w1) (s2 : Srt lt w2) :
    Srt lt (w1 ++ w2) ∧ (w1 ++ w2).Perm ((u1 ++ u2) ++ (v1 ++ v2)) := by
  have hu' := List.pairwise_append.1 hu
  have hv' := List.pairwise_append.1 hv
  refine ⟨List.pairwise_append.2 ⟨s1, s2, fun a ha b hb => ?_⟩, ?_⟩
  · have ha' := p1.mem_iff.1 ha
    have hb' := p2.mem_iff.1 hb
    rcases List.mem_append.1 ha' with qa | qa <;> rcases List.mem_append.1 hb' with qb | qb
    · exact hu'.2.2 a qa b qb
    · exact h1 a qa b qb
    · exact h2 a qa b qb
    · exact hv'.2.2 a qa b qb
  · refine (p1.append p2).trans ?_
    rw [List.append_assoc, List.append_assoc]
    refine List.Perm.append_left u1 ?_
    rw [← List.append_assoc, ← List.append_assoc]
    exact List.Perm.append_right v2 List.perm_append_comm
/-- what a search by 'd[h] below x' has found at one h holds at all ahead of it -/
theorem below_ahead {α β : Type} {lt : α → α → Bool} {key : α → β} (hp : Pre lt key) {l : List α} (hl : Srt lt l) {i j : Nat} {x y z : α} (hij : i < j) (hy : l[i]? = some y) (hz : l[j]? = some z) (h : lt z x = true) : lt y x = true := by
  cases e : lt y x with
  | true => rfl
  | false =>
    have := hp.tr x y z e (hl.at hij hy hz)
    rw [this] at h; cases h
theorem not_below_behind {α β : Type} {lt : α → α → Bool} {key : α → β} (hp : Pre lt key) {l : List α} (hl : Srt lt l) {i j : Nat} {x y z : α} (hij : i < j) (hy : l[i]? = some y) (hz : l[j]? = some z) (h : lt y x = false) : lt z x = false :=
  hp.tr x y z h (hl.at hij hy hz)
/-- what a search by 'x not below d[h]' has found at one h holds at all ahead of it -/
theorem not_above_ahead {α β : Type} {lt : α → α → Bool} {key : α → β} (hp : Pre lt key) {l : List α} (hl : Srt lt l) {i j : Nat} {x y z : α} (hij : i < j) (hy : l[i]? = some y) (hz : l[j]? = some z) (h : lt x z = false) : lt x y = false :=
  hp.tr y z x (hl.at hij hy hz) h
/-- the test of symMerge's search, at c and at one ahead of it (d = u ++ v; p - c lies in v) -/
theorem sym_ahead {α β : Type} {lt : α → α → Bool} {key : α → β} (hp : Pre lt key) {u v : List α} (hu : Srt lt u) (hv : Srt lt v) {i j i' j' : Nat} {x x' y y' : α} (hi : i' < i) (hj : j < j')
    (hx : u[i]? = some x) (hx' : u[i']? = some x') (hy : v[j]? = some y) (hy' : v[j']? = some y') (h : lt y x = false) : lt y' x' = false :=
  hp.tr x' y y' (hp.tr x' x y (hu.at hi hx' hx) h) (hv.at hj hy hy')
/-- one put into a sorted row -/
theorem put_srt {α : Type} {lt : α → α → Bool} {u v : List α} {x : α} (h : Srt lt (u ++ v)) (h1 : ∀ z ∈ u, lt x z = false) (h2 : ∀ z ∈ v, lt z x = false) : Srt lt (u ++ x :: v) := by
  have h' := List.pairwise_append.1 h
  refine List.pairwise_append.2 ⟨h'.1, List.pairwise_cons.2 ⟨h2, h'.2.1⟩, fun a ha b hb => ?_⟩
  rcases List.mem_cons.1 hb with rfl | hb
  · exact h1 a ha
  · exact h'.2.2 a ha b hb
end Rk
end Go.Proofs.YtkofcegdoilaeaaGreatDoor

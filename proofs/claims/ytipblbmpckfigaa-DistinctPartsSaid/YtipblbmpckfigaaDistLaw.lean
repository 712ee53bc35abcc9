/- The plain law of counters that keep the least k of rising numbers. No program in sight. -/
import Derived.WalkKit
namespace Go.Proofs.Ytipblbmpckfigaa
namespace Dist

/-- strictly rising -/
def Up (l : List Int) : Prop := l.Pairwise (· < ·)
/-- how many are less -/
def below (l : List Int) (h : Int) : Nat := l.countP (fun x => decide (x < h))
/-- a number put where it belongs -/
def ins (l : List Int) (h : Int) : List Int := l.take (below l h) ++ h :: l.drop (below l h)
def insU (l : List Int) (h : Int) : List Int := if h ∈ l then l else ins l h

theorem below_le (l : List Int) (h : Int) : below l h ≤ l.length := List.countP_le_length
theorem below_cons (x : Int) (l : List Int) (h : Int) : below (x :: l) h = below l h + if x < h then 1 else 0 := by
  unfold below; rw [List.countP_cons]; simp
theorem below_zero {l : List Int} {h : Int} (hl : ∀ x ∈ l, h ≤ x) : below l h = 0 := by
  unfold below; rw [List.countP_eq_zero]; intro x hx; have := hl x hx; simp; omega
theorem up_cons {x : Int} {l : List Int} : Up (x :: l) ↔ (∀ y ∈ l, x < y) ∧ Up l := List.pairwise_cons
/-- what stands ahead of the place is less, what stands behind isn't -/
theorem below_take : ∀ {l : List Int} {h : Int}, Up l → ∀ x ∈ l.take (below l h), x < h
  | [], h, _, x, hx => by simp at hx
  | y :: l, h, hu, x, hx => by
    obtain ⟨h1, h2⟩ := up_cons.1 hu
    rw [below_cons] at hx
    by_cases hy : y < h
    · rw [if_pos hy, List.take_succ_cons] at hx
      rcases List.mem_cons.1 hx with rfl | hx
      · exact hy
      · exact below_take h2 x hx
    · rw [if_neg hy, below_zero (fun z hz => by have := h1 z hz; omega)] at hx
      simp at hx
theorem below_drop : ∀ {l : List Int} {h : Int}, Up l → ∀ x ∈ l.drop (below l h), h ≤ x
  | [], h, _, x, hx => by simp at hx
  | y :: l, h, hu, x, hx => by
    obtain ⟨h1, h2⟩ := up_cons.1 hu
    rw [below_cons] at hx
    by_cases hy : y < h
    · rw [if_pos hy, List.drop_succ_cons] at hx
      exact below_drop h2 x hx
    · rw [if_neg hy, below_zero (fun z hz => by have := h1 z hz; omega)] at hx
      simp at hx
      rcases hx with rfl | hx
      · omega
      · have := h1 x hx; omega
theorem mem_ins {l : List Int} {h x : Int} : x ∈ ins l h ↔ x = h ∨ x ∈ l := by
  unfold ins
  rw [List.mem_append, List.mem_cons]
  constructor
  · rintro (h1 | h1 | h1)
    · exact .inr (List.mem_of_mem_take h1)
    · exact .inl h1
    · exact .inr (List.mem_of_mem_drop h1)
  · rintro (h1 | h1)
    · exact .inr (.inl h1)
    · rw [← List.take_append_drop (below l h) l, List.mem_append] at h1
      rcases h1 with h1 | h1
      · exact .inl h1
      · exact .inr (.inr h1)
theorem up_ins {l : List Int} {h : Int} (hu : Up l) (hn : h ∉ l) : Up (ins l h) := by
  unfold ins
  have h0 : Up (l.take (below l h) ++ l.drop (below l h)) := by rw [List.take_append_drop]; exact hu
  obtain ⟨h1, h2, h3⟩ := List.pairwise_append.1 h0
  refine List.pairwise_append.2 ⟨h1, List.pairwise_cons.2 ⟨fun x hx => ?_, h2⟩, fun x hx y hy => ?_⟩
  · have := below_drop hu x hx
    have : x ≠ h := fun e => hn (e ▸ List.mem_of_mem_drop hx)
    omega
  · rcases List.mem_cons.1 hy with rfl | hy
    · exact below_take hu x hx
    · exact h3 x hx y hy
theorem ins_length (l : List Int) (h : Int) : (ins l h).length = l.length + 1 := by
  unfold ins
  have := below_le l h
  simp; omega
theorem mem_insU {l : List Int} {h x : Int} : x ∈ insU l h ↔ x = h ∨ x ∈ l := by
  unfold insU
  split
  · rename_i hm
    exact ⟨.inr, fun k => k.elim (fun e => e ▸ hm) id⟩
  · exact mem_ins
theorem up_insU {l : List Int} {h : Int} (hu : Up l) : Up (insU l h) := by
  unfold insU
  split
  · exact hu
  · rename_i hn; exact up_ins hu hn
theorem insU_length (l : List Int) (h : Int) : l.length ≤ (insU l h).length ∧ (insU l h).length ≤ l.length + 1 := by
  unfold insU
  split
  · omega
  · rw [ins_length]; omega
/-- rising lists of the same numbers are one -/
theorem up_ext : ∀ {a b : List Int}, Up a → Up b → (∀ x, x ∈ a ↔ x ∈ b) → a = b
  | [], [], _, _, _ => rfl
  | [], y :: b, _, _, h => by have := (h y).2 (by simp); simp at this
  | x :: a, [], _, _, h => by have := (h x).1 (by simp); simp at this
  | x :: a, y :: b, ha, hb, h => by
    obtain ⟨a1, a2⟩ := up_cons.1 ha
    obtain ⟨b1, b2⟩ := up_cons.1 hb
    have hxy : x = y := by
      have h1 := (h x).1 (by simp)
      have h2 := (h y).2 (by simp)
      rcases List.mem_cons.1 h1 with h1 | h1
      · exact h1
      · rcases List.mem_cons.1 h2 with h2 | h2
        · exact h2.symm
        · have := a1 y h2; have := b1 x h1; omega
    subst hxy
    congr 1
    refine up_ext a2 b2 fun z => ?_
    have hz := h z
    simp only [List.mem_cons] at hz
    constructor
    · intro k
      rcases hz.1 (.inr k) with e | e
      · have := a1 z k; omega
      · exact e
    · intro k
      rcases hz.2 (.inr k) with e | e
      · have := b1 z k; omega
      · exact e
theorem up_take {l : List Int} (hu : Up l) (k : Nat) : Up (l.take k) := List.Pairwise.sublist (List.take_sublist k l) hu
/-- the least k of a rising list: those with fewer than k below them -/
theorem mem_take : ∀ {l : List Int} (k : Nat) {x : Int}, Up l → (x ∈ l.take k ↔ x ∈ l ∧ below l x < k)
  | [], k, x, _ => by simp
  | y :: l, 0, x, _ => by simp
  | y :: l, k + 1, x, hu => by
    obtain ⟨h1, h2⟩ := up_cons.1 hu
    rw [List.take_succ_cons, List.mem_cons, List.mem_cons, mem_take k h2, below_cons]
    constructor
    · rintro (rfl | ⟨h3, h4⟩)
      · refine ⟨.inl rfl, ?_⟩
        rw [if_neg (by omega), below_zero (fun z hz => by have := h1 z hz; omega)]; omega
      · refine ⟨.inr h3, ?_⟩
        split <;> omega
    · rintro ⟨rfl | h3, h4⟩
      · exact .inl rfl
      · have := h1 x h3
        rw [if_pos this] at h4
        exact .inr ⟨h3, by omega⟩
theorem below_mono {a b : List Int} (ha : Up a) (hb : Up b) (h : ∀ x, x ∈ a → x ∈ b) (z : Int) : below a z ≤ below b z := by
  have hs : (a.filter fun x => decide (x < z)).Sublist (b.filter fun x => decide (x < z)) := by
    have hnd : (a.filter fun x => decide (x < z)).Nodup := List.Pairwise.filter _ (ha.imp (fun h => by omega))
    have hu1 : Up (a.filter fun x => decide (x < z)) := List.Pairwise.filter _ ha
    have hu2 : Up (b.filter fun x => decide (x < z)) := List.Pairwise.filter _ hb
    have hsub : ∀ x, x ∈ (a.filter fun x => decide (x < z)) → x ∈ (b.filter fun x => decide (x < z)) := fun x hx => by
      rw [List.mem_filter] at hx ⊢
      exact ⟨h x hx.1, hx.2⟩
    revert hu1 hu2 hsub
    generalize (a.filter fun x => decide (x < z)) = p
    generalize (b.filter fun x => decide (x < z)) = q
    intro hu1 hu2 hsub
    have e : p = q.filter (fun x => decide (x ∈ p)) := by
      refine up_ext hu1 (List.Pairwise.filter _ hu2) fun x => ?_
      rw [List.mem_filter]
      constructor
      · intro hx; exact ⟨hsub x hx, by simpa using hx⟩
      · rintro ⟨_, hx⟩; simpa using hx
    rw [e]; exact List.filter_sublist
  unfold below
  rw [List.countP_eq_length_filter, List.countP_eq_length_filter]
  exact hs.length_le
theorem len_mono {a b : List Int} (ha : Up a) (hb : Up b) (h : ∀ x, x ∈ a → x ∈ b) : a.length ≤ b.length := by
  have e : a = b.filter (fun x => decide (x ∈ a)) := by
    refine up_ext ha (List.Pairwise.filter _ hb) fun x => ?_
    rw [List.mem_filter]
    constructor
    · intro hx; exact ⟨h x hx, by simpa using hx⟩
    · rintro ⟨_, hx⟩; simpa using hx
  rw [e]; exact List.length_filter_le _ _

/-- what a counter keeps behind a number, by what it kept -/
def keepK (k : Nat) (K : List Int) (h : Int) : List Int :=
  if h ∈ K then K else if K.length = k then (if below K h = k then K else ins (K.take (k - 1)) h) else ins K h
/-- is it kept, and wasn't? -/
def freshK (k : Nat) (K : List Int) (h : Int) : Bool := decide (h ∉ K) && !(decide (K.length = k) && decide (below K h = k))
def moreK (k : Nat) (K : List Int) (h : Int) (m : Bool) : Bool := m || (decide (h ∉ K) && decide (K.length = k))

theorem below_take_eq {L : List Int} (hu : Up L) (k : Nat) (h : Int) : below (L.take k) h = min k (below L h) := by
  induction L generalizing k with
  | nil => simp [below]
  | cons y l ih =>
    obtain ⟨h1, h2⟩ := up_cons.1 hu
    cases k with
    | zero => simp [below]
    | succ k =>
      rw [List.take_succ_cons, below_cons, below_cons, ih h2]
      split
      · omega
      · rw [below_zero (fun z hz => by have := h1 z hz; omega)]; omega
theorem keep_eq {L : List Int} (hu : Up L) (k : Nat) (hk : 1 ≤ k) (h : Int) : keepK k (L.take k) h = (insU L h).take k := by
  unfold keepK
  by_cases h1 : h ∈ L.take k
  · rw [if_pos h1]
    have : h ∈ L := List.mem_of_mem_take h1
    simp [insU, this]
  · rw [if_neg h1]
    have hb := below_take_eq hu k h
    have hbl := below_le L h
    by_cases hlen : (L.take k).length = k
    · rw [if_pos hlen]
      rw [List.length_take] at hlen
      by_cases hat : below (L.take k) h = k
      · rw [if_pos hat]
        unfold insU
        split
        · rfl
        · unfold ins
          rw [List.take_append_of_le_length (by rw [List.length_take]; omega), List.take_take, Nat.min_eq_left (by omega)]
      · rw [if_neg hat]
        have hlt : below L h < k := by omega
        have hn : h ∉ L := fun hm => h1 ((mem_take k hu).2 ⟨hm, hlt⟩)
        rw [insU, if_neg hn]
        have e1 : (L.take k).take (k - 1) = L.take (k - 1) := by rw [List.take_take, Nat.min_eq_left (by omega)]
        rw [e1]
        unfold ins
        have hb2 := below_take_eq hu (k - 1) h
        have e2 : below (L.take (k - 1)) h = below L h := by omega
        have e4 : min (below L h) (k - 1) = below L h := by omega
        rw [e2, List.take_take, e4, List.drop_take]
        have e3 : (L.take (below L h)).length = below L h := by rw [List.length_take]; omega
        have e6 : min k (below L h) = below L h := by omega
        rw [List.take_append, e3, List.take_take, e6]
        obtain ⟨j, hj⟩ : ∃ j, k - below L h = j + 1 := ⟨k - below L h - 1, by omega⟩
        rw [hj, List.take_succ_cons]
        have e5 : k - 1 - below L h = j := by omega
        rw [e5]
    · rw [if_neg hlen]
      rw [List.length_take] at hlen
      have hL : L.take k = L := List.take_of_length_le (by omega)
      rw [hL] at h1 ⊢
      rw [insU, if_neg h1, List.take_of_length_le (by rw [ins_length]; omega)]
theorem fresh_eq {L : List Int} (hu : Up L) (k : Nat) (hk : 1 ≤ k) (h : Int) : freshK k (L.take k) h = (decide (h ∉ L.take k) && decide (h ∈ (insU L h).take k)) := by
  unfold freshK
  by_cases h1 : h ∈ L.take k
  · simp [h1]
  · have hk2 := keep_eq hu k hk h
    unfold keepK at hk2
    rw [if_neg h1] at hk2
    rw [← hk2]
    simp only [h1, not_false_eq_true, decide_true, Bool.true_and]
    by_cases hlen : (L.take k).length = k
    · rw [if_pos hlen]
      by_cases hat : below (L.take k) h = k
      · rw [if_pos hat]; simp [hlen, hat, h1]
      · rw [if_neg hat]; simp [hlen, hat, mem_ins]
    · rw [if_neg hlen]
      have : decide ((L.take k).length = k) = false := decide_eq_false hlen
      rw [this]; simp [mem_ins]
theorem more_eq {L : List Int} (k : Nat) (h : Int) : moreK k (L.take k) h (decide (k < L.length)) = decide (k < (insU L h).length) := by
  unfold moreK
  have hl := insU_length L h
  by_cases hm : k < L.length
  · simp [hm]; omega
  · have hL : L.take k = L := List.take_of_length_le (by omega)
    rw [hL]
    simp only [hm, decide_false, Bool.false_or]
    unfold insU
    by_cases h1 : h ∈ L
    · simp [h1, hm]
    · rw [if_neg h1, ins_length]
      simp [h1]
      omega

/-- all numbers of a list, rising, each once -/
def allOf (hs : List Int) (L : List Int) : List Int := hs.foldl insU L
theorem up_all : ∀ (hs : List Int) {L : List Int}, Up L → Up (allOf hs L)
  | [], _, h => h
  | x :: hs, _, h => up_all hs (up_insU (h := x) h)
theorem mem_all : ∀ (hs : List Int) {L : List Int} {x : Int}, x ∈ allOf hs L ↔ x ∈ hs ∨ x ∈ L
  | [], L, x => by simp [allOf]
  | y :: hs, L, x => by
    show x ∈ allOf hs (insU L y) ↔ _
    rw [mem_all hs, mem_insU, List.mem_cons]
    constructor
    · rintro (h | h | h)
      · exact .inl (.inr h)
      · exact .inl (.inl h)
      · exact .inr h
    · rintro ((h | h) | h)
      · exact .inr (.inl h)
      · exact .inl h
      · exact .inr (.inr h)
theorem up_nil : Up [] := List.Pairwise.nil
theorem all_snoc (hs : List Int) (h : Int) (L : List Int) : allOf (hs ++ [h]) L = insU (allOf hs L) h := by simp [allOf]
theorem all_congr {a b : List Int} {L M : List Int} (hL : Up L) (hM : Up M) (h : ∀ x, (x ∈ a ∨ x ∈ L) ↔ (x ∈ b ∨ x ∈ M)) : allOf a L = allOf b M :=
  up_ext (up_all a hL) (up_all b hM) fun x => by rw [mem_all, mem_all]; exact h x
theorem all_length (hs : List Int) (L : List Int) : (allOf hs L).length ≤ L.length + hs.length := by
  induction hs generalizing L with
  | nil => simp [allOf]
  | cons x hs ih =>
    have := ih (insU L x)
    have := (insU_length L x).2
    show (allOf hs (insU L x)).length ≤ _
    simp; omega
/-- merged with what another one keeps, it is as if all had come -/
theorem merge_take {L M : List Int} (hL : Up L) (hM : Up M) (k : Nat) : (allOf (M.take k) L).take k = (allOf M L).take k := by
  have u1 := up_all (M.take k) hL
  have u2 := up_all M hL
  refine up_ext (up_take u1 k) (up_take u2 k) fun x => ?_
  rw [mem_take k u1, mem_take k u2, mem_all, mem_all]
  have hsub : ∀ y, y ∈ allOf (M.take k) L → y ∈ allOf M L := fun y hy => by
    rw [mem_all] at hy ⊢
    exact hy.imp List.mem_of_mem_take id
  constructor
  · rintro ⟨h1, h2⟩
    refine ⟨h1.imp List.mem_of_mem_take id, ?_⟩
    -- fewer than k below in the smaller one: every number below x of the greater one is in the smaller one
    have e : below (allOf M L) x = below (allOf (M.take k) L) x := by
      refine Nat.le_antisymm ?_ (below_mono u1 u2 hsub x)
      by_cases hM2 : below M x < k
      · -- all of M below x is in M.take k
        have hh : ∀ y, y ∈ (allOf M L).filter (fun z => decide (z < x)) → y ∈ allOf (M.take k) L := fun y hy => by
          rw [List.mem_filter, mem_all] at hy
          obtain ⟨h3, h4⟩ := hy
          simp only [decide_eq_true_eq] at h4
          rw [mem_all]
          rcases h3 with h3 | h3
          · refine .inl ((mem_take k hM).2 ⟨h3, ?_⟩)
            refine Nat.lt_of_le_of_lt ?_ hM2
            unfold below
            exact List.countP_mono_left fun z _ hz => by simp at hz ⊢; omega
          · exact .inr h3
        have := len_mono (a := (allOf M L).filter fun z => decide (z < x)) (b := (allOf (M.take k) L).filter fun z => decide (z < x)) (List.Pairwise.filter _ u2) (List.Pairwise.filter _ u1) fun y hy => by
          rw [List.mem_filter]
          exact ⟨hh y hy, (List.mem_filter.1 hy).2⟩
        unfold below
        rw [List.countP_eq_length_filter, List.countP_eq_length_filter]; exact this
      · -- then k of M's least stand below x in the smaller one
        exfalso
        have h5 : below (M.take k) x ≤ below (allOf (M.take k) L) x := below_mono (up_take hM k) u1 (fun y hy => by rw [mem_all]; exact .inl hy) x
        have h6 := below_take_eq hM k x
        omega
    omega
  · rintro ⟨h1, h2⟩
    have hb := below_mono u1 u2 hsub x
    refine ⟨?_, by omega⟩
    rcases h1 with h1 | h1
    · refine .inl ((mem_take k hM).2 ⟨h1, ?_⟩)
      have := below_mono hM u2 (fun y hy => by rw [mem_all]; exact .inl hy) x
      omega
    · exact .inr h1
theorem merge_more {L M : List Int} (hL : Up L) (hM : Up M) (k : Nat) : (decide (k < (allOf (M.take k) L).length) || decide (k < M.length)) = decide (k < (allOf M L).length) := by
  have u1 := up_all (M.take k) hL
  have u2 := up_all M hL
  have h1 : (allOf (M.take k) L).length ≤ (allOf M L).length := len_mono u1 u2 fun y hy => by
    rw [mem_all] at hy ⊢
    exact hy.imp List.mem_of_mem_take id
  have h2 : M.length ≤ (allOf M L).length := len_mono hM u2 fun y hy => by rw [mem_all]; exact .inl hy
  by_cases hm : k < M.length
  · simp [hm]; omega
  · have : M.take k = M := List.take_of_length_le (by omega)
    rw [this]; simp [hm]
end Dist
end Go.Proofs.Ytipblbmpckfigaa

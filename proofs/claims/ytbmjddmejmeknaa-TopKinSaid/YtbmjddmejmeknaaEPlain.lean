/- Sessions: what was added, rising by person, tick, item, and the sessions of it: plain laws. No program in sight. -/
import Derived.Test.YtbmjddmejmeknaaIns
import Derived.Test.YtbmjddmejmeknaaInsG
namespace Go.Proofs.Ytbmjddmejmeknaa
set_option linter.unusedVariables false
abbrev Tri := ByteArray × Int × ByteArray
def aheadP (a b : Tri) : Prop := ltB a.1 b.1 ∨ (a.1 = b.1 ∧ (a.2.1 < b.2.1 ∨ (a.2.1 = b.2.1 ∧ ltB a.2.2 b.2.2)))
instance : DecidableRel aheadP := fun a b => inferInstanceAs (Decidable (_ ∨ _))
theorem ordA : Ordr aheadP where
  irr a h := by
    rcases h with h | ⟨_, h | ⟨_, h⟩⟩
    · exact ltB_irrefl _ h
    · omega
    · exact ltB_irrefl _ h
  trans {a b c} h k := by
    rcases h with h | ⟨e1, h⟩
    · rcases k with k | ⟨e2, k⟩
      · exact .inl (ltB_trans h k)
      · exact .inl (by rw [← e2]; exact h)
    · rcases k with k | ⟨e2, k⟩
      · exact .inl (by rw [e1]; exact k)
      · refine .inr ⟨e1.trans e2, ?_⟩
        rcases h with h | ⟨f1, h⟩
        · rcases k with k | ⟨f2, k⟩
          · exact .inl (by omega)
          · exact .inl (by omega)
        · rcases k with k | ⟨f2, k⟩
          · exact .inl (by omega)
          · exact .inr ⟨f1.trans f2, ltB_trans h k⟩
  total {a b} h := by
    by_cases e1 : a.1 = b.1
    · by_cases e2 : a.2.1 = b.2.1
      · have e3 : a.2.2 ≠ b.2.2 := fun e3 => h (Prod.ext e1 (Prod.ext e2 e3))
        rcases ltB_total e3 with k | k
        · exact .inl (.inr ⟨e1, .inr ⟨e2, k⟩⟩)
        · exact .inr (.inr ⟨e1.symm, .inr ⟨e2.symm, k⟩⟩)
      · rcases Int.lt_or_gt_of_ne e2 with k | k
        · exact .inl (.inr ⟨e1, .inl k⟩)
        · exact .inr (.inr ⟨e1.symm, .inl k⟩)
    · rcases ltB_total e1 with k | k
      · exact .inl (.inl k)
      · exact .inr (.inl k)
abbrev RiseT (L : List Tri) : Prop := RiseG aheadP L
def okT (a : Tri) : Bool := decide (1 ≤ a.1.size) && decide (a.1.size ≤ 24) && decide (1 ≤ a.2.2.size) && decide (a.2.2.size ≤ 24) && decide (0 ≤ a.2.1) && decide (a.2.1 ≤ 1099511627776)
theorem okT_iff (a : Tri) : okT a = true ↔ 1 ≤ a.1.size ∧ a.1.size ≤ 24 ∧ 1 ≤ a.2.2.size ∧ a.2.2.size ≤ 24 ∧ 0 ≤ a.2.1 ∧ a.2.1 ≤ 1099511627776 := by
  simp only [okT, Bool.and_eq_true, decide_eq_true_eq]
  constructor
  · rintro ⟨⟨⟨⟨⟨h1, h2⟩, h3⟩, h4⟩, h5⟩, h6⟩; exact ⟨h1, h2, h3, h4, h5, h6⟩
  · rintro ⟨h1, h2, h3, h4, h5, h6⟩; exact ⟨⟨⟨⟨⟨h1, h2⟩, h3⟩, h4⟩, h5⟩, h6⟩
abbrev insT (L : List Tri) (a : Tri) : List Tri := putG aheadP L a
def addT (L : List Tri) (a : Tri) : List Tri := if okT a then insT L a else L
/-- what was added, one by one -/
def addsT (L : List Tri) (l : List Tri) : List Tri := l.foldl addT L
structure SOk (L : List Tri) : Prop where
  rise : RiseT L
  ok : ∀ a ∈ L, okT a = true
theorem SOk.nil : SOk [] := ⟨by unfold RiseT RiseG; simp, by simp⟩
theorem SOk.add {L : List Tri} (h : SOk L) (a : Tri) : SOk (addT L a) := by
  unfold addT
  by_cases e : okT a
  · rw [if_pos e]
    refine ⟨putG_rise ordA h.rise a, fun b hb => ?_⟩
    rcases (putG_mem L a b).1 hb with rfl | hb
    · exact e
    · exact h.ok b hb
  · rw [if_neg e]; exact h
theorem SOk.adds {L : List Tri} (h : SOk L) (l : List Tri) : SOk (addsT L l) := by
  induction l generalizing L with
  | nil => exact h
  | cons a l ih => exact ih (h.add a)
theorem mem_add (L : List Tri) (a x : Tri) : x ∈ addT L a ↔ (x = a ∧ okT a = true) ∨ x ∈ L := by
  unfold addT
  by_cases e : okT a
  · rw [if_pos e, putG_mem]; simp [e]
  · rw [if_neg e]; simp [e]
theorem mem_adds (l : List Tri) : ∀ (L : List Tri) (x : Tri), x ∈ addsT L l ↔ (x ∈ l ∧ okT x = true) ∨ x ∈ L := by
  induction l with
  | nil => intro L x; simp [addsT]
  | cons a l ih =>
    intro L x
    show x ∈ addsT (addT L a) l ↔ _
    rw [ih, mem_add]
    constructor
    · rintro (⟨h1, h2⟩ | ⟨rfl, h⟩ | h)
      · exact .inl ⟨by simp [h1], h2⟩
      · exact .inl ⟨by simp, h⟩
      · exact .inr h
    · rintro (⟨h1, h2⟩ | h)
      · rcases List.mem_cons.1 h1 with rfl | h1
        · exact .inr (.inl ⟨rfl, h2⟩)
        · exact .inl ⟨h1, h2⟩
      · exact .inr (.inr h)
theorem SOk.ext {L M : List Tri} (h : SOk L) (k : SOk M) (e : ∀ x, x ∈ L ↔ x ∈ M) : L = M := h.rise.ext ordA k.rise e
theorem SOk.filter {L : List Tri} (h : SOk L) (p : Tri → Bool) : SOk (L.filter p) := ⟨h.rise.filter p, fun a ha => h.ok a (List.mem_filter.1 ha).1⟩
theorem addsT_snoc (L l : List Tri) (a : Tri) : addsT L (l ++ [a]) = addT (addsT L l) a := by unfold addsT; rw [List.foldl_append]; rfl
theorem add_len (L : List Tri) (a : Tri) : (addT L a).length ≤ L.length + 1 := by
  unfold addT
  split
  · unfold insT putG
    split
    · omega
    · rw [List.length_append, List.length_cons, List.length_take, List.length_drop]; omega
  · omega
theorem adds_len (l : List Tri) : ∀ (L : List Tri), (addsT L l).length ≤ L.length + l.length := by
  induction l with
  | nil => intro L; simp [addsT]
  | cons a l ih =>
    intro L
    have h1 := ih (addT L a)
    have h2 := add_len L a
    have : addsT L (a :: l) = addsT (addT L a) l := rfl
    rw [this, List.length_cons]; omega
/-- a session -/
structure Se where
  p : ByteArray
  f : Int
  t : Int
  its : List ByteArray
def extS (x : Se) (a : Tri) : Se := ⟨x.p, x.f, a.2.1, putB x.its a.2.2⟩
def newS (a : Tri) : Se := ⟨a.1, a.2.1, a.2.1, [a.2.2]⟩
def joinB (gap : Int) (x : Se) (a : Tri) : Bool := decide (x.p = a.1) && decide (a.2.1 - x.t ≤ gap)
def stepS (gap : Int) (out : List Se) (a : Tri) : List Se :=
  match out.getLast? with
  | some x => if joinB gap x a then out.dropLast ++ [extS x a] else out ++ [newS a]
  | none => [newS a]
def allS (gap : Int) (L : List Tri) : List Se := L.foldl (stepS gap) []
def runS (gap : Int) (x : Se) : List Tri → List Se
  | [] => [x]
  | a :: L => if joinB gap x a then runS gap (extS x a) L else x :: runS gap (newS a) L
theorem step_last (gap : Int) (out : List Se) (x : Se) (a : Tri) : stepS gap (out ++ [x]) a = if joinB gap x a then out ++ [extS x a] else out ++ [x] ++ [newS a] := by
  unfold stepS
  rw [List.getLast?_append]
  simp
theorem fold_run (gap : Int) : ∀ (L : List Tri) (out : List Se) (x : Se), L.foldl (stepS gap) (out ++ [x]) = out ++ runS gap x L
  | [], out, x => rfl
  | a :: L, out, x => by
    rw [List.foldl_cons, step_last, runS]
    by_cases e : joinB gap x a
    · rw [if_pos e, if_pos e, fold_run gap L]
    · rw [if_neg e, if_neg e, fold_run gap L]; simp
theorem all_cons (gap : Int) (a : Tri) (L : List Tri) : allS gap (a :: L) = runS gap (newS a) L := by
  have := fold_run gap L [] (newS a)
  simp only [List.nil_append] at this
  exact this
theorem all_snoc (gap : Int) (L : List Tri) (a : Tri) : allS gap (L ++ [a]) = stepS gap (allS gap L) a := by unfold allS; rw [List.foldl_append]; rfl
/-- whose sessions -/
theorem run_p (gap : Int) : ∀ (L : List Tri) (x s : Se), s ∈ runS gap x L → s.p = x.p ∨ ∃ a ∈ L, s.p = a.1
  | [], x, s, h => by simp [runS] at h; exact .inl (by rw [h])
  | a :: L, x, s, h => by
    rw [runS] at h
    by_cases e : joinB gap x a
    · rw [if_pos e] at h
      rcases run_p gap L _ s h with h | ⟨b, hb, h⟩
      · exact .inl h
      · exact .inr ⟨b, by simp [hb], h⟩
    · rw [if_neg e] at h
      rcases List.mem_cons.1 h with rfl | h
      · exact .inl rfl
      · rcases run_p gap L _ s h with h | ⟨b, hb, h⟩
        · exact .inr ⟨a, by simp, h⟩
        · exact .inr ⟨b, by simp [hb], h⟩
theorem all_p {gap : Int} {L : List Tri} {s : Se} (h : s ∈ allS gap L) : ∃ a ∈ L, s.p = a.1 := by
  cases L with
  | nil => simp [allS] at h
  | cons a L =>
    rw [all_cons] at h
    rcases run_p gap L _ s h with h | ⟨b, hb, h⟩
    · exact ⟨a, by simp, h⟩
    · exact ⟨b, by simp [hb], h⟩
theorem run_app (gap : Int) : ∀ (L M : List Tri) (x : Se), (∀ b ∈ M, b.1 ≠ x.p ∧ ∀ a ∈ L, a.1 ≠ b.1) → runS gap x (L ++ M) = runS gap x L ++ allS gap M
  | [], [], x, h => by simp [runS, allS]
  | [], b :: M, x, h => by
    have e : joinB gap x b = false := by
      unfold joinB
      rw [decide_eq_false (fun e => (h b (by simp)).1 e.symm), Bool.false_and]
    rw [List.nil_append, all_cons, show runS gap x (b :: M) = (if joinB gap x b then runS gap (extS x b) M else x :: runS gap (newS b) M) from rfl, e]
    rfl
  | a :: L, M, x, h => by
    rw [List.cons_append, runS, runS]
    by_cases e : joinB gap x a
    · rw [if_pos e, if_pos e, run_app gap L M (extS x a) (fun b hb => ⟨(h b hb).1, fun c hc => (h b hb).2 c (by simp [hc])⟩)]
    · rw [if_neg e, if_neg e, run_app gap L M (newS a) (fun b hb => ⟨fun c => (h b hb).2 a (by simp) c.symm, fun c hc => (h b hb).2 c (by simp [hc])⟩)]; rfl
/-- the sessions of people apart -/
theorem all_app (gap : Int) (L M : List Tri) (h : ∀ a ∈ L, ∀ b ∈ M, a.1 ≠ b.1) : allS gap (L ++ M) = allS gap L ++ allS gap M := by
  cases L with
  | nil => simp [allS]
  | cons a L =>
    rw [List.cons_append, all_cons, all_cons]
    exact run_app gap L M _ (fun b hb => ⟨fun c => h a (by simp) b hb c.symm, fun c hc => h c (by simp [hc]) b hb⟩)
/-- what rises, parted by what stands first -/
theorem part_rise {L : List Tri} (h : RiseT L) (P : Tri → Bool) (hP : ∀ a b, aheadP a b → P b = true → P a = true) : L = L.filter P ++ L.filter (fun a => !P a) := by
  refine RiseG.ext ordA h ?_ (fun x => ?_)
  · unfold RiseG
    rw [List.pairwise_append]
    refine ⟨h.filter _, h.filter _, fun a ha b hb => ?_⟩
    have ha' := (List.mem_filter.1 ha).2
    have hb' := (List.mem_filter.1 hb).2
    have hne : a ≠ b := fun e => by rw [e] at ha'; simp [ha'] at hb'
    rcases ordA.total hne with k | k
    · exact k
    · have := hP b a k ha'
      simp [this] at hb'
  · rw [List.mem_append, List.mem_filter, List.mem_filter]
    cases P x <;> simp
def ofP (L : List Tri) (p : ByteArray) : List Tri := L.filter fun a => decide (a.1 = p)
/-- of all sessions one person's -/
theorem all_of {gap : Int} {L : List Tri} (h : RiseT L) (p : ByteArray) : (allS gap L).filter (fun s => decide (s.p = p)) = allS gap (ofP L p) := by
  have h1 := part_rise h (fun a => decide (ltB a.1 p)) (fun a b hab hb => by
    simp only [decide_eq_true_eq] at hb ⊢
    rcases hab with k | ⟨e, _⟩
    · exact ltB_trans k hb
    · rw [e]; exact hb)
  have h2 := part_rise (h.filter (fun a => !decide (ltB a.1 p))) (fun a => !decide (ltB p a.1)) (fun a b hab hb => by
    simp only [Bool.not_eq_true', decide_eq_false_iff_not] at hb ⊢
    rcases hab with k | ⟨e, _⟩
    · exact fun c => hb (ltB_trans c k)
    · rw [e]; exact hb)
  rw [List.filter_filter, List.filter_filter] at h2
  have hmid : (L.filter fun a => !decide (ltB p a.1) && !decide (ltB a.1 p)) = ofP L p := by
    unfold ofP
    refine List.filter_congr fun a _ => ?_
    rw [Bool.eq_iff_iff]
    simp only [Bool.and_eq_true, Bool.not_eq_true', decide_eq_false_iff_not, decide_eq_true_eq]
    constructor
    · rintro ⟨h1, h2⟩
      rcases Decidable.em (a.1 = p) with e | e
      · exact e
      · rcases ltB_total e with k | k
        · exact absurd k h2
        · exact absurd k h1
    · rintro rfl
      exact ⟨ltB_irrefl _, ltB_irrefl _⟩
  rw [hmid] at h2
  rw [h2] at h1
  have h3 : allS gap L = allS gap (L.filter fun a => decide (ltB a.1 p)) ++ (allS gap (ofP L p) ++ allS gap (L.filter fun a => !(!decide (ltB p a.1)) && !decide (ltB a.1 p))) := by
    conv => lhs; rw [h1]
    rw [all_app, all_app]
    · intro a ha b hb e
      have ha' := (List.mem_filter.1 ha).2
      have hb' := (List.mem_filter.1 hb).2
      simp only [Bool.not_not, Bool.and_eq_true, decide_eq_true_eq, Bool.not_eq_true', decide_eq_false_iff_not] at ha' hb'
      rw [← e, ha'] at hb'
      exact ltB_irrefl _ hb'.1
    · intro a ha b hb e
      have ha' := (List.mem_filter.1 ha).2
      simp only [decide_eq_true_eq] at ha'
      rcases List.mem_append.1 hb with hb | hb
      · have hb' := (List.mem_filter.1 hb).2
        simp only [decide_eq_true_eq] at hb'
        rw [e, hb'] at ha'
        exact ltB_irrefl _ ha'
      · have hb' := (List.mem_filter.1 hb).2
        simp only [Bool.not_not, Bool.and_eq_true, decide_eq_true_eq, Bool.not_eq_true', decide_eq_false_iff_not] at hb'
        rw [← e] at hb'
        exact hb'.2 ha'
  rw [h3, List.filter_append, List.filter_append]
  have e1 : (allS gap (L.filter fun a => decide (ltB a.1 p))).filter (fun s => decide (s.p = p)) = [] := by
    refine List.filter_eq_nil_iff.2 fun s hs c => ?_
    obtain ⟨a, ha, e⟩ := all_p hs
    have ha' := (List.mem_filter.1 ha).2
    simp only [decide_eq_true_eq] at ha' c
    rw [← e, c] at ha'
    exact ltB_irrefl _ ha'
  have e2 : (allS gap (ofP L p)).filter (fun s => decide (s.p = p)) = allS gap (ofP L p) := by
    refine List.filter_eq_self.2 fun s hs => ?_
    obtain ⟨a, ha, e⟩ := all_p hs
    have ha' := (List.mem_filter.1 ha).2
    simp only [decide_eq_true_eq] at ha' ⊢
    rw [e, ha']
  have e3 : (allS gap (L.filter fun a => !(!decide (ltB p a.1)) && !decide (ltB a.1 p))).filter (fun s => decide (s.p = p)) = [] := by
    refine List.filter_eq_nil_iff.2 fun s hs c => ?_
    obtain ⟨a, ha, e⟩ := all_p hs
    have ha' := (List.mem_filter.1 ha).2
    simp only [Bool.not_not, Bool.and_eq_true, decide_eq_true_eq, Bool.not_eq_true', decide_eq_false_iff_not] at ha' c
    rw [← e, c] at ha'
    exact ltB_irrefl _ ha'.1
  rw [e1, e2, e3]; simp
/-- texts, one by one, into rising ones -/
def putAll (ks : List ByteArray) (is : List ByteArray) : List ByteArray := is.foldl putB ks
theorem putAll_mem (is : List ByteArray) : ∀ (ks : List ByteArray) (x : ByteArray), x ∈ putAll ks is ↔ x ∈ ks ∨ x ∈ is := by
  induction is with
  | nil => intro ks x; simp [putAll]
  | cons i is ih =>
    intro ks x
    show x ∈ putAll (putB ks i) is ↔ _
    rw [ih, putB_mem, List.mem_cons]
    constructor
    · rintro ((rfl | h) | h)
      · exact .inr (.inl rfl)
      · exact .inl h
      · exact .inr (.inr h)
    · rintro (h | rfl | h)
      · exact .inl (.inr h)
      · exact .inl (.inl rfl)
      · exact .inr h
theorem putAll_rise (is : List ByteArray) : ∀ {ks : List ByteArray}, Rise ks → Rise (putAll ks is) := by
  induction is with
  | nil => intro ks h; exact h
  | cons i is ih => intro ks h; exact ih (putB_rise h i)
/-- the adds of one tick, behind a session that they join -/
theorem fold_tick {gap : Int} (hg : 0 ≤ gap) (p : ByteArray) (t : Int) : ∀ (is : List ByteArray) (out : List Se) (x : Se), x.p = p → t - x.t ≤ gap → is ≠ [] →
    (is.map fun i => ((p, t, i) : Tri)).foldl (stepS gap) (out ++ [x]) = out ++ [⟨p, x.f, t, putAll x.its is⟩]
  | [], _, _, _, _, h => absurd rfl h
  | i :: is, out, x, hp, ht, _ => by
    subst hp
    rw [List.map_cons, List.foldl_cons, step_last, if_pos (by simp [joinB, ht])]
    by_cases e : is = []
    · subst e; rfl
    · rw [fold_tick hg x.p t is out (extS x (x.p, t, i)) rfl (by simp [extS]; exact hg) e]; rfl
theorem fold_tick_new {gap : Int} (hg : 0 ≤ gap) (p : ByteArray) (t : Int) (is : List ByteArray) (out : List Se) (h : ∀ x, out.getLast? = some x → ¬ (x.p = p ∧ t - x.t ≤ gap)) (hi : is ≠ []) :
    (is.map fun i => ((p, t, i) : Tri)).foldl (stepS gap) out = out ++ [⟨p, t, t, putAll [] is⟩] := by
  cases is with
  | nil => exact absurd rfl hi
  | cons i is =>
    have h1 : stepS gap out (p, t, i) = out ++ [newS (p, t, i)] := by
      unfold stepS
      cases hl : out.getLast? with
      | none => simp [List.getLast?_eq_none_iff.1 hl]
      | some x =>
        have e : joinB gap x (p, t, i) = false := by
          have := h x hl
          cases hj : joinB gap x (p, t, i) with
          | false => rfl
          | true =>
            simp only [joinB, Bool.and_eq_true, decide_eq_true_eq] at hj
            exact absurd hj this
        simp only [e]
        rfl
    rw [List.map_cons, List.foldl_cons, h1]
    by_cases e : is = []
    · subst e; rfl
    · rw [fold_tick hg p t is out (newS (p, t, i)) rfl (by simp [newS]; exact hg) e]; rfl
end Go.Proofs.Ytbmjddmejmeknaa

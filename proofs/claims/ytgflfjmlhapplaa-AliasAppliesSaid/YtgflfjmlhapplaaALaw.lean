/- Names of one thing: plain laws on groups, by what was joined. No program in sight. -/
import Derived.Test.YtgflfjmlhapplaaBase
namespace Go.Proofs.Ytgflfjmlhapplaa
set_option linter.unusedVariables false
/-- a sign that a name may have -/
def signB (c : UInt8) : Bool := (decide (97 ≤ c.toNat) && decide (c.toNat ≤ 122)) || (decide (48 ≤ c.toNat) && decide (c.toNat ≤ 57)) || decide (c.toNat = 45)
/-- is a text a name? -/
def nameB (s : ByteArray) : Bool := decide (1 ≤ s.size) && decide (s.size ≤ 24) && s.data.toList.all signB
abbrev Two := ByteArray × ByteArray
def twoB (p : Two) : Bool := nameB p.1 && nameB p.2
/-- a property that holds of both names of each two, or of none -/
def Compat (l : List Two) (f : ByteArray → Prop) : Prop := ∀ p ∈ l, twoB p = true → (f p.1 ↔ f p.2)
/-- is z of one group with x? -/
def Cls (l : List Two) (x z : ByteArray) : Prop := ∀ f, Compat l f → f x → f z
theorem Cls.refl (l : List Two) (x : ByteArray) : Cls l x x := fun _ _ h => h
/-- which names lead to which: r tells the least name of each group -/
structure AInv (M : List (ByteArray × ByteArray)) (r : ByteArray → ByteArray) : Prop where
  nd : (mkeys M).Nodup
  ok : ∀ k v, mget M k = some v → nameB k = true ∧ nameB v = true
  step : ∀ k v, mget M k = some v → ltB v k ∧ r v = r k
  top : ∀ k, mget M k = none → r k = k
theorem keys_get {α β : Type} [DecidableEq α] {M : List (α × β)} (hn : (mkeys M).Nodup) {k : α} : k ∈ mkeys M ↔ ∃ v, mget M k = some v := by
  constructor
  · intro h
    obtain ⟨p, hp, e⟩ := List.mem_map.1 h
    exact ⟨p.2, get_of_mem hn (by rw [← e]; exact hp)⟩
  · rintro ⟨v, hv⟩
    exact List.mem_map.2 ⟨(k, v), mem_of_get hv, rfl⟩
theorem get_none {α β : Type} [DecidableEq α] {M : List (α × β)} (hn : (mkeys M).Nodup) {k : α} (h : k ∉ mkeys M) : mget M k = none := by
  cases e : mget M k with
  | none => rfl
  | some v => exact absurd ((keys_get hn).2 ⟨v, e⟩) h
/-- how many keys are not above one -/
def rankA (M : List (ByteArray × ByteArray)) (c : ByteArray) : Nat := (mkeys M).countP fun k => decide (¬ ltB c k)
theorem rankA_lt {M : List (ByteArray × ByteArray)} {c v : ByteArray} (hn : (mkeys M).Nodup) (hc : c ∈ mkeys M) (hv : ltB v c) : rankA M v < rankA M c := by
  unfold rankA
  have h1 : ∀ (L : List ByteArray), L.countP (fun k => decide (¬ ltB v k)) ≤ L.countP (fun k => decide (¬ ltB c k)) := fun L =>
    List.countP_mono_left (fun k _ h => by
      simp only [decide_eq_true_eq] at *
      exact fun c' => h (ltB_trans hv c'))
  obtain ⟨a, b, e⟩ := List.append_of_mem hc
  rw [e, List.countP_append, List.countP_append, List.countP_cons, List.countP_cons]
  have h2 := h1 a
  have h3 := h1 b
  have h4 : decide (¬ ltB v c) = false := by simp [hv]
  have h5 : decide (¬ ltB c c) = true := by simp [ltB_irrefl]
  rw [h4, h5]
  simp only [Bool.false_eq_true, if_false, if_true]
  omega
theorem AInv.le_aux {M : List (ByteArray × ByteArray)} {r : ByteArray → ByteArray} (h : AInv M r) : ∀ (n : Nat) (k : ByteArray), rankA M k ≤ n → (mget M k = none ∧ r k = k) ∨ (ltB (r k) k ∧ ∃ v, mget M k = some v) := by
  intro n
  induction n with
  | zero =>
    intro k hk
    cases e : mget M k with
    | none => exact .inl ⟨rfl, h.top k e⟩
    | some v => have := rankA_lt h.nd ((keys_get h.nd).2 ⟨v, e⟩) (h.step k v e).1; omega
  | succ n ih =>
    intro k hk
    cases e : mget M k with
    | none => exact .inl ⟨rfl, h.top k e⟩
    | some v =>
      obtain ⟨h1, h2⟩ := h.step k v e
      have := rankA_lt h.nd ((keys_get h.nd).2 ⟨v, e⟩) h1
      refine .inr ⟨?_, v, rfl⟩
      rcases ih v (by omega) with ⟨_, h3⟩ | ⟨h3, _⟩
      · rw [← h2, h3]; exact h1
      · rw [← h2]; exact ltB_trans h3 h1
theorem AInv.le {M : List (ByteArray × ByteArray)} {r : ByteArray → ByteArray} (h : AInv M r) (k : ByteArray) : (mget M k = none ∧ r k = k) ∨ (ltB (r k) k ∧ ∃ v, mget M k = some v) := h.le_aux _ k (Nat.le_refl _)
theorem AInv.top_aux {M : List (ByteArray × ByteArray)} {r : ByteArray → ByteArray} (h : AInv M r) : ∀ (n : Nat) (k : ByteArray), rankA M k ≤ n → mget M (r k) = none := by
  intro n
  induction n with
  | zero =>
    intro k hk
    cases e : mget M k with
    | none => rw [h.top k e]; exact e
    | some v => have := rankA_lt h.nd ((keys_get h.nd).2 ⟨v, e⟩) (h.step k v e).1; omega
  | succ n ih =>
    intro k hk
    cases e : mget M k with
    | none => rw [h.top k e]; exact e
    | some v =>
      obtain ⟨h1, h2⟩ := h.step k v e
      have := rankA_lt h.nd ((keys_get h.nd).2 ⟨v, e⟩) h1
      rw [← h2]; exact ih v (by omega)
theorem AInv.root {M : List (ByteArray × ByteArray)} {r : ByteArray → ByteArray} (h : AInv M r) (k : ByteArray) : mget M (r k) = none := h.top_aux _ k (Nat.le_refl _)
theorem AInv.idem {M : List (ByteArray × ByteArray)} {r : ByteArray → ByteArray} (h : AInv M r) (k : ByteArray) : r (r k) = r k := h.top _ (h.root k)
theorem AInv.name_aux {M : List (ByteArray × ByteArray)} {r : ByteArray → ByteArray} (h : AInv M r) : ∀ (n : Nat) (k : ByteArray), rankA M k ≤ n → nameB k = true → nameB (r k) = true := by
  intro n
  induction n with
  | zero =>
    intro k hk hn
    cases e : mget M k with
    | none => rw [h.top k e]; exact hn
    | some v => have := rankA_lt h.nd ((keys_get h.nd).2 ⟨v, e⟩) (h.step k v e).1; omega
  | succ n ih =>
    intro k hk hn
    cases e : mget M k with
    | none => rw [h.top k e]; exact hn
    | some v =>
      obtain ⟨h1, h2⟩ := h.step k v e
      have := rankA_lt h.nd ((keys_get h.nd).2 ⟨v, e⟩) h1
      rw [← h2]; exact ih v (by omega) (h.ok k v e).2
theorem AInv.name {M : List (ByteArray × ByteArray)} {r : ByteArray → ByteArray} (h : AInv M r) {k : ByteArray} (hn : nameB k = true) : nameB (r k) = true := h.name_aux _ k (Nat.le_refl _) hn
theorem AInv.same {M : List (ByteArray × ByteArray)} {r s : ByteArray → ByteArray} (h : AInv M r) (h' : AInv M s) : r = s := by
  have : ∀ (n : Nat) (k : ByteArray), rankA M k ≤ n → r k = s k := by
    intro n
    induction n with
    | zero =>
      intro k hk
      cases e : mget M k with
      | none => rw [h.top k e, h'.top k e]
      | some v => have := rankA_lt h.nd ((keys_get h.nd).2 ⟨v, e⟩) (h.step k v e).1; omega
    | succ n ih =>
      intro k hk
      cases e : mget M k with
      | none => rw [h.top k e, h'.top k e]
      | some v =>
        have := rankA_lt h.nd ((keys_get h.nd).2 ⟨v, e⟩) (h.step k v e).1
        rw [← (h.step k v e).2, ← (h'.step k v e).2]
        exact ih v (by omega)
  exact funext fun k => this _ k (Nat.le_refl _)
theorem AInv.empty : AInv [] id := ⟨by simp [mkeys], fun k v h => (by cases h), fun k v h => (by cases h), fun k _ => rfl⟩
/-- the least names, behind a join of two groups -/
def joinR (r : ByteArray → ByteArray) (least other : ByteArray) : ByteArray → ByteArray := fun z => if r z = other then least else r z
theorem AInv.join {M : List (ByteArray × ByteArray)} {r : ByteArray → ByteArray} (h : AInv M r) {x y : ByteArray} (hx : nameB x = true) (hy : nameB y = true) (hlt : ltB (r x) (r y)) : AInv (mput M (r y) (r x)) (joinR r (r x) (r y)) where
  nd := nodup_put h.nd _ _
  ok := fun k v hk => by
    rw [get_put] at hk
    split at hk
    · rename_i e; cases hk; subst e; exact ⟨h.name hy, h.name hx⟩
    · exact h.ok k v hk
  step := fun k v hk => by
    rw [get_put] at hk
    have hne : ¬ r x = r y := fun e => ltB_irrefl (r x) (by rw [e] at hlt; rw [e]; exact hlt)
    split at hk
    · rename_i e; cases hk; subst e
      refine ⟨hlt, ?_⟩
      unfold joinR
      rw [h.idem, h.idem, if_neg hne, if_pos rfl]
    · obtain ⟨h1, h2⟩ := h.step k v hk
      exact ⟨h1, by unfold joinR; rw [h2]⟩
  top := fun k hk => by
    rw [get_put] at hk
    split at hk
    · cases hk
    · rename_i e
      have h1 := h.top k hk
      unfold joinR
      rw [h1, if_neg (fun c => e c.symm)]
/-- a name on the way goes to the least one at once -/
theorem AInv.short {M : List (ByteArray × ByteArray)} {r : ByteArray → ByteArray} (h : AInv M r) {x : ByteArray} (hx : x ≠ r x) : AInv (mput M x (r x)) r where
  nd := nodup_put h.nd _ _
  ok := fun k v hk => by
    rw [get_put] at hk
    split at hk
    · rename_i e; cases hk; subst e
      rcases h.le x with ⟨_, h1⟩ | ⟨_, v, h1⟩
      · exact absurd h1.symm hx
      · exact ⟨(h.ok x v h1).1, h.name (h.ok x v h1).1⟩
    · exact h.ok k v hk
  step := fun k v hk => by
    rw [get_put] at hk
    split at hk
    · rename_i e; cases hk; subst e
      rcases h.le x with ⟨_, h1⟩ | ⟨h1, _⟩
      · exact absurd h1.symm hx
      · exact ⟨h1, h.idem x⟩
    · exact h.step k v hk
  top := fun k hk => by
    rw [get_put] at hk
    split at hk
    · cases hk
    · exact h.top k hk
theorem AInv.short_keys {M : List (ByteArray × ByteArray)} {r : ByteArray → ByteArray} (h : AInv M r) {x : ByteArray} (hx : x ≠ r x) (v : ByteArray) : mkeys (mput M x v) = mkeys M ∧ ∃ n, mget M x = some n ∧ ltB n x ∧ r n = r x := by
  rcases h.le x with ⟨_, h1⟩ | ⟨_, n, h1⟩
  · exact absurd h1.symm hx
  · refine ⟨?_, n, h1, h.step x n h1⟩
    rw [mkeys_put, if_pos ((keys_get h.nd).2 ⟨n, h1⟩)]
/-- what aliases are, behind joins -/
structure AOf (l : List Two) (r : ByteArray → ByteArray) : Prop where
  both : ∀ p ∈ l, twoB p = true → r p.1 = r p.2
  only : ∀ f, Compat l f → ∀ z, (f (r z) ↔ f z)
theorem AOf.empty : AOf [] id := ⟨fun p h => (by cases h), fun _ _ _ => Iff.rfl⟩
theorem AOf.mono {l m : List Two} {r : ByteArray → ByteArray} (h : AOf l r) (h1 : ∀ p ∈ m, twoB p = true → r p.1 = r p.2) (h2 : ∀ p ∈ l, p ∈ m) : AOf m r :=
  ⟨h1, fun f hf z => h.only f (fun p hp => hf p (h2 p hp)) z⟩
theorem AOf.join {l : List Two} {r : ByteArray → ByteArray} (h : AOf l r) {x y a b : ByteArray} (hc : (a = x ∧ b = y) ∨ (a = y ∧ b = x)) (hx : nameB x = true) (hy : nameB y = true) : AOf (l ++ [(x, y)]) (joinR r (r a) (r b)) where
  both := fun p hp ht => by
    unfold joinR
    rcases List.mem_append.1 hp with hp | hp
    · rw [h.both p hp ht]
    · simp at hp; subst hp
      rcases hc with ⟨rfl, rfl⟩ | ⟨rfl, rfl⟩
      · simp only [if_true]; split
        · rename_i e; rw [e]
        · rfl
      · simp only [if_true]; split
        · rename_i e; rw [e]
        · rfl
  only := fun f hf z => by
    have h1 := h.only f (fun p hp => hf p (by simp [hp]))
    have h2 := hf (x, y) (by simp) (by simp [twoB, hx, hy])
    unfold joinR
    split
    · rename_i e
      rw [h1 a, ← h1 z, e, h1 b]
      rcases hc with ⟨rfl, rfl⟩ | ⟨rfl, rfl⟩
      · exact h2
      · exact h2.symm
    · exact h1 z
theorem AOf.skip {l : List Two} {r : ByteArray → ByteArray} (h : AOf l r) {p : Two} (hc : twoB p = true → r p.1 = r p.2) : AOf (l ++ [p]) r :=
  h.mono (fun q hq ht => by
    rcases List.mem_append.1 hq with hq | hq
    · exact h.both q hq ht
    · simp at hq; subst hq; exact hc ht) (fun q hq => by simp [hq])
theorem AOf.cls {l : List Two} {r : ByteArray → ByteArray} (h : AOf l r) (x z : ByteArray) : Cls l x z ↔ r z = r x := by
  constructor
  · intro hc
    exact hc (fun z => r z = r x) (fun p hp ht => by dsimp only; rw [h.both p hp ht]) rfl
  · intro e f hf hx
    rw [← h.only f hf z, e, h.only f hf x]; exact hx
theorem Cls.symm {l : List Two} {x z : ByteArray} (h : Cls l x z) : Cls l z x := fun f hf hz =>
  Classical.byContradiction fun c => h (fun y => ¬ f y) (fun p hp ht => not_congr (hf p hp ht)) c hz
theorem Cls.trans {l : List Two} {x y z : ByteArray} (h : Cls l x y) (k : Cls l y z) : Cls l x z := fun f hf hx => k f hf (h f hf hx)
theorem Cls.of_two {l : List Two} {p : Two} (hp : p ∈ l) (ht : twoB p = true) : Cls l p.1 p.2 := fun f hf h => (hf p hp ht).1 h
/-- all of one group with a name, rising -/
def GroupOf (l : List Two) (x : ByteArray) (g : List ByteArray) : Prop := if nameB x then Rise g ∧ ∀ z, z ∈ g ↔ Cls l x z else g = []
theorem GroupOf.uniq {l : List Two} {x : ByteArray} {g g' : List ByteArray} (h : GroupOf l x g) (h' : GroupOf l x g') : g = g' := by
  unfold GroupOf at h h'
  split at h
  · rename_i hx
    rw [if_pos hx] at h'
    exact h.1.ext h'.1 (fun z => by rw [h.2, h'.2])
  · rename_i hx
    rw [if_neg hx] at h'
    rw [h, h']
/-- the least of a rising list -/
theorem Rise.head {g : List ByteArray} (h : Rise g) {a : ByteArray} (ha : a ∈ g) (hm : ∀ z ∈ g, ¬ ltB z a) : g[0]? = some a := by
  cases g with
  | nil => cases ha
  | cons b g =>
    rcases List.mem_cons.1 ha with rfl | ha
    · rfl
    · exact absurd (List.rel_of_pairwise_cons h ha) (hm b (by simp))
theorem AInv.not_name {M : List (ByteArray × ByteArray)} {r : ByteArray → ByteArray} (h : AInv M r) {x : ByteArray} (hx : nameB x = false) : r x = x := by
  refine h.top x ?_
  cases e : mget M x with
  | none => rfl
  | some v => have := (h.ok x v e).1; rw [hx] at this; cases this
theorem group_head {l : List Two} {M : List (ByteArray × ByteArray)} {r : ByteArray → ByteArray} (h : AOf l r) (hi : AInv M r) {x : ByteArray} (hx : nameB x = true) {g : List ByteArray} (hg : GroupOf l x g) : g[0]? = some (r x) := by
  unfold GroupOf at hg
  rw [if_pos hx] at hg
  refine hg.1.head ((hg.2 _).2 ((h.cls x _).2 (hi.idem x))) (fun z hz c => ?_)
  have h1 := (h.cls x z).1 ((hg.2 z).1 hz)
  rcases hi.le z with ⟨_, h2⟩ | ⟨h2, _⟩
  · rw [h2] at h1; subst h1; exact ltB_irrefl _ c
  · rw [h1] at h2; exact ltB_irrefl _ (ltB_trans h2 c)
/-- the groups of the map: its least names -/
theorem AInv.end_of {l : List Two} {M : List (ByteArray × ByteArray)} {r : ByteArray → ByteArray} (h : AOf l r) (hi : AInv M r) {k : ByteArray} (hk : k ∈ mkeys M) : ∃ p ∈ l, twoB p = true ∧ (p.1 = k ∨ p.2 = k) := by
  refine Classical.byContradiction fun c => ?_
  have h1 := h.only (fun z => z = k) (fun p hp ht => ⟨fun e => absurd ⟨p, hp, ht, .inl e⟩ c, fun e => absurd ⟨p, hp, ht, .inr e⟩ c⟩) k
  obtain ⟨v, hv⟩ := (keys_get hi.nd).1 hk
  rcases hi.le k with ⟨h2, _⟩ | ⟨h2, _⟩
  · rw [hv] at h2; cases h2
  · rw [h1.2 rfl] at h2; exact ltB_irrefl _ h2
/-- the document's group, one round -/
def grow1 (l : List Two) (out : List ByteArray) : List ByteArray := l.foldl (fun o p => if twoB p && (memB o p.1 || memB o p.2) then putB (putB o p.1) p.2 else o) out
def growN (l : List Two) : Nat → List ByteArray → List ByteArray
  | 0, o => o
  | n + 1, o => grow1 l (growN l n o)
def groupR (l : List Two) (x : ByteArray) : List ByteArray := if nameB x then growN l (l.length + 1) [x] else []
def nameR (l : List Two) (x : ByteArray) : ByteArray := ((groupR l x)[0]?).getD x
def countS (l : List Two) (names : List ByteArray) (x : ByteArray) : List ByteArray := if 1 < (groupR l x).length then putB names (nameR l x) else names
def countN (l : List Two) (m : List Two) : List ByteArray := m.foldl (fun o p => countS l (countS l o p.1) p.2) []
def stepG (o : List ByteArray) (p : Two) : List ByteArray := if twoB p && (memB o p.1 || memB o p.2) then putB (putB o p.1) p.2 else o
theorem grow1_nil (o : List ByteArray) : grow1 [] o = o := rfl
theorem grow1_snoc (l : List Two) (p : Two) (o : List ByteArray) : grow1 (l ++ [p]) o = stepG (grow1 l o) p := by
  unfold grow1; rw [List.foldl_append]; rfl
theorem grow1_cons (l : List Two) (p : Two) (o : List ByteArray) : grow1 (p :: l) o = grow1 l (stepG o p) := rfl
theorem stepG_rise {o : List ByteArray} (h : Rise o) (p : Two) : Rise (stepG o p) := by
  unfold stepG; split
  · exact putB_rise (putB_rise h _) _
  · exact h
theorem stepG_sub {o : List ByteArray} (p : Two) {z : ByteArray} (h : z ∈ o) : z ∈ stepG o p := by
  unfold stepG; split
  · rw [putB_mem, putB_mem]; exact .inr (.inr h)
  · exact h
theorem stepG_only {l : List Two} {o : List ByteArray} {p : Two} (hp : p ∈ l) {f : ByteArray → Prop} (hf : Compat l f) (h : ∀ z ∈ o, f z) : ∀ z ∈ stepG o p, f z := by
  unfold stepG; split
  · rename_i hc
    simp only [Bool.and_eq_true, Bool.or_eq_true, memB_iff] at hc
    have h1 := hf p hp hc.1
    have h2 : f p.1 ∧ f p.2 := by
      rcases hc.2 with h' | h'
      · exact ⟨h _ h', h1.1 (h _ h')⟩
      · exact ⟨h1.2 (h _ h'), h _ h'⟩
    intro z hz
    rw [putB_mem, putB_mem] at hz
    rcases hz with rfl | rfl | hz
    · exact h2.2
    · exact h2.1
    · exact h z hz
  · exact h
theorem grow1_rise (l : List Two) : ∀ {o : List ByteArray}, Rise o → Rise (grow1 l o) := by
  induction l with
  | nil => exact fun h => h
  | cons p l ih => exact fun h => ih (stepG_rise h p)
theorem grow1_sub (l : List Two) : ∀ {o : List ByteArray} {z : ByteArray}, z ∈ o → z ∈ grow1 l o := by
  induction l with
  | nil => exact fun h => h
  | cons p l ih => exact fun h => ih (stepG_sub p h)
theorem grow1_only {l : List Two} {f : ByteArray → Prop} (hf : Compat l f) : ∀ (m : List Two) {o : List ByteArray}, (∀ p ∈ m, p ∈ l) → (∀ z ∈ o, f z) → ∀ z ∈ grow1 m o, f z := by
  intro m
  induction m with
  | nil => exact fun _ h => h
  | cons p m ih => exact fun hm h => ih (fun q hq => hm q (by simp [hq])) (stepG_only (hm p (by simp)) hf h)
theorem growN_rise (l : List Two) (n : Nat) {o : List ByteArray} (h : Rise o) : Rise (growN l n o) := by
  induction n with
  | zero => exact h
  | succ n ih => exact grow1_rise l ih
theorem growN_sub (l : List Two) (n : Nat) {o : List ByteArray} {z : ByteArray} (h : z ∈ o) : z ∈ growN l n o := by
  induction n with
  | zero => exact h
  | succ n ih => exact grow1_sub l ih
theorem growN_only {l : List Two} {f : ByteArray → Prop} (hf : Compat l f) (n : Nat) {o : List ByteArray} (h : ∀ z ∈ o, f z) : ∀ z ∈ growN l n o, f z := by
  induction n with
  | zero => exact h
  | succ n ih => exact grow1_only hf l (fun _ h => h) ih
/-- are both names of a two in? -/
def inB (o : List ByteArray) (p : Two) : Bool := twoB p && (memB o p.1 && memB o p.2)
def oneB (o : List ByteArray) (p : Two) : Bool := twoB p && (memB o p.1 || memB o p.2)
theorem grow1_in (l : List Two) : ∀ {o : List ByteArray} {p : Two}, p ∈ l → oneB o p = true → inB (grow1 l o) p = true := by
  induction l with
  | nil => exact fun h => by cases h
  | cons q l ih =>
    intro o p hp h1
    rw [grow1_cons]
    by_cases e : p = q
    · subst e
      have h2 : stepG o p = putB (putB o p.1) p.2 := if_pos h1
      have h3 : p.1 ∈ stepG o p := by rw [h2, putB_mem, putB_mem]; exact .inr (.inl rfl)
      have h4 : p.2 ∈ stepG o p := by rw [h2, putB_mem]; exact .inl rfl
      have h5 : twoB p = true := by unfold oneB at h1; simp only [Bool.and_eq_true] at h1; exact h1.1
      simp only [inB, h5, (memB_iff _ _).2 (grow1_sub l h3), (memB_iff _ _).2 (grow1_sub l h4)]; rfl
    · rcases List.mem_cons.1 hp with h | h
      · exact absurd h e
      · refine ih h ?_
        unfold oneB at h1 ⊢
        simp only [Bool.and_eq_true, Bool.or_eq_true, memB_iff] at h1 ⊢
        exact ⟨h1.1, h1.2.imp (stepG_sub q) (stepG_sub q)⟩
theorem grow1_fix (l : List Two) : ∀ {o : List ByteArray}, Rise o → (∀ p ∈ l, oneB o p = true → inB o p = true) → grow1 l o = o := by
  induction l with
  | nil => exact fun _ _ => rfl
  | cons q l ih =>
    intro o hr h
    rw [grow1_cons]
    have e : stepG o q = o := by
      unfold stepG
      split
      · rename_i hc
        have h1 := h q (by simp) hc
        unfold inB at h1
        simp only [Bool.and_eq_true, memB_iff] at h1
        rw [(putB_rise (putB_rise hr _) _).ext hr (fun z => by
          rw [putB_mem, putB_mem]
          exact ⟨fun c => c.elim (fun c => c ▸ h1.2.2) (fun c => c.elim (fun c => c ▸ h1.2.1) id), fun c => .inr (.inr c)⟩)]
      · rfl
    rw [e]
    exact ih hr (fun p hp => h p (by simp [hp]))
theorem inB_mono {o o' : List ByteArray} (h : ∀ z ∈ o, z ∈ o') {p : Two} (hp : inB o p = true) : inB o' p = true := by
  unfold inB at hp ⊢
  simp only [Bool.and_eq_true, memB_iff] at hp ⊢
  exact ⟨hp.1, h _ hp.2.1, h _ hp.2.2⟩
/-- either all is closed, or so many twos are in -/
theorem growN_count (l : List Two) {o : List ByteArray} (hr : Rise o) : ∀ n : Nat, (∀ p ∈ l, oneB (growN l n o) p = true → inB (growN l n o) p = true) ∨ n ≤ l.countP (inB (growN l n o)) := by
  intro n
  induction n with
  | zero => exact .inr (Nat.zero_le _)
  | succ n ih =>
    rcases Classical.em (∀ p ∈ l, oneB (growN l n o) p = true → inB (growN l n o) p = true) with hc | hc
    · left
      have : growN l (n + 1) o = growN l n o := grow1_fix l (growN_rise l n hr) hc
      rw [this]; exact hc
    · right
      have ih' : n ≤ l.countP (inB (growN l n o)) := ih.resolve_left hc
      simp only [Classical.not_forall] at hc
      obtain ⟨p, hp, h1, h2⟩ := hc
      have h3 := grow1_in l hp h1
      obtain ⟨a, b, e⟩ := List.append_of_mem hp
      have hm : ∀ (L : List Two), L.countP (inB (growN l n o)) ≤ L.countP (inB (growN l (n + 1) o)) := fun L => List.countP_mono_left (fun q _ hq => inB_mono (fun z hz => grow1_sub l hz) hq)
      have e1 := hm a
      have e2 := hm b
      have h4 : inB (growN l n o) p = false := by simpa using h2
      have h5 : inB (growN l (n + 1) o) p = true := h3
      have c1 : l.countP (inB (growN l n o)) = a.countP (inB (growN l n o)) + b.countP (inB (growN l n o)) := by
        rw [show l.countP (inB (growN l n o)) = (a ++ p :: b).countP (inB (growN l n o)) from congrArg (List.countP _) e, List.countP_append, List.countP_cons, h4]; simp
      have c2 : l.countP (inB (growN l (n + 1) o)) = a.countP (inB (growN l (n + 1) o)) + (b.countP (inB (growN l (n + 1) o)) + 1) := by
        rw [show l.countP (inB (growN l (n + 1) o)) = (a ++ p :: b).countP (inB (growN l (n + 1) o)) from congrArg (List.countP _) e, List.countP_append, List.countP_cons, h5]; simp
      omega
theorem growN_closed (l : List Two) {o : List ByteArray} (hr : Rise o) : ∀ p ∈ l, oneB (growN l (l.length + 1) o) p = true → inB (growN l (l.length + 1) o) p = true := by
  rcases growN_count l hr (l.length + 1) with h | h
  · exact h
  · have := List.countP_le_length (p := inB (growN l (l.length + 1) o)) (l := l)
    omega
theorem groupR_of (l : List Two) (x : ByteArray) : GroupOf l x (groupR l x) := by
  unfold GroupOf groupR
  by_cases hx : nameB x = true
  · rw [if_pos hx, if_pos hx]
    have hr : Rise [x] := by unfold Rise; simp
    refine ⟨growN_rise l _ hr, fun z => ⟨fun hz f hf h => ?_, fun h => ?_⟩⟩
    · exact growN_only hf _ (fun y hy => by simp at hy; subst hy; exact h) z hz
    · refine h (fun z => z ∈ growN l (l.length + 1) [x]) (fun p hp ht => ?_) (growN_sub l _ (by simp))
      have h1 := growN_closed l hr p hp
      constructor
      · intro h2
        have := h1 (by simp [oneB, ht, (memB_iff _ _).2 h2])
        simp only [inB, Bool.and_eq_true, memB_iff] at this
        exact this.2.2
      · intro h2
        have := h1 (by simp [oneB, ht, (memB_iff _ _).2 h2])
        simp only [inB, Bool.and_eq_true, memB_iff] at this
        exact this.2.1
  · rw [if_neg hx, if_neg hx]
theorem nameR_eq {l : List Two} {M : List (ByteArray × ByteArray)} {r : ByteArray → ByteArray} (h : AOf l r) (hi : AInv M r) (x : ByteArray) : nameR l x = r x := by
  unfold nameR
  cases hx : nameB x with
  | true => rw [group_head h hi hx (groupR_of l x)]; rfl
  | false => rw [hi.not_name hx]; simp [groupR, hx]
theorem two_mem {g : List ByteArray} {a b : ByteArray} (ha : a ∈ g) (hb : b ∈ g) (h : a ≠ b) : 1 < g.length := by
  match g, ha, hb with
  | [c], ha, hb => simp at ha hb; exact absurd (ha.trans hb.symm) h
  | _ :: _ :: _, _, _ => simp
/-- which least names stand for a group of more than one -/
theorem AInv.many {l : List Two} {M : List (ByteArray × ByteArray)} {r : ByteArray → ByteArray} (h : AOf l r) (hi : AInv M r) (a : ByteArray) :
    (∃ k ∈ mkeys M, r k = a) ↔ ∃ p ∈ l, (1 < (groupR l p.1).length ∧ r p.1 = a) ∨ (1 < (groupR l p.2).length ∧ r p.2 = a) := by
  have hlong : ∀ k, k ∈ mkeys M → 1 < (groupR l k).length := fun k hk => by
    obtain ⟨v, hv⟩ := (keys_get hi.nd).1 hk
    have h1 := (hi.ok k v hv).1
    have hg := groupR_of l k
    unfold GroupOf at hg
    rw [if_pos h1] at hg
    refine two_mem ((hg.2 k).2 (Cls.refl l k)) ((hg.2 (r k)).2 ((h.cls k _).2 (hi.idem k))) (fun e => ?_)
    rcases hi.le k with ⟨h2, _⟩ | ⟨h2, _⟩
    · rw [hv] at h2; cases h2
    · rw [← e] at h2; exact ltB_irrefl _ h2
  have hkey : ∀ x, 1 < (groupR l x).length → r x = a → ∃ k ∈ mkeys M, r k = a := fun x hx e => by
    have hg := groupR_of l x
    unfold GroupOf at hg
    split at hg
    · obtain ⟨z1, z2, m1, m2, hne⟩ : ∃ z1 z2, z1 ∈ groupR l x ∧ z2 ∈ groupR l x ∧ z1 ≠ z2 := by
        match hgr : groupR l x, hx, hg.1 with
        | z1 :: z2 :: t, _, hr => exact ⟨z1, z2, by simp, by simp, fun e => ltB_irrefl z1 (by have := List.rel_of_pairwise_cons hr (a' := z2) (by simp); rw [← e] at this; exact this)⟩
      have e1 := (h.cls x z1).1 ((hg.2 z1).1 m1)
      have e2 := (h.cls x z2).1 ((hg.2 z2).1 m2)
      rcases hi.le z1 with ⟨_, f1⟩ | ⟨_, v, f1⟩
      · rcases hi.le z2 with ⟨_, f2⟩ | ⟨_, v, f2⟩
        · exact absurd (f1.symm.trans (e1.trans (e2.symm.trans f2))) hne
        · exact ⟨z2, (keys_get hi.nd).2 ⟨v, f2⟩, e2.trans e⟩
      · exact ⟨z1, (keys_get hi.nd).2 ⟨v, f1⟩, e1.trans e⟩
    · rw [hg] at hx; simp at hx
  constructor
  · rintro ⟨k, hk, e⟩
    obtain ⟨p, hp, _, hpk⟩ := hi.end_of h hk
    refine ⟨p, hp, ?_⟩
    rcases hpk with rfl | rfl
    · exact .inl ⟨hlong _ hk, e⟩
    · exact .inr ⟨hlong _ hk, e⟩
  · rintro ⟨p, hp, ⟨h1, e⟩ | ⟨h1, e⟩⟩
    · exact hkey _ h1 e
    · exact hkey _ h1 e
theorem countS_rise {l : List Two} {o : List ByteArray} (h : Rise o) (x : ByteArray) : Rise (countS l o x) := by
  unfold countS; split
  · exact putB_rise h _
  · exact h
theorem countS_mem {l : List Two} {o : List ByteArray} (x a : ByteArray) : a ∈ countS l o x ↔ a ∈ o ∨ (1 < (groupR l x).length ∧ nameR l x = a) := by
  unfold countS; split
  · rename_i hc
    rw [putB_mem]
    exact ⟨fun h => h.elim (fun h => .inr ⟨hc, h.symm⟩) .inl, fun h => h.elim .inr (fun h => .inl h.2.symm)⟩
  · rename_i hc
    exact ⟨.inl, fun h => h.elim id (fun h => absurd h.1 hc)⟩
theorem countN_snoc (l m : List Two) (p : Two) : countN l (m ++ [p]) = countS l (countS l (countN l m) p.1) p.2 := by
  unfold countN; rw [List.foldl_append]; rfl
theorem countN_rise (l : List Two) : ∀ (m : List Two) {o : List ByteArray}, Rise o → Rise (m.foldl (fun o p => countS l (countS l o p.1) p.2) o) := by
  intro m
  induction m with
  | nil => exact fun h => h
  | cons p m ih => exact fun h => ih (countS_rise (countS_rise h _) _)
theorem countN_mem (l : List Two) (a : ByteArray) : ∀ (m : List Two) (o : List ByteArray), a ∈ m.foldl (fun o p => countS l (countS l o p.1) p.2) o ↔ a ∈ o ∨ ∃ p ∈ m, (1 < (groupR l p.1).length ∧ nameR l p.1 = a) ∨ (1 < (groupR l p.2).length ∧ nameR l p.2 = a) := by
  intro m
  induction m with
  | nil => intro o; simp
  | cons p m ih =>
    intro o
    rw [List.foldl_cons, ih, countS_mem, countS_mem]
    constructor
    · rintro (((h | h) | h) | ⟨q, hq, h⟩)
      · exact .inl h
      · exact .inr ⟨p, by simp, .inl h⟩
      · exact .inr ⟨p, by simp, .inr h⟩
      · exact .inr ⟨q, by simp [hq], h⟩
    · rintro (h | ⟨q, hq, h⟩)
      · exact .inl (.inl (.inl h))
      · rcases List.mem_cons.1 hq with rfl | hq
        · rcases h with h | h
          · exact .inl (.inl (.inr h))
          · exact .inl (.inr h)
        · exact .inr ⟨q, hq, h⟩
theorem count_eq {l : List Two} {M : List (ByteArray × ByteArray)} {r : ByteArray → ByteArray} (h : AOf l r) (hi : AInv M r) {K : List ByteArray} (hn : K.Nodup) (hK : ∀ a, a ∈ K ↔ ∃ k ∈ mkeys M, r k = a) : K.length = (countN l l).length := by
  have hr : Rise (countN l l) := countN_rise l l (by unfold Rise; simp)
  refine (List.perm_ext_iff_of_nodup hn hr.nodup |>.2 (fun a => ?_)).length_eq
  rw [hK, hi.many h]
  unfold countN
  rw [countN_mem]
  simp only [List.not_mem_nil, false_or, nameR_eq h hi]
end Go.Proofs.Ytgflfjmlhapplaa

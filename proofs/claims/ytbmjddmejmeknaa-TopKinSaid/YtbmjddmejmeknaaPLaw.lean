/- What panes hold, as a list of what was added: plain laws, no program in sight. -/
import Derived.Test.YtbmjddmejmeknaaMap
namespace Go.Proofs.Ytbmjddmejmeknaa.Pn
set_option linter.unusedVariables false

/-- a key, a pane, a number -/
abbrev Ad := ByteArray × Int × Int
/-- of a key the sum in one pane -/
def sget : List Ad → ByteArray → Int → Int
  | [], _, _ => 0
  | x :: A, k, n => (if x.1 = k ∧ x.2.1 = n then x.2.2 else 0) + sget A k n
/-- of a key the sum in panes from lo on, below hi -/
def psum : List Ad → ByteArray → Int → Int → Int
  | [], _, _, _ => 0
  | x :: A, k, lo, hi => (if x.1 = k ∧ lo ≤ x.2.1 ∧ x.2.1 < hi then x.2.2 else 0) + psum A k lo hi
/-- of a list of panes the sum of those from lo on, below hi -/
def rowsum (S : Int → Int) : List Int → Int → Int → Int
  | [], _, _ => 0
  | n :: l, lo, hi => (if lo ≤ n ∧ n < hi then S n else 0) + rowsum S l lo hi
def AdOk (x : Ad) : Prop := 1 ≤ x.1.size ∧ x.1.size ≤ 24 ∧ 0 ≤ x.2.1 ∧ x.2.1 ≤ 1099511627776 ∧ 0 ≤ x.2.2 ∧ x.2.2 ≤ 1048576
theorem sget_append (A B : List Ad) (k : ByteArray) (n : Int) : sget (A ++ B) k n = sget A k n + sget B k n := by
  induction A with
  | nil => simp [sget]
  | cons x A ih => simp only [List.cons_append, sget, ih]; omega
theorem psum_append (A B : List Ad) (k : ByteArray) (lo hi : Int) : psum (A ++ B) k lo hi = psum A k lo hi + psum B k lo hi := by
  induction A with
  | nil => simp [psum]
  | cons x A ih => simp only [List.cons_append, psum, ih]; omega
theorem psum_perm {A B : List Ad} (h : A.Perm B) (k : ByteArray) (lo hi : Int) : psum A k lo hi = psum B k lo hi := by
  induction h with
  | nil => rfl
  | cons x _ ih => simp only [psum, ih]
  | swap x y l => simp only [psum]; omega
  | trans _ _ h1 h2 => rw [h1, h2]
theorem sget_nonneg : ∀ {A : List Ad}, (∀ x ∈ A, AdOk x) → ∀ k n, 0 ≤ sget A k n
  | [], _, _, _ => by simp [sget]
  | x :: A, h, k, n => by
    have h1 := sget_nonneg (A := A) (fun y hy => h y (by simp [hy])) k n
    have h2 := h x (by simp)
    unfold AdOk at h2
    simp only [sget]; split <;> omega
theorem sget_le : ∀ {A : List Ad}, (∀ x ∈ A, AdOk x) → ∀ k n, sget A k n ≤ A.length * 1048576
  | [], _, _, _ => by simp [sget]
  | x :: A, h, k, n => by
    have h1 := sget_le (A := A) (fun y hy => h y (by simp [hy])) k n
    have h2 := h x (by simp)
    unfold AdOk at h2
    simp only [sget, List.length_cons]; split <;> omega
theorem psum_nonneg : ∀ {A : List Ad}, (∀ x ∈ A, AdOk x) → ∀ k lo hi, 0 ≤ psum A k lo hi
  | [], _, _, _, _ => by simp [psum]
  | x :: A, h, k, lo, hi => by
    have h1 := psum_nonneg (A := A) (fun y hy => h y (by simp [hy])) k lo hi
    have h2 := h x (by simp)
    unfold AdOk at h2
    simp only [psum]; split <;> omega
theorem psum_le : ∀ {A : List Ad}, (∀ x ∈ A, AdOk x) → ∀ k lo hi, psum A k lo hi ≤ A.length * 1048576
  | [], _, _, _, _ => by simp [psum]
  | x :: A, h, k, lo, hi => by
    have h1 := psum_le (A := A) (fun y hy => h y (by simp [hy])) k lo hi
    have h2 := h x (by simp)
    unfold AdOk at h2
    simp only [psum, List.length_cons]; split <;> omega
theorem psum_step (A : List Ad) (k : ByteArray) (lo hi : Int) (h : lo ≤ hi) : psum A k lo (hi + 1) = psum A k lo hi + sget A k hi := by
  induction A with
  | nil => simp [psum, sget]
  | cons x A ih =>
    simp only [psum, sget, ih]
    by_cases h1 : x.1 = k
    · by_cases h2 : x.2.1 = hi
      · rw [if_pos ⟨h1, by omega, by omega⟩, if_neg (by omega), if_pos ⟨h1, h2⟩]; omega
      · by_cases h3 : lo ≤ x.2.1 ∧ x.2.1 < hi
        · rw [if_pos ⟨h1, by omega, by omega⟩, if_pos ⟨h1, h3.1, h3.2⟩, if_neg (fun e => h2 e.2)]; omega
        · rw [if_neg (fun e => h3 ⟨e.2.1, by omega⟩), if_neg (fun e => h3 e.2), if_neg (fun e => h2 e.2)]; omega
    · rw [if_neg (fun e => h1 e.1), if_neg (fun e => h1 e.1), if_neg (fun e => h1 e.1)]; omega
theorem psum_empty (A : List Ad) (k : ByteArray) {lo hi : Int} (h : hi ≤ lo) : psum A k lo hi = 0 := by
  induction A with
  | nil => rfl
  | cons x A ih => simp only [psum, ih]; rw [if_neg (by omega)]; rfl
theorem psum_parts (A : List Ad) (k : ByteArray) {a b c : Int} (h : a ≤ b) (h' : b ≤ c) : psum A k a c = psum A k a b + psum A k b c := by
  induction A with
  | nil => rfl
  | cons x A ih =>
    simp only [psum, ih]
    by_cases h1 : x.1 = k
    · by_cases h2 : x.2.1 < b
      · by_cases h3 : a ≤ x.2.1
        · rw [if_pos ⟨h1, by omega, by omega⟩, if_pos ⟨h1, h3, h2⟩, if_neg (by omega)]; omega
        · rw [if_neg (by omega), if_neg (by omega), if_neg (by omega)]; omega
      · by_cases h3 : x.2.1 < c
        · rw [if_pos ⟨h1, by omega, by omega⟩, if_neg (by omega), if_pos ⟨h1, by omega, h3⟩]; omega
        · rw [if_neg (by omega), if_neg (by omega), if_neg (by omega)]; omega
    · rw [if_neg (fun e => h1 e.1), if_neg (fun e => h1 e.1), if_neg (fun e => h1 e.1)]; omega
theorem rowsum_congr {S T : Int → Int} {l : List Int} (h : ∀ n ∈ l, S n = T n) (lo hi : Int) : rowsum S l lo hi = rowsum T l lo hi := by
  induction l with
  | nil => rfl
  | cons n l ih => simp only [rowsum, ih (fun m hm => h m (by simp [hm])), h n (by simp)]
theorem rowsum_add (S T : Int → Int) (l : List Int) (lo hi : Int) : rowsum (fun n => S n + T n) l lo hi = rowsum S l lo hi + rowsum T l lo hi := by
  induction l with
  | nil => rfl
  | cons n l ih => simp only [rowsum, ih]; split <;> omega
theorem rowsum_zero {S : Int → Int} {l : List Int} (h : ∀ n ∈ l, S n = 0) (lo hi : Int) : rowsum S l lo hi = 0 := by
  induction l with
  | nil => rfl
  | cons n l ih => simp only [rowsum, ih (fun m hm => h m (by simp [hm])), h n (by simp)]; simp
theorem rowsum_one {l : List Int} (hn : l.Nodup) {q : Int} (hq : q ∈ l) (c : Int) (lo hi : Int) : rowsum (fun n => if q = n then c else 0) l lo hi = if lo ≤ q ∧ q < hi then c else 0 := by
  induction l with
  | nil => cases hq
  | cons n l ih =>
    have hn' := List.nodup_cons.1 hn
    simp only [rowsum]
    by_cases e : q = n
    · subst e
      rw [rowsum_zero (fun m hm => if_neg (fun e => hn'.1 (by rw [e]; exact hm)))]
      simp
    · rw [ih hn'.2 (by rcases List.mem_cons.1 hq with h | h; exact absurd h e; exact h), if_neg e]
      simp
/-- a row that has all panes with a sum tells a key's sums -/
theorem psum_row {A : List Ad} {k : ByteArray} {l : List Int} (hn : l.Nodup) (hc : ∀ x ∈ A, x.1 = k → x.2.2 ≠ 0 → x.2.1 ∈ l) (lo hi : Int) : psum A k lo hi = rowsum (sget A k) l lo hi := by
  induction A with
  | nil => rw [rowsum_zero (S := sget [] k) (fun n _ => rfl)]; rfl
  | cons x A ih =>
    have ih' := ih (fun y hy => hc y (by simp [hy]))
    have e : rowsum (sget (x :: A) k) l lo hi = rowsum (fun n => if x.1 = k ∧ x.2.1 = n then x.2.2 else 0) l lo hi + rowsum (sget A k) l lo hi := by
      rw [← rowsum_add]; rfl
    rw [e, ← ih', psum]
    by_cases hk : x.1 = k
    · by_cases h0 : x.2.2 = 0
      · rw [rowsum_zero (fun n _ => by rw [h0]; simp), h0]; simp
      · have h1 := rowsum_one hn (hc x (by simp) hk h0) x.2.2 lo hi
        have h2 : rowsum (fun n => if x.1 = k ∧ x.2.1 = n then x.2.2 else 0) l lo hi = rowsum (fun n => if x.2.1 = n then x.2.2 else 0) l lo hi := rowsum_congr (fun n _ => by simp [hk]) lo hi
        rw [h2, h1]
        simp [hk]
    · rw [rowsum_zero (fun n _ => if_neg (fun e => hk e.1)), if_neg (fun e => hk e.1)]
theorem rowsum_append (S : Int → Int) (l m : List Int) (lo hi : Int) : rowsum S (l ++ m) lo hi = rowsum S l lo hi + rowsum S m lo hi := by
  induction l with
  | nil => simp [rowsum]
  | cons n l ih => simp only [List.cons_append, rowsum, ih]; omega
theorem sget_of_mem {A : List Ad} (ha : ∀ x ∈ A, AdOk x) {x : Ad} (hx : x ∈ A) (h0 : x.2.2 ≠ 0) : sget A x.1 x.2.1 ≠ 0 := by
  obtain ⟨l1, l2, rfl⟩ := List.append_of_mem hx
  have h1 := sget_nonneg (A := l1) (fun y hy => ha y (by simp [hy])) x.1 x.2.1
  have h2 := sget_nonneg (A := l2) (fun y hy => ha y (by simp [hy])) x.1 x.2.1
  have h3 := ha x hx
  unfold AdOk at h3
  rw [sget_append]
  simp only [sget, and_self, if_true]
  omega
theorem mem_of_sget {A : List Ad} {k : ByteArray} {n : Int} (h : sget A k n ≠ 0) : ∃ x ∈ A, x.1 = k ∧ x.2.1 = n ∧ x.2.2 ≠ 0 := by
  induction A with
  | nil => exact absurd rfl h
  | cons x A ih =>
    simp only [sget] at h
    by_cases h1 : x.1 = k ∧ x.2.1 = n
    · by_cases h2 : x.2.2 = 0
      · obtain ⟨y, hy, e⟩ := ih (by rw [if_pos h1, h2] at h; simpa using h)
        exact ⟨y, by simp [hy], e⟩
      · exact ⟨x, by simp, h1.1, h1.2, h2⟩
    · obtain ⟨y, hy, e⟩ := ih (by rw [if_neg h1] at h; simpa using h)
      exact ⟨y, by simp [hy], e⟩
theorem nodup_length {α : Type} : ∀ {l m : List α}, l.Nodup → (∀ x ∈ l, x ∈ m) → l.length ≤ m.length
  | [], _, _, _ => by simp
  | x :: l, m, hn, hs => by
    have hn' := List.nodup_cons.1 hn
    obtain ⟨a, b, rfl⟩ := List.append_of_mem (hs x (by simp))
    have := nodup_length (m := a ++ b) hn'.2 (fun y hy => by
      have h1 := hs y (by simp [hy])
      have h2 : y ≠ x := fun e => hn'.1 (e ▸ hy)
      simp [h2] at h1
      simpa using h1)
    simp at this ⊢
    omega
/-- the pane of a tick, rounded down -/
def paneOf (wd at_ : Int) : Int := at_ / wd
/-- which map of sums, and which rows, tell what was added -/
structure PInv (A : List Ad) (sm : List ((ByteArray × Int) × Int)) (rw : List (ByteArray × (Value × List Int))) : Prop where
  nds : (mkeys sm).Nodup
  ndr : (mkeys rw).Nodup
  sums : ∀ k n, mget sm (k, n) = if sget A k n = 0 then none else some (sget A k n)
  absent : ∀ k, mget rw k = none → ∀ n, sget A k n = 0
  present : ∀ k v l, mget rw k = some (v, l) → l ≠ [] ∧ l.Nodup ∧ ∀ n, n ∈ l ↔ sget A k n ≠ 0
def rowL (rw : List (ByteArray × (Value × List Int))) (k : ByteArray) : List Int := ((mget rw k).getD (.slice none 0 0, [])).2
def rowV (rw : List (ByteArray × (Value × List Int))) (k : ByteArray) : Value := ((mget rw k).getD (.slice none 0 0, [])).1
theorem PInv.row {A : List Ad} {sm : List ((ByteArray × Int) × Int)} {rw : List (ByteArray × (Value × List Int))} (h : PInv A sm rw) (k : ByteArray) : (rowL rw k).Nodup ∧ ∀ n, n ∈ rowL rw k ↔ sget A k n ≠ 0 := by
  unfold rowL
  cases hk : mget rw k with
  | none => exact ⟨by simp, fun n => by simp [h.absent k hk n]⟩
  | some x => exact ⟨(h.present k x.1 x.2 hk).2.1, (h.present k x.1 x.2 hk).2.2⟩
theorem PInv.psum {A : List Ad} {sm : List ((ByteArray × Int) × Int)} {rw : List (ByteArray × (Value × List Int))} (h : PInv A sm rw) (ha : ∀ x ∈ A, AdOk x) (k : ByteArray) (lo hi : Int) : psum A k lo hi = rowsum (sget A k) (rowL rw k) lo hi :=
  psum_row (h.row k).1 (fun x hx e h0 => ((h.row k).2 _).2 (by rw [← e]; exact sget_of_mem ha hx h0)) lo hi
theorem PInv.len {A : List Ad} {sm : List ((ByteArray × Int) × Int)} {rw : List (ByteArray × (Value × List Int))} (h : PInv A sm rw) (k : ByteArray) : (rowL rw k).length ≤ A.length := by
  have h1 : ∀ n ∈ rowL rw k, n ∈ A.map (·.2.1) := fun n hn => by
    obtain ⟨x, hx, _, e, _⟩ := mem_of_sget (((h.row k).2 n).1 hn)
    exact List.mem_map.2 ⟨x, hx, e⟩
  simpa using nodup_length (h.row k).1 h1
end Go.Proofs.Ytbmjddmejmeknaa.Pn

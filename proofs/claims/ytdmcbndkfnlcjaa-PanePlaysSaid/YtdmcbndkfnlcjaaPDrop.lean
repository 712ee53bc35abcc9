/- What panes hold while some of it is dropped: plain laws. -/
import Derived.Test.YtdmcbndkfnlcjaaPCopy
namespace Go.Proofs.Ytdmcbndkfnlcjaa
open Go.RowKit Go.MapKept Go.Maps
set_option linter.unusedVariables false
/-- PInv of sums that are told by a function -/
structure PInvS (S : ByteArray → Int → Int) (sm : List (CK × Int)) (rw : Rows) : Prop where
  nds : (mkeys sm).Nodup
  ndr : (mkeys rw).Nodup
  sums : ∀ k n, mget sm (k, n) = if S k n = 0 then none else some (S k n)
  absent : ∀ k, mget rw k = none → ∀ n, S k n = 0
  present : ∀ k v l, mget rw k = some (v, l) → l ≠ [] ∧ l.Nodup ∧ ∀ n, n ∈ l ↔ S k n ≠ 0
theorem PInv.toS {A : List Ad} {sm : List (CK × Int)} {rw : Rows} (h : PInv A sm rw) : PInvS (sget A) sm rw := ⟨h.nds, h.ndr, h.sums, h.absent, h.present⟩
theorem PInvS.ofS {A : List Ad} {S : ByteArray → Int → Int} {sm : List (CK × Int)} {rw : Rows} (h : PInvS S sm rw) (e : ∀ k n, S k n = sget A k n) : PInv A sm rw :=
  ⟨h.nds, h.ndr, fun k n => by rw [← e]; exact h.sums k n, fun k hk n => by rw [← e]; exact h.absent k hk n, fun k v l hk => by
    obtain ⟨h1, h2, h3⟩ := h.present k v l hk
    exact ⟨h1, h2, fun n => by rw [← e]; exact h3 n⟩⟩
/-- what is left of sums, panes below least of the keys in done being gone -/
def leftS (S : ByteArray → Int → Int) (least : Int) : List ByteArray → ByteArray → Int → Int
  | [], k, n => S k n
  | j :: done, k, n => if j = k ∧ n < least then 0 else leftS S least done k n
theorem leftS_in {S : ByteArray → Int → Int} {least : Int} {done : List ByteArray} {k : ByteArray} {n : Int} (hk : k ∈ done) (hn : n < least) : leftS S least done k n = 0 := by
  induction done with
  | nil => cases hk
  | cons j done ih =>
    rw [leftS]
    by_cases e : j = k
    · rw [if_pos ⟨e, hn⟩]
    · rw [if_neg (fun c => e c.1)]
      exact ih (by rcases List.mem_cons.1 hk with h | h; exact absurd h.symm e; exact h)
theorem leftS_out {S : ByteArray → Int → Int} {least : Int} {done : List ByteArray} {k : ByteArray} {n : Int} (h : k ∉ done ∨ ¬ n < least) : leftS S least done k n = S k n := by
  induction done with
  | nil => rfl
  | cons j done ih =>
    rw [leftS, if_neg (fun c => by rcases h with h | h; exact h (by simp [c.1]); exact h c.2)]
    exact ih (h.imp (fun h c => h (by simp [c])) id)
/-- the sums behind some deletes of one key -/
def delS (sm : List (CK × Int)) (k : ByteArray) : List Int → List (CK × Int)
  | [] => sm
  | n :: l => delS (mdel sm (k, n)) k l
theorem delS_snoc (sm : List (CK × Int)) (k : ByteArray) (l : List Int) (n : Int) : delS sm k (l ++ [n]) = mdel (delS sm k l) (k, n) := by
  induction l generalizing sm with
  | nil => rfl
  | cons m l ih => exact ih _
theorem delS_nd {sm : List (CK × Int)} (h : (mkeys sm).Nodup) (k : ByteArray) (l : List Int) : (mkeys (delS sm k l)).Nodup := by
  induction l generalizing sm with
  | nil => exact h
  | cons m l ih => exact ih (nodup_del h _)
theorem delS_get {sm : List (CK × Int)} (h : (mkeys sm).Nodup) (k : ByteArray) (l : List Int) (j : ByteArray) (n : Int) : mget (delS sm k l) (j, n) = if k = j ∧ n ∈ l then none else mget sm (j, n) := by
  induction l generalizing sm with
  | nil => simp [delS]
  | cons m l ih =>
    rw [delS, ih (nodup_del h _), get_del h]
    by_cases e : k = j
    · subst e
      by_cases e2 : n ∈ l
      · simp [e2]
      · by_cases e3 : n = m
        · subst e3; simp
        · have : (k, m) ≠ (k, n) := fun c => e3 (Prod.mk.inj c).2.symm
          simp [e2, e3, Ne.symm e3]
    · have : (k, m) ≠ (j, n) := fun c => e (Prod.mk.inj c).1
      simp [e]
def lowOf (least : Int) (l : List Int) : List Int := l.filter fun n => decide (n < least)
def highOf (least : Int) (l : List Int) : List Int := l.filter fun n => decide (least ≤ n)
/-- a key more is done -/
theorem PInvS.step {S : ByteArray → Int → Int} {sm : List (CK × Int)} {rw : Rows} {least : Int} {done : List ByteArray} {k : ByteArray} {u v : Value} {l : List Int} (h : PInvS (leftS S least done) sm rw) (hk : k ∉ done) (hg : mget rw k = some (u, l)) :
    PInvS (leftS S least (k :: done)) (delS sm k (lowOf least l)) (if highOf least l = [] then mdel rw k else mput rw k (v, highOf least l)) := by
  obtain ⟨h1, h2, h3⟩ := h.present k u l hg
  have hS : ∀ j n, leftS S least (k :: done) j n = if k = j ∧ n < least then 0 else leftS S least done j n := fun j n => rfl
  have hnd : (mkeys (if highOf least l = [] then mdel rw k else mput rw k (v, highOf least l))).Nodup := by
    split
    · exact nodup_del h.ndr _
    · exact nodup_put h.ndr _ _
  refine ⟨delS_nd h.nds _ _, hnd, fun j n => ?_, fun j hj n => ?_, fun j v' l' hj => ?_⟩
  · rw [delS_get h.nds, h.sums, hS]
    by_cases e : k = j
    · subst e
      by_cases e2 : n < least
      · by_cases e3 : n ∈ l
        · rw [if_pos ⟨rfl, by simp [lowOf, e2, e3]⟩]; simp [e2]
        · have h0 : leftS S least done k n = 0 := Decidable.byContradiction fun c => e3 ((h3 n).2 c)
          rw [if_neg (by simp [lowOf, e3])]; simp [e2, h0]
      · rw [if_neg (by simp [lowOf, e2])]; simp [e2]
    · rw [if_neg (fun c => e c.1), show (if k = j ∧ n < least then 0 else leftS S least done j n) = leftS S least done j n from if_neg (fun c => e c.1)]
  · rw [hS]
    by_cases e : k = j
    · subst e
      by_cases hh : highOf least l = []
      · by_cases e2 : n < least
        · rw [if_pos ⟨rfl, e2⟩]
        · rw [if_neg (fun c => e2 c.2)]
          refine Decidable.byContradiction fun c => ?_
          have : n ∈ highOf least l := by simp [highOf, (h3 n).2 c]; omega
          rw [hh] at this; cases this
      · rw [if_neg hh, get_put, if_pos rfl] at hj; cases hj
    · rw [if_neg (fun c => e c.1)]
      refine h.absent j ?_ n
      split at hj
      · rw [get_del h.ndr, if_neg e] at hj; exact hj
      · rw [get_put, if_neg e] at hj; exact hj
  · by_cases e : k = j
    · subst e
      by_cases hh : highOf least l = []
      · rw [if_pos hh, get_del h.ndr, if_pos rfl] at hj; cases hj
      · rw [if_neg hh, get_put, if_pos rfl] at hj
        cases hj
        refine ⟨hh, h2.sublist List.filter_sublist, fun n => ?_⟩
        rw [hS]
        by_cases e2 : n < least
        · rw [if_pos ⟨rfl, e2⟩]
          simp [highOf]; omega
        · rw [if_neg (fun c => e2 c.2), ← h3]
          simp [highOf]; omega
    · have hj' : mget rw j = some (v', l') := by
        split at hj
        · rw [get_del h.ndr, if_neg e] at hj; exact hj
        · rw [get_put, if_neg e] at hj; exact hj
      obtain ⟨g1, g2, g3⟩ := h.present j v' l' hj'
      exact ⟨g1, g2, fun n => by rw [hS, if_neg (fun c => e c.1)]; exact g3 n⟩
end Go.Proofs.Ytdmcbndkfnlcjaa

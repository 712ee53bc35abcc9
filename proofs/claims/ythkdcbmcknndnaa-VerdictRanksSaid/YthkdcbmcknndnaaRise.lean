/- Texts, rising. No program in sight. -/
import Derived.Test.YthkdcbmcknndnaaCells
import Derived.Sort.OwnSorted
import Derived.Sort.Walk0
import Derived.Laws.Strings
namespace Go.Proofs.Ythkdcbmcknndnaa
open Go.RowKit Go.Sort
set_option linter.unusedVariables false
def ltB (a b : ByteArray) : Prop := a.data.toList < b.data.toList
instance (a b : ByteArray) : Decidable (ltB a b) := inferInstanceAs (Decidable (a.data.toList < b.data.toList))
theorem byte_ext {a b : ByteArray} (h : a.data.toList = b.data.toList) : a = b := by
  cases a; cases b
  simp only [ByteArray.mk.injEq]
  exact Array.toList_inj.1 h
theorem ltB_irrefl (a : ByteArray) : ¬ ltB a a := List.lt_irrefl _
theorem ltB_trans {a b c : ByteArray} (h : ltB a b) (k : ltB b c) : ltB a c := List.lt_trans h k
theorem ltB_asymm {a b : ByteArray} (h : ltB a b) : ¬ ltB b a := fun k => ltB_irrefl a (ltB_trans h k)
theorem ltB_total {a b : ByteArray} (h : a ≠ b) : ltB a b ∨ ltB b a := by
  rcases Decidable.em (ltB a b) with h1 | h1
  · exact .inl h1
  rcases Decidable.em (ltB b a) with h2 | h2
  · exact .inr h2
  exact absurd (byte_ext (List.le_antisymm (List.not_lt.1 h2) (List.not_lt.1 h1))) h
theorem bytesLess_lt (a b : ByteArray) : Op.bytesLess a.toList b.toList = decide (ltB a b) := by
  rw [Go.ByteArray.toList_eq, Go.ByteArray.toList_eq, bytesLess_eq]
  exact decide_eq_decide.2 Iff.rfl
theorem bytesEq (a b : ByteArray) : (a.toList == b.toList) = decide (a = b) := by
  rw [Go.ByteArray.toList_eq, Go.ByteArray.toList_eq, Bool.eq_iff_iff]
  simp only [beq_iff_eq, decide_eq_true_eq]
  exact ⟨byte_ext, fun e => by rw [e]⟩
/-- texts, each above the one ahead -/
def Rise (l : List ByteArray) : Prop := l.Pairwise ltB
theorem Rise.nodup {l : List ByteArray} (h : Rise l) : l.Nodup := List.Pairwise.imp (S := fun a b => a ≠ b) (fun {a b} (h : ltB a b) (e : a = b) => ltB_irrefl a (by rw [← e] at h; exact h)) h
theorem Rise.ext {l m : List ByteArray} (hl : Rise l) (hm : Rise m) (h : ∀ x, x ∈ l ↔ x ∈ m) : l = m := by
  have hp : l.Perm m := by
    refine List.perm_ext_iff_of_nodup hl.nodup hm.nodup |>.2 h
  exact hp.eq_of_pairwise (fun a b _ _ h1 h2 => absurd h2 (ltB_asymm h1)) hl hm
def sortB (l : List ByteArray) : List ByteArray := l.mergeSort (fun a b => decide (a.data.toList ≤ b.data.toList))
theorem sortB_perm (l : List ByteArray) : (sortB l).Perm l := List.mergeSort_perm _ _
theorem sortB_rise {l : List ByteArray} (hn : l.Nodup) : Rise (sortB l) := by
  have h1 : (sortB l).Pairwise (fun a b => decide (a.data.toList ≤ b.data.toList) = true) := List.pairwise_mergeSort
    (fun a b c h1 h2 => by simp only [decide_eq_true_eq] at *; exact List.le_trans h1 h2)
    (fun a b => by simp only [Bool.or_eq_true, decide_eq_true_eq]; exact List.le_total _ _) l
  have h2 : (sortB l).Nodup := (sortB_perm l).nodup_iff.2 hn
  refine List.Pairwise.imp (R := fun a b => decide (a.data.toList ≤ b.data.toList) = true ∧ a ≠ b) (fun {a b} h => ?_) (List.Pairwise.and h1 h2)
  rcases ltB_total h.2 with h' | h'
  · exact h'
  · have := List.not_lt.2 (by simpa using h.1 : a.data.toList ≤ b.data.toList)
    exact absurd h' this
end Go.Proofs.Ythkdcbmcknndnaa

/- A disk of one file: plain laws; what laws of disks share. -/
import Derived.Test.YtemfnchiedepoaaDkLong
namespace Go.Proofs.Ytemfnchiedepoaa
open Go.RowKit Go.MapKept Go.Maps
set_option linter.unusedVariables false
def oneD (n s : ByteArray) (fu : Int) (dn : Bool) : Dk := ⟨[(n, ⟨s, s.size, true⟩)], fu, dn⟩
theorem fput_one (n : ByteArray) (f g : Fl) : fput [(n, g)] n f = [(n, f)] := by
  rw [fput_eq, fputR, if_neg (ltB_irrefl n)]
  simp
theorem fput_nil (n : ByteArray) (f : Fl) : fput [] n f = [(n, f)] := by rw [fput_eq]; rfl
theorem get_one (n : ByteArray) (f : Fl) : mget [(n, f)] n = some f := by simp [mget]
theorem rep0 {n : ByteArray} (s : ByteArray) (hn : nameD n = false) : stepR newD n s = (newD, 1) := by
  unfold stepR
  rw [if_neg (by simp [newD]), if_pos hn]
theorem rep1 {n s : ByteArray} (hn : nameD n = true) (hs : s.size ≤ 4194304) : stepR newD n s = (oneD n s (-1) false, 0) := by
  unfold stepR
  rw [if_neg (by simp [newD]), if_neg (by simp [hn]), if_neg, if_neg (by simp [newD])]
  · rw [burn_eq]
    have : (burn newD).fuse = -1 := rfl
    rw [this, show newD.L = [] from rfl, fput_nil]; rfl
  · have : fullB newD n (fsumBut n newD.L + s.size) = false := by
      rw [show fsumBut n newD.L = 0 from rfl, Nat.zero_add]
      unfold fullB
      rw [show newD.L.length = 0 from rfl, decide_eq_false (by omega : ¬ 4194304 < s.size), decide_eq_false (by omega : ¬ 4096 ≤ 0)]
      simp
    simp [this]
theorem full_one {n : ByteArray} {s : ByteArray} {fu : Int} {dn : Bool} {k : Nat} (hk : k ≤ 4194304) : fullB (oneD n s fu dn) n k = false := by
  unfold fullB oneD
  simp only [get_one, Option.isNone_some, Bool.false_and, Bool.or_false, decide_eq_false_iff_not]
  omega
theorem but_one (n : ByteArray) (f : Fl) : fsumBut n [(n, f)] = 0 := by simp [fsumBut]
theorem rep2 {n s : ByteArray} (t : ByteArray) (hn : nameD n = true) (ht : t.size ≤ 4194304) : stepR (oneD n s 0 false) n t = (oneD n s 0 true, 8) := by
  have hf : fullB (oneD n s 0 false) n (fsumBut n (oneD n s 0 false).L + t.size) = false := full_one (by rw [show (oneD n s 0 false).L = [(n, ⟨s, s.size, true⟩)] from rfl, but_one]; omega)
  unfold stepR
  rw [if_neg (by simp [oneD]), if_neg (by simp [hn]), if_neg (by simp [hf]), if_pos (show (oneD n s 0 false).fuse = 0 from rfl)]
  rfl
theorem rep3 {n s : ByteArray} (t : ByteArray) {fu : Int} (h0 : fu ≠ 0) (hn : nameD n = true) (ht : t.size ≤ 4194304) : ∃ fu', stepR (oneD n s fu false) n t = (oneD n t fu' false, 0) := by
  have hf : fullB (oneD n s fu false) n (fsumBut n (oneD n s fu false).L + t.size) = false := full_one (by rw [show (oneD n s fu false).L = [(n, ⟨s, s.size, true⟩)] from rfl, but_one]; omega)
  unfold stepR
  rw [if_neg (by simp [oneD]), if_neg (by simp [hn]), if_neg (by simp [hf]), if_neg (show ¬ (oneD n s fu false).fuse = 0 from h0), burn_eq]
  refine ⟨(burn (oneD n s fu false)).fuse, ?_⟩
  rw [show (oneD n s fu false).L = [(n, ⟨s, s.size, true⟩)] from rfl, fput_one]
  rfl
theorem cut_all (s : ByteArray) : cutB s s.size = s := by
  unfold cutB
  rw [List.take_of_length_le (by simp)]
theorem crash_one (n s : ByteArray) (fu : Int) (dn : Bool) (keep : List Int) : crashD (oneD n s fu dn) keep = oneD n s (-1) false := by
  unfold crashD oneD
  have : crashL keep 0 [(n, ⟨s, s.size, true⟩)] = [(n, ⟨s, s.size, true⟩)] := by
    simp [crashL, crashF, keepN, cut_all]
  rw [this]
theorem read_one {n s : ByteArray} (fu : Int) (hn : nameD n = true) : readD (oneD n s fu false) n = (s, 0) := by
  unfold readD
  rw [if_neg (by simp [oneD]), if_neg (by simp [hn])]
  simp [oneD, get_one]
theorem arm_one (n s : ByteArray) (fu : Int) (dn : Bool) (k : Int) : armD (oneD n s fu dn) k = oneD n s (if k < 0 then -1 else k) dn := rfl
/-- bytes that a call made, as a slice -/
theorem ByMk.sl {w0 w : World} {v : Value} {s : ByteArray} (h : ByMk w0 w v s) : ∃ b cap, v = .slice b s.size cap ∧ s.size ≤ cap ∧ cap ≤ maxLen ∧ ByIn w b s := by
  obtain ⟨b, cap, hu, h1, h2, hin, _⟩ := row_of_by h.tx
  exact ⟨b, cap, hu, h1, h2, hin⟩
theorem MkT.none {w0 w : World} {v : Value} (h : MkT w0 w v []) : ∃ b cap, v = .slice b 0 cap := by
  obtain ⟨b, cap, h1, _⟩ := h.tx.strs
  exact ⟨b, cap, h1⟩
end Go.Proofs.Ytemfnchiedepoaa

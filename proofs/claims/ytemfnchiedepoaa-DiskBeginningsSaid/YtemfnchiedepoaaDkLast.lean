/- What lasts: plain laws of DiskLasts. -/
import Derived.Test.YtemfnchiedepoaaDkRep
namespace Go.Proofs.Ytemfnchiedepoaa
set_option linter.unusedVariables false
/-- what a file had is a beginning of it, and lasts -/
def LastI (name sure : ByteArray) (there : Bool) (X : Dk) : Prop :=
  X.fuse = -1 ∧ X.down = false ∧ DkOk X ∧ (there = false → sure = ⟨#[]⟩) ∧ (there = true → nameD name = true ∧ ∃ f, mget X.L name = some f ∧ f.stays = true ∧ sure.size ≤ f.lasts ∧ sure = cutB f.s sure.size)
theorem last_first (name : ByteArray) : LastI name ⟨#[]⟩ false newD := by
  refine ⟨rfl, rfl, ?_, fun _ => rfl, fun h => by cases h⟩
  exact ⟨RiseF.nil, by decide, by simp [newD], by simp [newD], by decide, by decide, by decide⟩
theorem burn_no {X : Dk} (h : X.fuse = -1) : burn X = X := by unfold burn; rw [if_neg (by omega)]
theorem cut_cat (s t : ByteArray) (n : Nat) (h : n ≤ s.size) : cutB (catB s t) n = cutB s n := by
  unfold cutB catB
  have : n ≤ s.data.toList.length := by simpa using h
  simp [List.take_append_of_le_length this]
theorem doD_ok {X : Dk} (h : DkOk X) (o : OpD) : DkOk (doD X o).1 := by
  unfold doD
  split
  · exact stepA_ok h _ _
  · split
    · exact stepS_ok h _
    · split
      · exact stepR_ok h _ _
      · exact stepD_ok h _
theorem doD_still {X : Dk} (h1 : X.fuse = -1) (h2 : X.down = false) (o : OpD) : (doD X o).1.fuse = -1 ∧ (doD X o).1.down = false ∧ ((doD X o).2 ≠ 0 → (doD X o).1 = X) := by
  have h0 : ¬ X.fuse = 0 := by omega
  unfold doD stepA stepS stepR stepD
  simp only [h2, h0, burn_no h1, if_false, Bool.false_eq_true]
  repeat' split
  all_goals simp [h1, h2]
/-- what a step leaves of other files -/
theorem doD_other {X : Dk} (h : DkOk X) (h1 : X.fuse = -1) (h2 : X.down = false) (o : OpD) {n : ByteArray} (hn : o.name ≠ n) : mget (doD X o).1.L n = mget X.L n := by
  have h0 : ¬ X.fuse = 0 := by omega
  unfold doD stepA stepS stepR stepD
  simp only [h2, h0, burn_no h1, if_false, Bool.false_eq_true]
  repeat' split
  all_goals simp [fput_get h.rise, fdel_get, hn]
theorem last_no {name sure : ByteArray} {there : Bool} {X : Dk} (h : LastI name sure there X) (o : OpD) (hn : o.name ≠ name ∨ (doD X o).2 ≠ 0) : LastI name sure there (doD X o).1 := by
  obtain ⟨h1, h2, h3, h4, h5⟩ := h
  obtain ⟨k1, k2, k3⟩ := doD_still h1 h2 o
  by_cases e : (doD X o).2 = 0
  · refine ⟨k1, k2, doD_ok h3 o, h4, fun ht => ?_⟩
    rw [doD_other h3 h1 h2 o (hn.resolve_right (fun c => c e))]
    exact h5 ht
  · rw [k3 e]
    exact ⟨h1, h2, h3, h4, h5⟩
theorem doD_name {X : Dk} (h2 : X.down = false) (o : OpD) (h : (doD X o).2 = 0) : nameD o.name = true := by
  cases e : nameD o.name with
  | true => rfl
  | false =>
    exfalso
    revert h
    unfold doD stepA stepS stepR stepD
    simp only [h2, e, if_false, Bool.false_eq_true, if_true]
    repeat' split
    all_goals simp
/-- an append of the file itself -/
theorem last_add {name sure : ByteArray} {there : Bool} {X : Dk} (h : LastI name sure there X) (o : OpD) (hk : o.kind = 1) (hn : o.name = name) (hz : (doD X o).2 = 0) : LastI name sure there (doD X o).1 := by
  obtain ⟨h1, h2, h3, h4, h5⟩ := h
  obtain ⟨k1, k2, k3⟩ := doD_still h1 h2 o
  refine ⟨k1, k2, doD_ok h3 o, h4, fun ht => ?_⟩
  obtain ⟨hnm, f, g1, g2, g3, g4⟩ := h5 ht
  refine ⟨hnm, { f with s := catB f.s o.s }, ?_, g2, g3, ?_⟩
  · have h0 : ¬ X.fuse = 0 := by omega
    have hg : getF X.L name = f := by unfold getF; rw [g1]; rfl
    revert hz
    unfold doD stepA
    simp only [hk, hn, h2, hnm, h0, burn_no h1, if_true, if_false, Bool.false_eq_true, Bool.true_eq_false]
    split
    · intro hz; simp at hz
    · intro _
      simp only [fput_get h3.rise, if_true, hg]
  · have := h3.last _ (mem_of_get g1)
    simp only at this
    rw [cut_cat _ _ _ (by omega)]
    exact g4
theorem read_get {X : Dk} {n : ByteArray} {f : Fl} (h2 : X.down = false) (hn : nameD n = true) (hg : mget X.L n = some f) : readD X n = (f.s, 0) := by
  unfold readD
  rw [if_neg (by simp [h2]), if_neg (by simp [hn]), hg]
theorem read_gone {X : Dk} {n : ByteArray} (h2 : X.down = false) (hn : nameD n = true) (hg : mget X.L n = none) : readD X n = (⟨#[]⟩, 6) := by
  unfold readD
  rw [if_neg (by simp [h2]), if_neg (by simp [hn]), hg]
/-- a Sync, or a Replace, of it -/
theorem last_sure {name sure : ByteArray} {there : Bool} {X : Dk} (h : LastI name sure there X) (o : OpD) (hk : o.kind = 2 ∨ o.kind = 3) (hn : o.name = name) (hz : (doD X o).2 = 0) : LastI name (readD (doD X o).1 name).1 true (doD X o).1 := by
  obtain ⟨h1, h2, h3, h4, h5⟩ := h
  obtain ⟨k1, k2, k3⟩ := doD_still h1 h2 o
  have hnm : nameD name = true := hn ▸ doD_name h2 o hz
  have h0 : ¬ X.fuse = 0 := by omega
  have hx : ∃ s, mget (doD X o).1.L name = some ⟨s, s.size, true⟩ := by
    revert hz
    rcases hk with hk | hk
    · unfold doD stepS
      simp only [hk, hn, h2, hnm, h0, burn_no h1, if_true, if_false, Bool.false_eq_true, Bool.true_eq_false, show ¬ (2 : Int) = 1 by omega]
      split
      · intro hz; simp at hz
      · intro _
        exact ⟨_, by simp only [fput_get h3.rise, if_true]; rfl⟩
    · unfold doD stepR
      simp only [hk, hn, h2, hnm, h0, burn_no h1, if_true, if_false, Bool.false_eq_true, Bool.true_eq_false, show ¬ (3 : Int) = 1 by omega, show ¬ (3 : Int) = 2 by omega]
      split
      · intro hz; simp at hz
      · intro _
        exact ⟨_, by simp only [fput_get h3.rise, if_true]; rfl⟩
  obtain ⟨s, hs⟩ := hx
  rw [read_get k2 hnm hs]
  exact ⟨k1, k2, doD_ok h3 o, fun h => (by cases h), fun _ => ⟨hnm, _, hs, rfl, Nat.le_refl _, (cut_all s).symm⟩⟩
/-- a Remove of it -/
theorem last_gone {name sure : ByteArray} {there : Bool} {X : Dk} (h : LastI name sure there X) (o : OpD) (hk : o.kind = 4) (hn : o.name = name) (hz : (doD X o).2 = 0) : LastI name ⟨#[]⟩ false (doD X o).1 ∧ (readD (doD X o).1 name).2 = 6 := by
  obtain ⟨h1, h2, h3, h4, h5⟩ := h
  obtain ⟨k1, k2, k3⟩ := doD_still h1 h2 o
  have hnm : nameD name = true := hn ▸ doD_name h2 o hz
  have h0 : ¬ X.fuse = 0 := by omega
  have hx : mget (doD X o).1.L name = none := by
    revert hz
    unfold doD stepD
    simp only [hk, hn, h2, hnm, h0, burn_no h1, if_false, Bool.false_eq_true, Bool.true_eq_false, show ¬ (4 : Int) = 1 by omega, show ¬ (4 : Int) = 2 by omega, show ¬ (4 : Int) = 3 by omega]
    split
    · intro hz; simp at hz
    · intro _
      simp only [fdel_get, if_true]
  refine ⟨⟨k1, k2, doD_ok h3 o, fun _ => rfl, fun h => by cases h⟩, ?_⟩
  rw [read_gone k2 hnm hx]
theorem crash_get {keep : List Int} {n : ByteArray} {f : Fl} : ∀ {L : Fs} (i : Nat), RiseF L → mget L n = some f → f.stays = true → ∃ k, mget (crashL keep i L) n = some ⟨cutB f.s (f.lasts + k), f.lasts + k, true⟩ ∧ k ≤ f.s.size - f.lasts
  | [], i, _, h, _ => by cases h
  | p :: L, i, hr, h, hs => by
    rw [mget] at h
    by_cases e : p.1 = n
    · rw [if_pos e] at h
      cases h
      refine ⟨keepN p.2 keep i, ?_, by unfold keepN; omega⟩
      have : crashF p.2 (keepN p.2 keep i) = some ⟨cutB p.2.s (p.2.lasts + keepN p.2 keep i), p.2.lasts + keepN p.2 keep i, true⟩ := by
        unfold crashF; rw [hs]; rfl
      rw [crashL, this]
      simp [mget, e]
    · rw [if_neg e] at h
      obtain ⟨k, h1, h2⟩ := crash_get (keep := keep) (i + 1) hr.tail h hs
      refine ⟨k, ?_, h2⟩
      rw [crashL]
      cases crashF p.2 (keepN p.2 keep i) with
      | none => exact h1
      | some g => simp only [List.singleton_append, mget, if_neg e]; exact h1
theorem cut_cut (s : ByteArray) {n m : Nat} (h : n ≤ m) : cutB (cutB s m) n = cutB s n := by
  unfold cutB
  simp [List.take_take, Nat.min_eq_left h]
theorem last_end {name sure : ByteArray} {there : Bool} {X : Dk} (h : LastI name sure there X) (keep : List Int) : ∃ s e, readD (crashD X keep) name = (s, e) ∧ (there = true → e = 0) ∧ sure.size ≤ s.size ∧ cutB s sure.size = sure := by
  obtain ⟨h1, h2, h3, h4, h5⟩ := h
  cases there with
  | false =>
    obtain rfl := h4 rfl
    exact ⟨_, _, rfl, fun h => (by cases h), Nat.zero_le _, by unfold cutB; rfl⟩
  | true =>
    obtain ⟨hnm, f, g1, g2, g3, g4⟩ := h5 rfl
    obtain ⟨k, c1, c2⟩ := crash_get (keep := keep) 0 h3.rise g1 g2
    have hl := h3.last _ (mem_of_get g1)
    simp only at hl
    refine ⟨_, _, read_get (X := crashD X keep) rfl hnm c1, fun _ => rfl, ?_, ?_⟩
    · show _ ≤ (cutB f.s (f.lasts + k)).size
      rw [size_cut _ _ (by omega)]; omega
    · show cutB (cutB f.s (f.lasts + k)) _ = _
      rw [cut_cut _ (by omega)]; exact g4.symm
end Go.Proofs.Ytemfnchiedepoaa

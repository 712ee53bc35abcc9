/- Disks: a crash, file by file: plain laws. No program in sight. -/
import Derived.Test.YtemfnchiedepoaaDkLaw
namespace Go.Proofs.Ytemfnchiedepoaa
set_option linter.unusedVariables false
def crashO (keep : List Int) (i : Nat) (p : ByteArray × Fl) : Fs := match crashF p.2 (keepN p.2 keep i) with | some g => [(p.1, g)] | none => []
theorem crashL_app (keep : List Int) : ∀ (A B : Fs) (i : Nat), crashL keep i (A ++ B) = crashL keep i A ++ crashL keep (i + A.length) B
  | [], B, i => by simp [crashL]
  | p :: A, B, i => by
    rw [List.cons_append, crashL, crashL, crashL_app keep A B (i + 1), List.append_assoc]
    congr 3
    simp; omega
theorem crashL_one (keep : List Int) (i : Nat) (p : ByteArray × Fl) : crashL keep i [p] = crashO keep i p := by
  rw [crashL, crashL, List.append_nil]
  rfl
theorem crashO_names (keep : List Int) (i : Nat) (p : ByteArray × Fl) : (fnames (crashO keep i p)).Sublist [p.1] := by
  unfold crashO fnames
  split <;> simp
theorem crashL_names (keep : List Int) : ∀ (L : Fs) (i : Nat), (fnames (crashL keep i L)).Sublist (fnames L)
  | [], i => by simp [crashL, fnames]
  | p :: L, i => by
    have h := crashL_names keep L (i + 1)
    have := crashO_names keep i p
    show (fnames (crashO keep i p ++ crashL keep (i + 1) L)).Sublist _
    unfold fnames at *
    rw [List.map_append, List.map_cons]
    exact this.append h
/-- a crash that is at its i-th file -/
def crashP (keep : List Int) (L : Fs) (i : Nat) : Fs := crashL keep 0 (L.take i) ++ L.drop i
theorem crashP_zero (keep : List Int) (L : Fs) : crashP keep L 0 = L := by simp [crashP, crashL]
theorem crashP_end (keep : List Int) (L : Fs) : crashP keep L L.length = crashL keep 0 L := by simp [crashP]
theorem crashP_rise {L : Fs} (h : RiseF L) (keep : List Int) (i : Nat) : RiseF (crashP keep L i) := by
  refine List.Pairwise.sublist ?_ h
  unfold crashP fnames
  rw [List.map_append]
  conv => rhs; rw [← List.take_append_drop i L, List.map_append]
  exact (crashL_names keep (L.take i) 0).append (List.Sublist.refl _)
theorem split_at {L : Fs} {i : Nat} {p : ByteArray × Fl} (hp : L[i]? = some p) : L = L.take i ++ p :: L.drop (i + 1) := by
  obtain ⟨hi, e⟩ := List.getElem?_eq_some_iff.1 hp
  rw [← e, ← List.drop_eq_getElem_cons hi, List.take_append_drop]
theorem crashP_at {L : Fs} {i : Nat} {p : ByteArray × Fl} (hp : L[i]? = some p) (keep : List Int) : crashP keep L i = crashL keep 0 (L.take i) ++ p :: L.drop (i + 1) ∧ crashP keep L (i + 1) = crashL keep 0 (L.take i) ++ (crashO keep i p ++ L.drop (i + 1)) := by
  obtain ⟨hi, e⟩ := List.getElem?_eq_some_iff.1 hp
  constructor
  · unfold crashP
    rw [← e, ← List.drop_eq_getElem_cons hi]
  · unfold crashP
    rw [List.take_add_one, hp]
    show crashL keep 0 (L.take i ++ [p]) ++ _ = _
    rw [crashL_app, crashL_one, List.length_take, Nat.min_eq_left (by omega), Nat.zero_add, List.append_assoc]
theorem mget_app (A B : Fs) (n : ByteArray) : mget (A ++ B) n = (mget A n).or (mget B n) := by
  induction A with
  | nil => simp [mget]
  | cons p A ih =>
    rw [List.cons_append, mget, mget, ih]
    split <;> simp
theorem rise_mid {L : Fs} (h : RiseF L) {A R : Fs} {p : ByteArray × Fl} (e : L = A ++ p :: R) : (∀ q ∈ A, q.1 ≠ p.1) ∧ ∀ q ∈ R, q.1 ≠ p.1 := by
  have hn := h.nodup
  unfold mkeys at hn
  rw [e, List.map_append, List.map_cons, List.nodup_append] at hn
  obtain ⟨_, h2, h3⟩ := hn
  refine ⟨fun q hq c => h3 q.1 (List.mem_map.2 ⟨q, hq, rfl⟩) p.1 (by simp) c, fun q hq c => (List.nodup_cons.1 h2).1 (List.mem_map.2 ⟨q, hq, c⟩)⟩
theorem crash_before {L : Fs} (h : RiseF L) {i : Nat} {p : ByteArray × Fl} (hp : L[i]? = some p) (keep : List Int) : ∀ q ∈ crashL keep 0 (L.take i), q.1 ≠ p.1 := fun q hq c => by
  have hm : q.1 ∈ fnames (L.take i) := (crashL_names keep (L.take i) 0).subset (List.mem_map.2 ⟨q, hq, rfl⟩)
  obtain ⟨r, hr, e⟩ := List.mem_map.1 hm
  exact (rise_mid h (split_at hp)).1 r hr (e.trans c)
theorem crashP_get {L : Fs} (h : RiseF L) {i : Nat} {p : ByteArray × Fl} (hp : L[i]? = some p) (keep : List Int) : mget (crashP keep L i) p.1 = some p.2 := by
  rw [(crashP_at hp keep).1, mget_app, mget_none (crash_before h hp keep)]
  simp [mget]
theorem crashP_next {L : Fs} (h : RiseF L) {i : Nat} {p : ByteArray × Fl} (hp : L[i]? = some p) (keep : List Int) (n : ByteArray) : mget (crashP keep L (i + 1)) n = if p.1 = n then crashF p.2 (keepN p.2 keep i) else mget (crashP keep L i) n := by
  rw [(crashP_at hp keep).1, (crashP_at hp keep).2, mget_app, mget_app, mget_app]
  by_cases e : p.1 = n
  · subst e
    rw [if_pos rfl, mget_none (crash_before h hp keep), mget_none (rise_mid h (split_at hp)).2]
    unfold crashO
    cases crashF p.2 (keepN p.2 keep i) <;> simp [mget]
  · rw [if_neg e]
    have : mget (crashO keep i p) n = none := by
      unfold crashO
      cases crashF p.2 (keepN p.2 keep i) <;> simp [mget, e]
    rw [this, Option.none_or]
    simp [mget, e]
theorem fsum_app (A B : Fs) : fsum (A ++ B) = fsum A + fsum B := by
  induction A with
  | nil => simp [fsum]
  | cons p A ih => rw [List.cons_append, fsum, fsum, ih]; omega
theorem keepN_le (f : Fl) (keep : List Int) (i : Nat) : keepN f keep i ≤ f.s.size - f.lasts := Nat.min_le_right _ _
theorem crashP_sum {L : Fs} {i : Nat} {p : ByteArray × Fl} (hp : L[i]? = some p) (hl : p.2.lasts ≤ p.2.s.size) (keep : List Int) : fsum (crashP keep L (i + 1)) + (p.2.s.size - p.2.lasts - keepN p.2 keep i) = fsum (crashP keep L i) := by
  rw [(crashP_at hp keep).1, (crashP_at hp keep).2, fsum_app, fsum_app, fsum_app]
  have hk := keepN_le p.2 keep i
  have key : fsum (crashO keep i p) = p.2.lasts + keepN p.2 keep i := by
    unfold crashO crashF
    split
    · rename_i g hg
      split at hg
      · cases hg
      · cases hg
        show (cutB p.2.s (p.2.lasts + keepN p.2 keep i)).size + 0 = _
        rw [size_cut _ _ (by omega)]; omega
    · rename_i hg
      split at hg
      · rename_i hc
        simp at hc
        simp [fsum]; omega
      · cases hg
  rw [key]
  simp only [fsum]
  omega
theorem crashL_len (keep : List Int) (L : Fs) (i : Nat) : (crashL keep i L).length ≤ L.length := by
  have := (crashL_names keep L i).length_le
  simpa [fnames] using this
theorem crashL_mem (keep : List Int) : ∀ (L : Fs) (i : Nat) (q : ByteArray × Fl), q ∈ crashL keep i L → ∃ p j, p ∈ L ∧ q.1 = p.1 ∧ crashF p.2 (keepN p.2 keep j) = some q.2
  | [], i, q, h => by simp [crashL] at h
  | p :: L, i, q, h => by
    rw [crashL] at h
    rcases List.mem_append.1 h with h | h
    · refine ⟨p, i, by simp, ?_⟩
      split at h
      · rename_i g hg
        simp at h; subst h
        exact ⟨rfl, hg⟩
      · cases h
    · obtain ⟨p', j, h1, h2⟩ := crashL_mem keep L (i + 1) q h
      exact ⟨p', j, by simp [h1], h2⟩
theorem crashF_some {f g : Fl} {k : Nat} (hk : k ≤ f.s.size - f.lasts) (hl : f.lasts ≤ f.s.size) (h : crashF f k = some g) : g = ⟨cutB f.s (f.lasts + k), f.lasts + k, true⟩ ∧ (cutB f.s (f.lasts + k)).size = f.lasts + k := by
  unfold crashF at h
  split at h
  · cases h
  · cases h
    exact ⟨rfl, size_cut _ _ (by omega)⟩
theorem crashP_le {L : Fs} (hl : ∀ p ∈ L, p.2.lasts ≤ p.2.s.size) (keep : List Int) : ∀ i, fsum (crashP keep L i) ≤ fsum L
  | 0 => by rw [crashP_zero]; exact Nat.le_refl _
  | i + 1 => by
    have := crashP_le hl keep i
    cases hp : L[i]? with
    | some p => have h2 := crashP_sum hp (hl p (List.mem_of_getElem? hp)) keep; omega
    | none =>
      have hi := List.getElem?_eq_none_iff.1 hp
      have e : crashP keep L (i + 1) = crashP keep L i := by
        unfold crashP
        rw [List.take_of_length_le hi, List.take_of_length_le (by omega), List.drop_of_length_le hi, List.drop_of_length_le (by omega)]
      rw [e]; exact this
theorem crashD_ok {x : Dk} (h : DkOk x) (keep : List Int) : DkOk (crashD x keep) where
  rise := by have := crashP_rise h.rise keep x.L.length; rw [crashP_end] at this; exact this
  sum := by have := crashP_le h.last keep x.L.length; rw [crashP_end] at this; have := h.sum; show fsum (crashL keep 0 x.L) ≤ _; omega
  last := fun q hq => by
    obtain ⟨p, j, h1, h2, h3⟩ := crashL_mem keep x.L 0 q hq
    obtain ⟨e, e2⟩ := crashF_some (keepN_le _ _ _) (h.last p h1) h3
    rw [e]
    show _ ≤ (cutB p.2.s (p.2.lasts + keepN p.2 keep j)).size
    rw [e2]
    exact Nat.le_refl _
  name := fun q hq => by
    obtain ⟨p, j, h1, h2, h3⟩ := crashL_mem keep x.L 0 q hq
    rw [h2]; exact h.name p h1
  fuse := by show -1 ≤ (-1 : Int); omega
  fuse2 := by show (-1 : Int) ≤ _; omega
  len := by have := crashL_len keep x.L 0; have := h.len; show (crashL keep 0 x.L).length ≤ _; omega
end Go.Proofs.Ytemfnchiedepoaa

/- Disks: a crash, file by file: plain laws. No program in sight. Frames of bytes: a plain law. No program in sight. The operations on a map of the call's own, for the walk. No program in sight. 'for k, v := range m' over a map of the call's own that the loop leaves alone. No program in sight. Slices that came in, opened: a list of elements, each a row of cells. No program in sight. Slices of texts that came in. No walk here. Rows of texts of the call's own, and texts that are appended to them. No program in sight. Rows of one-cell elements of the call's own, and elements that came in, appended to them; a part of a slice that came in. No program in sight. -/
import Derived.Test.YtkofcegdoilaeaaGreatDoorPk2
import Derived.WalkKit
import Derived.ProofKit
import Derived.OpenShut
import Derived.Deep.Slices
import Derived.Lib.SmallJoins
namespace Go.Proofs.YtkofcegdoilaeaaGreatDoor
set_option linter.unusedVariables false
def crashO (keep : List Int) (i : Nat) (p : ByteArray × Fl) : Fs := match crashF p.2 (keepN p.2 keep i) with | some g => [(p.1, g)] | none => []
theorem crashL_app (keep : List Int) : ∀ (A B : Fs) (i : Nat), crashL keep i (A ++ B) = crashL keep i A ++ crashL keep (i + A.length) B
  | [], B, i => by simp [crashL]
  | p :: A, B, i => by
    rw [List.cons_append, crashL, crashL, crashL_app keep A B (i + 1), List.append_assoc]
    congr 3
    simp; omega
theorem crashL_one (keep : List Int) (i : Nat) (p : ByteArray × Fl) : crashL keep i [p] = crashO keep i p := by
  rw [crashL, crashL, List.append_nil]
  rfl
theorem crashO_names (keep : List Int) (i : Nat) (p : ByteArray × Fl) : (fnames (crashO keep i p)).Sublist [p.1] := by
  unfold crashO fnames
  split <;> simp
theorem crashL_names (keep : List Int) : ∀ (L : Fs) (i : Nat), (fnames (crashL keep i L)).Sublist (fnames L)
  | [], i => by simp [crashL, fnames]
  | p :: L, i => by
    have h := crashL_names keep L (i + 1)
    have := crashO_names keep i p
    show (fnames (crashO keep i p ++ crashL keep (i + 1) L)).Sublist _
    unfold fnames at *
    rw [List.map_append, List.map_cons]
    exact this.append h
/-- a crash that is at its i-th file -/
def crashP (keep : List Int) (L : Fs) (i : Nat) : Fs := crashL keep 0 (L.take i) ++ L.drop i
theorem crashP_zero (keep : List Int) (L : Fs) : crashP keep L 0 = L := by simp [crashP, crashL]
theorem crashP_end (keep : List Int) (L : Fs) : crashP keep L L.length = crashL keep 0 L := by simp [crashP]
theorem crashP_rise {L : Fs} (h : RiseF L) (keep : List Int) (i : Nat) : RiseF (crashP keep L i) := by
  refine List.Pairwise.sublist ?_ h
  unfold crashP fnames
  rw [List.map_append]
  conv => rhs; rw [← List.take_append_drop i L, List.map_append]
  exact (crashL_names keep (L.take i) 0).append (List.Sublist.refl _)
theorem split_at {L : Fs} {i : Nat} {p : ByteArray × Fl} (hp : L[i]? = some p) : L = L.take i ++ p :: L.drop (i + 1) := by
  obtain ⟨hi, e⟩ := List.getElem?_eq_some_iff.1 hp
  rw [← e, ← List.drop_eq_getElem_cons hi, List.take_append_drop]
theorem crashP_at {L : Fs} {i : Nat} {p : ByteArray × Fl} (hp : L[i]? = some p) (keep : List Int) : crashP keep L i = crashL keep 0 (L.take i) ++ p :: L.drop (i + 1) ∧ crashP keep L (i + 1) = crashL keep 0 (L.take i) ++ (crashO keep i p ++ L.drop (i + 1)) := by
  obtain ⟨hi, e⟩ := List.getElem?_eq_some_iff.1 hp
  constructor
  · unfold crashP
    rw [← e, ← List.drop_eq_getElem_cons hi]
  · unfold crashP
    rw [List.take_add_one, hp]
    show crashL keep 0 (L.take i ++ [p]) ++ _ = _
    rw [crashL_app, crashL_one, List.length_take, Nat.min_eq_left (by omega), Nat.zero_add, List.append_assoc]
theorem mget_app (A B : Fs) (n : ByteArray) : mget (A ++ B) n = (mget A n).or (mget B n) := by
  induction A with
  | nil => simp [mget]
  | cons p A ih =>
    rw [List.cons_append, mget, mget, ih]
    split <;> simp
theorem rise_mid {L : Fs} (h : RiseF L) {A R : Fs} {p : ByteArray × Fl} (e : L = A ++ p :: R) : (∀ q ∈ A, q.1 ≠ p.1) ∧ ∀ q ∈ R, q.1 ≠ p.1 := by
  have hn := h.nodup
  unfold mkeys at hn
  rw [e, List.map_append, List.map_cons, List.nodup_append] at hn
  obtain ⟨_, h2, h3⟩ := hn
  refine ⟨fun q hq c => h3 q.1 (List.mem_map.2 ⟨q, hq, rfl⟩) p.1 (by simp) c, fun q hq c => (List.nodup_cons.1 h2).1 (List.mem_map.2 ⟨q, hq, c⟩)⟩
theorem crash_before {L : Fs} (h : RiseF L) {i : Nat} {p : ByteArray × Fl} (hp : L[i]? = some p) (keep : List Int) : ∀ q ∈ crashL keep 0 (L.take i), q.1 ≠ p.1 := fun q hq c => by
  have hm : q.1 ∈ fnames (L.take i) := (crashL_names keep (L.take i) 0).subset (List.mem_map.2 ⟨q, hq, rfl⟩)
  obtain ⟨r, hr, e⟩ := List.mem_map.1 hm
  exact (rise_mid h (split_at hp)).1 r hr (e.trans c)
theorem crashP_get {L : Fs} (h : RiseF L) {i : Nat} {p : ByteArray × Fl} (hp : L[i]? = some p) (keep : List Int) : mget (crashP keep L i) p.1 = some p.2 := by
  rw [(crashP_at hp keep).1, mget_app, mget_none (crash_before h hp keep)]
  simp [mget]
theorem crashP_next {L : Fs} (h : RiseF L) {i : Nat} {p : ByteArray × Fl} (hp : L[i]? = some p) (keep : List Int) (n : ByteArray) : mget (crashP keep L (i + 1)) n = if p.1 = n then crashF p.2 (keepN p.2 keep i) else mget (crashP keep L i) n := by
  rw [(crashP_at hp keep).1, (crashP_at hp keep).2, mget_app, mget_app, mget_app]
  by_cases e : p.1 = n
  · subst e
    rw [if_pos rfl, mget_none (crash_before h hp keep), mget_none (rise_mid h (split_at hp)).2]
    unfold crashO
    cases crashF p.2 (keepN p.2 keep i) <;> simp [mget]
  · rw [if_neg e]
    have : mget (crashO keep i p) n = none := by
      unfold crashO
      cases crashF p.2 (keepN p.2 keep i) <;> simp [mget, e]
    rw [this, Option.none_or]
    simp [mget, e]
theorem fsum_app (A B : Fs) : fsum (A ++ B) = fsum A + fsum B := by
  induction A with
  | nil => simp [fsum]
  | cons p A ih => rw [List.cons_append, fsum, fsum, ih]; omega
theorem keepN_le (f : Fl) (keep : List Int) (i : Nat) : keepN f keep i ≤ f.s.size - f.lasts := Nat.min_le_right _ _
theorem crashP_sum {L : Fs} {i : Nat} {p : ByteArray × Fl} (hp : L[i]? = some p) (hl : p.2.lasts ≤ p.2.s.size) (keep : List Int) : fsum (crashP keep L (i + 1)) + (p.2.s.size - p.2.lasts - keepN p.2 keep i) = fsum (crashP keep L i) := by
  rw [(crashP_at hp keep).1, (crashP_at hp keep).2, fsum_app, fsum_app, fsum_app]
  have hk := keepN_le p.2 keep i
  have key : fsum (crashO keep i p) = p.2.lasts + keepN p.2 keep i := by
    unfold crashO crashF
    split
    · rename_i g hg
      split at hg
      · cases hg
      · cases hg
        show (cutB p.2.s (p.2.lasts + keepN p.2 keep i)).size + 0 = _
        rw [size_cut _ _ (by omega)]; omega
    · rename_i hg
      split at hg
      · rename_i hc
        simp at hc
        simp [fsum]; omega
      · cases hg
  rw [key]
  simp only [fsum]
  omega
theorem crashL_len (keep : List Int) (L : Fs) (i : Nat) : (crashL keep i L).length ≤ L.length := by
  have := (crashL_names keep L i).length_le
  simpa [fnames] using this
theorem crashL_mem (keep : List Int) : ∀ (L : Fs) (i : Nat) (q : ByteArray × Fl), q ∈ crashL keep i L → ∃ p j, p ∈ L ∧ q.1 = p.1 ∧ crashF p.2 (keepN p.2 keep j) = some q.2
  | [], i, q, h => by simp [crashL] at h
  | p :: L, i, q, h => by
    rw [crashL] at h
    rcases List.mem_append.1 h with h | h
    · refine ⟨p, i, by simp, ?_⟩
      split at h
      · rename_i g hg
        simp at h; subst h
        exact ⟨rfl, hg⟩
      · cases h
    · obtain ⟨p', j, h1, h2⟩ := crashL_mem keep L (i + 1) q h
      exact ⟨p', j, by simp [h1], h2⟩
theorem crashF_some {f g : Fl} {k : Nat} (hk : k ≤ f.s.size - f.lasts) (hl : f.lasts ≤ f.s.size) (h : crashF f k = some g) : g = ⟨cutB f.s (f.lasts + k), f.lasts + k, true⟩ ∧ (cutB f.s (f.lasts + k)).size = f.lasts + k := by
  unfold crashF at h
  split at h
  · cases h
  · cases h
    exact ⟨rfl, size_cut _ _ (by omega)⟩
theorem crashP_le {L : Fs} (hl : ∀ p ∈ L, p.2.lasts ≤ p.2.s.size) (keep : List Int) : ∀ i, fsum (crashP keep L i) ≤ fsum L
  | 0 => by rw [crashP_zero]; exact Nat.le_refl _
  | i + 1 => by
    have := crashP_le hl keep i
    cases hp : L[i]? with
    | some p => have h2 := crashP_sum hp (hl p (List.mem_of_getElem? hp)) keep; omega
    | none =>
      have hi := List.getElem?_eq_none_iff.1 hp
      have e : crashP keep L (i + 1) = crashP keep L i := by
        unfold crashP
        rw [List.take_of_length_le hi, List.take_of_length_le (by omega), List.drop_of_length_le hi, List.drop_of_length_le (by omega)]
      rw [e]; exact this
theorem crashD_ok {x : Dk} (h : DkOk x) (keep : List Int) : DkOk (crashD x keep) where
  rise := by have := crashP_rise h.rise keep x.L.length; rw [crashP_end] at this; exact this
  sum := by have := crashP_le h.last keep x.L.length; rw [crashP_end] at this; have := h.sum; show fsum (crashL keep 0 x.L) ≤ _; omega
  last := fun q hq => by
    obtain ⟨p, j, h1, h2, h3⟩ := crashL_mem keep x.L 0 q hq
    obtain ⟨e, e2⟩ := crashF_some (keepN_le _ _ _) (h.last p h1) h3
    rw [e]
    show _ ≤ (cutB p.2.s (p.2.lasts + keepN p.2 keep j)).size
    rw [e2]
    exact Nat.le_refl _
  name := fun q hq => by
    obtain ⟨p, j, h1, h2, h3⟩ := crashL_mem keep x.L 0 q hq
    rw [h2]; exact h.name p h1
  fuse := by show -1 ≤ (-1 : Int); omega
  fuse2 := by show (-1 : Int) ≤ _; omega
  len := by have := crashL_len keep x.L 0; have := h.len; show (crashL keep 0 x.L).length ≤ _; omega
end Go.Proofs.YtkofcegdoilaeaaGreatDoor
namespace Go.Proofs.YtkofcegdoilaeaaGreatDoor
set_option linter.unusedVariables false
namespace Tr
abbrev Bs := List UInt8
def sumS (p : Nat × Nat) (c : UInt8) : Nat × Nat := ((p.1 + c.toNat) % 65521, (p.2 + (p.1 + c.toNat) % 65521) % 65521)
def sumP (xs : Bs) : Nat × Nat := xs.foldl sumS (1, 0)
theorem sumP_take {xs : Bs} {i : Nat} {c : UInt8} (h : xs[i]? = some c) : sumP (xs.take (i + 1)) = sumS (sumP (xs.take i)) c := by
  unfold sumP
  rw [List.take_add_one, h, List.foldl_append]; rfl
theorem sumP_lt (xs : Bs) : (sumP xs).1 < 65521 ∧ (sumP xs).2 < 65521 := by
  have key : ∀ (l : Bs) (p : Nat × Nat), p.1 < 65521 ∧ p.2 < 65521 → (l.foldl sumS p).1 < 65521 ∧ (l.foldl sumS p).2 < 65521 := by
    intro l
    induction l with
    | nil => exact fun p h => h
    | cons c l ih => exact fun p h => ih _ ⟨Nat.mod_lt _ (by decide), Nat.mod_lt _ (by decide)⟩
  exact key xs (1, 0) (by decide)
def sumN (xs : Bs) : Nat := (sumP xs).2 * 65536 + (sumP xs).1
theorem sumN_lt (xs : Bs) : sumN xs < 4294967296 := by
  have := sumP_lt xs
  unfold sumN; omega
def sum4 (xs : Bs) : Bs := [UInt8.ofNat (sumN xs / 16777216), UInt8.ofNat (sumN xs / 65536), UInt8.ofNat (sumN xs / 256), UInt8.ofNat (sumN xs)]
def hdr (n : Nat) : Bs := [0, 0, UInt8.ofNat n, 255, 255, UInt8.ofNat (255 - n)]
/-- a frame -/
def frB (p : Bs) : Bs := hdr p.length ++ p ++ sum4 (hdr p.length ++ p)
theorem fr_len (p : Bs) : (frB p).length = p.length + 10 := by
  simp [frB, hdr, sum4]
def cat (ps : List Bs) : Bs := ps.flatMap frB
theorem cat_app (a b : List Bs) : cat (a ++ b) = cat a ++ cat b := by simp [cat]
theorem cat_cons (p : Bs) (ps : List Bs) : cat (p :: ps) = frB p ++ cat ps := by simp [cat]
/-- where the first j frames end -/
def off (ps : List Bs) (j : Nat) : Nat := (cat (ps.take j)).length
theorem off_zero (ps : List Bs) : off ps 0 = 0 := by simp [off, cat]
theorem off_all (ps : List Bs) : off ps ps.length = (cat ps).length := by simp [off]
theorem off_succ {ps : List Bs} {j : Nat} {p : Bs} (h : ps[j]? = some p) : off ps (j + 1) = off ps j + (p.length + 10) := by
  unfold off
  rw [List.take_add_one, h, cat_app, List.length_append]
  have : cat ([p] : List Bs) = frB p := by simp [cat]
  show _ + (cat [p]).length = _
  rw [this, fr_len]
theorem off_mono {ps : List Bs} {i j : Nat} (h : i ≤ j) : off ps i ≤ off ps j := by
  induction j with
  | zero => have : i = 0 := by omega
            subst this; exact Nat.le_refl _
  | succ j ih =>
    by_cases e : i = j + 1
    · subst e; exact Nat.le_refl _
    · refine Nat.le_trans (ih (by omega)) ?_
      cases hj : ps[j]? with
      | some p => rw [off_succ hj]; omega
      | none =>
        have := List.getElem?_eq_none_iff.1 hj
        unfold off
        rw [List.take_of_length_le this, List.take_of_length_le (by omega)]
        exact Nat.le_refl _
theorem off_lt {ps : List Bs} {i j : Nat} (h : i < j) (hj : j ≤ ps.length) : off ps i < off ps j := by
  have hi : i < ps.length := by omega
  have h1 := off_succ (List.getElem?_eq_getElem hi)
  have h2 := off_mono (ps := ps) (i := i + 1) (j := j) (by omega)
  omega
theorem off_inj {ps : List Bs} {i j : Nat} (hi : i ≤ ps.length) (hj : j ≤ ps.length) (h : off ps i = off ps j) : i = j := by
  rcases Nat.lt_trichotomy i j with c | c | c
  · have := off_lt c hj; omega
  · exact c
  · have := off_lt c hi; omega
theorem off_le (ps : List Bs) (j : Nat) : off ps j ≤ (cat ps).length := by
  by_cases h : j ≤ ps.length
  · rw [← off_all]; exact off_mono h
  · unfold off; rw [List.take_of_length_le (by omega)]; exact Nat.le_refl _
theorem cat_split (ps : List Bs) (j : Nat) : cat ps = cat (ps.take j) ++ cat (ps.drop j) := by rw [← cat_app, List.take_append_drop]
/-- what is left behind j frames of a beginning -/
theorem left_at (ps : List Bs) (j t : Nat) (h : off ps j ≤ t) : ((cat ps).take t).drop (off ps j) = (cat (ps.drop j)).take (t - off ps j) := by
  rw [List.drop_take]
  congr 1
  rw [cat_split ps j]
  exact List.drop_left
/-- the next frame is whole, or it is torn -/
theorem left_whole {ps : List Bs} {j t : Nat} {p : Bs} (hp : ps[j]? = some p) (h : off ps (j + 1) ≤ t) : ∃ more, ((cat ps).take t).drop (off ps j) = frB p ++ more := by
  have h1 := off_succ hp
  rw [left_at ps j t (by omega)]
  obtain ⟨hj, e⟩ := List.getElem?_eq_some_iff.1 hp
  rw [List.drop_eq_getElem_cons hj, e, cat_cons, List.take_append, fr_len, List.take_of_length_le (by rw [fr_len]; omega)]
  exact ⟨_, rfl⟩
theorem left_torn {ps : List Bs} {j t : Nat} {p : Bs} (hp : ps[j]? = some p) (h0 : off ps j ≤ t) (h : t < off ps (j + 1)) : ((cat ps).take t).drop (off ps j) = (frB p).take (t - off ps j) := by
  have h1 := off_succ hp
  rw [left_at ps j t h0]
  obtain ⟨hj, e⟩ := List.getElem?_eq_some_iff.1 hp
  rw [List.drop_eq_getElem_cons hj, e, cat_cons, List.take_append, fr_len]
  have : t - off ps j - (p.length + 10) = 0 := by omega
  rw [this]; simp
/-- how a beginning goes: j whole frames, and what is behind them -/
structure Cut (ps : List Bs) (t j : Nat) (st : Int) : Prop where
  le : j ≤ ps.length
  off : off ps j ≤ t
  st : (st = 0 ∧ t = Tr.off ps j) ∨ (st = 1 ∧ j < ps.length ∧ Tr.off ps j < t ∧ t < Tr.off ps (j + 1))
theorem Cut.whole {ps : List Bs} {t j : Nat} {st : Int} (h : Cut ps t j st) (ht : t = Tr.off ps ps.length) : st = 0 ∧ j = ps.length := by
  rcases h.st with ⟨h1, h2⟩ | ⟨h1, h2, h3, h4⟩
  · exact ⟨h1, off_inj h.le (Nat.le_refl _) (by omega)⟩
  · have := off_mono (ps := ps) (i := j + 1) (j := ps.length) (by omega)
    omega
theorem Cut.least {ps : List Bs} {t j i : Nat} {st : Int} (h : Cut ps t j st) (hi : i ≤ ps.length) (ht : Tr.off ps i ≤ t) : i ≤ j := by
  rcases Nat.lt_or_ge j i with c | c
  · exfalso
    rcases h.st with ⟨h1, h2⟩ | ⟨h1, h2, h3, h4⟩
    · have := off_lt c hi; omega
    · have := off_mono (ps := ps) (i := j + 1) (j := i) (by omega); omega
  · exact c
theorem Cut.take {ps : List Bs} {t j : Nat} {st : Int} (h : Cut ps t j st) : (((cat ps).take t).take (Tr.off ps j)) = cat (ps.take j) := by
  rw [List.take_take, Nat.min_eq_left h.off, cat_split ps j]
  exact List.take_left
/-- the next step of a reading -/
theorem next_frame (ps : List Bs) (t j : Nat) (ht : t ≤ (cat ps).length) (hj : j ≤ ps.length) (h : Tr.off ps j ≤ t) :
    t = Tr.off ps j ∨ ∃ p, ps[j]? = some p ∧ j < ps.length ∧ Tr.off ps j < t ∧ ((t < Tr.off ps (j + 1) ∧ ((cat ps).take t).drop (Tr.off ps j) = (frB p).take (t - Tr.off ps j) ∧ t - Tr.off ps j < p.length + 10) ∨ (Tr.off ps (j + 1) ≤ t ∧ Tr.off ps (j + 1) = Tr.off ps j + (p.length + 10) ∧ ∃ more, ((cat ps).take t).drop (Tr.off ps j) = frB p ++ more)) := by
  by_cases e : t = Tr.off ps j
  · exact .inl e
  · refine .inr ?_
    have hl : j < ps.length := by
      rcases Nat.lt_or_ge j ps.length with c | c
      · exact c
      · have : j = ps.length := by omega
        subst this
        rw [off_all] at h e
        omega
    have hp : ps[j]? = some ps[j] := List.getElem?_eq_getElem hl
    refine ⟨ps[j], hp, hl, by omega, ?_⟩
    have := off_succ hp
    by_cases c : t < Tr.off ps (j + 1)
    · exact .inl ⟨c, left_torn hp h c, by omega⟩
    · exact .inr ⟨by omega, this, left_whole hp (by omega)⟩
end Tr
end Go.Proofs.YtkofcegdoilaeaaGreatDoor
namespace Go.Proofs.YtkofcegdoilaeaaGreatDoor
open Go.RowKit Go.MapKept Go.Maps
open Go.ChangeMaps (setBlock)
set_option linter.unusedVariables false
set_option linter.unusedSectionVars false
section
variable {P : Program} {k t e : TypeId} {α : Type} [DecidableEq α] {enc : α → Value} {Ok : α → Prop} {w : World} {r : Nat} {m : List (α × Value)}
theorem Mp.find (h : Mp enc Ok w r m) (K : KeyEnc P k enc Ok) {a : α} (ha : Ok a) {es : Array MapEntry} (he : es.toList.map (fun e => (e.key, e.val)) = m.map (fun p => (enc p.1, p.2))) (w' : World) :
    ((Instr.findKey k (enc a) es.toList).run P w' = .ok none w' ∧ (∀ x ∈ es.toList, x.key ≠ enc a) ∧ ∀ p ∈ m, p.1 ≠ a) ∨
    ∃ j e0 v, (Instr.findKey k (enc a) es.toList).run P w' = .ok (some (j, v)) w' ∧ es.toList[j]? = some e0 ∧ e0.key = enc a ∧ m[j]? = some (a, v) := by
  obtain ⟨l, hl⟩ := K.key ha
  rcases K.law.find w' hl es.toList (fun x hx => by
    obtain ⟨j, hj, ej⟩ := List.mem_iff_getElem.1 hx
    obtain ⟨p, hp, h1, h2⟩ := ent_at he (j := j) (e := x) (by rw [List.getElem?_eq_getElem hj, ej])
    rw [h1]
    exact K.key (h.ok p (List.mem_of_getElem? hp))) with ⟨h1, h2⟩ | ⟨j, e0, h1, h2, h3⟩
  · refine .inl ⟨h1, h2, fun p hp ea => ?_⟩
    obtain ⟨x, hx, hk, _⟩ := ent_of he hp
    exact h2 x hx (by rw [hk, ea])
  · obtain ⟨p, hp, h4, h5⟩ := ent_at he h2
    have : p.1 = a := K.inj (h4.symm.trans h3)
    exact .inr ⟨j, e0, p.2, by rw [h1, h5], h2, h3, by rw [hp, ← this]⟩
/-- 'm[a]', 'v, ok := m[a]' -/
theorem Mp.look (h : Mp enc Ok w r m) (K : KeyEnc P k enc Ok) (ht : P.underlying t = some (.map k e)) {z : Value} (hz : (zeroValue e).run P w = .ok z w) {a : α} (ha : Ok a) (c : Bool) :
    (Instr.lookup t (.map (some r)) (enc a) c).run P w = .ok (if c then .tuple #[(mget m a).getD z, .bool (mget m a).isSome] else (mget m a).getD z) w := by
  obtain ⟨es, clock, hb, hs, he⟩ := h.ex
  obtain ⟨l, hl⟩ := K.key ha
  rcases h.find K ha he w with ⟨h1, h2, h3⟩ | ⟨j, e0, v, h1, h2, h3, h4⟩
  · rw [mget_none h3]
    simp [Instr.lookup, run_underlying ht, Go.MapKept.run_getObj_map hb, K.law.check w _ hl, h1, hz, Result.andThen]
  · rw [mget_at h.nd h4]
    simp [Instr.lookup, run_underlying ht, Go.MapKept.run_getObj_map hb, K.law.check w _ hl, h1, Result.andThen]
/-- 'm[a] = v' -/
theorem Mp.store (h : Mp enc Ok w r m) (K : KeyEnc P k enc Ok) (ht : P.underlying t = some (.map k e)) {a : α} (ha : Ok a) (v : Value) :
    ∃ w', (Instr.mapUpdate t (.map (some r)) (enc a) v).run P w = .ok () w' ∧ Mp enc Ok w' r (mput m a v) ∧ Fr (fun b => b = r) w w' ∧ w'.heap.size = w.heap.size := by
  have hlt := h.lt
  have hok : ∀ p ∈ mput m a v, Ok p.1 := fun p hp => by
    rcases mem_put hp with rfl | hp
    · exact ha
    · exact h.ok p hp
  obtain ⟨es, clock, hb, hs, he⟩ := h.ex
  obtain ⟨l, hl⟩ := K.key ha
  rcases h.find K ha he w with ⟨h1, h2, h3⟩ | ⟨j, e0, u, h1, h2, h3, h4⟩
  · refine ⟨setBlock w r (.map (es.push ⟨enc a, v, clock⟩) (clock + 1)), ?_, ⟨hok, nodup_put h.nd a v, _, _, at_setBlock hlt _, stamped_push hs h2, ?_⟩, fr_setBlock _ _ _, by simp [setBlock]⟩
    · simp [Instr.mapUpdate, run_underlying ht, Go.MapKept.run_getObj_map hb, K.law.check w false hl, h1, Go.MapKept.run_setObj_map _ hb, Result.andThen, setBlock]
    · rw [mput_none h3, Array.toList_push, List.map_append, List.map_append, he]; rfl
  · have hj : es[j]? = some e0 := by simpa using h2
    have hkeyf : ∀ e', es[j]? = some e' → ({ e' with key := enc a, val := v } : MapEntry).key = e'.key := fun e' he' => by rw [hj] at he'; cases he'; exact h3.symm
    have hlist : (es.modify j (fun e' => { e' with key := enc a, val := v })).toList = es.toList.set j { e0 with key := enc a, val := v } := by rw [Array.toList_modify, Go.ChangeMaps.modify_eq_set _ _ _ _ h2]
    refine ⟨setBlock w r (.map (es.modify j (fun e' => { e' with key := enc a, val := v })) clock), ?_, ⟨hok, nodup_put h.nd a v, _, _, at_setBlock hlt _, stamped_modify hs _ _ (fun _ _ => rfl) (fun e' _ he' => hkeyf e' he'), ?_⟩, fr_setBlock _ _ _, by simp [setBlock]⟩
    · simp [Instr.mapUpdate, run_underlying ht, Go.MapKept.run_getObj_map hb, K.law.check w false hl, h1, hj, h3, K.law.stays w hl, Go.MapKept.run_setObj_map _ hb, Result.andThen, setBlock]
    · rw [hlist, mput_at h.nd h4, List.map_set, List.map_set, he]
/-- 'delete(m, a)' -/
theorem Mp.drop (h : Mp enc Ok w r m) (K : KeyEnc P k enc Ok) (ht : P.underlying t = some (.map k e)) {a : α} (ha : Ok a) (ty : TypeId) :
    ∃ w', (Builtin.delete_ #[t, k] ty #[.map (some r), enc a]).run P w = .ok (.tuple #[]) w' ∧ Mp enc Ok w' r (mdel m a) ∧ Fr (fun b => b = r) w w' ∧ w'.heap.size = w.heap.size := by
  have hlt := h.lt
  have hok : ∀ p ∈ mdel m a, Ok p.1 := fun p hp => h.ok p ((del_sub m a).subset hp)
  obtain ⟨es, clock, hb, hs, he⟩ := h.ex
  obtain ⟨l, hl⟩ := K.key ha
  rcases h.find K ha he w with ⟨h1, h2, h3⟩ | ⟨j, e0, u, h1, h2, h3, h4⟩
  · refine ⟨setBlock w r (.map es clock), ?_, ⟨hok, nodup_del h.nd a, es, clock, at_setBlock hlt _, hs, ?_⟩, fr_setBlock _ _ _, by simp [setBlock]⟩
    · simp [Builtin.delete_, run_underlying ht, Go.MapKept.run_getObj_map hb, K.law.check w _ hl, h1, Go.MapKept.run_setObj_map _ hb, Result.andThen, setBlock]
    · rw [mdel_none h3, he]
  · have hjl : j < es.toList.length := (List.getElem?_eq_some_iff.1 h2).1
    have hjs : j < es.size := by simpa using hjl
    have hsub : (es.eraseIdxIfInBounds j).toList = es.toList.eraseIdx j := by
      unfold Array.eraseIdxIfInBounds
      rw [dif_pos hjs]
      simp
    refine ⟨setBlock w r (.map (es.eraseIdxIfInBounds j) clock), ?_, ⟨hok, nodup_del h.nd a, _, clock, at_setBlock hlt _, stamped_erase hs j, ?_⟩, fr_setBlock _ _ _, by simp [setBlock]⟩
    · simp [Builtin.delete_, run_underlying ht, Go.MapKept.run_getObj_map hb, K.law.check w _ hl, h1, Go.MapKept.run_setObj_map _ hb, Result.andThen, setBlock]
    · rw [hsub, mdel_at h.nd h4, Go.ChangeMaps.map_eraseIdx, Go.ChangeMaps.map_eraseIdx, he]
variable {ops : Array Oper} {rest : List Oper} {o : Oper} {a : Act} {Q : Exit → Act → World → Prop}
theorem wpList_look (hg : o.guard = none) (om ox : Operand) (hop : o.op = Op.lookup t om ox false) (K : KeyEnc P k enc Ok) (ht : P.underlying t = some (.map k e)) {z : Value} (hz : (zeroValue e).run P w = .ok z w)
    (h : Mp enc Ok w r m) (hm : a.eval om = .map (some r)) (x : α) (hx : a.eval ox = enc x) (hk : Ok x)
    (v : Value) (hv : (mget m x).getD z = v) (hK : wpList P ops Q rest (a.put o.dst v) w) : wpList P ops Q (o :: rest) a w := by
  refine wpList_plain hg fun K' hK' => ?_
  have hr := h.look K ht hz hk false
  rw [hv] at hr
  unfold Oper.wp
  simp [execOp, hop, hm, hx, hr, Result.andThen]
  exact hK' _ _ hK
theorem wpList_look_ok (hg : o.guard = none) (om ox : Operand) (hop : o.op = Op.lookup t om ox true) (K : KeyEnc P k enc Ok) (ht : P.underlying t = some (.map k e)) {z : Value} (hz : (zeroValue e).run P w = .ok z w)
    (h : Mp enc Ok w r m) (hm : a.eval om = .map (some r)) (x : α) (hx : a.eval ox = enc x) (hk : Ok x)
    (v : Value) (hv : (mget m x).getD z = v) (b : Bool) (hb : (mget m x).isSome = b) (hK : wpList P ops Q rest (a.put o.dst (.tuple #[v, .bool b])) w) : wpList P ops Q (o :: rest) a w := by
  refine wpList_plain hg fun K' hK' => ?_
  have hr := h.look K ht hz hk true
  rw [hv, hb] at hr
  unfold Oper.wp
  simp [execOp, hop, hm, hx, hr, Result.andThen]
  exact hK' _ _ hK
theorem wpList_store (hg : o.guard = none) (om ox ov : Operand) (hop : o.op = Op.mapUpdate t om ox ov) (K : KeyEnc P k enc Ok) (ht : P.underlying t = some (.map k e))
    (h : Mp enc Ok w r m) (hm : a.eval om = .map (some r)) (x : α) (hx : a.eval ox = enc x) (hk : Ok x) (v : Value) (hv : a.eval ov = v)
    (hK : ∀ w', Mp enc Ok w' r (mput m x v) → Fr (fun b => b = r) w w' → w'.heap.size = w.heap.size → wpList P ops Q rest (a.put o.dst undef) w') : wpList P ops Q (o :: rest) a w := by
  refine wpList_plain hg fun K' hK' => ?_
  obtain ⟨w', hrun, r1, r2, r3⟩ := h.store K ht hk v
  unfold Oper.wp
  simp [execOp, hop, hm, hx, hv, hrun, Result.andThen]
  exact hK' _ _ (hK w' r1 r2 r3)
theorem wpList_drop (hg : o.guard = none) (om ox : Operand) (hop : o.op = Op.call { callee := Callee.builtin Builtin.delete, args := #[om, ox], argTypes := #[t, k] }) (K : KeyEnc P k enc Ok) (ht : P.underlying t = some (.map k e))
    (h : Mp enc Ok w r m) (hm : a.eval om = .map (some r)) (x : α) (hx : a.eval ox = enc x) (hk : Ok x)
    (hK : ∀ w', Mp enc Ok w' r (mdel m x) → Fr (fun b => b = r) w w' → w'.heap.size = w.heap.size → wpList P ops Q rest (a.put o.dst (.tuple #[])) w') : wpList P ops Q (o :: rest) a w := by
  refine wpList_plain hg fun K' hK' => ?_
  obtain ⟨w', hrun, r1, r2, r3⟩ := h.drop K ht hk o.type
  unfold Oper.wp
  simp [execOp, hop, resolve, invoke, builtin, hm, hx, hrun, Result.andThen]
  exact hK' _ _ (hK w' r1 r2 r3)
end
end Go.Proofs.YtkofcegdoilaeaaGreatDoor
namespace Go.Proofs.YtkofcegdoilaeaaGreatDoor
open Go.RowKit Go.MapKept Go.Maps
open Go.ChangeMaps (setBlock)
set_option linter.unusedVariables false
set_option linter.unusedSectionVars false
set_option linter.unnecessarySimpa false
/-- block it of w is an iterator over the map in block r, which holds m; left is still to come -/
structure Rg {α : Type} (enc : α → Value) (Ok : α → Prop) (w : World) (r it : Nat) (m left : List (α × Value)) : Prop where
  mp : Mp enc Ok w r m
  sub : ∀ p ∈ left, p ∈ m
  ex : ∃ es clock since seen c0, w.heap[r]? = some (.map es clock) ∧ w.heap[it]? = some (.mapIter (some r) since seen c0) ∧ (∀ x ∈ es.toList, x.born < since) ∧ since ≤ c0 ∧ since ≤ clock ∧ (es.toList.map (·.born)).Nodup ∧
    ((leftOf es seen).toList.map (fun e => (e.key, e.val))).Perm (left.map (fun p => (enc p.1, p.2)))
section
variable {P : Program} {k t e : TypeId} {α : Type} [DecidableEq α] {enc : α → Value} {Ok : α → Prop} {w : World} {r it : Nat} {m left : List (α × Value)}
theorem Rg.ne (h : Rg enc Ok w r it m left) : it ≠ r := by
  obtain ⟨es, clock, since, seen, c0, hb, hi, _⟩ := h.ex
  intro e
  rw [e, hb] at hi
  cases hi
theorem Rg.lt (h : Rg enc Ok w r it m left) : it < w.heap.size := by
  obtain ⟨es, clock, since, seen, c0, hb, hi, _⟩ := h.ex
  exact lt_of_at hi
theorem Rg.fr {S : Nat → Prop} {w' : World} (h : Rg enc Ok w r it m left) (hf : Fr S w w') (hs : ¬ S r) (hi : ¬ S it) : Rg enc Ok w' r it m left := by
  obtain ⟨es, clock, since, seen, c0, hb, h1, h2⟩ := h.ex
  exact ⟨h.mp.fr hf hs, h.sub, es, clock, since, seen, c0, hf.at hb hs, hf.at h1 hi, h2⟩
theorem Rg.bel {w' : World} (h : Rg enc Ok w r it m left) (hb : Below w.heap.size w w') : Rg enc Ok w' r it m left := h.fr (Fr.of_bel (S := none') hb) id id
theorem Rg.left_eq (h : Rg enc Ok w r it m left) : w.rangeLeft r it = left.length := by
  obtain ⟨es, clock, since, seen, c0, hb, hi, _, _, _, _, hp⟩ := h.ex
  simp only [World.rangeLeft, hb, hi]
  have := hp.length_eq
  simpa using this
theorem stamped_nodup {es : Array MapEntry} {clock : Nat} (h : Stamped es clock) : (es.toList.map (·.born)).Nodup := ((stamped_iff es clock).1 h).2.1
/-- 'range m' -/
theorem Mp.range (h : Mp enc Ok w r m) (ht : P.underlying t = some (.map k e)) :
    ∃ w', (Instr.range t (.map (some r))).run P w = .ok (.pointer (some ⟨w.heap.size, 0, none⟩)) w' ∧ Rg enc Ok w' r w.heap.size m m ∧ Below w.heap.size w w' ∧ w'.heap.size = w.heap.size + 1 := by
  have hlt := h.lt
  obtain ⟨es, clock, hb, hs, he⟩ := h.ex
  have hbel := (Below.refl w.heap.size w).alloc (Nat.le_refl _) (.mapIter (some r) clock #[] clock)
  refine ⟨_, run_range_map w t k e r es clock ht hb, ⟨h.bel hbel, fun _ h => h, es, clock, clock, #[], clock, ((MapKept.heap_alloc w _).2 r hlt).trans hb, (MapKept.heap_alloc w _).1, hs.1, Nat.le_refl _, Nat.le_refl _, stamped_nodup hs, ?_⟩, hbel, by simp⟩
  have : leftOf es #[] = es := by simp [leftOf]
  rw [this, he]
theorem leftOf_push {es : Array MapEntry} {seen : Array Nat} (hn : (es.toList.map (·.born)).Nodup) {e : MapEntry} (he : e ∈ (leftOf es seen).toList) :
    ∃ l1 l2, (leftOf es seen).toList = l1 ++ e :: l2 ∧ (leftOf es (seen.push e.born)).toList = l1 ++ l2 := by
  have hsub : ((leftOf es seen).toList.map (·.born)).Nodup := by
    unfold leftOf
    rw [Array.toList_filter]
    exact List.Nodup.sublist (List.Sublist.map _ List.filter_sublist) hn
  have h2 : (leftOf es (seen.push e.born)).toList = (leftOf es seen).toList.filter (fun x => !(x.born == e.born)) := by
    unfold leftOf
    rw [Array.toList_filter, Array.toList_filter, List.filter_filter]
    refine List.filter_congr fun x _ => ?_
    rw [Bool.eq_iff_iff]
    simp [and_comm]
  obtain ⟨l1, l2, hl⟩ := List.append_of_mem he
  refine ⟨l1, l2, hl, ?_⟩
  rw [h2, hl]
  rw [hl, List.map_append, List.map_cons, List.nodup_append] at hsub
  obtain ⟨n1, n2, n3⟩ := hsub
  have n2' := List.nodup_cons.1 n2
  have f1 : l1.filter (fun x => !(x.born == e.born)) = l1 := List.filter_eq_self.2 fun x hx => by
    have := n3 x.born (List.mem_map.2 ⟨x, hx, rfl⟩) e.born (by simp)
    simpa using this
  have f2 : l2.filter (fun x => !(x.born == e.born)) = l2 := List.filter_eq_self.2 fun x hx => by
    have : x.born ≠ e.born := fun h => n2'.1 (h ▸ List.mem_map.2 ⟨x, hx, rfl⟩)
    simpa using this
  rw [List.filter_append, List.filter_cons, f1, f2]
  simp
/-- the step -/
theorem Rg.next (h : Rg enc Ok w r it m left) (ty : TypeId) :
    (left = [] ∧ (Instr.next (.pointer (some ⟨it, 0, none⟩)) false ty).run P w = .ok (.tuple #[.bool false]) w) ∨
    ∃ a v rest w', left.Perm ((a, v) :: rest) ∧ Ok a ∧ (a, v) ∈ m ∧ (Instr.next (.pointer (some ⟨it, 0, none⟩)) false ty).run P w = .ok (.tuple #[.bool true, enc a, v]) w' ∧
      Rg enc Ok w' r it m rest ∧ Fr (fun b => b = it) w w' ∧ w'.heap.size = w.heap.size ∧ (Instr.entry (.pointer (some ⟨it, 0, none⟩))).run P w' = .ok (.tuple #[enc a, v]) w' := by
  have hne := h.ne
  have hlt := h.lt
  obtain ⟨es, clock, since, seen, c0, hb, hi, hold, hsc, hsk, hnd, hp⟩ := h.ex
  rcases run_next_at (P := P) w ty it r since c0 seen es clock hi hb hold hsc with ⟨h0, hrun⟩ | ⟨x, hx, w1, hal, hrun⟩
  · refine .inl ⟨?_, hrun⟩
    have := hp.length_eq
    simp [h0] at this
    exact List.eq_nil_of_length_eq_zero this.symm
  · obtain ⟨l1, l2, hl, hl'⟩ := leftOf_push hnd hx
    have hm : (x.key, x.val) ∈ left.map (fun p => (enc p.1, p.2)) := hp.mem_iff.1 (List.mem_map.2 ⟨x, hx, rfl⟩)
    obtain ⟨p, hpl, hpe⟩ := List.mem_map.1 hm
    obtain ⟨q1, q2, hq⟩ := List.append_of_mem hpl
    have e1 : enc p.1 = x.key := (Prod.mk.inj hpe).1
    have e2 : p.2 = x.val := (Prod.mk.inj hpe).2
    have f1 : Fr (fun b => b = it) w w1 := by
      rcases hal with rfl | rfl
      · exact Fr.refl _ _
      · exact (Fr.refl _ _).drew
    have hs1 : w1.heap.size = w.heap.size := by rcases hal with rfl | rfl <;> rfl
    have f2 := f1.trans (fr_setBlock w1 it (.mapIter (some r) since (seen.push x.born) clock)) (fun _ _ h => h)
    have hit : (setBlock w1 it (.mapIter (some r) since (seen.push x.born) clock)).heap[it]? = some (.mapIter (some r) since (seen.push x.born) clock) := at_setBlock (by omega) _
    have hmr : (setBlock w1 it (.mapIter (some r) since (seen.push x.born) clock)).heap[r]? = some (.map es clock) := f2.at hb (fun e => hne e.symm)
    have hxm : x ∈ es.toList := by
      unfold leftOf at hx
      rw [Array.toList_filter] at hx
      exact (List.mem_filter.1 hx).1
    refine .inr ⟨p.1, p.2, q1 ++ q2, _, ?_, h.mp.ok p (h.sub p hpl), h.sub p hpl, ?_, ⟨h.mp.fr f2 (fun e => hne e.symm), fun q hq' => h.sub q (by rw [hq]; rcases List.mem_append.1 hq' with h | h <;> simp [h]), es, clock, since, seen.push x.born, clock, hmr, hit, hold, hsk, hsk, hnd, ?_⟩, f2, by simp [setBlock, hs1], ?_⟩
    · rw [hq]; exact List.perm_middle
    · rw [e1, e2]; exact hrun
    · rw [hl']
      rw [hl, hq] at hp
      have h3 : ((x.key, x.val) :: (l1 ++ l2).map (fun e => (e.key, e.val))).Perm ((enc p.1, p.2) :: (q1 ++ q2).map (fun p => (enc p.1, p.2))) := by
        refine (List.Perm.trans ?_ hp).trans ?_
        · simpa using (List.perm_middle (a := (x.key, x.val)) (l₁ := l1.map (fun e => (e.key, e.val))) (l₂ := l2.map (fun e => (e.key, e.val)))).symm
        · simpa using (List.perm_middle (a := (enc p.1, p.2)) (l₁ := q1.map (fun p => (enc p.1, p.2))) (l₂ := q2.map (fun p => (enc p.1, p.2))))
      rw [e1, e2] at h3
      exact h3.cons_inv
    · rw [e1, e2]; exact run_entry_at _ it r since seen es clock x hit hmr hxm hnd
variable {ops : Array Oper} {rest : List Oper} {o : Oper} {a : Act} {Q : Exit → Act → World → Prop}
theorem wpList_range (hg : o.guard = none) (om : Operand) (hop : o.op = Op.range t om) (ht : P.underlying t = some (.map k e)) (h : Mp enc Ok w r m) (hm : a.eval om = .map (some r))
    (hK : ∀ w', Rg enc Ok w' r w.heap.size m m → Below w.heap.size w w' → w'.heap.size = w.heap.size + 1 → wpList P ops Q rest (a.put o.dst (.pointer (some ⟨w.heap.size, 0, none⟩))) w') : wpList P ops Q (o :: rest) a w := by
  refine wpList_plain hg fun K' hK' => ?_
  obtain ⟨w', hrun, r1, r2, r3⟩ := h.range (P := P) ht
  unfold Oper.wp
  simp [execOp, hop, hm, hrun, Result.andThen]
  exact hK' _ _ (hK w' r1 r2 r3)
theorem wpList_next (hg : o.guard = none) (oi : Operand) (hop : o.op = Op.next oi false) (h : Rg enc Ok w r it m left) (hm : a.eval oi = .pointer (some ⟨it, 0, none⟩))
    (hDone : left = [] → wpList P ops Q rest (a.put o.dst (.tuple #[.bool false])) w)
    (hMore : ∀ x v more w', left.Perm ((x, v) :: more) → Ok x → (x, v) ∈ m → Rg enc Ok w' r it m more → Fr (fun b => b = it) w w' → w'.heap.size = w.heap.size → (Instr.entry (.pointer (some ⟨it, 0, none⟩))).run P w' = .ok (.tuple #[enc x, v]) w' →
      wpList P ops Q rest (a.put o.dst (.tuple #[.bool true, enc x, v])) w') : wpList P ops Q (o :: rest) a w := by
  refine wpList_plain hg fun K' hK' => ?_
  unfold Oper.wp
  rcases h.next (P := P) o.type with ⟨h0, hrun⟩ | ⟨x, v, more, w', h1, h2, h3, hrun, h4, h5, h6, h7⟩
  · simp [execOp, hop, hm, hrun, Result.andThen]
    exact hK' _ _ (hDone h0)
  · simp [execOp, hop, hm, hrun, Result.andThen]
    exact hK' _ _ (hMore x v more w' h1 h2 h3 h4 h5 h6 h7)
/-- the step, the key's value as it is written -/
theorem wpList_next' (kv : α → Value) (hkv : ∀ x, enc x = kv x) (hg : o.guard = none) (oi : Operand) (hop : o.op = Op.next oi false) (h : Rg enc Ok w r it m left) (hm : a.eval oi = .pointer (some ⟨it, 0, none⟩))
    (hDone : left = [] → wpList P ops Q rest (a.put o.dst (.tuple #[.bool false])) w)
    (hMore : ∀ x v more w', left.Perm ((x, v) :: more) → Ok x → (x, v) ∈ m → Rg enc Ok w' r it m more → Fr (fun b => b = it) w w' → w'.heap.size = w.heap.size → (Instr.entry (.pointer (some ⟨it, 0, none⟩))).run P w' = .ok (.tuple #[kv x, v]) w' →
      wpList P ops Q rest (a.put o.dst (.tuple #[.bool true, kv x, v])) w') : wpList P ops Q (o :: rest) a w :=
  wpList_next hg oi hop h hm hDone (fun x v more w' h1 h2 h3 h4 h5 h6 h7 => by rw [hkv] at h7 ⊢; exact hMore x v more w' h1 h2 h3 h4 h5 h6 h7)
/-- 'len(m)' -/
theorem Mp.len (h : Mp enc Ok w r m) (ht : P.underlying t = some (.map k e)) (ty : TypeId) : (Builtin.len_ #[t] ty #[.map (some r)]).run P w = .ok (.int .i64 m.length) w := by
  obtain ⟨es, clock, hb, hs, he⟩ := h.ex
  have h1 : es.size = m.length := by have := congrArg List.length he; simpa using this
  simp [Builtin.len_, run_underlying ht, Go.MapKept.run_getObj_map hb, Result.andThen, h1, goInt]
end
end Go.Proofs.YtkofcegdoilaeaaGreatDoor
namespace Go.Proofs.YtkofcegdoilaeaaGreatDoor
open Go.ChangeShapes Go.WideShapes Go.RowKit Go.Deep

/-- the cells of a slice's elements, sz each, in W: nothing is asked of an empty one -/
def InW (W : World) (b : Option Addr) (sz : Nat) (css : List (List Value)) : Prop :=
  css = [] ∨ ∃ B off, b = some ⟨B, off, none⟩ ∧ B < W.heap.size ∧ ∀ i c, css[i]? = some c → ∀ j u, c[j]? = some u → W.cell? ⟨B, off + i * sz + j, none⟩ = some u
theorem InW.bel {W W' : World} {b : Option Addr} {sz : Nat} {css : List (List Value)} (h : InW W b sz css) (hb : Below W.heap.size W W') : InW W' b sz css := by
  rcases h with h | ⟨B, off, hB, hl, hc⟩
  · exact .inl h
  · exact .inr ⟨B, off, hB, Nat.lt_of_lt_of_le hl hb.size, fun i c hi j u hj => by rw [hb.cell (p := ⟨B, _, none⟩) hl]; exact hc i c hi j u hj⟩

section
variable {H : Type} {enc : TypeId × Value → H} {P : Program} {W : World}
theorem list_choose {α β : Type} (f : α → β) (Ok : α → Prop) : ∀ (l : List β), (∀ x ∈ l, ∃ a, x = f a ∧ Ok a) → ∃ xs : List α, l = xs.map f ∧ ∀ a ∈ xs, Ok a
  | [], _ => ⟨[], rfl, fun _ h => by cases h⟩
  | y :: l, h => by
    obtain ⟨a, ha, hk⟩ := h y (by simp)
    obtain ⟨xs, hx, hs⟩ := list_choose f Ok l (fun x hx => h x (by simp [hx]))
    refine ⟨a :: xs, by simp [ha, hx], fun b hb => ?_⟩
    rcases List.mem_cons.1 hb with rfl | hb
    · exact hk
    · exact hs b hb
theorem add_lit' (B off i j : Nat) : ((⟨B, off, none⟩ : Addr).add i).add j = ⟨B, off + i + j, none⟩ := by
  rw [add_add]
  unfold Addr.add
  split
  · rename_i h
    have h1 : i = 0 := by omega
    have h2 : j = 0 := by omega
    subst h1 h2; rfl
  · simp; omega
/-- a slice of elements of a plain type, whatever slice came in -/
theorem open_slice_as {α : Type} {t e : TypeId} {r : Reach} {b0 : Nat} {v : Value} {d : DataW H} {p : List MemPlace} (sz : Nat) (f : α → List Value) (Ok : α → Prop) (ht : P.underlying t = some (.slice e)) (he : P.cellsOf e = sz) (hsz : 0 < sz)
    (hval : Value.okWide P W r b0 t v) (h : DataW.Trod enc P W 0 (fun _ => true) true t v d p)
    (hf : ∀ c fuel x, c.length = sz → DataW.trod enc P W 0 (fun _ => true) true fuel e c = some x → ∃ a, c = f a ∧ Ok a) :
    ∃ (b : Option Addr) (cap : Nat) (xs : List α), v = .slice b xs.length cap ∧ xs.length ≤ cap ∧ cap ≤ maxLen ∧ InW W b sz (xs.map f) ∧ ∀ a ∈ xs, Ok a := by
  obtain ⟨b, n, cap, rfl⟩ := okWide_slice ht hval
  obtain ⟨fuel, hf0⟩ := h
  rcases open_slice ht hf0 with ⟨hcs, _⟩ | ⟨a, len, cap', m, k, D, Pl, hcs, _, hl, hm, hmm, _, hx⟩
  · simp only [Value.cells, List.cons.injEq, and_true] at hcs
    cases hcs
    exact ⟨none, 0, [], rfl, Nat.le_refl _, Nat.zero_le _, .inl rfl, fun _ h => by cases h⟩
  · simp only [Value.cells, List.cons.injEq, and_true] at hcs
    cases hcs
    simp only [if_true] at hmm
    subst hmm
    have each : ∀ i, ∃ c : List Value, i < n → c.length = sz ∧ (∃ x, DataW.trod enc P W 0 (fun _ => true) true k e c = some x) ∧ ∀ j, j < sz → W.cell? ((a.add (i * sz)).add j) = c[j]? := fun i => by
      by_cases hi : i < n
      · obtain ⟨cs', h1, h2⟩ := hx i (by omega)
        rw [he] at h1
        obtain ⟨_, hlen, hcell⟩ := World.cells?_some h1
        exact ⟨cs', fun _ => ⟨hlen, ⟨_, h2⟩, hcell⟩⟩
      · exact ⟨[], fun h => absurd h hi⟩
    have ⟨c, hc⟩ := Classical.axiomOfChoice each
    obtain ⟨xs, hxs, hok⟩ := list_choose f Ok ((List.range n).map c) (fun x hx => by
      obtain ⟨i, hi, rfl⟩ := List.mem_map.1 hx
      obtain ⟨q1, ⟨x, q2⟩, _⟩ := hc i (List.mem_range.1 hi)
      exact hf _ _ _ q1 q2)
    have hlen : xs.length = n := by
      have := congrArg List.length hxs
      simpa using this.symm
    subst hlen
    refine ⟨some a, m, xs, rfl, hl, hm, ?_, hok⟩
    by_cases hn : xs.length = 0
    · left
      rw [List.length_eq_zero_iff.1 hn]; rfl
    · right
      obtain ⟨q1, _, q3⟩ := hc 0 (by omega)
      have hs : a.spot = none := by
        have h0 := q3 0 hsz
        simp only [Nat.zero_mul, Addr.add, if_true] at h0
        rw [List.getElem?_eq_getElem (by omega)] at h0
        exact World.cell?_spot h0
      obtain ⟨B, off, spot⟩ := a
      simp only at hs
      subst hs
      refine ⟨B, off, rfl, ?_, ?_⟩
      · have h0 := q3 0 hsz
        simp only [Nat.zero_mul, Addr.add, if_true] at h0
        rw [List.getElem?_eq_getElem (by omega)] at h0
        exact World.block_lt_of_cell? _ _ h0
      · intro i c' hi j u hj
        rw [← hxs, List.getElem?_map] at hi
        obtain ⟨i', hi', e1⟩ := Option.map_eq_some_iff.1 hi
        obtain ⟨hi3, e3⟩ := List.getElem?_eq_some_iff.1 hi'
        simp only [List.getElem_range] at e3
        subst e3
        obtain ⟨p1, _, p3⟩ := hc i (by simpa using hi3)
        rw [e1] at p1 p3
        have hj2 : j < sz := by rw [← p1]; exact (List.getElem?_eq_some_iff.1 hj).1
        have := p3 j hj2
        rw [add_lit', hj] at this
        exact this
end
end Go.Proofs.YtkofcegdoilaeaaGreatDoor
namespace Go.Proofs.YtkofcegdoilaeaaGreatDoor
open Go.RowKit Go.ChangeShapes Go.WideShapes
/-- the texts of a slice -/
def Strs (w : World) (b : Option Addr) (xs : List ByteArray) : Prop := InW w b 1 (xs.map fun s => [.string s])
theorem Strs.bel {w w' : World} {b : Option Addr} {xs : List ByteArray} (h : Strs w b xs) (hb : Below w.heap.size w w') : Strs w' b xs := InW.bel h hb
theorem Strs.at {w : World} {b : Option Addr} {xs : List ByteArray} (h : Strs w b xs) {i : Nat} {s : ByteArray} (hi : xs[i]? = some s) : ∃ B off, b = some ⟨B, off, none⟩ ∧ B < w.heap.size ∧ w.cell? ⟨B, off + i, none⟩ = some (.string s) := by
  rcases h with h | ⟨B, off, hb, hl, hc⟩
  · rw [List.map_eq_nil_iff.1 h] at hi; cases hi
  · refine ⟨B, off, hb, hl, ?_⟩
    have := hc i [.string s] (by rw [List.getElem?_map, hi]; rfl) 0 _ rfl
    simpa using this
/-- the first ones -/
theorem Strs.take {w : World} {b : Option Addr} {xs : List ByteArray} (h : Strs w b xs) (n : Nat) : Strs w b (xs.take n) := by
  rcases h with h | ⟨B, off, hb, hl, hc⟩
  · rw [List.map_eq_nil_iff.1 h]; left; simp
  · refine .inr ⟨B, off, hb, hl, fun i c hi => ?_⟩
    rw [List.map_take, List.getElem?_take] at hi
    split at hi
    · exact hc i c hi
    · cases hi
section
variable {H : Type} {enc : TypeId × Value → H} {P : Program} {W : World}
theorem open_texts {t e : TypeId} {r : Reach} {b0 : Nat} {v : Value} {d : DataW H} {p : List MemPlace} (ht : P.underlying t = some (.slice e)) (he : P.underlying e = some .string) (hc : P.cellsOf e = 1)
    (hval : Value.okWide P W r b0 t v) (h : DataW.Trod enc P W 0 (fun _ => true) true t v d p) :
    ∃ (b : Option Addr) (cap : Nat) (xs : List ByteArray), v = .slice b xs.length cap ∧ xs.length ≤ cap ∧ cap ≤ maxLen ∧ InW W b 1 (xs.map fun s => [.string s]) ∧ ∀ s ∈ xs, s.size ≤ maxLen := by
  refine open_slice_as 1 _ _ ht hc (by omega) hval h fun c fuel x hl hx => ?_
  match c, hl with
  | [u], _ =>
    obtain ⟨s, e0, _, hs⟩ := DataW.trod_string he hx
    simp at e0
    subst e0
    exact ⟨s, rfl, hs⟩
end
end Go.Proofs.YtkofcegdoilaeaaGreatDoor
namespace Go.Proofs.YtkofcegdoilaeaaGreatDoor
open Go.RowKit
section
variable {P : Program}
/-- an append of nothing -/
theorem run_append_nothing (w : World) (t ty e : TypeId) (i : TypeInfo) (ht : P.underlying t = some (.slice e)) (hi : P.info? e = some i) (size : Nat)
    (v : Value) (n : Nat) (xs : List Value) (hown : w.ownsRow 0 e size v n xs) (b : Option Addr) (c : Nat) :
    (Builtin.append_ #[t, t] ty #[v, .slice b 0 c]).run P w = .ok v w := by
  rcases hown.2 with ⟨rfl, rfl⟩ | ⟨g, cap, cur, rfl, _, hg, hnc, _⟩
  · cases b <;> simp [Builtin.append_, run_underlying ht, sizeOf, typeInfo, hi, Builtin.lenOf, Builtin.firstCells, loadCells, loadCellsFrom]
  · cases b <;> simp [Builtin.append_, run_underlying ht, sizeOf, typeInfo, hi, Builtin.lenOf, Builtin.firstCells, loadCells, loadCellsFrom, hnc, storeCells]
theorem one_text (xs : List ByteArray) : ∀ u ∈ xs.map Value.string, u.oneCell' = true := fun u hu => by
  obtain ⟨s, _, rfl⟩ := List.mem_map.1 hu
  rfl
theorem run_append_texts (w : World) (t ty e : TypeId) (i : TypeInfo) (ht : P.underlying t = some (.slice e)) (hi : P.info? e = some i) (hz : i.zero = some (.string ⟨#[]⟩)) (hsize : i.size = 1) (hby : i.bytes = 16)
    (v : Value) (xs ys : List ByteArray) (hown : w.ownsRow 0 e 1 v xs.length (xs.map Value.string)) (b : Option Addr) (c : Nat) (hs : Strs w b ys) (hlen : xs.length + ys.length ≤ 1000000) :
    ∃ v' w', (Builtin.append_ #[t, t] ty #[v, .slice b ys.length c]).run P w = .ok v' w' ∧ w'.ownsRow 0 e 1 v' (xs ++ ys).length ((xs ++ ys).map Value.string) ∧ Fr (fun b => v.ownBlock = some b) w w' ∧ Hence v v' w := by
  rcases hs with h | ⟨B, off, rfl, _, hc⟩
  · have : ys = [] := List.map_eq_nil_iff.1 h
    subst this
    exact ⟨v, w, run_append_nothing w t ty e i ht hi 1 v _ _ hown b c, by simpa using hown, Fr.refl _ _, .inl rfl⟩
  · have := run_append_row (P := P) w t ty e i (.string ⟨#[]⟩) 1 16 ht hi hz hsize hby rfl (by decide) v xs.length (xs.map Value.string) hown ⟨B, off, none⟩ ys.length c (ys.map Value.string) (by simp)
      (fun j u hj => by
        rw [List.getElem?_map] at hj
        obtain ⟨s, hs, rfl⟩ := Option.map_eq_some_iff.1 hj
        rw [Addr.add_lit]
        have := hc j [.string s] (by rw [List.getElem?_map, hs]; rfl) 0 _ rfl
        simpa using this) (one_text ys) (by unfold maxLen; omega) (by omega)
    obtain ⟨v', w', h1, h2, h3, h4⟩ := this
    exact ⟨v', w', h1, by simpa using h2, h3, h4⟩
theorem wpList_append_texts (w : World) {ops : Array Oper} {rest : List Oper} {o : Oper} {a : Act} {Q : Exit → Act → World → Prop} (hgd : o.guard = none) (s x : Operand) (t : TypeId)
    (ho : o.op = .call { callee := .builtin .append, args := #[s, x], argTypes := #[t, t] })
    (e : TypeId) (i : TypeInfo) (ht : P.underlying t = some (.slice e)) (hi : P.info? e = some i) (hz : i.zero = some (.string ⟨#[]⟩)) (hsize : i.size = 1) (hby : i.bytes = 16)
    (v : Value) (xs ys : List ByteArray) (hs : a.eval s = v) (hown : w.ownsRow 0 e 1 v xs.length (xs.map Value.string)) (b : Option Addr) (n c : Nat) (hx : a.eval x = .slice b n c) (hn : n = ys.length) (hst : Strs w b ys) (hlen : xs.length + ys.length ≤ 1000000)
    (h : ∀ v' w', w'.ownsRow 0 e 1 v' (xs ++ ys).length ((xs ++ ys).map Value.string) → Fr (fun b => v.ownBlock = some b) w w' → Hence v v' w → wpList P ops Q rest (a.put o.dst v') w') : wpList P ops Q (o :: rest) a w := by
  subst hn
  refine wpList_plain hgd fun _ hK => ?_
  obtain ⟨v', w', hr, h2, h3, h4⟩ := run_append_texts (P := P) w t o.type e i ht hi hz hsize hby v xs ys hown b c hst hlen
  unfold Oper.wp execOp
  simp only [ho, resolve, invoke, builtin, Sem.run_bind, Sem.run_pure, Result.andThen_ok, List.map_toArray, List.map_cons, List.map_nil, hs, hx, hr]
  exact hK _ _ (h v' w' h2 h3 h4)
end
/-- a row of texts, read -/
theorem strs_of_row {w : World} {e : TypeId} {v : Value} {xs : List ByteArray} {n : Nat} (h : w.ownsRow 0 e 1 v n (xs.map Value.string)) : ∃ b cap, v = .slice b xs.length cap ∧ xs.length ≤ cap ∧ cap ≤ maxLen ∧ Strs w b xs ∧ n = xs.length := by
  obtain ⟨hl, h1 | ⟨r, cap, cs, rfl, h2, h3, h4, h5, h6⟩⟩ := bk_of_row h
  · obtain ⟨rfl, rfl, hx⟩ := h1
    have : xs = [] := List.map_eq_nil_iff.1 hx
    subst this
    exact ⟨none, 0, rfl, Nat.le_refl _, Nat.zero_le _, Or.inl rfl, rfl⟩
  · rw [List.length_map] at hl
    subst hl
    refine ⟨some ⟨r, 0, none⟩, cap, rfl, h4, h5, .inr ⟨r, 0, rfl, h2.lt, fun i c hi j u hj => ?_⟩, rfl⟩
    rw [List.getElem?_map] at hi
    obtain ⟨x, hx, rfl⟩ := Option.map_eq_some_iff.1 hi
    match j, hj with
    | 0, hj =>
      cases hj
      have h7 : (xs.map Value.string)[i]? = some (.string x) := by rw [List.getElem?_map, hx]; rfl
      rw [← h6, List.getElem?_take] at h7
      split at h7
      · have := h2.cell i
        rw [h7] at this
        simpa using this
      · cases h7
    | j + 1, hj => simp at hj
theorem texts_empty (w : World) (e : TypeId) : (w.alloc (.cells #[] e)).ownsRow 0 e 1 (.slice (some ⟨w.heap.size, 0, none⟩) 0 0) ([] : List ByteArray).length (([] : List ByteArray).map Value.string) :=
  World.ownsRow_made w #[] 0 (Nat.zero_le _) (by unfold maxLen; omega) rfl
end Go.Proofs.YtkofcegdoilaeaaGreatDoor
namespace Go.Proofs.YtkofcegdoilaeaaGreatDoor
open Go.RowKit Go.ChangeShapes Go.WideShapes
section
variable {P : Program} {α : Type} (f : α → Value) (hf : ∀ a, (f a).oneCell' = true)
include hf
theorem one_any (xs : List α) : ∀ u ∈ xs.map f, u.oneCell' = true := fun u hu => by
  obtain ⟨s, _, rfl⟩ := List.mem_map.1 hu
  exact hf s
theorem run_append_any (w : World) (t ty e : TypeId) (i : TypeInfo) (z : Value) (bytes : Nat) (ht : P.underlying t = some (.slice e)) (hi : P.info? e = some i) (hz : i.zero = some z) (hsize : i.size = 1) (hby : i.bytes = bytes) (hzs : z.cells.size = 1) (h16 : bytes ≤ 16)
    (v : Value) (xs ys : List α) (hown : w.ownsRow 0 e 1 v xs.length (xs.map f)) (b : Option Addr) (c : Nat) (hs : InW w b 1 (ys.map fun y => [f y])) (hlen : xs.length + ys.length ≤ 1000000) :
    ∃ v' w', (Builtin.append_ #[t, t] ty #[v, .slice b ys.length c]).run P w = .ok v' w' ∧ w'.ownsRow 0 e 1 v' (xs ++ ys).length ((xs ++ ys).map f) ∧ Fr (fun b => v.ownBlock = some b) w w' ∧ Hence v v' w := by
  rcases hs with h | ⟨B, off, rfl, _, hc⟩
  · have : ys = [] := List.map_eq_nil_iff.1 h
    subst this
    exact ⟨v, w, run_append_nothing w t ty e i ht hi 1 v _ _ hown b c, by simpa using hown, Fr.refl _ _, .inl rfl⟩
  · have := run_append_row (P := P) w t ty e i z 1 bytes ht hi hz hsize hby hzs (by decide) v xs.length (xs.map f) hown ⟨B, off, none⟩ ys.length c (ys.map f) (by simp)
      (fun j u hj => by
        rw [List.getElem?_map] at hj
        obtain ⟨s, hs, rfl⟩ := Option.map_eq_some_iff.1 hj
        rw [Addr.add_lit]
        have := hc j [f s] (by rw [List.getElem?_map, hs]; rfl) 0 _ rfl
        simpa using this) (one_any f hf ys) (by unfold maxLen; omega) (by have := Nat.mul_le_mul hlen h16; omega)
    obtain ⟨v', w', h1, h2, h3, h4⟩ := this
    exact ⟨v', w', h1, by simpa using h2, h3, h4⟩
theorem wpList_append_any (w : World) {ops : Array Oper} {rest : List Oper} {o : Oper} {a : Act} {Q : Exit → Act → World → Prop} (hgd : o.guard = none) (s x : Operand) (t : TypeId)
    (ho : o.op = .call { callee := .builtin .append, args := #[s, x], argTypes := #[t, t] })
    (e : TypeId) (i : TypeInfo) (z : Value) (bytes : Nat) (ht : P.underlying t = some (.slice e)) (hi : P.info? e = some i) (hz : i.zero = some z) (hsize : i.size = 1) (hby : i.bytes = bytes) (hzs : z.cells.size = 1) (h16 : bytes ≤ 16)
    (v : Value) (xs ys : List α) (hs : a.eval s = v) (hown : w.ownsRow 0 e 1 v xs.length (xs.map f)) (b : Option Addr) (n c : Nat) (hx : a.eval x = .slice b n c) (hn : n = ys.length) (hst : InW w b 1 (ys.map fun y => [f y])) (hlen : xs.length + ys.length ≤ 1000000)
    (h : ∀ v' w', w'.ownsRow 0 e 1 v' (xs ++ ys).length ((xs ++ ys).map f) → Fr (fun b => v.ownBlock = some b) w w' → Hence v v' w → wpList P ops Q rest (a.put o.dst v') w') : wpList P ops Q (o :: rest) a w := by
  subst hn
  refine wpList_plain hgd fun _ hK => ?_
  obtain ⟨v', w', hr, h2, h3, h4⟩ := run_append_any f hf (P := P) w t o.type e i z bytes ht hi hz hsize hby hzs h16 v xs ys hown b c hst hlen
  unfold Oper.wp execOp
  simp only [ho, resolve, invoke, builtin, Sem.run_bind, Sem.run_pure, Result.andThen_ok, List.map_toArray, List.map_cons, List.map_nil, hs, hx, hr]
  exact hK _ _ (h v' w' h2 h3 h4)
omit hf
/-- a row of the call's own, read -/
theorem inw_of_row {w : World} {e : TypeId} {v : Value} {xs : List α} {n : Nat} (h : w.ownsRow 0 e 1 v n (xs.map f)) : ∃ b cap, v = .slice b xs.length cap ∧ xs.length ≤ cap ∧ cap ≤ maxLen ∧ InW w b 1 (xs.map fun x => [f x]) ∧ n = xs.length := by
  obtain ⟨hl, h1 | ⟨r, cap, cs, rfl, h2, h3, h4, h5, h6⟩⟩ := bk_of_row h
  · obtain ⟨rfl, rfl, hx⟩ := h1
    have : xs = [] := List.map_eq_nil_iff.1 hx
    subst this
    exact ⟨none, 0, rfl, Nat.le_refl _, Nat.zero_le _, Or.inl rfl, rfl⟩
  · rw [List.length_map] at hl
    subst hl
    refine ⟨some ⟨r, 0, none⟩, cap, rfl, h4, h5, .inr ⟨r, 0, rfl, h2.lt, fun i c hi j u hj => ?_⟩, rfl⟩
    rw [List.getElem?_map] at hi
    obtain ⟨x, hx, rfl⟩ := Option.map_eq_some_iff.1 hi
    match j, hj with
    | 0, hj =>
      cases hj
      have h7 : (xs.map f)[i]? = some (f x) := by rw [List.getElem?_map, hx]; rfl
      rw [← h6, List.getElem?_take] at h7
      split at h7
      · have := h2.cell i
        rw [h7] at this
        simpa using this
      · cases h7
    | j + 1, hj => simp at hj
/-- one element of one cell -/
theorem inw_at {w : World} {b : Option Addr} {xs : List α} (h : InW w b 1 (xs.map fun x => [f x])) {i : Nat} {x : α} (hi : xs[i]? = some x) : ∃ B off, b = some ⟨B, off, none⟩ ∧ B < w.heap.size ∧ w.cell? ⟨B, off + i, none⟩ = some (f x) := by
  rcases h with h | ⟨B, off, hb, hl, hc⟩
  · rw [List.map_eq_nil_iff.1 h] at hi; cases hi
  · refine ⟨B, off, hb, hl, ?_⟩
    have := hc i [f x] (by rw [List.getElem?_map, hi]; rfl) 0 _ rfl
    simpa using this
end
/-- those from the n-th on -/
theorem Strs.drop {w : World} {B off : Nat} {xs : List ByteArray} (h : Strs w (some ⟨B, off, none⟩) xs) (n : Nat) : Strs w (some ⟨B, off + n, none⟩) (xs.drop n) := by
  rcases h with h | ⟨B', off', hb, hl, hc⟩
  · rw [List.map_eq_nil_iff.1 h]; left; simp
  · cases hb
    refine .inr ⟨B, off + n, rfl, hl, fun i c hi j u hj => ?_⟩
    rw [List.map_drop, List.getElem?_drop] at hi
    have := hc (n + i) c hi j u hj
    rw [← this]
    congr 2
    omega
section
variable {H : Type} {enc : TypeId × Value → H} {P : Program} {W : World}
theorem open_ints {t e : TypeId} {k : IntKind} {r : Reach} {b0 : Nat} {v : Value} {d : DataW H} {p : List MemPlace} (ht : P.underlying t = some (.slice e)) (he : P.underlying e = some (.int k)) (hc : P.cellsOf e = 1)
    (hval : Value.okWide P W r b0 t v) (h : DataW.Trod enc P W 0 (fun _ => true) true t v d p) :
    ∃ (b : Option Addr) (cap : Nat) (xs : List Int), v = .slice b xs.length cap ∧ xs.length ≤ cap ∧ cap ≤ maxLen ∧ InW W b 1 (xs.map fun x => [.int k x]) ∧ ∀ x ∈ xs, (Lit.int k x).wf = true := by
  refine open_slice_as 1 _ _ ht hc (by omega) hval h fun c fuel x hl hx => ?_
  match c, hl with
  | [u], _ =>
    obtain ⟨s, e0, _, hs⟩ := DataW.trod_int he hx
    simp at e0
    subst e0
    exact ⟨s, rfl, hs⟩
end
end Go.Proofs.YtkofcegdoilaeaaGreatDoor

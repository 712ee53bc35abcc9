/- A journal's files, and what a crash leaves of them: a plain law. No program in sight. journal: sync. journal: put. journal: Sync, Append. -/
import Derived.Test.YtkofcegdoilaeaaGreatDoorPk14
import Derived.Deep.AppendLies
namespace Go.Proofs.YtkofcegdoilaeaaGreatDoor
set_option linter.unusedVariables false
set_option linter.unusedSimpArgs false
namespace Tr
open Es Tl Rk
theorem fN_inj13 : ∀ i j : Fin 13, fN i.val = fN j.val → i = j := by decide +kernel
theorem fN_inj {i j : Nat} (hi : i < 13) (hj : j < 13) (h : fN i = fN j) : i = j := by
  have := fN_inj13 ⟨i, hi⟩ ⟨j, hj⟩ h
  simpa using this
theorem fN_name {i : Nat} (hi : i < 13) : nameD (fN i) = true := by
  have h := fN_size i (by omega)
  unfold nameD
  simp; omega
/-- the payloads of a segment -/
def seg (ps : List Bs) (i : Nat) : List Bs := (ps.drop (5 * i)).take 5
theorem seg_len (ps : List Bs) (i : Nat) : (seg ps i).length = min 5 (ps.length - 5 * i) := by simp [seg]
theorem seg_app {ps : List Bs} {p : Bs} {i : Nat} (h : 5 * i + 5 ≤ ps.length) : seg (ps ++ [p]) i = seg ps i := by
  unfold seg
  rw [List.drop_append_of_le_length (by omega), List.take_append_of_le_length (by rw [List.length_drop]; omega)]
theorem seg_more {ps : List Bs} {p : Bs} {i : Nat} (h1 : 5 * i ≤ ps.length) (h2 : ps.length < 5 * i + 5) : seg (ps ++ [p]) i = seg ps i ++ [p] := by
  unfold seg
  rw [List.drop_append_of_le_length h1, List.take_of_length_le (by simp; omega), List.take_of_length_le (by rw [List.length_drop]; omega)]
theorem off_app {ps qs : List Bs} {j : Nat} (h : j ≤ ps.length) : off (ps ++ qs) j = off ps j := by
  unfold off
  rw [List.take_append_of_le_length h]
theorem cat_one (ps : List Bs) (p : Bs) : cat (ps ++ [p]) = cat ps ++ frB p := by
  rw [cat_app]; simp [cat]
theorem data_cat (s t : ByteArray) : (catB s t).data.toList = s.data.toList ++ t.data.toList := by simp [catB]
theorem data_cut (s : ByteArray) (n : Nat) : (cutB s n).data.toList = s.data.toList.take n := by simp [cutB]
theorem size_of {s : ByteArray} {xs : Bs} (h : s.data.toList = xs) : s.size = xs.length := by
  rw [← h, Array.length_toList]; rfl
theorem stepS_eq {X : Dk} {n : ByteArray} {f : Fl} (hd : X.down = false) (hf : X.fuse = -1) (hn : nameD n = true) (hg : mget X.L n = some f) : stepS X n = (⟨fput X.L n ⟨f.s, f.s.size, true⟩, -1, false⟩, 0) := by
  obtain ⟨L, fuse, down⟩ := X
  simp only at hd hf hg
  subst hd hf
  unfold stepS burn getF
  simp [hn, hg]
theorem stepA_eq {X : Dk} {n s : ByteArray} (hd : X.down = false) (hf : X.fuse = -1) (hn : nameD n = true) (hb : fullB X n (fsum X.L + s.size) = false) : stepA X n s = (⟨fput X.L n { getF X.L n with s := catB (getF X.L n).s s }, -1, false⟩, 0) := by
  obtain ⟨L, fuse, down⟩ := X
  simp only at hd hf
  subst hd hf
  unfold stepA burn
  simp [hn, hb]
theorem stepR_eq {X : Dk} {n s : ByteArray} (hd : X.down = false) (hf : X.fuse = -1) (hn : nameD n = true) (hb : fullB X n (fsumBut n X.L + s.size) = false) : stepR X n s = (⟨fput X.L n ⟨s, s.size, true⟩, -1, false⟩, 0) := by
  obtain ⟨L, fuse, down⟩ := X
  simp only at hd hf
  subst hd hf
  unfold stepR burn
  simp [hn, hb]
theorem room {X : Dk} {n : ByteArray} {k : Nat} (hk : k ≤ 4194304) (hl : (mget X.L n).isSome = true ∨ X.L.length < 4096) : fullB X n k = false := by
  unfold fullB
  simp only [Bool.or_eq_false_iff, Bool.and_eq_false_iff, decide_eq_false_iff_not]
  refine ⟨by omega, ?_⟩
  rcases hl with h | h
  · left; cases e : mget X.L n <;> simp_all
  · exact .inr (by omega)
/-- a journal's disk: m files, of which the last one lasts up to la -/
structure JD (X : Dk) (ps : List Bs) (m la : Nat) : Prop where
  down : X.down = false
  fuse : X.fuse = -1
  num : m = (ps.length + 4) / 5
  at_ : ∀ i, i < m → ∃ f, mget X.L (fN i) = some f ∧ f.s.data.toList = cat (seg ps i) ∧ (i + 1 < m → f.lasts = f.s.size) ∧ (i + 1 = m → off (seg ps i) (la - 5 * i) ≤ f.lasts)
  no : ∀ n, (∀ i, i < m → n ≠ fN i) → mget X.L n = none
  le : la ≤ ps.length
  low : 5 * m ≤ la + 5
  sum : fsum X.L ≤ 250 * ps.length
  len : X.L.length ≤ ps.length
theorem JD.new : JD newD [] 0 0 where
  down := rfl
  fuse := rfl
  num := rfl
  at_ := fun i hi => by omega
  no := fun n _ => rfl
  le := Nat.le_refl _
  low := by omega
  sum := by simp [newD, fsum]
  len := by simp [newD]
theorem JD.sync {X : Dk} {ps : List Bs} {m la : Nat} (ok : DkOk X) (h : JD X ps (m + 1) la) (hl : ps.length < 60) : (stepS X (fN m)).2 = 0 ∧ JD (stepS X (fN m)).1 ps (m + 1) ps.length := by
  have hm := h.num
  obtain ⟨f, hf, hs, _, _⟩ := h.at_ m (by omega)
  have e := stepS_eq h.down h.fuse (fN_name (i := m) (by omega)) hf
  rw [e]
  have hz := size_of hs
  refine ⟨rfl, rfl, rfl, h.num, fun i hi => ?_, fun n hn => ?_, Nat.le_refl _, by omega, ?_, ?_⟩
  · by_cases c : i = m
    · subst c
      refine ⟨⟨f.s, f.s.size, true⟩, by rw [fput_get ok.rise, if_pos rfl], hs, fun _ => rfl, fun _ => ?_⟩
      show _ ≤ f.s.size
      rw [hz]
      exact off_le _ _
    · obtain ⟨g, hg, h1, h2, h3⟩ := h.at_ i hi
      refine ⟨g, ?_, h1, h2, fun c2 => by omega⟩
      rw [fput_get ok.rise, if_neg (fun c2 => c (fN_inj (i := m) (j := i) (by omega) (by omega) c2).symm)]
      exact hg
  · rw [fput_get ok.rise, if_neg (fun c => hn m (by omega) c.symm)]
    exact h.no n hn
  · have h1 := fsum_put ok.rise (fN m) ⟨f.s, f.s.size, true⟩
    have h2 := fsum_at ok.rise.nodup (fN m)
    have h3 : sizeAt X.L (fN m) = f.s.size := by unfold sizeAt; rw [hf]
    have := h.sum
    show fsum (fput X.L (fN m) ⟨f.s, f.s.size, true⟩) ≤ _
    rw [h1]
    show _ + f.s.size ≤ _
    omega
  · show (fput X.L (fN m) ⟨f.s, f.s.size, true⟩).length ≤ _
    rw [fput_len2 ok.rise _ (by rw [hf]; rfl)]
    exact h.len
theorem JD.put {X : Dk} {ps : List Bs} {m la : Nat} (ok : DkOk X) (h : JD X ps m la) (hz : ps.length % 5 = 0 → la = ps.length) (hl : ps.length < 60) (p : Bs) (hp : p.length ≤ 200) (s : ByteArray) (hs : s.data.toList = frB p) :
    (stepA X (fN (ps.length / 5)) s).2 = 0 ∧ JD (stepA X (fN (ps.length / 5)) s).1 (ps ++ [p]) (ps.length / 5 + 1) la := by
  obtain ⟨k, hk⟩ : ∃ k, ps.length / 5 = k := ⟨_, rfl⟩
  rw [hk]
  have hm := h.num
  have hla := h.le
  have hlow := h.low
  have hsum := h.sum
  have hlen := h.len
  have hsz : s.size = p.length + 10 := by rw [size_of hs, fr_len]
  have hg : (getF X.L (fN k)).s.data.toList = cat (seg ps k) ∧ off (seg ps k) (la - 5 * k) ≤ (getF X.L (fN k)).lasts := by
    by_cases c : ps.length % 5 = 0
    · have hkm : k = m := by omega
      have hn : mget X.L (fN k) = none := h.no _ (fun i hi e => by have := fN_inj (i := k) (j := i) (by omega) (by omega) e; omega)
      have h0 : seg ps k = [] := List.eq_nil_of_length_eq_zero (by rw [seg_len]; omega)
      have h1 := hz c
      unfold getF
      rw [hn, h0]
      refine ⟨rfl, ?_⟩
      have : la - 5 * k = 0 := by omega
      rw [this, off_zero]
      exact Nat.zero_le _
    · obtain ⟨f, hf, h1, _, h3⟩ := h.at_ k (by omega)
      unfold getF
      rw [hf]
      exact ⟨h1, h3 (by omega)⟩
  have e := stepA_eq (s := s) h.down h.fuse (fN_name (i := k) (by omega)) (room (by omega) (.inr (by omega)))
  rw [e]
  refine ⟨rfl, rfl, rfl, ?_, fun i hi => ?_, fun n hn => ?_, ?_, ?_, ?_, ?_⟩
  · simp; omega
  · by_cases c : i = k
    · subst c
      refine ⟨{ getF X.L (fN i) with s := catB (getF X.L (fN i)).s s }, by rw [fput_get ok.rise, if_pos rfl], ?_, fun c => by omega, fun _ => ?_⟩
      · show (catB (getF X.L (fN i)).s s).data.toList = _
        rw [data_cat, hg.1, hs, seg_more (by omega) (by omega), cat_one]
      · show _ ≤ (getF X.L (fN i)).lasts
        rw [seg_more (by omega) (by omega), off_app (by rw [seg_len]; omega)]
        exact hg.2
    · obtain ⟨f, hf, h1, h2, h3⟩ := h.at_ i (by omega)
      refine ⟨f, ?_, by rw [seg_app (by omega)]; exact h1, fun _ => ?_, fun c2 => by omega⟩
      · rw [fput_get ok.rise, if_neg (fun c2 => c (fN_inj (i := k) (j := i) (by omega) (by omega) c2).symm)]
        exact hf
      · by_cases c2 : i + 1 < m
        · exact h2 c2
        · have h4 := h3 (by omega)
          have h5 : la - 5 * i = (seg ps i).length := by
            rw [seg_len]
            have := hz (by omega)
            omega
          rw [h5, off_all, ← size_of h1] at h4
          have h6 := ok.last _ (mem_of_get hf)
          simp only at h6
          omega
  · rw [fput_get ok.rise, if_neg (fun c => hn k (by omega) c.symm)]
    exact h.no n (fun i hi => hn i (by omega))
  · simp; omega
  · by_cases c : ps.length % 5 = 0
    · have := hz c; omega
    · omega
  · show fsum (fput X.L (fN k) { getF X.L (fN k) with s := catB (getF X.L (fN k)).s s }) ≤ _
    have h1 := sum_put ok (fN k) s
    rw [fsum_put ok.rise]
    show _ + (catB (getF X.L (fN k)).s s).size ≤ _
    rw [h1, List.length_append, List.length_singleton]
    omega
  · have := fput_len ok.rise (fN k) { getF X.L (fN k) with s := catB (getF X.L (fN k)).s s }
    refine Nat.le_trans this ?_
    rw [List.length_append, List.length_singleton]
    omega
/-- files as they are found: m of them, of whose last one t bytes are left -/
structure FD (X : Dk) (ps : List Bs) (m t : Nat) : Prop where
  down : X.down = false
  fuse : X.fuse = -1
  at_ : ∀ i, i < m → ∃ f, mget X.L (fN i) = some f ∧ f.s.data.toList = (cat (seg ps i)).take (if i + 1 = m then t else (cat (seg ps i)).length)
  no : ∀ n, (∀ i, i < m → n ≠ fN i) → mget X.L n = none
  tl : ∀ i, i + 1 = m → t ≤ (cat (seg ps i)).length
  len : 5 * m ≤ ps.length + 4
def Low (ps : List Bs) (m t la : Nat) : Prop := (m = 0 → la = 0) ∧ ∀ i j st, i + 1 = m → Cut (seg ps i) t j st → la ≤ 5 * i + j
theorem FD.new : FD newD [] 0 0 where
  down := rfl
  fuse := rfl
  at_ := fun i hi => by omega
  no := fun n _ => rfl
  tl := fun i hi => by omega
  len := by simp
theorem crashL_get {L : Fs} (h : RiseF L) (keep : List Int) {n : ByteArray} {f : Fl} (hn : mget L n = some f) : ∃ j, mget (crashL keep 0 L) n = crashF f (keepN f keep j) := by
  obtain ⟨j, hj⟩ := List.getElem?_of_mem (mem_of_get hn)
  have hjl := (List.getElem?_eq_some_iff.1 hj).1
  have key : ∀ d, j + 1 + d ≤ L.length → mget (crashP keep L (j + 1 + d)) n = crashF f (keepN f keep j) := by
    intro d
    induction d with
    | zero =>
      intro _
      rw [Nat.add_zero, crashP_next h hj, if_pos rfl]
    | succ d ih =>
      intro hd
      have hp : L[j + 1 + d]? = some (L[j + 1 + d]'(by omega)) := List.getElem?_eq_getElem _
      have hne : (L[j + 1 + d]'(by omega)).1 ≠ n := fun c => by
        have h1 : (mkeys L)[j + 1 + d]? = some n := by unfold mkeys; rw [List.getElem?_map, hp]; exact congrArg some c
        have h2 : (mkeys L)[j]? = some n := by unfold mkeys; rw [List.getElem?_map, hj]; rfl
        have := (List.getElem?_inj (by unfold mkeys; rw [List.length_map]; exact hjl) h.nodup).1 (h2.trans h1.symm)
        omega
      rw [← Nat.add_assoc, crashP_next h hp, if_neg hne]
      exact ih (by omega)
  have := key (L.length - (j + 1)) (by omega)
  rw [show j + 1 + (L.length - (j + 1)) = L.length by omega, crashP_end] at this
  exact ⟨j, this⟩
theorem crashL_none {L : Fs} (h : RiseF L) (keep : List Int) {n : ByteArray} (hn : mget L n = none) : mget (crashL keep 0 L) n = none := by
  refine mget_none (fun q hq c => ?_)
  obtain ⟨p, j, h1, h2, _⟩ := crashL_mem keep L 0 q hq
  have := get_of_mem (m := L) h.nodup (a := p.1) (v := p.2) h1
  rw [← h2, c, hn] at this
  cases this
theorem crashF_full {f : Fl} (h : f.lasts = f.s.size) (h0 : 0 < f.s.size) {k : Nat} (hk : k ≤ f.s.size - f.lasts) : ∃ g, crashF f k = some g ∧ g.s.data.toList = f.s.data.toList := by
  have hk0 : k = 0 := by omega
  subst hk0
  refine ⟨_, if_neg (by simp; omega), ?_⟩
  show (cutB f.s (f.lasts + 0)).data.toList = _
  rw [data_cut, List.take_of_length_le]
  have : f.s.data.toList.length = f.s.size := by rw [Array.length_toList]; rfl
  omega
theorem JD.crash {X : Dk} {ps : List Bs} {m la : Nat} (ok : DkOk X) (h : JD X ps m la) (hl : ps.length < 60) (keep : List Int) : ∃ m' t, FD (crashD X keep) ps m' t ∧ Low ps m' t la := by
  have hm := h.num
  have hla := h.le
  have hlow := h.low
  have hfull : ∀ i, i + 1 < m → ∃ g, mget (crashL keep 0 X.L) (fN i) = some g ∧ g.s.data.toList = cat (seg ps i) := fun i hi => by
    obtain ⟨f, hf, h1, h2, _⟩ := h.at_ i (by omega)
    obtain ⟨j, hj⟩ := crashL_get ok.rise keep hf
    have hpos : 0 < f.s.size := by
      rw [size_of h1, ← off_all]
      have := off_lt (ps := seg ps i) (i := 0) (j := (seg ps i).length) (by rw [seg_len]; omega) (Nat.le_refl _)
      omega
    obtain ⟨g, hg, hg2⟩ := crashF_full (h2 hi) hpos (keepN_le f keep j)
    exact ⟨g, hj.trans hg, hg2.trans h1⟩
  have hno : ∀ n, (∀ i, i < m → n ≠ fN i) → mget (crashL keep 0 X.L) n = none := fun n hn => crashL_none ok.rise keep (h.no n hn)
  rcases Nat.eq_zero_or_pos m with c | c
  · exact ⟨0, 0, ⟨rfl, rfl, fun i hi => by omega, fun n hn => hno n (fun i hi => by omega), fun i hi => by omega, by omega⟩, fun _ => by omega, fun i j st hi => by omega⟩
  · obtain ⟨q, rfl⟩ : ∃ q, m = q + 1 := ⟨m - 1, by omega⟩
    obtain ⟨f, hf, h1, _, h3⟩ := h.at_ q (by omega)
    have h3 := h3 rfl
    obtain ⟨j, hj⟩ := crashL_get ok.rise keep hf
    have hk := keepN_le f keep j
    have hlast := ok.last _ (mem_of_get hf)
    simp only at hlast
    generalize keepN f keep j = k at hj hk
    have hz := size_of h1
    unfold crashF at hj
    by_cases c2 : (!f.stays && decide (f.lasts + k = 0)) = true
    · rw [if_pos c2] at hj
      have hl0 : f.lasts = 0 := by
        simp at c2; omega
      have hq5 : la - 5 * q = 0 := by
        rcases Nat.eq_zero_or_pos (la - 5 * q) with e | e
        · exact e
        · have := off_lt (ps := seg ps q) (i := 0) (j := la - 5 * q) e (by rw [seg_len]; omega)
          omega
      refine ⟨q, (cat (seg ps (q - 1))).length, ⟨rfl, rfl, fun i hi => ?_, fun n hn => ?_, fun i hi => ?_, by omega⟩, fun _ => by omega, fun i j st hi hc => ?_⟩
      · obtain ⟨g, hg, hg2⟩ := hfull i (by omega)
        refine ⟨g, hg, ?_⟩
        rw [hg2]
        split
        · rename_i e
          have : q - 1 = i := by omega
          rw [this, List.take_length]
        · rw [List.take_length]
      · by_cases e : n = fN q
        · rw [e]; exact hj
        · exact hno n (fun i hi => by
            rcases Nat.lt_or_ge i q with c3 | c3
            · exact hn i c3
            · have : i = q := by omega
              rw [this]; exact e)
      · have : q - 1 = i := by omega
        rw [this]
        exact Nat.le_refl _
      · have hi2 : q - 1 = i := by omega
        rw [hi2] at hc
        have := (hc.whole (off_all _).symm).2
        rw [seg_len] at this
        omega
    · rw [if_neg c2] at hj
      refine ⟨q + 1, f.lasts + k, ⟨rfl, rfl, fun i hi => ?_, hno, fun i hi => ?_, by omega⟩, fun e => by omega, fun i j st hi hc => ?_⟩
      · by_cases e : i = q
        · subst e
          refine ⟨_, hj, ?_⟩
          rw [if_pos rfl]
          show (cutB f.s (f.lasts + k)).data.toList = _
          rw [data_cut, h1]
        · obtain ⟨g, hg, hg2⟩ := hfull i (by omega)
          refine ⟨g, hg, ?_⟩
          rw [if_neg (by omega), hg2, List.take_length]
      · have : i = q := by omega
        subst this
        rw [← hz]; omega
      · have : i = q := by omega
        subst this
        have := hc.least (i := la - 5 * i) (by rw [seg_len]; omega) (by omega)
        omega
section
variable {X : Dk} {ps : List Bs} {m t : Nat}
theorem FD.name_of (h : FD X ps m t) {n : ByteArray} (hn : n ∈ fnames X.L) : ∃ i, i < m ∧ n = fN i := by
  refine Classical.byContradiction fun c => ?_
  have h1 := h.no n (fun i hi e => c ⟨i, hi, e⟩)
  have h2 := (some_key (A := X.L) n).1 hn
  rw [h1] at h2
  cases h2
theorem FD.has (h : FD X ps m t) {i : Nat} (hi : i < m) : fN i ∈ fnames X.L := by
  obtain ⟨f, hf, _⟩ := h.at_ i hi
  exact (some_key (A := X.L) (fN i)).2 (by rw [hf]; rfl)
theorem FD.count (ok : DkOk X) (h : FD X ps m t) (hm : m < 13) : (fnames X.L).length = m := by
  have hp : (fnames X.L).Perm ((List.range m).map fN) := (List.perm_ext_iff_of_nodup ok.rise.nodup (by
    refine List.pairwise_map.2 (List.Pairwise.imp_of_mem ?_ List.nodup_range)
    intro a b ha hb hab e
    have h1 := List.mem_range.1 ha
    have h2 := List.mem_range.1 hb
    exact hab (fN_inj (by omega) (by omega) e))).2 (fun n => by
    constructor
    · intro hn
      obtain ⟨i, hi, rfl⟩ := h.name_of hn
      exact List.mem_map.2 ⟨i, List.mem_range.2 hi, rfl⟩
    · intro hn
      obtain ⟨i, hi, rfl⟩ := List.mem_map.1 hn
      exact h.has (List.mem_range.1 hi))
  have := hp.length_eq
  simpa using this
theorem FD.read (h : FD X ps m t) (hm : m < 13) {i : Nat} (hi : i < m) : (readD X (fN i)).2 = 0 ∧ (readD X (fN i)).1.data.toList = (cat (seg ps i)).take (if i + 1 = m then t else (cat (seg ps i)).length) := by
  obtain ⟨f, hf, h1⟩ := h.at_ i hi
  unfold readD
  rw [h.down, fN_name (i := i) (by omega), hf]
  exact ⟨rfl, h1⟩
theorem FD.sync0 (h : FD X ps m t) (hm : m < 13) {i : Nat} (hi : i < m) : (stepS X (fN i)).2 = 0 := by
  obtain ⟨f, hf, _⟩ := h.at_ i hi
  rw [stepS_eq h.down h.fuse (fN_name (i := i) (by omega)) hf]
theorem FD.rep0 (ok : DkOk X) (h : FD X ps m t) (hm : m < 13) {i : Nat} (hi : i < m) (s : ByteArray) (hs : s.size ≤ (readD X (fN i)).1.size) : (stepR X (fN i) s).2 = 0 := by
  obtain ⟨f, hf, _⟩ := h.at_ i hi
  have hr : (readD X (fN i)).1 = f.s := by
    unfold readD
    rw [h.down, fN_name (i := i) (by omega), hf]; rfl
  rw [hr] at hs
  have h1 := fsum_at ok.rise.nodup (fN i)
  have h2 : sizeAt X.L (fN i) = f.s.size := by unfold sizeAt; rw [hf]
  have h3 := ok.sum
  rw [stepR_eq h.down h.fuse (fN_name (i := i) (by omega)) (room (by omega) (.inl (by rw [hf]; rfl)))]
end
end Tr
end Go.Proofs.YtkofcegdoilaeaaGreatDoor
namespace Go.Proofs.YtkofcegdoilaeaaGreatDoor
open Go.RowKit Go.MapKept Go.Maps
set_option linter.unusedVariables false
set_option linter.unusedSimpArgs false
namespace Tr
open Es Tl Rk
section
variable {w0 w : World} {d lb : Nat} {X : Dk} {es : List Ev} {us : List Ob}
set_option maxRecDepth 100000 in
set_option maxHeartbeats 2000000 in
theorem sync_zero {lasting : Nat} (h : Jx w0 w d lb X 0 lasting es us) :
    Calls Tryz.prog 17 #[.pointer (some ⟨lb, 0, none⟩)] w fun e w' => e = .returned (.int .i64 0) ∧ w' = w := by
  obtain ⟨v, hb⟩ := h.box
  have c3 : w.cell? ⟨lb, 3, none⟩ = some (.int .i64 0) := hb.cell 3
  clear h hb
  go_enter Tryz.func17, Tryz.ntmps17
  go_wp2_with fail
  go_ret
  exact ⟨rfl, rfl⟩
set_option maxRecDepth 100000 in
set_option maxHeartbeats 4000000 in
theorem sync_some {m lasting : Nat} (h : Jx w0 w d lb X (m + 1) lasting es us) (hm : m < 100) (hs : (stepS X (fN m)).2 = 0) :
    Calls Tryz.prog 17 #[.pointer (some ⟨lb, 0, none⟩)] w fun e w' => e = .returned (.int .i64 0) ∧ Jx w0 w' d lb (stepS X (fN m)).1 (m + 1) es.length es us := by
  obtain ⟨v, hb⟩ := h.box
  obtain ⟨m1, hm1⟩ : ∃ m1, m + 1 = m1 := ⟨_, rfl⟩
  rw [hm1] at h hb ⊢
  have c0 : w.cell? ⟨lb, 0, none⟩ = some (.pointer (some ⟨d, 0, none⟩)) := hb.cell 0
  have c1 : w.cell? ⟨lb, 1, none⟩ = some (.string evN) := hb.cell 1
  have c3 : w.cell? ⟨lb, 3, none⟩ = some (.int .i64 m1) := hb.cell 3
  have r1 : IntKind.i64.wrap ((m1 : Int) - 1) = (m : Int) := (IntWalk.i64_in _ (by omega)).trans (by omega)
  have t1 : ¬ (m1 : Int) = 0 := by omega
  have HFI : Hid (∀ W, Below w.heap.size w W → Calls Tryz.prog 25 #[.pointer (some ⟨lb, 0, none⟩), .int .i64 m] W fun e w' => e = .returned (.string (fN m)) ∧ Below w.heap.size w w') := Lib.hid (fun W hW => by
    refine (file_any lb m W ((hb.bel hW).cell 1) hm).mono ?_
    rintro e w' ⟨rfl, q, rfl⟩
    exact ⟨rfl, bdrewN hW q⟩)
  have HSY : Hid (∀ W, Below w.heap.size w W → Calls Tryz.prog 28 #[.pointer (some ⟨d, 0, none⟩), .string (fN m)] W fun e w' => e = .returned (.int .i64 0) ∧ Jx w0 w' d lb (stepS X (fN m)).1 m1 lasting es us) := Lib.hid (fun W hW => by
    have := jr_sync (h.bel hW) (fN m) (by have := fN_size m hm; omega)
    rw [hs] at this
    exact this)
  have HCS : Hid (∀ W, Below w.heap.size w W → W.cell? ⟨lb, 0, none⟩ = some (.pointer (some ⟨d, 0, none⟩)) ∧ W.cell? ⟨lb, 1, none⟩ = some (.string evN) ∧ W.cell? ⟨lb, 3, none⟩ = some (.int .i64 m1)) := Lib.hid (fun W hW => ⟨(hb.bel hW).cell 0, (hb.bel hW).cell 1, (hb.bel hW).cell 3⟩)
  have BB : Below w.heap.size w w.drew := (Below.refl _ _).drew
  have kk0 := HCS.out w.drew BB
  clear h hb hs hm1
  go_enter Tryz.func17, Tryz.ntmps17
  go_wp2_with fail
  go_region_held3 (fun Y => Y.cell? ⟨lb, 0, none⟩ = some (.pointer (some ⟨d, 0, none⟩)) ∧ Y.cell? ⟨lb, 1, none⟩ = some (.string evN) ∧ Y.cell? ⟨lb, 3, none⟩ = some (.int .i64 m1))
    (first | assumption | exact kk0 | exact kk1 | exact kk2 | fail)
    (first
      | (go_at_call 25
         (with_reducible refine (HFI.out _ BB).mono ?_); rintro e wx ⟨rfl, BX⟩
         have kk1 := HCS.out wx BX)
      | (go_at_call 28
         (with_reducible refine (HSY.out _ BX).mono ?_); rintro e wy ⟨rfl, hjr⟩
         obtain ⟨by', cy', _, _, _, hby⟩ := hjr.cells
         have kk2 : wy.cell? ⟨lb, 0, none⟩ = some (.pointer (some ⟨d, 0, none⟩)) ∧ wy.cell? ⟨lb, 1, none⟩ = some (.string evN) ∧ wy.cell? ⟨lb, 3, none⟩ = some (.int .i64 m1) := ⟨hby.cell 0, hby.cell 1, hby.cell 3⟩)
      | fail)
  all_goals
    have d4 : wy.cell? ⟨lb, 4, none⟩ = some (.slice by' es.length cy') := hby.cell 4
    have d5 : wy.cell? ⟨lb, 5, none⟩ = some (.int .i64 lasting) := hby.cell 5
    have d6 := hby.free 5
    have HJ := Lib.hid (hjr.last es.length)
    clear hjr hby HSY HFI HCS
    go_wp2_with fail
    go_ret
    exact ⟨rfl, HJ.out⟩
end
end Tr
end Go.Proofs.YtkofcegdoilaeaaGreatDoor
namespace Go.Proofs.YtkofcegdoilaeaaGreatDoor
open Go.RowKit Go.MapKept Go.Maps
set_option linter.unusedVariables false
set_option linter.unusedSimpArgs false
namespace Tr
open Es Tl Rk
theorem infoEn : (Tryz.prog.info? 72).map (fun i => (i.zero, i.size, i.bytes)) = some (some (.agg #[.string ⟨#[]⟩, .int .i64 0, .int .i64 0, .int .i64 0, .string ⟨#[]⟩, .string ⟨#[]⟩, .int .i64 0, .string ⟨#[]⟩, .bool false]), 9, 104) := by kernel_rfl
/-- the bytes that put appends -/
def putB (e : Ev) : ByteArray := ⟨(frB (encB e)).toArray⟩
theorem putB_data (e : Ev) : (putB e).data.toList = frB (encB e) := by simp [putB]
section
variable {w0 w w' : World} {d lb : Nat} {X : Dk} {files la : Nat} {es : List Ev} {us : List Ob}
theorem sync_jd (h : Jx w0 w d lb X files la es us) (hj : JD X (es.map encB) files la) (hl : es.length < 60) :
    Calls Tryz.prog 17 #[.pointer (some ⟨lb, 0, none⟩)] w fun e w' => e = .returned (.int .i64 0) ∧ ∃ X', JD X' (es.map encB) files es.length ∧ Jx w0 w' d lb X' files es.length es us := by
  have hml : (es.map encB).length = es.length := List.length_map _
  cases files with
  | zero =>
    have h0 : es.length = 0 := by have := hj.num; omega
    have hla : la = es.length := by have := hj.le; omega
    subst hla
    refine (sync_zero h).mono ?_
    rintro e w' ⟨rfl, rfl⟩
    exact ⟨rfl, X, hj, h⟩
  | succ m =>
    have hm : m < 100 := by have := hj.num; omega
    obtain ⟨h1, h2⟩ := hj.sync h.ok (by omega)
    refine (sync_some h hm h1).mono ?_
    rintro e w' ⟨rfl, k⟩
    rw [hml] at h2
    exact ⟨rfl, _, h2, k⟩
/-- one thing more, made since -/
theorem Jx.push_box (h : Jx w0 w d lb X files la es us) (hb : Below w.heap.size w w') {g : Nat} {cs : List Value} {t : TypeId} (hk : Bk w' g cs t) (hg : w.heap.size ≤ g) : Jx w0 w' d lb X files la es (us ++ [.box g cs t]) := by
  obtain ⟨v, h⟩ := h
  exact ⟨v, Here.push (os := _ :: _ :: _ :: us) h hb (o := .box g cs t) (B := [g]) ⟨hk, rfl⟩ (fun b hb => by simp at hb; omega)⟩
/-- what stands ahead of 'l.entries = append(l.entries, x)' -/
def Pre (w0 W : World) (d lb : Nat) (X : Dk) (files la : Nat) (es : List Ev) (us : List Ob) (g : Nat) (e : Ev) (ub : Option Addr) (n uc : Nat) : Prop := n = es.length ∧ Here KT w0 W (.disk d X :: .box lb (lgC d files (.slice ub n uc) la) 68 :: .row (.slice ub n uc) 72 9 es.length (es.flatMap enC) :: (us ++ [.box g (enC e) 72]))
theorem Pre.of {g : Nat} {e : Ev} (h : Jx w0 w d lb X files la es (us ++ [.box g (enC e) 72])) (n : Nat) (hn : es.length = n) : ∃ ub uc, Pre w0 w d lb X files la es us g e ub n uc := by
  obtain ⟨v, h⟩ := h
  have h2 := h_rowAt (i := 2) h rfl
  obtain ⟨b, cap, rfl, _⟩ := inw_of_rowm enLen (by decide) h2
  subst hn
  exact ⟨b, cap, rfl, h⟩
section
variable {W W' : World} {g n uc : Nat} {e : Ev} {ub : Option Addr}
theorem Pre.bel (h : Pre w0 W d lb X files la es us g e ub n uc) (hb : Below W.heap.size W W') : Pre w0 W' d lb X files la es us g e ub n uc := ⟨h.1, h.2.step_bel hb⟩
theorem Pre.log (h : Pre w0 W d lb X files la es us g e ub n uc) : Bk W lb (lgC d files (.slice ub n uc) la) 68 := h_boxAt (i := 1) h.2 rfl
theorem Pre.box (h : Pre w0 W d lb X files la es us g e ub n uc) : Bk W g (enC e) 72 := h_boxAt (i := us.length + 3) h.2 (by simp)
theorem Pre.row (h : Pre w0 W d lb X files la es us g e ub n uc) : W.ownsRow 0 72 9 (.slice ub n uc) es.length (es.flatMap enC) := h_rowAt (i := 2) h.2 rfl
theorem Pre.cells (h : Pre w0 W d lb X files la es us g e ub n uc) : W.cell? ⟨lb, 4, none⟩ = some (.slice ub n uc) ∧ W.cell? ⟨g, 0, none⟩ = some (.string e.src) ∧ W.cell? ⟨g, 1, none⟩ = some (.int .i64 e.num) ∧ W.cell? ⟨g, 2, none⟩ = some (.int .i64 e.at_) ∧ W.cell? ⟨g, 3, none⟩ = some (.int .i64 e.kind) ∧ W.cell? ⟨g, 4, none⟩ = some (.string e.per) ∧ W.cell? ⟨g, 5, none⟩ = some (.string e.item) ∧ W.cell? ⟨g, 6, none⟩ = some (.int .i64 e.val) ∧ W.cell? ⟨g, 7, none⟩ = some (.string e.txt) ∧ W.cell? ⟨g, 8, none⟩ = some (.bool false) := by
  have b1 := h.log
  have b2 := h.box
  exact ⟨b1.cell 4, b2.cell 0, b2.cell 1, b2.cell 2, b2.cell 3, b2.cell 4, b2.cell 5, b2.cell 6, b2.cell 7, b2.cell 8⟩
/-- behind the append, ahead of the store -/
theorem Pre.app (h : Pre w0 W d lb X files la es us g e ub n uc) {v' : Value} (ho : W'.ownsRow 0 72 9 v' (es ++ [e]).length ((es ++ [e]).flatMap enC)) (hf : Fr (fun b => (Value.slice ub n uc).ownBlock = some b) W W') (he : Hence (.slice ub n uc) v' W) :
    ∃ ub' n' uc', v' = .slice ub' n' uc' ∧ (W'.cell? ⟨lb, 4, none⟩ = some (.slice ub n uc) ∧ W'.cell? ⟨g, 0, none⟩ = some (.string e.src) ∧ W'.cell? ⟨g, 1, none⟩ = some (.int .i64 e.num) ∧ W'.cell? ⟨g, 2, none⟩ = some (.int .i64 e.at_) ∧ W'.cell? ⟨g, 3, none⟩ = some (.int .i64 e.kind) ∧ W'.cell? ⟨g, 4, none⟩ = some (.string e.per) ∧ W'.cell? ⟨g, 5, none⟩ = some (.string e.item) ∧ W'.cell? ⟨g, 6, none⟩ = some (.int .i64 e.val) ∧ W'.cell? ⟨g, 7, none⟩ = some (.string e.txt) ∧ W'.cell? ⟨g, 8, none⟩ = some (.bool false)) ∧ W'.frozen? ⟨lb, 4, none⟩ = false ∧ Hid (Jx w0 (W'.setCell ⟨lb, 4, none⟩ (.slice ub' n' uc')) d lb X files la (es ++ [e]) us) := by
  obtain ⟨ub', uc', hv, _⟩ := inw_of_rowm enLen (by decide) ho
  have h3 := n_more h.2 (i := 2) rfl ho hf he
  have b1 := h_boxAt (i := 1) h3 rfl
  have b2 : Bk W' g (enC e) 72 := h_boxAt (i := us.length + 3) h3 (by simp)
  have h4 := n_set h3 (i := 1) rfl 4 v'
  have h5 : Jx w0 (W'.setCell ⟨lb, 4, none⟩ v') d lb X files la (es ++ [e]) (us ++ [.box g (enC e) 72]) := ⟨v', h4⟩
  refine ⟨ub', (es ++ [e]).length, uc', hv, ⟨b1.cell 4, b2.cell 0, b2.cell 1, b2.cell 2, b2.cell 3, b2.cell 4, b2.cell 5, b2.cell 6, b2.cell 7, b2.cell 8⟩, b1.free 4, ?_⟩
  rw [← hv]
  exact Lib.hid h5.ext
end
set_option maxRecDepth 100000 in
set_option maxHeartbeats 8000000 in
theorem put_any (h : Jx w0 w d lb X files la es us) (hj : JD X (es.map encB) files la) (hl : es.length < 60) {e : Ev} (he : TaleEv e) (hG : Glob w0) (n : Nat) (hn : es.length = n) (k : Nat) (hk : n / 5 = k) :
    Calls Tryz.prog 19 #[.pointer (some ⟨lb, 0, none⟩), enV e] w fun r w' => r = .returned (.int .i64 0) ∧ ∃ X' la', la ≤ la' ∧ JD X' ((es ++ [e]).map encB) (k + 1) la' ∧ Jx w0 w' d lb X' (k + 1) la' (es ++ [e]) us := by
  obtain ⟨iN, hiN, hzN, hsN, hbN⟩ := tinfo infoEn
  obtain ⟨r, hr⟩ : ∃ r, n % 5 = r := ⟨_, rfl⟩
  have f1 : (n : Int) % 5 = (r : Int) := by omega
  have f2 : (n : Int).tmod 5 = (r : Int) := by rw [Int.tmod_eq_emod_of_nonneg (by omega)]; exact f1
  have f3 : (n : Int) / 5 = (k : Int) := by omega
  have f4 : (n : Int).tdiv 5 = (k : Int) := by rw [Int.tdiv_eq_ediv_of_nonneg (by omega)]; exact f3
  have hk12 : k < 13 := by omega
  have hB := h.more_box (enC e) 72
  have HGL : Hid (∀ W, Below w0.heap.size w0 W → Glob W) := Lib.hid (fun W hW => hG.bel hW)
  obtain ⟨b0, cap0, _, _, _, hbk0⟩ := h.cells
  obtain ⟨b, cap, _, _, _, hbk⟩ := hB.cells
  rw [hn] at hbk0 hbk
  have c2 : w.cell? ⟨lb, 2, none⟩ = some (.int .i64 5) := hbk0.cell 2
  have c4 : w.cell? ⟨lb, 4, none⟩ = some (.slice b0 n cap0) := hbk0.cell 4
  have c2' : (w.alloc (.cells #[.string e.src, .int .i64 e.num, .int .i64 e.at_, .int .i64 e.kind, .string e.per, .string e.item, .int .i64 e.val, .string e.txt, .bool false] 72)).cell? ⟨lb, 2, none⟩ = some (.int .i64 5) := hbk.cell 2
  have c4' : (w.alloc (.cells #[.string e.src, .int .i64 e.num, .int .i64 e.at_, .int .i64 e.kind, .string e.per, .string e.item, .int .i64 e.val, .string e.txt, .bool false] 72)).cell? ⟨lb, 4, none⟩ = some (.slice b n cap) := hbk.cell 4
  have HSY : Hid (Calls Tryz.prog 17 #[.pointer (some ⟨lb, 0, none⟩)] (w.alloc (.cells #[.string e.src, .int .i64 e.num, .int .i64 e.at_, .int .i64 e.kind, .string e.per, .string e.item, .int .i64 e.val, .string e.txt, .bool false] 72)) fun e' w' => e' = .returned (.int .i64 0) ∧ ∃ X', JD X' (es.map encB) files es.length ∧ Jx w0 w' d lb X' files es.length es (us ++ [.box w.heap.size (enC e) 72])) := Lib.hid (sync_jd hB hj hl)
  have HJ : Hid (Jx w0 (w.alloc (.cells #[.string e.src, .int .i64 e.num, .int .i64 e.at_, .int .i64 e.kind, .string e.per, .string e.item, .int .i64 e.val, .string e.txt, .bool false] 72)) d lb X files la es (us ++ [.box w.heap.size (enC e) 72]) ∧ JD X (es.map encB) files la) := Lib.hid (And.intro hB hj)
  have HN := Lib.hid (And.intro hn (And.intro hk (And.intro hr hl)))
  have HE := Lib.hid he
  clear h hj hbk hbk0 hB he hn hk hr hl
  unfold enV
  go_enter Tryz.func19, Tryz.ntmps19
  go_upto_if 20 with fail
  generalize hWB : w.alloc (.cells #[.string e.src, .int .i64 e.num, .int .i64 e.at_, .int .i64 e.kind, .string e.per, .string e.item, .int .i64 e.val, .string e.txt, .bool false] 72) = WB at HJ HSY c2' c4' ⊢
  generalize w.heap.size = g at HJ HSY ⊢
  clear hWB c2 c4
  go_cut [] (fun wx => ∃ X1 la1, Hid (Jx w0 wx d lb X1 files la1 es (us ++ [.box g (enC e) 72]) ∧ JD X1 (es.map encB) files la1 ∧ (n % 5 = 0 → la1 = n) ∧ la ≤ la1))
  case first =>
    by_cases hz : r = 0
    · have t1 : ((r : Int) == 0) = true := by simp [hz]
      have t2 : (r : Int) = 0 := by omega
      have HZ := Lib.hid hz
      clear hz
      go_wp2_with fail
      refine HSY.out.mono ?_
      rintro e' w1 ⟨rfl, X1, hj1, h1⟩
      have HC := Lib.hid (And.intro h1 hj1)
      clear h1 hj1 HSY
      go_wp2_with fail
      go_meet
      exact ⟨X1, es.length, Lib.hid ⟨HC.out.1, HC.out.2, fun _ => HN.out.1, by have := HJ.out.2.le; rw [List.length_map] at this; exact this⟩⟩
    · have t1 : ((r : Int) == 0) = false := by simp; omega
      have t2 : ¬ (r : Int) = 0 := by omega
      have HZ := Lib.hid hz
      clear hz
      go_wp2_with fail
      go_meet
      exact ⟨X, la, Lib.hid ⟨HJ.out.1, HJ.out.2, fun c => by have h1 := HN.out.2.2.1; have h2 := HZ.out; omega, Nat.le_refl _⟩⟩
  case rest =>
    obtain ⟨X1, la1, HC⟩ := hcut
    obtain ⟨h1, hj1, hz1, hle⟩ := HC.out
    have hok := h1.ok
    have hml : (es.map encB).length = n := by rw [List.length_map]; exact HN.out.1
    have hp := hj1.put hok (by rw [hml]; exact hz1) (by rw [hml]; have h1 := HN.out.1; have h2 := HN.out.2.2.2; omega) (encB e) (enc_len (enc_ok HE.out)).2 (putB e) (putB_data e)
    rw [hml, HN.out.2.1] at hp
    obtain ⟨X2, hX2⟩ : ∃ X2, (stepA X1 (fN k) (putB e)).1 = X2 := ⟨_, rfl⟩
    rw [hX2] at hp
    obtain ⟨hp0, hj2⟩ := hp
    obtain ⟨b, cap, _, _, _, hbk⟩ := h1.cells
    have hbx : Bk wc g (enC e) 72 := h1.boxAt (i := us.length) (by simp)
    have c2 : wc.cell? ⟨lb, 2, none⟩ = some (.int .i64 5) := hbk.cell 2
    have hw0 := h1.init
    have HSE : Hid (∀ W, Below wc.heap.size wc W → Calls Tryz.prog 36 #[enV e] W fun r w' => ∃ vb vc, r = .returned (.slice vb (frB (encB e)).length vc) ∧ Below wc.heap.size wc w' ∧ ByIn w' vb (putB e) ∧ (∀ k o, vb = some ⟨k, o, none⟩ → wc.heap.size ≤ k)) := Lib.hid (fun W hW => by
      refine (seal_ev HE.out W (HGL.out W (hw0.trans (hW.mono hw0.size)))).mono ?_
      rintro r w' ⟨v, rfl, hm⟩
      obtain ⟨vb, vc, rfl, _, _, hi⟩ := hm.read bLen (by decide)
      refine ⟨vb, vc, rfl, hW.trans (hm.bl.mono hW.size), ?_, fun k o hk => ?_⟩
      · unfold ByIn; rw [putB_data]; exact hi
      · have := hm.nw k (by rw [hk]; rfl)
        have := hW.size
        omega)
    have hsz : (putB e).size = (frB (encB e)).length := size_of (putB_data e)
    have hsl : (frB (encB e)).length ≤ 210 := by rw [fr_len]; have := (enc_len (enc_ok HE.out)).2; omega
    have HAP : Hid (∀ W vb vc, Below wc.heap.size wc W → ByIn W vb (putB e) → (∀ k o, vb = some ⟨k, o, none⟩ → wc.heap.size ≤ k) → Calls Tryz.prog 35 #[.pointer (some ⟨d, 0, none⟩), .string (fN k), .slice vb (frB (encB e)).length vc] W fun r w' => r = .returned (.int .i64 0) ∧ Jx w0 w' d lb X2 files la1 es (us ++ [.box g (enC e) 72])) := Lib.hid (fun W vb vc hW hin hnw => by
      have := jr_append h1 hW (fN k) (putB e) vb vc (by have := fN_size k (by omega); omega) hin hnw (by omega) _ hsz.symm
      rw [hp0, hX2] at this
      exact this)
    have HFI : Hid (∀ W, Below wc.heap.size wc W → Calls Tryz.prog 25 #[.pointer (some ⟨lb, 0, none⟩), .int .i64 k] W fun e w' => e = .returned (.string (fN k)) ∧ Below wc.heap.size wc w' ∧ Below W.heap.size W w') := Lib.hid (fun W hW => by
      refine (file_any lb k W ((hbk.bel hW).cell 1) (by omega)).mono ?_
      rintro e w' ⟨rfl, q, rfl⟩
      exact ⟨rfl, bdrewN hW q, bdrewN (Below.refl _ _) q⟩)
    have HS7 : Hid (∀ W, Below wc.heap.size wc W → W.cell? ⟨lb, 0, none⟩ = some (.pointer (some ⟨d, 0, none⟩)) ∧ W.cell? ⟨lb, 1, none⟩ = some (.string evN) ∧ W.cell? ⟨g, 0, none⟩ = some (.string e.src) ∧ W.cell? ⟨g, 1, none⟩ = some (.int .i64 e.num) ∧ W.cell? ⟨g, 2, none⟩ = some (.int .i64 e.at_) ∧ W.cell? ⟨g, 3, none⟩ = some (.int .i64 e.kind) ∧ W.cell? ⟨g, 4, none⟩ = some (.string e.per) ∧ W.cell? ⟨g, 5, none⟩ = some (.string e.item) ∧ W.cell? ⟨g, 6, none⟩ = some (.int .i64 e.val) ∧ W.cell? ⟨g, 7, none⟩ = some (.string e.txt) ∧ W.cell? ⟨g, 8, none⟩ = some (.bool false)) := Lib.hid (fun W hW => by
      have b1 := hbk.bel hW
      have b2 := hbx.bel hW
      exact ⟨b1.cell 0, b1.cell 1, b2.cell 0, b2.cell 1, b2.cell 2, b2.cell 3, b2.cell 4, b2.cell 5, b2.cell 6, b2.cell 7, b2.cell 8⟩)
    have HS8 : Hid (∀ W, Jx w0 W d lb X2 files la1 es (us ++ [.box g (enC e) 72]) → W.cell? ⟨lb, 0, none⟩ = some (.pointer (some ⟨d, 0, none⟩)) ∧ W.cell? ⟨lb, 1, none⟩ = some (.string evN) ∧ W.cell? ⟨g, 0, none⟩ = some (.string e.src) ∧ W.cell? ⟨g, 1, none⟩ = some (.int .i64 e.num) ∧ W.cell? ⟨g, 2, none⟩ = some (.int .i64 e.at_) ∧ W.cell? ⟨g, 3, none⟩ = some (.int .i64 e.kind) ∧ W.cell? ⟨g, 4, none⟩ = some (.string e.per) ∧ W.cell? ⟨g, 5, none⟩ = some (.string e.item) ∧ W.cell? ⟨g, 6, none⟩ = some (.int .i64 e.val) ∧ W.cell? ⟨g, 7, none⟩ = some (.string e.txt) ∧ W.cell? ⟨g, 8, none⟩ = some (.bool false)) := Lib.hid (fun W hW => by
      obtain ⟨b', cap', _, _, _, b1⟩ := hW.cells
      have b2 : Bk W g (enC e) 72 := hW.boxAt (i := us.length) (by simp)
      exact ⟨b1.cell 0, b1.cell 1, b2.cell 0, b2.cell 1, b2.cell 2, b2.cell 3, b2.cell 4, b2.cell 5, b2.cell 6, b2.cell 7, b2.cell 8⟩)
    have HJ2 := Lib.hid (And.intro hj2 hle)
    obtain ⟨k0, k1, k2, k3, k4, k5, k6, k7, k8, k9, k10⟩ := HS7.out wc (Below.refl _ _)
    have BB : Below wc.heap.size wc wc.drew := (Below.refl _ _).drew
    have kk0 := HS7.out wc.drew BB
    have r1 : IntKind.i64.wrap ((k : Int) + 1) = ((k + 1 : Nat) : Int) := (IntWalk.i64_in _ (by omega)).trans (by omega)
    clear h1 hj1 hz1 hle hok hml hp0 hX2 hj2 hbk hbx hw0 hsz hsl HGL HE HSY
    unfold enV at HSE
    go_wp2_with fail
    go_region_held3 (fun Y => Y.cell? ⟨lb, 0, none⟩ = some (.pointer (some ⟨d, 0, none⟩)) ∧ Y.cell? ⟨lb, 1, none⟩ = some (.string evN) ∧ Y.cell? ⟨g, 0, none⟩ = some (.string e.src) ∧ Y.cell? ⟨g, 1, none⟩ = some (.int .i64 e.num) ∧ Y.cell? ⟨g, 2, none⟩ = some (.int .i64 e.at_) ∧ Y.cell? ⟨g, 3, none⟩ = some (.int .i64 e.kind) ∧ Y.cell? ⟨g, 4, none⟩ = some (.string e.per) ∧ Y.cell? ⟨g, 5, none⟩ = some (.string e.item) ∧ Y.cell? ⟨g, 6, none⟩ = some (.int .i64 e.val) ∧ Y.cell? ⟨g, 7, none⟩ = some (.string e.txt) ∧ Y.cell? ⟨g, 8, none⟩ = some (.bool false))
      (first | assumption | exact kk0 | exact kk1 | exact kk2 | exact kk3 | fail)
      (first
        | (go_at_call 25
           (with_reducible refine (HFI.out _ (by assumption)).mono ?_); rintro e' wx ⟨rfl, BX, BW⟩
           have kk1 := HS7.out wx BX)
        | (go_at_call 36
           (with_reducible refine (HSE.out _ (by assumption)).mono ?_); rintro e' wy ⟨vb, vc, rfl, BY, hin, hnw⟩
           have kk2 := HS7.out wy BY)
        | (go_at_call 35
           (with_reducible refine (HAP.out _ _ _ (by assumption) (by first | assumption | exact InW.bel hin BW | fail) hnw).mono ?_); rintro e' wz ⟨rfl, hjz⟩
           have kk3 := HS8.out wz hjz)
        | fail)
    all_goals
      have HJ3 := Lib.hid hjz
      obtain ⟨b', cap', _, _, _, hbz⟩ := hjz.cells
      have c3z := hbz.cell 3
      have f3z := hbz.free 3
      clear hjz kk1 kk2 kk3 hin hnw hbz
      go_upto_region 11 with fail
      have HJ4 : Hid (Jx w0 (wz.setCell ⟨lb, 3, none⟩ (.int .i64 ((k : Int) + 1))) d lb X2 (k + 1) la1 es (us ++ [.box g (enC e) 72])) := Lib.hid (HJ3.out.setFiles (k + 1))
      clear c3z f3z
      generalize hW3 : wz.setCell ⟨lb, 3, none⟩ (.int .i64 ((k : Int) + 1)) = W3 at HJ4 ⊢
      clear hW3
      obtain ⟨ub, uc, hpre⟩ := Pre.of HJ4.out n HN.out.1
      have hpre4 : Pre w0 (W3.alloc (.cells #[.string e.src, .int .i64 e.num, .int .i64 e.at_, .int .i64 e.kind, .string e.per, .string e.item, .int .i64 e.val, .string e.txt, .bool false] 72)) d lb X2 (k + 1) la1 es us g e ub n uc := hpre.bel ((Below.refl W3.heap.size W3).alloc (Nat.le_refl _) (.cells (enC e).toArray 72))
      have HPRE := Lib.hid (hpre4.bel ((Below.refl _ _).drew))
      obtain ⟨p0, p1, p2, p3, p4, p5, p6, p7, p8, p9⟩ := hpre.cells
      obtain ⟨q0, q1, q2, q3, q4, q5, q6, q7, q8, q9⟩ := hpre4.cells
      have HROW := Lib.hid HPRE.out.row
      have HIN : Hid (InW (W3.alloc (.cells #[.string e.src, .int .i64 e.num, .int .i64 e.at_, .int .i64 e.kind, .string e.per, .string e.item, .int .i64 e.val, .string e.txt, .bool false] 72)).drew (some ⟨W3.heap.size, 0, none⟩) 9 ([e].map enC)) := Lib.hid (inw_one (f := enC) (x := e) ((Bk.new W3 (enC e) 72).bel (Below.refl _ _).drew))
      have HLN : Hid (es.length + [e].length ≤ 1000000) := Lib.hid (by have := HN.out.2.2.2; simp; omega)
      clear hpre hpre4 HJ3 HJ4
      go_region_law (first
        | (refine step_append_m enLen enOne (by rfl) _ _ _ (by rfl) 72 iN _ 104 Tryz.underlying66 hiN hzN hsN hbN rfl (by decide) (by omega) (.slice ub n uc) es [e] (by rfl) HROW.out (some ⟨W3.heap.size, 0, none⟩) 1 1 (by rfl) rfl HIN.out HLN.out ?_
           intro v5 w5 o5 f5 h5
           obtain ⟨ub', n', uc', hv5, y5, g5, HF5⟩ := HPRE.out.app o5 f5 h5
           subst hv5
           obtain ⟨y5, -⟩ := y5
           clear o5 f5 h5)
        | fail)
      all_goals
        clear HROW HIN HLN HPRE
        go_wp2_with fail
        go_ret
        exact ⟨rfl, X2, la1, HJ2.out.2, by rw [List.map_append]; exact HJ2.out.1, HF5.out⟩
end
end Tr
end Go.Proofs.YtkofcegdoilaeaaGreatDoor
namespace Go.Proofs.YtkofcegdoilaeaaGreatDoor
open Go.RowKit Go.MapKept Go.Maps
set_option linter.unusedVariables false
set_option linter.unusedSimpArgs false
namespace Tr
open Es Tl Rk
section
variable {w0 w : World} {d lb : Nat} {X : Dk} {files la : Nat} {es : List Ev} {us : List Ob}
set_option maxRecDepth 100000 in
set_option maxHeartbeats 2000000 in
theorem syncall_any (h : Jx w0 w d lb X files la es us) (hj : JD X (es.map encB) files la) (hl : es.length < 60) (n : Nat) (hn : es.length = n) :
    Calls Tryz.prog 8 #[.pointer (some ⟨lb, 0, none⟩)] w fun e w' => e = .returned (.int .i64 0) ∧ ∃ X', JD X' (es.map encB) files n ∧ Jx w0 w' d lb X' files n es us := by
  obtain ⟨v, hb⟩ := h.box
  have c6 : w.cell? ⟨lb, 6, none⟩ = some (.int .i64 0) := hb.cell 6
  have HS := Lib.hid (sync_jd h hj hl)
  rw [hn] at HS
  clear h hj hb
  go_enter Tryz.func8, Tryz.ntmps8
  go_wp2_with fail
  refine HS.out.mono ?_
  rintro e w1 ⟨rfl, X1, hj1, h1⟩
  have HC := Lib.hid (And.intro hj1 h1)
  clear hj1 h1 HS
  go_wp2_with fail
  go_ret
  exact ⟨rfl, X1, HC.out⟩
set_option maxRecDepth 100000 in
set_option maxHeartbeats 8000000 in
theorem append_all (h : Jx w0 w d lb X files la es us) (hj : JD X (es.map encB) files la) (b : Option Addr) (cap n : Nat) (ls : List Ev) (hin : InW w0 b 8 (ls.map evC)) (hn : ls.length = n) (hT : ∀ e ∈ ls, TaleEv e) (hG : Glob w0) (hl : es.length + n < 60) :
    Calls Tryz.prog 10 #[.pointer (some ⟨lb, 0, none⟩), .slice b n cap] w fun r w' => r = .returned (.tuple #[.int .i64 es.length, .int .i64 0]) ∧ ∃ X' f' la', la ≤ la' ∧ JD X' ((es ++ ls).map encB) f' la' ∧ Jx w0 w' d lb X' f' la' (es ++ ls) us := by
  obtain ⟨s0, c0, _, _, _, hb⟩ := h.cells
  obtain ⟨m, hm⟩ : ∃ m, es.length = m := ⟨_, rfl⟩
  rw [hm] at hb hl ⊢
  have HCL : Hid (∀ W, Below w.heap.size w W → W.cell? ⟨lb, 4, none⟩ = some (.slice s0 m c0)) := Lib.hid (fun W hW => (hb.bel hW).cell 4)
  have c6 : w.cell? ⟨lb, 6, none⟩ = some (.int .i64 0) := hb.cell 6
  have HJ := Lib.hid (And.intro h hj)
  have HT := Lib.hid (And.intro hT (And.intro hG (And.intro hin (And.intro hn hm))))
  clear h hj hb hT hG hin hn
  go_enter Tryz.func10, Tryz.ntmps10
  go_wp2_with fail
  go_loopw [23] (fun c wr => ∃ k : Nat, k ≤ n ∧ c = .int .i64 k ∧ Hid (Below w.heap.size w wr)) (fun c _ => n - (intOf c).toNat)
  case atStart => exact ⟨0, by omega, rfl, Lib.hid (Below.refl _ _)⟩
  case round =>
    obtain ⟨k, hk, rfl, HB⟩ := hrel
    by_cases hlt : k < n
    · obtain ⟨x, hx⟩ : ∃ x, ls[k]? = some x := ⟨ls[k]'(by have := HT.out.2.2.2.1; omega), List.getElem?_eq_getElem _⟩
      obtain ⟨B, off, rfl, hB, hc⟩ := inw_row HT.out.2.2.1 hx
      have hc := hc wr (HJ.out.1.init.trans (HB.out.mono HJ.out.1.init.size))
      have k0 : wr.cell? ⟨B, off + k * 8, none⟩ = some (.string x.src) := hc 0 _ rfl
      have k1 : wr.cell? ⟨B, off + k * 8 + 1, none⟩ = some (.int .i64 x.num) := hc 1 _ rfl
      have k2 : wr.cell? ⟨B, off + k * 8 + 2, none⟩ = some (.int .i64 x.at_) := hc 2 _ rfl
      have k3 : wr.cell? ⟨B, off + k * 8 + 3, none⟩ = some (.int .i64 x.kind) := hc 3 _ rfl
      have k4 : wr.cell? ⟨B, off + k * 8 + 4, none⟩ = some (.string x.per) := hc 4 _ rfl
      have k5 : wr.cell? ⟨B, off + k * 8 + 5, none⟩ = some (.string x.item) := hc 5 _ rfl
      have k6 : wr.cell? ⟨B, off + k * 8 + 6, none⟩ = some (.int .i64 x.val) := hc 6 _ rfl
      have k7 : wr.cell? ⟨B, off + k * 8 + 7, none⟩ = some (.string x.txt) := hc 7 _ rfl
      have HMAY : Hid (∀ W, Below wr.heap.size wr W → Calls Tryz.prog 18 #[evV x] W fun e w' => e = .returned (.bool true) ∧ Below W.heap.size W w') := Lib.hid (fun W hW => may_any (HT.out.1 x (List.mem_of_getElem? hx)) W (HT.out.2.1.bel ((HJ.out.1.init.trans (HB.out.mono HJ.out.1.init.size)).trans (hW.mono (Nat.le_trans HJ.out.1.init.size HB.out.size)))))
      have HB1 : Hid (Below wr.heap.size wr (wr.alloc (.cells (evC x).toArray 60))) := Lib.hid ((Below.refl _ _).alloc (Nat.le_refl _) _)
      have hi0 : (0 : Int) ≤ (k : Int) := by omega
      have hi1 : (k : Int) < (n : Int) := by omega
      unfold evV at HMAY
      clear hc hx
      go_wp2_with fail
      refine (HMAY.out _ HB1.out).mono ?_
      rintro e w1 ⟨rfl, b1⟩
      have HB2 : Hid (Below w.heap.size w w1) := Lib.hid (HB.out.trans ((HB1.out.trans (b1.mono HB1.out.size)).mono HB.out.size))
      clear b1
      go_wp2_with fail
      go_roundw
      case rel => exact ⟨k + 1, by omega, by go_num, HB2⟩
      case measure => simp [intOf]; omega
    · have hi1 : ¬ (k : Int) < (n : Int) := by omega
      have c4 := HCL.out wr HB.out
      have hm60 : m < 60 := by omega
      have hn60 : n < 60 := by omega
      have HQ : Hid (∃ X' f' la', la ≤ la' ∧ JD X' ((es ++ ls.take 0).map encB) f' la' ∧ Jx w0 wr d lb X' f' la' (es ++ ls.take 0) us) := Lib.hid (by
        rw [List.take_zero, List.append_nil]
        exact ⟨X, files, la, Nat.le_refl _, HJ.out.2, HJ.out.1.bel HB.out⟩)
      have hq1 : ¬ IntKind.i64.wrap (1048576 - (m : Int)) < (n : Int) := by rw [IntWalk.i64_in _ (by omega)]; omega
      have hq2 : ¬ (1048576 - (m : Int)) < (n : Int) := by omega
      clear HJ HB hi1 HCL
      go_wp2_with fail
      clear c4 hq1 hq2
      go_loopw [43] (fun c wr => ∃ k : Nat, k ≤ n ∧ c = .int .i64 k ∧ Hid (∃ X' f' la', la ≤ la' ∧ JD X' ((es ++ ls.take k).map encB) f' la' ∧ Jx w0 wr d lb X' f' la' (es ++ ls.take k) us)) (fun c _ => n - (intOf c).toNat)
      case atStart => exact ⟨0, by omega, rfl, HQ⟩
      case round =>
        obtain ⟨k, hk, rfl, HR⟩ := hrel
        obtain ⟨X1, f1, la1, hle, hj1, h1⟩ := HR.out
        by_cases hlt : k < n
        · obtain ⟨x, hx⟩ : ∃ x, ls[k]? = some x := ⟨ls[k]'(by have := HT.out.2.2.2.1; omega), List.getElem?_eq_getElem _⟩
          obtain ⟨B, off, rfl, hB, hc⟩ := inw_row HT.out.2.2.1 hx
          have hc := hc wr h1.init
          have k0 : wr.cell? ⟨B, off + k * 8, none⟩ = some (.string x.src) := hc 0 _ rfl
          have k1 : wr.cell? ⟨B, off + k * 8 + 1, none⟩ = some (.int .i64 x.num) := hc 1 _ rfl
          have k2 : wr.cell? ⟨B, off + k * 8 + 2, none⟩ = some (.int .i64 x.at_) := hc 2 _ rfl
          have k3 : wr.cell? ⟨B, off + k * 8 + 3, none⟩ = some (.int .i64 x.kind) := hc 3 _ rfl
          have k4 : wr.cell? ⟨B, off + k * 8 + 4, none⟩ = some (.string x.per) := hc 4 _ rfl
          have k5 : wr.cell? ⟨B, off + k * 8 + 5, none⟩ = some (.string x.item) := hc 5 _ rfl
          have k6 : wr.cell? ⟨B, off + k * 8 + 6, none⟩ = some (.int .i64 x.val) := hc 6 _ rfl
          have k7 : wr.cell? ⟨B, off + k * 8 + 7, none⟩ = some (.string x.txt) := hc 7 _ rfl
          have hTK : ls.take (k + 1) = ls.take k ++ [x] := by rw [List.take_add_one, hx]; rfl
          have hel : (es ++ ls.take k).length = m + k := by
            rw [List.length_append, List.length_take, HT.out.2.2.2.1, HT.out.2.2.2.2]; omega
          have HPU : Hid (Calls Tryz.prog 19 #[.pointer (some ⟨lb, 0, none⟩), enV x] (wr.alloc (.cells (evC x).toArray 60)) fun r w' => r = .returned (.int .i64 0) ∧ ∃ X' f' la', la ≤ la' ∧ JD X' ((es ++ ls.take (k + 1)).map encB) f' la' ∧ Jx w0 w' d lb X' f' la' (es ++ ls.take (k + 1)) us) := Lib.hid (by
            refine (put_any (h1.bel ((Below.refl _ _).alloc (Nat.le_refl _) _)) hj1 (by omega) (HT.out.1 x (List.mem_of_getElem? hx)) HT.out.2.1 _ rfl _ rfl).mono ?_
            rintro r w' ⟨rfl, X', la', h2, h3, h4⟩
            rw [hTK, ← List.append_assoc]
            exact ⟨rfl, X', _, la', Nat.le_trans hle h2, h3, h4⟩)
          have hi0 : (0 : Int) ≤ (k : Int) := by omega
          have hi1 : (k : Int) < (n : Int) := by omega
          unfold enV evC at HPU
          clear hc hx hTK hel hle hj1 h1 HR
          go_wp2_with fail
          refine HPU.out.mono ?_
          rintro r w1 ⟨rfl, hp⟩
          have HP := Lib.hid hp
          clear hp HPU
          go_wp2_with fail
          go_roundw
          case rel => exact ⟨k + 1, by omega, by go_num, HP⟩
          case measure => simp [intOf]; omega
        · have hkn : k = n := by omega
          have hi1 : ¬ (k : Int) < (n : Int) := by omega
          have HF : Hid (∃ X' f' la', la ≤ la' ∧ JD X' ((es ++ ls).map encB) f' la' ∧ Jx w0 wr d lb X' f' la' (es ++ ls) us) := Lib.hid (by
            have := HR.out
            rw [List.take_of_length_le (by have := HT.out.2.2.2.1; omega)] at this
            exact this)
          clear hkn hle hj1 h1 HR
          go_wp2_with fail
          go_ret2
          exact ⟨rfl, by simpa only [List.map_append] using HF.out⟩
end
end Tr
end Go.Proofs.YtkofcegdoilaeaaGreatDoor

/- Disks: files that rise by name, a fuse, whether it is down: plain laws. No program in sight. -/
import Derived.Test.YtemfnchiedepoaaIns
import Derived.Test.YtemfnchiedepoaaMap
namespace Go.Proofs.Ytemfnchiedepoaa
set_option linter.unusedVariables false
structure Fl where
  s : ByteArray
  lasts : Nat
  stays : Bool
abbrev Fs := List (ByteArray × Fl)
structure Dk where
  L : Fs
  fuse : Int
  down : Bool
def emptyF : Fl := ⟨⟨#[]⟩, 0, false⟩
def fnames (L : Fs) : List ByteArray := L.map Prod.fst
/-- a file in its place, as the document puts it -/
def putStep (n : ByteArray) (f : Fl) (r : Fs × Bool) (p : ByteArray × Fl) : Fs × Bool :=
  ((if !r.2 && !decide (ltB p.1 n) then r.1 ++ [(n, f)] else r.1) ++ (if p.1 = n then [] else [p]), r.2 || !decide (ltB p.1 n))
def putFold (n : ByteArray) (f : Fl) (L : Fs) : Fs × Bool := L.foldl (putStep n f) ([], false)
def fput (L : Fs) (n : ByteArray) (f : Fl) : Fs := (putFold n f L).1 ++ (if (putFold n f L).2 then [] else [(n, f)])
theorem putFold_snoc (n : ByteArray) (f : Fl) (L : Fs) (p : ByteArray × Fl) : putFold n f (L ++ [p]) = putStep n f (putFold n f L) p := by
  unfold putFold; rw [List.foldl_append]; rfl
def fputR (n : ByteArray) (f : Fl) : Fs → Fs
  | [] => [(n, f)]
  | p :: L => if ltB p.1 n then p :: fputR n f L else (n, f) :: (p :: L).filter fun q => decide (q.1 ≠ n)
theorem putFold_done (n : ByteArray) (f : Fl) : ∀ (L : Fs) (acc : Fs), L.foldl (putStep n f) (acc, true) = (acc ++ L.filter fun q => decide (q.1 ≠ n), true)
  | [], acc => by simp
  | p :: L, acc => by
    rw [List.foldl_cons]
    have : putStep n f (acc, true) p = (acc ++ (if p.1 = n then [] else [p]), true) := by simp [putStep]
    rw [this, putFold_done n f L]
    by_cases e : p.1 = n
    · simp [e]
    · simp [e]
theorem putFold_go (n : ByteArray) (f : Fl) : ∀ (L : Fs) (acc : Fs), (L.foldl (putStep n f) (acc, false)).1 ++ (if (L.foldl (putStep n f) (acc, false)).2 then [] else [(n, f)]) = acc ++ fputR n f L
  | [], acc => by simp [fputR]
  | p :: L, acc => by
    rw [List.foldl_cons]
    by_cases h : ltB p.1 n
    · have hne : p.1 ≠ n := fun e => ltB_irrefl n (by rw [e] at h; exact h)
      have : putStep n f (acc, false) p = (acc ++ [p], false) := by simp [putStep, h, hne]
      rw [this, putFold_go n f L, fputR, if_pos h]
      simp
    · have : putStep n f (acc, false) p = (acc ++ [(n, f)] ++ (if p.1 = n then [] else [p]), true) := by simp [putStep, h]
      rw [this, putFold_done, fputR, if_neg h]
      by_cases e : p.1 = n
      · simp [e]
      · simp [e]
theorem fput_eq (L : Fs) (n : ByteArray) (f : Fl) : fput L n f = fputR n f L := by
  have := putFold_go n f L []
  rw [List.nil_append] at this
  exact this
def RiseF (L : Fs) : Prop := Rise (fnames L)
theorem RiseF.nil : RiseF [] := by unfold RiseF fnames Rise; simp
theorem RiseF.tail {p : ByteArray × Fl} {L : Fs} (h : RiseF (p :: L)) : RiseF L := (List.pairwise_cons.1 h).2
theorem RiseF.head {p : ByteArray × Fl} {L : Fs} (h : RiseF (p :: L)) {q : ByteArray × Fl} (hq : q ∈ L) : ltB p.1 q.1 := (List.pairwise_cons.1 h).1 q.1 (List.mem_map.2 ⟨q, hq, rfl⟩)
theorem RiseF.nodup {L : Fs} (h : RiseF L) : (mkeys L).Nodup := Rise.nodup h
theorem fputR_mem {n : ByteArray} {f : Fl} {L : Fs} {q : ByteArray × Fl} (h : q ∈ fputR n f L) : q = (n, f) ∨ (q ∈ L ∧ q.1 ≠ n) := by
  induction L with
  | nil => simp [fputR] at h; exact .inl h
  | cons p L ih =>
    rw [fputR] at h
    split at h
    · rename_i hl
      rcases List.mem_cons.1 h with rfl | h
      · exact .inr ⟨by simp, fun e => ltB_irrefl n (by rw [e] at hl; exact hl)⟩
      · exact (ih h).imp id (fun h => ⟨by simp [h.1], h.2⟩)
    · rcases List.mem_cons.1 h with rfl | h
      · exact .inl rfl
      · have := List.mem_filter.1 h
        exact .inr ⟨this.1, by simpa using this.2⟩
theorem fputR_rise {n : ByteArray} {f : Fl} : ∀ {L : Fs}, RiseF L → RiseF (fputR n f L)
  | [], _ => by unfold RiseF fnames Rise fputR; simp
  | p :: L, h => by
    rw [fputR]
    split
    · rename_i hl
      refine List.pairwise_cons.2 ⟨fun x hx => ?_, fputR_rise h.tail⟩
      obtain ⟨q, hq, rfl⟩ := List.mem_map.1 hx
      rcases fputR_mem hq with rfl | hq
      · exact hl
      · exact h.head hq.1
    · rename_i hl
      refine List.pairwise_cons.2 ⟨fun x hx => ?_, ?_⟩
      · obtain ⟨q, hq, rfl⟩ := List.mem_map.1 hx
        have hq' := List.mem_filter.1 hq
        have hne : q.1 ≠ n := by simpa using hq'.2
        have hpq : ¬ ltB q.1 n := by
          rcases List.mem_cons.1 hq'.1 with rfl | hm
          · exact hl
          · exact fun c => hl (ltB_trans (h.head hm) c)
        exact (ltB_total (fun e => hne e.symm)).resolve_right hpq
      · exact List.Pairwise.sublist (List.Sublist.map _ List.filter_sublist) h
theorem fputR_get {n : ByteArray} {f : Fl} : ∀ {L : Fs} (m : ByteArray), RiseF L → mget (fputR n f L) m = if n = m then some f else mget L m
  | [], m, _ => by simp [fputR, mget]
  | p :: L, m, h => by
    rw [fputR]
    split
    · rename_i hl
      have hne : p.1 ≠ n := fun e => ltB_irrefl n (by rw [e] at hl; exact hl)
      simp only [mget, fputR_get m h.tail]
      by_cases e : p.1 = m
      · rw [if_pos e, if_pos e, if_neg (fun c => hne (e.trans c.symm))]
      · rw [if_neg e, if_neg e]
    · rw [mget]
      by_cases e : n = m
      · rw [if_pos e, if_pos e]
      · rw [if_neg e, if_neg e]
        have key : ∀ (K : Fs), mget (K.filter fun q => decide (q.1 ≠ n)) m = mget K m := fun K => by
          induction K with
          | nil => rfl
          | cons q K ih =>
            by_cases c : q.1 = n
            · rw [List.filter_cons_of_neg (by simp [c]), ih, mget, if_neg (fun d => e (c.symm.trans d))]
            · rw [List.filter_cons_of_pos (by simp [c]), mget, mget, ih]
        exact key (p :: L)
theorem fput_rise {L : Fs} (h : RiseF L) (n : ByteArray) (f : Fl) : RiseF (fput L n f) := by rw [fput_eq]; exact fputR_rise h
theorem fput_get {L : Fs} (h : RiseF L) (n : ByteArray) (f : Fl) (m : ByteArray) : mget (fput L n f) m = if n = m then some f else mget L m := by rw [fput_eq]; exact fputR_get m h
theorem fput_mem {L : Fs} {n : ByteArray} {f : Fl} {q : ByteArray × Fl} (h : q ∈ fput L n f) : q = (n, f) ∨ (q ∈ L ∧ q.1 ≠ n) := by rw [fput_eq] at h; exact fputR_mem h
/-- no such file -/
def fdel (L : Fs) (n : ByteArray) : Fs := L.filter fun q => decide (q.1 ≠ n)
theorem fdel_rise {L : Fs} (h : RiseF L) (n : ByteArray) : RiseF (fdel L n) := List.Pairwise.sublist (List.Sublist.map _ List.filter_sublist) h
theorem fdel_get (L : Fs) (n m : ByteArray) : mget (fdel L n) m = if n = m then none else mget L m := by
  induction L with
  | nil => simp [fdel, mget]
  | cons q L ih =>
    unfold fdel at ih ⊢
    by_cases c : q.1 = n
    · rw [List.filter_cons_of_neg (by simp [c]), ih, mget]
      by_cases e : n = m
      · rw [if_pos e, if_pos e]
      · rw [if_neg e, if_neg e, if_neg (fun d => e (c.symm.trans d))]
    · rw [List.filter_cons_of_pos (by simp [c]), mget, mget, ih]
      by_cases e : n = m
      · rw [if_pos e, if_pos e, if_neg (fun d => c (d.trans e.symm))]
      · rw [if_neg e, if_neg e]
/-- files by their names alone -/
theorem fs_ext {L K : Fs} (h : RiseF L) (k : RiseF K) (e : ∀ n, mget L n = mget K n) : L = K := by
  have hm : ∀ (A B : Fs), RiseF A → RiseF B → (∀ n, mget A n = mget B n) → ∀ x ∈ A, x ∈ B := fun A B ha hb hab x hx => by
    have h1 := get_of_mem ha.nodup (a := x.1) (v := x.2) hx
    rw [hab] at h1
    exact mem_of_get h1
  have hn : ∀ {A : Fs}, RiseF A → A.Nodup := fun {A} ha => by
    have := ha.nodup
    unfold mkeys at this
    exact (List.pairwise_map.1 this).imp (fun h e => h (by rw [e]))
  have hp : L.Perm K := List.perm_ext_iff_of_nodup (hn h) (hn k) |>.2 (fun x => ⟨hm L K h k e x, hm K L k h (fun n => (e n).symm) x⟩)
  have h1 : L.Pairwise (fun a b => ltB a.1 b.1) := List.pairwise_map.1 h
  have h2 : K.Pairwise (fun a b => ltB a.1 b.1) := List.pairwise_map.1 k
  exact hp.eq_of_pairwise (fun a b _ _ x y => absurd y (ltB_asymm x)) h1 h2
/-- bytes of files -/
def fsum : Fs → Nat
  | [] => 0
  | p :: L => p.2.s.size + fsum L
def fsumBut (n : ByteArray) : Fs → Nat
  | [] => 0
  | p :: L => (if p.1 = n then 0 else p.2.s.size) + fsumBut n L
def sizeAt (L : Fs) (n : ByteArray) : Nat := match mget L n with | some f => f.s.size | none => 0
theorem fsumBut_none {L : Fs} {n : ByteArray} (h : ∀ p ∈ L, p.1 ≠ n) : fsumBut n L = fsum L := by
  induction L with
  | nil => rfl
  | cons p L ih => rw [fsumBut, fsum, if_neg (h p (by simp)), ih (fun q hq => h q (by simp [hq]))]
theorem fsum_at {L : Fs} (h : (mkeys L).Nodup) (n : ByteArray) : fsum L = fsumBut n L + sizeAt L n := by
  induction L with
  | nil => rfl
  | cons p L ih =>
    have hn := List.nodup_cons.1 h
    unfold sizeAt at ih ⊢
    rw [fsum, fsumBut, mget]
    by_cases e : p.1 = n
    · rw [if_pos e, if_pos e]
      have hno : ∀ q ∈ L, q.1 ≠ n := fun q hq c => hn.1 (by rw [e, ← c]; exact List.mem_map.2 ⟨q, hq, rfl⟩)
      rw [fsumBut_none hno]
      simp; omega
    · rw [if_neg e, if_neg e, ih hn.2]; omega
theorem fsum_filter (n : ByteArray) (L : Fs) : fsum (L.filter fun q => decide (q.1 ≠ n)) = fsumBut n L := by
  induction L with
  | nil => rfl
  | cons p L ih =>
    rw [fsumBut]
    by_cases e : p.1 = n
    · rw [List.filter_cons_of_neg (by simp [e]), ih, if_pos e]; omega
    · rw [List.filter_cons_of_pos (by simp [e]), fsum, ih, if_neg e]
theorem fsum_put {L : Fs} (h : RiseF L) (n : ByteArray) (f : Fl) : fsum (fput L n f) = fsumBut n L + f.s.size := by
  rw [fput_eq]
  induction L with
  | nil => simp [fputR, fsum, fsumBut]
  | cons p L ih =>
    rw [fputR]
    split
    · rename_i hl
      have hne : p.1 ≠ n := fun e => ltB_irrefl n (by rw [e] at hl; exact hl)
      rw [fsum, ih h.tail, fsumBut, if_neg hne]; omega
    · rw [fsum, fsum_filter]; simp only []; omega
theorem fsum_del (L : Fs) (n : ByteArray) : fsum (fdel L n) = fsumBut n L := fsum_filter n L
theorem fput_len {L : Fs} (h : RiseF L) (n : ByteArray) (f : Fl) : (fput L n f).length ≤ L.length + 1 := by
  rw [fput_eq]
  clear h
  induction L with
  | nil => simp [fputR]
  | cons p L ih =>
    rw [fputR]
    split
    · simp; exact ih
    · have := List.length_filter_le (fun q : ByteArray × Fl => decide (q.1 ≠ n)) (p :: L)
      simp at this ⊢; omega
/-- a byte of a file's, taken so many -/
def cutB (s : ByteArray) (n : Nat) : ByteArray := ⟨(s.data.toList.take n).toArray⟩
def catB (s t : ByteArray) : ByteArray := ⟨(s.data.toList ++ t.data.toList).toArray⟩
/-- may a name be? -/
def nameD (n : ByteArray) : Bool := decide (1 ≤ n.size) && decide (n.size ≤ 64)
/-- behind a fuse's step -/
def burn (x : Dk) : Dk := if 0 < x.fuse then { x with fuse := x.fuse - 1 } else x
def getF (L : Fs) (n : ByteArray) : Fl := (mget L n).getD emptyF
def fullB (x : Dk) (n : ByteArray) (size : Nat) : Bool := decide (4194304 < size) || ((mget x.L n).isNone && decide (4096 ≤ x.L.length))
/-- Append -/
def stepA (x : Dk) (n s : ByteArray) : Dk × Int :=
  if x.down then (x, 8)
  else if nameD n = false then (x, 1)
  else if fullB x n (fsum x.L + s.size) then (x, 5)
  else if x.fuse = 0 then ({ x with L := fput x.L n { getF x.L n with s := catB (getF x.L n).s s }, down := true }, 8)
  else ({ burn x with L := fput x.L n { getF x.L n with s := catB (getF x.L n).s s } }, 0)
/-- Sync -/
def stepS (x : Dk) (n : ByteArray) : Dk × Int :=
  if x.down then (x, 8)
  else if nameD n = false then (x, 1)
  else if (mget x.L n).isNone then (x, 6)
  else if x.fuse = 0 then ({ x with down := true }, 8)
  else ({ burn x with L := fput x.L n ⟨(getF x.L n).s, (getF x.L n).s.size, true⟩ }, 0)
/-- Replace -/
def stepR (x : Dk) (n s : ByteArray) : Dk × Int :=
  if x.down then (x, 8)
  else if nameD n = false then (x, 1)
  else if fullB x n (fsumBut n x.L + s.size) then (x, 5)
  else if x.fuse = 0 then ({ x with down := true }, 8)
  else ({ burn x with L := fput x.L n ⟨s, s.size, true⟩ }, 0)
/-- Remove -/
def stepD (x : Dk) (n : ByteArray) : Dk × Int :=
  if x.down then (x, 8)
  else if nameD n = false then (x, 1)
  else if (mget x.L n).isNone then (x, 6)
  else if x.fuse = 0 then ({ x with down := true }, 8)
  else ({ burn x with L := fdel x.L n }, 0)
def readD (x : Dk) (n : ByteArray) : ByteArray × Int :=
  if x.down then (⟨#[]⟩, 8)
  else if nameD n = false then (⟨#[]⟩, 1)
  else match mget x.L n with
    | none => (⟨#[]⟩, 6)
    | some f => (f.s, 0)
/-- how many bytes of a file are left by a crash -/
def keepN (f : Fl) (keep : List Int) (i : Nat) : Nat := min ((keep[i]?).getD 0).toNat (f.s.size - f.lasts)
def crashF (f : Fl) (k : Nat) : Option Fl := if !f.stays && decide (f.lasts + k = 0) then none else some ⟨cutB f.s (f.lasts + k), f.lasts + k, true⟩
def crashL (keep : List Int) : Nat → Fs → Fs
  | _, [] => []
  | i, p :: L => (match crashF p.2 (keepN p.2 keep i) with | some g => [(p.1, g)] | none => []) ++ crashL keep (i + 1) L
def crashD (x : Dk) (keep : List Int) : Dk := ⟨crashL keep 0 x.L, -1, false⟩
def armD (x : Dk) (n : Int) : Dk := { x with fuse := if n < 0 then -1 else n }
def newD : Dk := ⟨[], -1, false⟩
/-- what always holds of a disk -/
structure DkOk (x : Dk) : Prop where
  rise : RiseF x.L
  sum : fsum x.L ≤ 4194304
  last : ∀ p ∈ x.L, p.2.lasts ≤ p.2.s.size
  name : ∀ p ∈ x.L, nameD p.1 = true
  fuse : -1 ≤ x.fuse
  fuse2 : x.fuse ≤ 9223372036854775807
  len : x.L.length ≤ 4096
theorem some_key {β : Type} {A : List (ByteArray × β)} (n : ByteArray) : n ∈ mkeys A ↔ (mget A n).isSome = true := by
  induction A with
  | nil => simp [mkeys, mget]
  | cons p A ih =>
    unfold mkeys at ih ⊢
    rw [List.map_cons, List.mem_cons, mget]
    by_cases e : p.1 = n
    · simp [e]
    · rw [if_neg e, ← ih]
      exact ⟨fun h => h.resolve_left (fun c => e c.symm), .inr⟩
theorem len_of_some {β γ : Type} {A : List (ByteArray × β)} {B : List (ByteArray × γ)} (ha : (mkeys A).Nodup) (hb : (mkeys B).Nodup) (h : ∀ n, (mget A n).isSome = (mget B n).isSome) : A.length = B.length := by
  have : (mkeys A).Perm (mkeys B) := List.perm_ext_iff_of_nodup ha hb |>.2 (fun n => by rw [some_key, some_key, h])
  have := this.length_eq
  simpa [mkeys] using this
theorem fput_len2 {L : Fs} (h : RiseF L) {n : ByteArray} (f : Fl) (hs : (mget L n).isSome = true) : (fput L n f).length = L.length :=
  len_of_some (fput_rise h n f).nodup h.nodup (fun k => by
    rw [fput_get h]
    by_cases e : n = k
    · subst e; rw [if_pos rfl, hs]; rfl
    · rw [if_neg e])
theorem size_cat (s t : ByteArray) : (catB s t).size = s.size + t.size := by
  show (s.data.toList ++ t.data.toList).toArray.size = _
  simp
theorem size_cut (s : ByteArray) (n : Nat) (h : n ≤ s.size) : (cutB s n).size = n := by
  show ((s.data.toList.take n).toArray).size = n
  have : s.data.toList.length = s.size := by simp
  simp; omega
theorem sizeAt_eq (L : Fs) (n : ByteArray) : sizeAt L n = (getF L n).s.size := by
  unfold sizeAt getF
  cases mget L n <;> rfl
theorem getF_last {x : Dk} (h : DkOk x) (n : ByteArray) : (getF x.L n).lasts ≤ (getF x.L n).s.size := by
  unfold getF
  cases e : mget x.L n with
  | none => exact Nat.le_refl 0
  | some f => exact h.last _ (mem_of_get e)
theorem full_of {x : Dk} {n : ByteArray} {k : Nat} (h : fullB x n k = false) : k ≤ 4194304 ∧ ((mget x.L n).isSome = true ∨ x.L.length < 4096) := by
  unfold fullB at h
  simp only [Bool.or_eq_false_iff, Bool.and_eq_false_iff, decide_eq_false_iff_not] at h
  refine ⟨by omega, ?_⟩
  rcases h.2 with h | h
  · left; cases e : mget x.L n <;> simp_all
  · exact .inr (by omega)
theorem burn_fuse (x : Dk) (h : -1 ≤ x.fuse) : (burn x).fuse = (if 0 < x.fuse then x.fuse - 1 else x.fuse) ∧ (burn x).L = x.L ∧ (burn x).down = x.down := by
  unfold burn; split <;> exact ⟨rfl, rfl, rfl⟩
/-- a disk with a file put -/
theorem DkOk.put {x : Dk} (h : DkOk x) {n : ByteArray} {f : Fl} (hn : nameD n = true) (hs : fsumBut n x.L + f.s.size ≤ 4194304) (hl : f.lasts ≤ f.s.size) (hr : (mget x.L n).isSome = true ∨ x.L.length < 4096) {fu : Int} {dn : Bool} (h1 : -1 ≤ fu) (h2 : fu ≤ 9223372036854775807) : DkOk ⟨fput x.L n f, fu, dn⟩ where
  rise := fput_rise h.rise n f
  sum := by show fsum (fput x.L n f) ≤ _; rw [fsum_put h.rise]; exact hs
  last := fun p hp => by
    rcases fput_mem hp with rfl | hp
    · exact hl
    · exact h.last p hp.1
  name := fun p hp => by
    rcases fput_mem hp with rfl | hp
    · exact hn
    · exact h.name p hp.1
  fuse := h1
  fuse2 := h2
  len := by
    show (fput x.L n f).length ≤ _
    rcases hr with hr | hr
    · rw [fput_len2 h.rise f hr]; exact h.len
    · have := fput_len h.rise n f; omega
theorem DkOk.same {x : Dk} (h : DkOk x) {fu : Int} {dn : Bool} (h1 : -1 ≤ fu) (h2 : fu ≤ 9223372036854775807) : DkOk ⟨x.L, fu, dn⟩ := ⟨h.rise, h.sum, h.last, h.name, h1, h2, h.len⟩
theorem DkOk.del {x : Dk} (h : DkOk x) (n : ByteArray) {fu : Int} {dn : Bool} (h1 : -1 ≤ fu) (h2 : fu ≤ 9223372036854775807) : DkOk ⟨fdel x.L n, fu, dn⟩ where
  rise := fdel_rise h.rise n
  sum := by show fsum (fdel x.L n) ≤ _; rw [fsum_del]; have := fsum_at h.rise.nodup n; have := h.sum; omega
  last := fun p hp => h.last p (List.mem_filter.1 hp).1
  name := fun p hp => h.name p (List.mem_filter.1 hp).1
  fuse := h1
  fuse2 := h2
  len := by have := List.length_filter_le (fun q : ByteArray × Fl => decide (q.1 ≠ n)) x.L; have := h.len; show (fdel x.L n).length ≤ _; unfold fdel; omega
theorem burn_in {x : Dk} (h : DkOk x) : -1 ≤ (burn x).fuse ∧ (burn x).fuse ≤ 9223372036854775807 := by
  have h1 := h.fuse; have h2 := h.fuse2
  rw [(burn_fuse x h1).1]
  split <;> omega
theorem burn_eq {x : Dk} (L : Fs) : ({ burn x with L := L } : Dk) = ⟨L, (burn x).fuse, x.down⟩ := by
  unfold burn; split <;> rfl
theorem sum_put {x : Dk} (h : DkOk x) (n s : ByteArray) : fsumBut n x.L + (catB (getF x.L n).s s).size = fsum x.L + s.size := by
  have := fsum_at h.rise.nodup n
  rw [sizeAt_eq] at this
  rw [size_cat]; omega
theorem stepA_ok {x : Dk} (h : DkOk x) (n s : ByteArray) : DkOk (stepA x n s).1 := by
  unfold stepA
  split
  · exact h
  · split
    · exact h
    · rename_i hn
      split
      · exact h
      · rename_i hf
        have hf' := full_of (by simpa using hf)
        have hl := getF_last h n
        have hs := sum_put h n s
        split
        · exact h.put (f := { getF x.L n with s := catB (getF x.L n).s s }) (by simpa using hn) (by show _ + (catB (getF x.L n).s s).size ≤ _; omega) (by show (getF x.L n).lasts ≤ (catB (getF x.L n).s s).size; rw [size_cat]; omega) hf'.2 h.fuse h.fuse2
        · rw [burn_eq]
          exact h.put (f := { getF x.L n with s := catB (getF x.L n).s s }) (by simpa using hn) (by show _ + (catB (getF x.L n).s s).size ≤ _; omega) (by show (getF x.L n).lasts ≤ (catB (getF x.L n).s s).size; rw [size_cat]; omega) hf'.2 (burn_in h).1 (burn_in h).2
theorem stepS_ok {x : Dk} (h : DkOk x) (n : ByteArray) : DkOk (stepS x n).1 := by
  unfold stepS
  split
  · exact h
  · split
    · exact h
    · rename_i hn
      split
      · exact h
      · rename_i hg
        split
        · exact h.same h.fuse h.fuse2
        · rw [burn_eq]
          have hs := fsum_at h.rise.nodup n
          rw [sizeAt_eq] at hs
          have := h.sum
          exact h.put (f := ⟨(getF x.L n).s, (getF x.L n).s.size, true⟩) (by simpa using hn) (by show _ + (getF x.L n).s.size ≤ _; omega) (Nat.le_refl _) (.inl (by cases e : mget x.L n <;> simp_all)) (burn_in h).1 (burn_in h).2
theorem stepR_ok {x : Dk} (h : DkOk x) (n s : ByteArray) : DkOk (stepR x n s).1 := by
  unfold stepR
  split
  · exact h
  · split
    · exact h
    · rename_i hn
      split
      · exact h
      · rename_i hf
        have hf' := full_of (by simpa using hf)
        split
        · exact h.same h.fuse h.fuse2
        · rw [burn_eq]
          exact h.put (f := ⟨s, s.size, true⟩) (by simpa using hn) hf'.1 (Nat.le_refl _) hf'.2 (burn_in h).1 (burn_in h).2
theorem stepD_ok {x : Dk} (h : DkOk x) (n : ByteArray) : DkOk (stepD x n).1 := by
  unfold stepD
  split
  · exact h
  · split
    · exact h
    · split
      · exact h
      · split
        · exact h.same h.fuse h.fuse2
        · rw [burn_eq]
          exact h.del n (burn_in h).1 (burn_in h).2
theorem armD_ok {x : Dk} (h : DkOk x) (n : Int) (hn : n ≤ 9223372036854775807) : DkOk (armD x n) := by
  unfold armD
  exact h.same (by split <;> omega) (by split <;> omega)
end Go.Proofs.Ytemfnchiedepoaa

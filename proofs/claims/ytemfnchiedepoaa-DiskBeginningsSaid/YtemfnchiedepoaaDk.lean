/- Disks in memory: the struct, its map, the files. -/
import Derived.Test.YtemfnchiedepoaaBase
import Derived.Test.YtemfnchiedepoaaDkLaw
import Derived.Test.YtemfnchiedepoaaMk
namespace Go.Proofs.Ytemfnchiedepoaa
open Go.RowKit Go.MapKept Go.Maps
set_option linter.unusedVariables false
/-- bytes as values -/
def byV (c : UInt8) : Value := .int .u8 (c.toNat : Int)
def bV (s : ByteArray) : List Value := s.data.toList.map byV
theorem bV_len (s : ByteArray) : (bV s).length = s.size := by simp [bV]
structure FileR (w : World) (q : Nat) (v : Value) (f : Fl) : Prop where
  bk : Bk w q [v, .int .i64 f.lasts, .bool f.stays] 67
  row : w.ownsRow 0 5 1 v f.s.size (bV f.s)
abbrev FM := List (ByteArray × (Nat × Value × Fl))
def fblocks (x : ByteArray × (Nat × Value × Fl)) : List Nat := x.2.1 :: x.2.2.1.ownBlock.toList
def dblocks (d m : Nat) (M : FM) : List Nat := d :: m :: M.flatMap fblocks
def ptrM (M : FM) : List (ByteArray × Value) := M.map fun x => (x.1, Value.pointer (some ⟨x.2.1, 0, none⟩))
structure DiskR (w : World) (d m : Nat) (M : FM) (used : Int) (lit : Bool) (fuse : Int) (down : Bool) : Prop where
  bk : Bk w d [.map (some m), .int .i64 used, .bool lit, .int .i64 fuse, .bool down] 62
  mp : Mp encS okS w m (ptrM M)
  fl : ∀ x ∈ M, FileR w x.2.1 x.2.2.1 x.2.2.2
  nd : (dblocks d m M).Nodup
section
variable {w w' : World} {d m : Nat} {M : FM} {used : Int} {lit : Bool} {fuse : Int} {down : Bool}
theorem FileR.fr {S : Nat → Prop} {q : Nat} {v : Value} {f : Fl} (h : FileR w q v f) (hf : Fr S w w') (hq : ¬ S q) (hv : ∀ b, v.ownBlock = some b → ¬ S b) : FileR w' q v f := ⟨h.bk.fr hf hq, hf.row h.row hv⟩
theorem mem_fblocks {x : ByteArray × (Nat × Value × Fl)} (hx : x ∈ M) : x.2.1 ∈ dblocks d m M ∧ ∀ b, x.2.2.1.ownBlock = some b → b ∈ dblocks d m M := by
  unfold dblocks
  refine ⟨?_, fun b hb => ?_⟩
  · simp only [List.mem_cons, List.mem_flatMap]; exact .inr (.inr ⟨x, hx, by simp [fblocks]⟩)
  · simp only [List.mem_cons, List.mem_flatMap]; exact .inr (.inr ⟨x, hx, by simp [fblocks, hb]⟩)
theorem DiskR.fr {S : Nat → Prop} (h : DiskR w d m M used lit fuse down) (hf : Fr S w w') (hs : ∀ b ∈ dblocks d m M, ¬ S b) : DiskR w' d m M used lit fuse down :=
  ⟨h.bk.fr hf (hs d (by simp [dblocks])), h.mp.fr hf (hs m (by simp [dblocks])), fun x hx => (h.fl x hx).fr hf (hs _ (mem_fblocks hx).1) (fun b hb => hs b ((mem_fblocks hx).2 b hb)), h.nd⟩
theorem DiskR.bel (h : DiskR w d m M used lit fuse down) (hb : Below w.heap.size w w') : DiskR w' d m M used lit fuse down := h.fr (Fr.of_bel (S := none') hb) (fun _ _ => id)
theorem DiskR.lt (h : DiskR w d m M used lit fuse down) : ∀ b ∈ dblocks d m M, b < w.heap.size := fun b hb => by
  simp only [dblocks, List.mem_cons, List.mem_flatMap] at hb
  rcases hb with rfl | rfl | ⟨x, hx, hb⟩
  · exact h.bk.lt
  · exact h.mp.lt
  · simp only [fblocks, List.mem_cons] at hb
    rcases hb with rfl | hb
    · exact (h.fl x hx).bk.lt
    · exact own_lt (h.fl x hx).row (Option.mem_toList.1 hb)
theorem ptr_keys (M : FM) : mkeys (ptrM M) = mkeys M := by unfold ptrM mkeys; rw [List.map_map]; rfl
theorem DiskR.keys (h : DiskR w d m M used lit fuse down) : (mkeys M).Nodup := by have := h.mp.nd; rw [ptr_keys] at this; exact this
theorem ptr_get (M : FM) (n : ByteArray) : mget (ptrM M) n = (mget M n).map fun x => Value.pointer (some ⟨x.1, 0, none⟩) := by
  induction M with
  | nil => rfl
  | cons p M ih =>
    unfold ptrM at ih ⊢
    simp only [List.map_cons, mget, ih]
    split <;> rfl
theorem ptr_put (M : FM) (n : ByteArray) (x : Nat × Value × Fl) : mput (ptrM M) n (.pointer (some ⟨x.1, 0, none⟩)) = ptrM (mput M n x) := by
  induction M with
  | nil => rfl
  | cons p M ih =>
    unfold ptrM at ih ⊢
    simp only [List.map_cons, mput, ih]
    split <;> rfl
theorem ptr_del (M : FM) (n : ByteArray) : mdel (ptrM M) n = ptrM (mdel M n) := by
  induction M with
  | nil => rfl
  | cons p M ih =>
    unfold ptrM at ih ⊢
    simp only [List.map_cons, mdel, ih]
    split <;> rfl
end
/-- where a key stands -/
theorem split_get {β : Type} {M : List (ByteArray × β)} {n : ByteArray} {x : β} (hg : mget M n = some x) : ∃ M1 M2, M = M1 ++ (n, x) :: M2 ∧ (∀ y, mput M n y = M1 ++ (n, y) :: M2) ∧ mdel M n = M1 ++ M2 := by
  induction M with
  | nil => cases hg
  | cons p M ih =>
    rw [mget] at hg
    by_cases e : p.1 = n
    · rw [if_pos e] at hg
      cases hg
      refine ⟨[], M, ?_, fun y => ?_, ?_⟩
      · rw [← e]; rfl
      · rw [mput, if_pos e]; rfl
      · rw [mdel, if_pos e]; rfl
    · rw [if_neg e] at hg
      obtain ⟨M1, M2, h1, h2, h3⟩ := ih hg
      refine ⟨p :: M1, M2, by rw [h1]; rfl, fun y => ?_, ?_⟩
      · rw [mput, if_neg e, h2]; rfl
      · rw [mdel, if_neg e, h3]; rfl
theorem put_none {β : Type} {M : List (ByteArray × β)} {n : ByteArray} (hg : mget M n = none) (y : β) : mput M n y = M ++ [(n, y)] := by
  induction M with
  | nil => rfl
  | cons p M ih =>
    rw [mget] at hg
    by_cases e : p.1 = n
    · rw [if_pos e] at hg; cases hg
    · rw [if_neg e] at hg
      rw [mput, if_neg e, ih hg]; rfl
theorem sub_flat {α : Type} {f : α → List Nat} {l k : List α} (h : l.Sublist k) : (l.flatMap f).Sublist (k.flatMap f) := by
  induction h with
  | slnil => exact List.Sublist.refl _
  | cons a _ ih => rw [List.flatMap_cons]; exact ih.trans (List.sublist_append_right _ _)
  | cons_cons a _ ih => rw [List.flatMap_cons, List.flatMap_cons]; exact (List.Sublist.refl _).append ih
theorem nodup_mid {A o o' C : List Nat} {N : Nat} (h : (A ++ o ++ C).Nodup) (hlt : ∀ b ∈ A ++ o ++ C, b < N) (ho : o' = o ∨ (o'.Nodup ∧ ∀ b ∈ o', b ∈ o ∨ N ≤ b)) : (A ++ o' ++ C).Nodup := by
  rcases ho with rfl | ⟨hn, hs⟩
  · exact h
  · rw [List.append_assoc, List.nodup_append] at h ⊢
    obtain ⟨h1, h2, h3⟩ := h
    rw [List.nodup_append] at h2 ⊢
    obtain ⟨h4, h5, h6⟩ := h2
    refine ⟨h1, ⟨hn, h5, fun a ha b hb => ?_⟩, fun a ha b hb => ?_⟩
    · rcases hs a ha with h | h
      · exact h6 a h b hb
      · intro e; have := hlt b (by simp [hb]); omega
    · rcases List.mem_append.1 hb with hb | hb
      · rcases hs b hb with h | h
        · exact h3 a ha b (by simp [h])
        · intro e; have := hlt a (by simp [ha]); omega
      · exact h3 a ha b (by simp [hb])
section
variable {w w' : World} {d m : Nat} {M : FM} {used : Int} {lit : Bool} {fuse : Int} {down : Bool}
/-- a file is written -/
theorem DiskR.set (h : DiskR w d m M used lit fuse down) {n : ByteArray} {q : Nat} {v v' : Value} {g g' : Fl} (hg : mget M n = some (q, v, g)) (hf : Fr (fun b => b = q ∨ v.ownBlock = some b) w w')
    (hr : FileR w' q v' g') (hv : v'.ownBlock = v.ownBlock ∨ ∃ b, v'.ownBlock = some b ∧ w.heap.size ≤ b) :
    DiskR w' d m (mput M n (q, v', g')) used lit fuse down ∧ ∀ b ∈ dblocks d m (mput M n (q, v', g')), b ∈ dblocks d m M ∨ w.heap.size ≤ b := by
  have hlt := h.lt
  obtain ⟨M1, M2, e1, e2, _⟩ := split_get hg
  have hB : ∀ y, dblocks d m (M1 ++ (n, y) :: M2) = (d :: m :: M1.flatMap fblocks) ++ fblocks (n, y) ++ M2.flatMap fblocks := fun y => by simp [dblocks]
  have nd := h.nd
  rw [e1, hB] at nd
  have hlt2 := hlt
  rw [e1, hB] at hlt2
  have ho : fblocks (n, (q, v', g')) = fblocks (n, (q, v, g)) ∨ ((fblocks (n, (q, v', g'))).Nodup ∧ ∀ b ∈ fblocks (n, (q, v', g')), b ∈ fblocks (n, (q, v, g)) ∨ w.heap.size ≤ b) := by
    rcases hv with e | ⟨b, hb, hge⟩
    · left; simp [fblocks, e]
    · right
      have hq := hlt2 q (by simp [fblocks])
      refine ⟨by simp [fblocks, hb]; omega, fun c hc => ?_⟩
      simp only [fblocks, hb, Option.toList_some, List.mem_cons, List.not_mem_nil, or_false] at hc
      rcases hc with rfl | rfl
      · left; simp [fblocks]
      · exact .inr hge
  have hnd := nodup_mid nd hlt2 ho
  have hsp : ∀ b ∈ dblocks d m (mput M n (q, v', g')), b ∈ dblocks d m M ∨ w.heap.size ≤ b := fun b hb => by
    rw [e2, hB] at hb
    rw [e1, hB]
    rcases List.mem_append.1 hb with hb | hb
    · rcases List.mem_append.1 hb with hb | hb
      · exact .inl (by simp only [List.mem_append]; exact .inl (.inl hb))
      · rcases ho with e | ⟨_, ho⟩
        · rw [e] at hb; exact .inl (by simp only [List.mem_append]; exact .inl (.inr hb))
        · rcases ho b hb with h | h
          · exact .inl (by simp only [List.mem_append]; exact .inl (.inr h))
          · exact .inr h
    · exact .inl (by simp only [List.mem_append]; exact .inr hb)
  have nd' : ∀ b, (b = q ∨ v.ownBlock = some b) → b ∉ d :: m :: M1.flatMap fblocks ∧ b ∉ M2.flatMap fblocks := fun b hb => by
    have hm : b ∈ fblocks (n, (q, v, g)) := by
      rcases hb with rfl | hb
      · simp [fblocks]
      · simp [fblocks, hb]
    rw [List.append_assoc, List.nodup_append] at nd
    refine ⟨fun c => nd.2.2 b c b (by simp [hm]) rfl, fun c => ?_⟩
    exact (List.nodup_append.1 nd.2.1).2.2 b hm b c rfl
  have hout : ∀ x, (x ∈ M1 ∨ x ∈ M2) → x ∈ M := fun x hx => by rw [e1]; rcases hx with hx | hx <;> simp [hx]
  refine ⟨⟨h.bk.fr hf (fun c => (nd' d c).1 (by simp)), ?_, fun x hx => ?_, ?_⟩, hsp⟩
  · have := h.mp.fr hf (fun c => (nd' m c).1 (by simp))
    have e3 : ptrM (mput M n (q, v', g')) = ptrM M := by rw [e2]; conv => rhs; rw [e1]
                                                         simp [ptrM]
    rw [e3]; exact this
  · rw [e2] at hx
    rcases List.mem_append.1 hx with hx | hx
    · refine (h.fl x (hout x (.inl hx))).fr hf (fun c => (nd' _ c).1 ?_) (fun b hb c => (nd' _ c).1 ?_)
      · simp only [List.mem_cons, List.mem_flatMap]; exact .inr (.inr ⟨x, hx, by simp [fblocks]⟩)
      · simp only [List.mem_cons, List.mem_flatMap]; exact .inr (.inr ⟨x, hx, by simp [fblocks, hb]⟩)
    · rcases List.mem_cons.1 hx with rfl | hx
      · exact hr
      · refine (h.fl x (hout x (.inr hx))).fr hf (fun c => (nd' _ c).2 ?_) (fun b hb c => (nd' _ c).2 ?_)
        · simp only [List.mem_flatMap]; exact ⟨x, hx, by simp [fblocks]⟩
        · simp only [List.mem_flatMap]; exact ⟨x, hx, by simp [fblocks, hb]⟩
  · rw [e2, hB]; exact hnd
/-- a file that is new -/
theorem DiskR.add {w1 : World} (h : DiskR w d m M used lit fuse down) {n : ByteArray} (hg : mget M n = none) {q : Nat} {v : Value} {g : Fl} (hb : Below w.heap.size w w1) (hr : FileR w1 q v g) (hq : w.heap.size ≤ q) (hv : ∀ b, v.ownBlock = some b → w.heap.size ≤ b ∧ b ≠ q)
    (m1 : Mp encS okS w' m (mput (ptrM M) n (.pointer (some ⟨q, 0, none⟩)))) (hf : Fr (fun b => b = m) w1 w') :
    DiskR w' d m (mput M n (q, v, g)) used lit fuse down ∧ ∀ b ∈ dblocks d m (mput M n (q, v, g)), b ∈ dblocks d m M ∨ w.heap.size ≤ b := by
  have hlt := h.lt
  have hml := hlt m (by simp [dblocks])
  have e2 := put_none hg (q, v, g)
  have hB : dblocks d m (M ++ [(n, (q, v, g))]) = dblocks d m M ++ fblocks (n, (q, v, g)) := by simp [dblocks]
  have hnew : ∀ b ∈ fblocks (n, (q, v, g)), w.heap.size ≤ b := fun b hb => by
    simp only [fblocks, List.mem_cons, Option.mem_toList] at hb
    rcases hb with rfl | hb
    · exact hq
    · exact (hv b hb).1
  have h1 := h.bel hb
  have nd := h.nd
  have hdm : d ≠ m := by simp only [dblocks, List.nodup_cons, List.mem_cons, not_or] at nd; exact nd.1.1
  have hmf : ∀ x ∈ M, x.2.1 ≠ m ∧ ∀ b, x.2.2.1.ownBlock = some b → b ≠ m := fun x hx => by
    simp only [dblocks, List.nodup_cons, List.mem_cons, not_or] at nd
    refine ⟨fun e => nd.2.1 (List.mem_flatMap.2 ⟨x, hx, by simp [fblocks, e]⟩), fun b hb e => nd.2.1 (List.mem_flatMap.2 ⟨x, hx, by simp [fblocks, hb, e]⟩)⟩
  refine ⟨⟨h1.bk.fr hf hdm, by rw [← ptr_put]; exact m1, fun x hx => ?_, ?_⟩, fun b hb => ?_⟩
  · rw [e2] at hx
    rcases List.mem_append.1 hx with hx | hx
    · exact (h1.fl x hx).fr hf (hmf x hx).1 (hmf x hx).2
    · simp at hx; subst hx
      exact hr.fr hf (by omega) (fun b hb => by have := (hv b hb).1; omega)
  · rw [e2, hB, List.nodup_append]
    refine ⟨nd, ?_, fun a ha b hb e => by have := hlt a ha; have := hnew b hb; omega⟩
    simp only [fblocks, List.nodup_cons, Option.mem_toList]
    refine ⟨fun c => (hv q c).2 rfl, ?_⟩
    cases v.ownBlock <;> simp
  · rw [e2, hB] at hb
    rcases List.mem_append.1 hb with hb | hb
    · exact .inl hb
    · exact .inr (hnew b hb)
/-- a file that goes -/
theorem DiskR.del (h : DiskR w d m M used lit fuse down) {n : ByteArray} (m1 : Mp encS okS w' m (mdel (ptrM M) n)) (hf : Fr (fun b => b = m) w w') :
    DiskR w' d m (mdel M n) used lit fuse down ∧ ∀ b ∈ dblocks d m (mdel M n), b ∈ dblocks d m M := by
  have nd := h.nd
  have hsub : (dblocks d m (mdel M n)).Sublist (dblocks d m M) := by
    unfold dblocks
    refine List.Sublist.cons_cons _ (List.Sublist.cons_cons _ ?_)
    exact sub_flat (del_sub M n)
  have hdm : d ≠ m := by simp only [dblocks, List.nodup_cons, List.mem_cons, not_or] at nd; exact nd.1.1
  have hmf : ∀ x ∈ M, x.2.1 ≠ m ∧ ∀ b, x.2.2.1.ownBlock = some b → b ≠ m := fun x hx => by
    simp only [dblocks, List.nodup_cons, List.mem_cons, not_or] at nd
    refine ⟨fun e => nd.2.1 (List.mem_flatMap.2 ⟨x, hx, by simp [fblocks, e]⟩), fun b hb e => nd.2.1 (List.mem_flatMap.2 ⟨x, hx, by simp [fblocks, hb, e]⟩)⟩
  refine ⟨⟨h.bk.fr hf hdm, by rw [← ptr_del]; exact m1, fun x hx => ?_, hsub.nodup nd⟩, fun b hb => hsub.subset hb⟩
  have hx' := (del_sub M n).subset hx
  exact (h.fl x hx').fr hf (hmf x hx').1 (hmf x hx').2
/-- the struct's own fields -/
theorem DiskR.own (h : DiskR w d m M used lit fuse down) {used' : Int} {lit' : Bool} {fuse' : Int} {down' : Bool} (hb : Bk w' d [.map (some m), .int .i64 used', .bool lit', .int .i64 fuse', .bool down'] 62) (hf : Fr (fun b => b = d) w w') : DiskR w' d m M used' lit' fuse' down' := by
  have nd := h.nd
  simp only [dblocks, List.nodup_cons, List.mem_cons, not_or] at nd
  refine ⟨hb, h.mp.fr hf (fun e => nd.1.1 e.symm), fun x hx => (h.fl x hx).fr hf (fun e => nd.1.2 ?_) (fun b hb e => nd.1.2 ?_), h.nd⟩
  · exact List.mem_flatMap.2 ⟨x, hx, by simp [fblocks, e]⟩
  · exact List.mem_flatMap.2 ⟨x, hx, by simp [fblocks, hb, e]⟩
end
/-- a disk at d that is X -/
structure DiskAt (w : World) (d : Nat) (B : List Nat) (X : Dk) : Prop where
  ok : DkOk X
  ex : ∃ m M, B = dblocks d m M ∧ DiskR w d m M (fsum X.L) (decide (0 ≤ X.fuse)) (max X.fuse 0) X.down ∧ ∀ n, (mget M n).map (·.2.2) = mget X.L n
theorem DiskAt.fr {S : Nat → Prop} {w w' : World} {d : Nat} {B : List Nat} {X : Dk} (h : DiskAt w d B X) (hf : Fr S w w') (hs : ∀ b ∈ B, ¬ S b) : DiskAt w' d B X := by
  obtain ⟨m, M, rfl, h1, h2⟩ := h.ex
  exact ⟨h.ok, m, M, rfl, h1.fr hf hs, h2⟩
theorem DiskAt.bel {w w' : World} {d : Nat} {B : List Nat} {X : Dk} (h : DiskAt w d B X) (hb : Below w.heap.size w w') : DiskAt w' d B X := h.fr (Fr.of_bel (S := none') hb) (fun _ _ => id)
theorem DiskAt.lt {w : World} {d : Nat} {B : List Nat} {X : Dk} (h : DiskAt w d B X) : ∀ b ∈ B, b < w.heap.size := by
  obtain ⟨m, M, rfl, h1, h2⟩ := h.ex
  exact h1.lt
theorem keys_same {M : FM} {L : Fs} (hn : (mkeys M).Nodup) (hL : RiseF L) (h : ∀ n, (mget M n).map (·.2.2) = mget L n) : (mkeys M).Perm (fnames L) := by
  refine List.perm_ext_iff_of_nodup hn hL.nodup |>.2 (fun n => ?_)
  have key : ∀ {β : Type} (A : List (ByteArray × β)), n ∈ mkeys A ↔ (mget A n).isSome = true := fun {β} A => by
    induction A with
    | nil => simp [mkeys, mget]
    | cons p A ih =>
      unfold mkeys at ih ⊢
      rw [List.map_cons, List.mem_cons, mget]
      by_cases e : p.1 = n
      · simp [e]
      · rw [if_neg e, ← ih]
        exact ⟨fun h => h.resolve_left (fun c => e c.symm), .inr⟩
  rw [key M]
  have := key L
  rw [this, ← h n]
  cases mget M n <;> rfl
theorem len_same {M : FM} {L : Fs} (hn : (mkeys M).Nodup) (hL : RiseF L) (h : ∀ n, (mget M n).map (·.2.2) = mget L n) : M.length = L.length := by
  have := (keys_same hn hL h).length_eq
  simpa [mkeys, fnames] using this
end Go.Proofs.Ytemfnchiedepoaa

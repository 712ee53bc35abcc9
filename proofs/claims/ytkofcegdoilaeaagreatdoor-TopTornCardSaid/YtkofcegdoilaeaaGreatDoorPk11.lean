/- DERIVED: THE SHELF's CONTRACTS AT THIS DUMP, IN PLAIN WORDS (tools/lay-plain.mjs out of 'TryzIter.lean', which tools/lay-shelf.mjs wrote): THE SAME DECLARATIONS UNDER THE SAME NAMES: 'import', 'namespace', 'open', 'def', 'theorem' AND NOTHING ELSE: no command of the shelf's: FOR A HAND-IN. Each laying: the table of numbers ('.._ren') and one theorem, a field a fact of the dump's own or the kernel's comparison; each contract: ONE APPLICATION. slices.Sort of texts of the call's own. Contracts of package disk: Names. Contracts of package disk: Crash. Contracts of package disk, at the disk's own level: Append, Sync, Replace, Remove, Read, Names, Down, Arm. Contracts of package disk, at the disk's own level: Sync, Remove, Read, Names, Down, Arm. Contracts of package disk, at the disk's own level: Replace. Bytes of a text, a text of bytes, a row of constants. -/
import Derived.Shelf.SlGeneric
import Derived.Shelf.SlIter.Collect
import Derived.Ground.GgzProg
import Derived.Test.YtkofcegdoilaeaaGreatDoorProg
import Derived.Test.YtkofcegdoilaeaaGreatDoorPk2
import Derived.Test.YtkofcegdoilaeaaGreatDoorPk5
import Derived.Sort.Walk0
import Derived.Test.YtkofcegdoilaeaaGreatDoorPk10
import Derived.Test.YtkofcegdoilaeaaGreatDoorPk3
import Derived.Test.YtkofcegdoilaeaaGreatDoorPk4
import Derived.Deep.DeepCutAuto
import Derived.Deep.RegionLaw
import Derived.Deep.RegionHeld3
import Derived.BigRegion
import Derived.Lib.ConvBytes
import Derived.Lib.SlBytesConst
import Derived.Laws.IdiomStrings
namespace Go.Proofs
open Go.Shelf
def Tryz.keysA_ren : Go.Shelf.Ren := ⟨fun | 7 => 38 | 10 => 56 | n => n, fun | 23 => 63 | 26 => 9 | 3 => 75 | 28 => 98 | 0 => 0 | 27 => 97 | 33 => 78 | 4 => 4 | n => n, fun | n => n⟩
theorem Tryz.keysA : Go.Proofs.SlLaysZ.n7 Tryz.prog Tryz.keysA_ren := {
  mixed := by kernel_rfl
  f7 := ⟨Tryz.f38.name, by decide, Tryz.func38.trans (congrArg some (by kernel_rfl))⟩
  f10 := ⟨Tryz.f56.name, by decide, Tryz.func56.trans (congrArg some (by kernel_rfl))⟩
  t0 := Tryz.underlying0
  a0 := Tryz.isAgg0
  z0 := Tryz.sizeOf0
  v0 := Tryz.zeroValue0
  t4 := Tryz.underlying4
  a4 := Tryz.isAgg4
  z4 := Tryz.sizeOf4
  v4 := Tryz.zeroValue4
  t23 := Tryz.underlying63
  a23 := Tryz.isAgg63
  z23 := Tryz.sizeOf63
  v23 := Tryz.zeroValue63
  t26 := Tryz.underlying9
  a26 := Tryz.isAgg9
  z26 := Tryz.sizeOf9
  v26 := Tryz.zeroValue9
  t27 := Tryz.underlying97
  a27 := Tryz.isAgg97
  z27 := Tryz.sizeOf97
  v27 := Tryz.zeroValue97
  t28 := Tryz.underlying98
  a28 := Tryz.isAgg98
  z28 := Tryz.sizeOf98
  v28 := Tryz.zeroValue98
  t33 := Tryz.underlying78
  a33 := Tryz.isAgg78
  z33 := Tryz.sizeOf78
  v33 := Tryz.zeroValue78 }
def Tryz.collectA_ren : Go.Shelf.Ren := ⟨fun | 8 => 54 | 11 => 69 | n => n, fun | 26 => 9 | 28 => 98 | 24 => 73 | 0 => 0 | 33 => 78 | 4 => 4 | n => n, fun | n => n⟩
theorem Tryz.collectA : Go.Proofs.SlLaysZ.n8 Tryz.prog Tryz.collectA_ren := {
  mixed := by kernel_rfl
  f8 := ⟨Tryz.f54.name, by decide, Tryz.func54.trans (congrArg some (by kernel_rfl))⟩
  f11 := ⟨Tryz.f69.name, by decide, Tryz.func69.trans (congrArg some (by kernel_rfl))⟩
  t0 := Tryz.underlying0
  a0 := Tryz.isAgg0
  z0 := Tryz.sizeOf0
  v0 := Tryz.zeroValue0
  t24 := Tryz.underlying73
  a24 := Tryz.isAgg73
  z24 := Tryz.sizeOf73
  v24 := Tryz.zeroValue73
  t26 := Tryz.underlying9
  a26 := Tryz.isAgg9
  z26 := Tryz.sizeOf9
  v26 := Tryz.zeroValue9
  t28 := Tryz.underlying98
  a28 := Tryz.isAgg98
  z28 := Tryz.sizeOf98
  v28 := Tryz.zeroValue98
  i26 := by kernel_rfl }
end Go.Proofs
namespace Go.Proofs.YtkofcegdoilaeaaGreatDoor
open Go.RowKit Go.Sort
set_option linter.unusedVariables false
theorem sortB_data (l : List ByteArray) : ((l.map fun s => s.data.toList).mergeSort fun x y => decide (x ≤ y)).map encStr = (sortB l).map Value.string := by
  unfold sortB
  rw [← List.map_mergeSort (f := fun s : ByteArray => s.data.toList) (r := fun a b : ByteArray => decide (a.data.toList ≤ b.data.toList)) (fun a _ b _ => rfl), List.map_map]
  rfl
theorem texts_enc (l : List ByteArray) : l.map Value.string = (l.map fun s => s.data.toList).map encStr := by rw [List.map_map]; rfl
/-- slices.Sort -/
theorem sort_texts (v : Value) (l : List ByteArray) (w : World) (h : w.ownsRow 0 9 1 v l.length (l.map Value.string)) (hl : l.length ≤ 1000000000) :
    Calls Tryz.prog 55 #[v] w fun e w' => e = .returned (.tuple #[]) ∧ w'.ownsRow 0 9 1 v l.length ((sortB l).map Value.string) ∧ Fr (fun b => v.ownBlock = some b) w w' := by
  rcases h.2 with ⟨rfl, h0⟩ | ⟨g, cap, cur, rfl, hbase, hb, h1, h2, h3, h4⟩
  · have hl0 : l = [] := List.eq_nil_of_length_eq_zero h0
    subst hl0
    refine (Tryz.slices_Sort_string_none none 0 w).mono ?_
    rintro e w' ⟨rfl, rfl⟩
    exact ⟨rfl, by simpa [sortB] using h, Fr.refl _ _⟩
  · have e1 : (l.map fun s => s.data.toList).length = l.length := by simp
    have hH : Holds encStr w g 0 (l.map fun s => s.data.toList).toArray := holds_of_block hb (by rw [e1, ← texts_enc]; simpa using h4)
    have := Tryz.slices_Sort_string g 0 cap (l.map fun s => s.data.toList) w hH (lt_of_at hb) (by rw [e1]; omega)
    rw [e1] at this
    refine this.mono ?_
    rintro e w' ⟨rfl, n, os, rfl⟩
    refine ⟨rfl, ?_, (Fr.of_grown (grownBy_sorted _)).mono (fun b _ e => by rw [← e]; rfl)⟩
    rw [← sortB_data]
    have h5 := ownsRow_sorted (w := w) (n := n) (os := os) (ss := l.map fun s => s.data.toList) (ts := (l.map fun s => s.data.toList).mergeSort fun x y => decide (x ≤ y)) (by simp) hbase hb (by rw [e1]; exact h1) h2 (by simpa using h3)
    rw [e1] at h5
    exact h5
end Go.Proofs.YtkofcegdoilaeaaGreatDoor
namespace Go.Proofs.YtkofcegdoilaeaaGreatDoor
open Go.RowKit Go.MapKept Go.Maps Go.Sort Go.Shelf
set_option linter.unusedVariables false
theorem sort_perm {l k : List ByteArray} (hp : l.Perm k) (hk : Rise k) : sortB l = k := by
  have hn : l.Nodup := hp.nodup_iff.2 hk.nodup
  refine Rise.ext (sortB_rise hn) hk (fun x => ?_)
  rw [(sortB_perm l).mem_iff, hp.mem_iff]
theorem mp_str {w : World} {r : Nat} {m : List (ByteArray × Value)} (h : Mp encS okS w r m) : Mp Value.string (fun s => s.size ≤ maxLen) w r m := ⟨h.ok, h.nd, h.ex⟩
theorem keys_fn (mb : Option Nat) (w : World) :
    Calls Tryz.prog 38 #[.map mb] w fun e w' => e = .returned (.func (.func 56) #[] #[.pointer (some ⟨w.heap.size, 0, none⟩)]) ∧ w' = w.alloc (.cells #[.map mb] 63) :=
  (callsIn_wide (n := 5)).1 (AnyZ.keys_in Tryz.keysA Fence.wide 5 trivial rfl mb w)
/-- slices.Collect of maps.Keys of a map of the call's own: its keys, in whatever order -/
theorem collect_any (r : Nat) (m : List (ByteArray × Value)) (w : World) (h : Mp encS okS w r m) (hm : m.length ≤ 1048576) (Bm : Nat) (hBm : Bm < w.heap.size) (hc : w.cell? ⟨Bm, 0, none⟩ = some (.map (some r))) :
    Calls Tryz.prog 54 #[.func (.func 56) #[] #[.pointer (some ⟨Bm, 0, none⟩)]] w fun e w' => ∃ (v : Value) (ks : List ByteArray), e = .returned v ∧ ks.Perm (mkeys m) ∧ MkT w w' v ks := by
  obtain ⟨D, hD, hp, hsz⟩ := mp_owns (P := Tryz.prog) (k := 9) Tryz.underlying9 (mp_str h) (by unfold maxLen; omega)
  have hseq : SeqGives Fence.wide 3 Tryz.prog 56 #[.pointer (some ⟨Bm, 0, none⟩)] encStr (fun ss => ss.Perm (strKeys D)) (Maps.size D) w :=
    AnyZ.keys_gives (ρ := Tryz.keysA_ren) { Tryz.keysA with } Fence.wide _ trivial rfl (by omega) Bm r m.length D _ hBm hc hD
  have cS := AnyZ.collect_in Tryz.collectA Fence.wide 5 trivial trivial rfl (by omega) 56 #[.pointer (some ⟨Bm, 0, none⟩)] trivial (enters_of Tryz.func56 (by kernel_rfl) rfl) _ _ (by rw [hsz]; unfold maxLen; omega) (by rw [hsz]; omega) _ hseq
  refine ((callsIn_wide (n := 5)).1 cS).mono ?_
  rintro e w' ⟨v, ss, rfl, hS, hrow, hnil, hb⟩
  have hpp : (ss.map fun l => (⟨l.toArray⟩ : ByteArray)).Perm (mkeys m) := by
    have := (hS.trans hp).map (fun l => (⟨l.toArray⟩ : ByteArray))
    rw [List.map_map] at this
    refine this.trans (List.Perm.of_eq ?_)
    unfold mkeys
    exact List.map_congr_left fun p _ => rfl
  refine ⟨v, ss.map fun l => ⟨l.toArray⟩, rfl, hpp, ?_, fun b hb' => (hrow.lt b hb').1, hb⟩
  unfold TextsAt
  rw [List.length_map, List.map_map]
  exact ownsRow_base_a hrow (Nat.zero_le _)
set_option maxRecDepth 100000 in
set_option maxHeartbeats 1000000 in
/-- slices.Sorted of them -/
theorem sorted_any (r : Nat) (m : List (ByteArray × Value)) (w : World) (h : Mp encS okS w r m) (hm : m.length ≤ 1048576) (Bm : Nat) (hBm : Bm < w.heap.size) (hc : w.cell? ⟨Bm, 0, none⟩ = some (.map (some r))) (k : List ByteArray) (hk : Rise k) (hmk : (mkeys m).Perm k) :
    Calls Tryz.prog 37 #[.func (.func 56) #[] #[.pointer (some ⟨Bm, 0, none⟩)]] w fun e w' => ∃ v : Value, e = .returned v ∧ MkT w w' v k := by
  have HC := Lib.hid (collect_any r m w h hm Bm hBm hc)
  have HK := Lib.hid hk
  have HMK := Lib.hid hmk
  have hkl : k.length ≤ 1048576 := by have := hmk.length_eq; simp [mkeys] at this; omega
  clear h hc hk hmk hm
  go_enter Tryz.func37, Tryz.ntmps37
  go_wp2_with fail
  refine HC.out.mono ?_
  rintro e w1 ⟨v, ks, rfl, hp, hmk1⟩
  have hlen : ks.length = k.length := (hp.trans HMK.out).length_eq
  have HS := Lib.hid (sort_texts v ks w1 hmk1.tx (by omega))
  have HM1 := Lib.hid hmk1
  have HE := Lib.hid (sort_perm (hp.trans HMK.out) HK.out)
  obtain ⟨sb, sc, hsv⟩ := row_shape hmk1.tx
  subst hsv
  have HL := Lib.hid hlen
  clear hp hmk1 hlen
  go_wp2_with fail
  refine HS.out.mono ?_
  rintro e w2 ⟨rfl, o2, f2⟩
  rw [HE.out] at o2
  have HM2 : Hid (MkT w w2 (.slice sb ks.length sc) k) := Lib.hid ⟨by unfold TextsAt; rw [← HL.out]; exact o2, HM1.out.nw, HM1.out.bl.trans (f2.below HM1.out.bl.size (fun b hb => HM1.out.nw b hb))⟩
  clear o2 f2
  go_wp2_with fail
  go_ret
  exact ⟨_, rfl, HM2.out⟩
set_option maxRecDepth 100000 in
set_option maxHeartbeats 1000000 in
theorem names_any {w : World} {d m : Nat} {M : FM} {used : Int} {lit : Bool} {fuse : Int} {down : Bool} (h : DiskR w d m M used lit fuse down) (hm : M.length ≤ 1048576) (k : List ByteArray) (hk : Rise k) (hmk : (mkeys M).Perm k) :
    Calls Tryz.prog 20 #[.pointer (some ⟨d, 0, none⟩)] w fun e w' => ∃ v : Value, e = .returned v ∧ MkT w w' v k := by
  obtain ⟨c0, c1, c2, c3, c4⟩ := h.cells
  have HKF := Lib.hid (keys_fn (some m) w)
  have hb1 := (Below.refl w.heap.size w).alloc (Nat.le_refl _) (.cells #[.map (some m)] 63)
  have hbk := Bk.new w [.map (some m)] 63
  have HB1 := Lib.hid hb1
  have HSO := Lib.hid (sorted_any m (ptrM M) (w.alloc (.cells #[.map (some m)] 63)) (h.mp.bel hb1) (by simpa [ptrM] using hm) w.heap.size hbk.lt (hbk.cell 0) k hk (by rw [ptr_keys]; exact hmk))
  clear h hb1 hbk hk hmk
  go_enter Tryz.func20, Tryz.ntmps20
  go_wp2_with fail
  refine HKF.out.mono ?_
  rintro e w1 ⟨rfl, rfl⟩
  go_wp2_with fail
  refine HSO.out.mono ?_
  rintro e w2 ⟨v, rfl, hm2⟩
  have HM : Hid (MkT w w2 v k) := Lib.hid ⟨hm2.tx, fun b hb => Nat.le_trans HB1.out.size (hm2.nw b hb), HB1.out.trans (hm2.bl.mono HB1.out.size)⟩
  obtain ⟨sb, sc, hsv⟩ := row_shape hm2.tx
  subst hsv
  clear hm2
  go_wp2_with fail
  go_ret
  exact ⟨_, rfl, HM.out⟩
end Go.Proofs.YtkofcegdoilaeaaGreatDoor
namespace Go.Proofs.YtkofcegdoilaeaaGreatDoor
open Go.RowKit Go.MapKept Go.Maps
set_option linter.unusedVariables false
/-- what a call of a disk's leaves -/
def DkPost (w : World) (d : Nat) (B : List Nat) (X : Dk) (w' : World) : Prop := ∃ B', DiskAt w' d B' X ∧ Fr (fun b => b ∈ B) w w' ∧ ∀ b ∈ B', b ∈ B ∨ w.heap.size ≤ b
def IntIn (w : World) (b : Option Addr) (l : List Int) : Prop := InW w b 1 (l.map fun x => [.int .i64 x])
theorem IntIn.at {w : World} {b : Option Addr} {l : List Int} (h : IntIn w b l) {i : Nat} {x : Int} (hi : l[i]? = some x) : ∃ B off, b = some ⟨B, off, none⟩ ∧ B < w.heap.size ∧ w.cell? ⟨B, off + i, none⟩ = some (.int .i64 x) := by
  rcases h with h | ⟨B, off, hb, hl, hc⟩
  · rw [List.map_eq_nil_iff.1 h] at hi; cases hi
  · refine ⟨B, off, hb, hl, ?_⟩
    have := hc i [.int .i64 x] (by rw [List.getElem?_map, hi]; rfl) 0 _ rfl
    simpa using this
/-- a crash under way -/
structure CrW (wN wr : World) (d m : Nat) (B : List Nat) (L : Fs) : Prop where
  ex : ∃ M, DiskR wr d m M (fsum L) false 0 false ∧ (∀ n, flOf M n = mget L n) ∧ ∀ b ∈ dblocks d m M, b ∈ B ∨ wN.heap.size ≤ b
  fr : Fr (fun b => b ∈ B) wN wr
theorem by_cut {w : World} {b : Option Addr} {s : ByteArray} (h : ByIn w b s) (n : Nat) : ByIn w b (cutB s n) := by
  unfold ByIn at *
  have e : (cutB s n).data.toList = s.data.toList.take n := by simp [cutB]
  rw [e]
  rcases h with h | ⟨B, off, hb, hl, hc⟩
  · left; rw [List.map_eq_nil_iff.1 h]; simp
  · refine .inr ⟨B, off, hb, hl, fun i c hi => ?_⟩
    rw [List.map_take, List.getElem?_take] at hi
    split at hi
    · exact hc i c hi
    · cases hi
theorem DiskR.gone {w : World} {d m : Nat} {M : FM} {used : Int} {lit : Bool} {fuse : Int} {down : Bool} (h : DiskR w d m M used lit fuse down) {n : ByteArray} {q : Nat} {v : Value} {g : Fl} (hg : mget M n = some (q, v, g)) : q ∉ dblocks d m (mdel M n) := by
  obtain ⟨M1, M2, e1, _, e3⟩ := split_get hg
  have nd := h.nd
  rw [e1] at nd
  have hB : dblocks d m (M1 ++ (n, (q, v, g)) :: M2) = (d :: m :: M1.flatMap fblocks) ++ (q :: (v.ownBlock.toList ++ M2.flatMap fblocks)) := by simp [dblocks, fblocks]
  rw [hB, List.nodup_append] at nd
  have hB2 : dblocks d m (M1 ++ M2) = (d :: m :: M1.flatMap fblocks) ++ M2.flatMap fblocks := by simp [dblocks]
  rw [e3, hB2]
  intro hc
  rcases List.mem_append.1 hc with hc | hc
  · exact nd.2.2 q hc q (by simp) rfl
  · exact (List.nodup_cons.1 nd.2.1).1 (by simp [hc])
section
variable {wN wr wc w8 w12 : World} {d m : Nat} {B : List Nat} {Mi : FM} {P P' : Fs} {s0 sm2 : Nat} {n : ByteArray} {q : Nat} {v u : Value} {g g' : Fl}
theorem cr_fr (hsi : ∀ b ∈ dblocks d m Mi, b ∈ B ∨ wN.heap.size ≤ b) (hfi : Fr (fun b => b ∈ B) wN wr) (bX : Below wr.heap.size wr wc) (hf8 : Fr (fun b => b = d) wc w8) (hdB : d ∈ B) (hgq : mget Mi n = some (q, v, g)) (hf : Fr (fun b => b = q ∨ v.ownBlock = some b) w8 w12) : Fr (fun b => b ∈ B) wN w12 ∧ wN.heap.size ≤ w8.heap.size := by
  have a1 := (hfi.bel bX).trans hf8 (fun b _ e => e ▸ hdB)
  refine ⟨a1.trans hf (fun b hb e => ?_), a1.size⟩
  have hin : b ∈ dblocks d m Mi := by
    rcases e with rfl | e
    · exact (mem_fblocks (d := d) (m := m) (mem_of_get hgq)).1
    · exact (mem_fblocks (d := d) (m := m) (mem_of_get hgq)).2 b e
  rcases hsi b hin with h | h
  · exact h
  · omega
theorem cr_keep (hgi : ∀ k, flOf Mi k = mget P k) (hsi : ∀ b ∈ dblocks d m Mi, b ∈ B ∨ wN.heap.size ≤ b) (hfi : Fr (fun b => b ∈ B) wN wr) (bX : Below wr.heap.size wr wc) (hf8 : Fr (fun b => b = d) wc w8) (h8 : DiskR w8 d m Mi sm2 false 0 false) (hdB : d ∈ B)
    (hgq : mget Mi n = some (q, v, g)) (hf : Fr (fun b => b = q ∨ v.ownBlock = some b) w8 w12) (hr : FileR w12 q u g') (hus : ∃ b, u.ownBlock = some b ∧ w8.heap.size ≤ b) (hs : fsum P' = sm2) (hP : ∀ k, mget P' k = if n = k then some g' else mget P k) : CrW wN w12 d m B P' := by
  obtain ⟨a1, a2⟩ := cr_fr hsi hfi bX hf8 hdB hgq hf
  have hset := h8.set hgq hf hr (.inr hus)
  refine ⟨⟨_, by rw [hs]; exact hset.1, fun k => ?_, fun b hb => ?_⟩, a1⟩
  · unfold flOf
    rw [get_put, hP]
    by_cases e : n = k
    · rw [if_pos e, if_pos e]; rfl
    · rw [if_neg e, if_neg e, ← hgi]; rfl
  · rcases hset.2 b hb with h | h
    · exact hsi b h
    · exact .inr (by omega)
theorem cr_gone {w13 w14 : World} (hgi : ∀ k, flOf Mi k = mget P k) (hsi : ∀ b ∈ dblocks d m Mi, b ∈ B ∨ wN.heap.size ≤ b) (hfi : Fr (fun b => b ∈ B) wN wr) (bX : Below wr.heap.size wr wc) (hf8 : Fr (fun b => b = d) wc w8) (h8 : DiskR w8 d m Mi sm2 false 0 false) (hdB : d ∈ B) (hmB : m ∈ B)
    (hgq : mget Mi n = some (q, v, g)) (hf : Fr (fun b => b = q ∨ v.ownBlock = some b) w8 w12) (hr : FileR w12 q u g') (hus : ∃ b, u.ownBlock = some b ∧ w8.heap.size ≤ b)
    (m13 : Mp encS okS w13 m (mdel (ptrM (mput Mi n (q, u, g'))) n)) (f13 : Fr (fun b => b = m) w12 w13) (f14 : Fr (fun b => b = q) w13 w14) (hs : fsum P' = sm2) (hP : ∀ k, mget P' k = if n = k then none else mget P k) : CrW wN w14 d m B P' := by
  obtain ⟨a1, a2⟩ := cr_fr hsi hfi bX hf8 hdB hgq hf
  have hset := h8.set hgq hf hr (.inr hus)
  have hdel := hset.1.del m13 f13
  have hgo := hset.1.gone (n := n) (q := q) (v := u) (g := g') (by rw [get_put, if_pos rfl])
  have hq := hsi q (mem_fblocks (d := d) (m := m) (mem_of_get hgq)).1
  refine ⟨⟨_, by rw [hs]; exact hdel.1.fr f14 (fun b hb e => hgo (e ▸ hb)), fun k => ?_, fun b hb => ?_⟩, (a1.trans f13 (fun b _ e => e ▸ hmB)).trans f14 (fun b hb e => ?_)⟩
  · unfold flOf
    rw [get_del (nodup_put h8.keys n _), get_put, hP]
    by_cases e : n = k
    · rw [if_pos e, if_pos e]; rfl
    · rw [if_neg e, if_neg e, if_neg e, ← hgi]; rfl
  · rcases hset.2 b (hdel.2 b hb) with h | h
    · exact hsi b h
    · exact .inr (by omega)
  · subst e
    rcases hq with h | h
    · exact h
    · omega
end
set_option maxRecDepth 100000 in
set_option maxHeartbeats 8000000 in
theorem crash_at {w : World} {d : Nat} {B : List Nat} {X : Dk} (h : DiskAt w d B X) (keep : List Int) (hk : ∀ x ∈ keep, I64 x) (hkl : keep.length ≤ 1000) (kb : Option Addr) (kc : Nat) (hin : IntIn w kb keep) (hkb : keep = [] ∨ ∀ k o, kb = some ⟨k, o, none⟩ → k ∉ B) :
    Calls Tryz.prog 12 #[.pointer (some ⟨d, 0, none⟩), .slice kb keep.length kc] w fun e w' => e = .returned (.tuple #[]) ∧ DkPost w d B (crashD X keep) w' := by
  obtain ⟨ok, m, M, rfl, h, hget⟩ := h
  obtain ⟨i0, hi0T, hz0, hz1, hz2⟩ := info_parts infoByte
  obtain ⟨c0, c1, c2, c3, c4⟩ := h.cells
  have f2 := h.bk.free 2
  have f3 := h.bk.free 3
  have f4 := h.bk.free 4
  have hltd := h.bk.lt
  have hdB : d ∈ dblocks d m M := by simp [dblocks]
  have hmB : m ∈ dblocks d m M := by simp [dblocks]
  have hbk : Bk (((w.setCell ⟨d, 2, none⟩ (.bool false)).setCell ⟨d, 3, none⟩ (.int .i64 0)).setCell ⟨d, 4, none⟩ (.bool false)) d [.map (some m), .int .i64 (fsum X.L), .bool false, .int .i64 0, .bool false] 65 := ((h.bk.set 2 (.bool false)).set 3 (.int .i64 0)).set 4 (.bool false)
  have hfr : Fr (fun b => b = d) w (((w.setCell ⟨d, 2, none⟩ (.bool false)).setCell ⟨d, 3, none⟩ (.int .i64 0)).setCell ⟨d, 4, none⟩ (.bool false)) := (((Fr.refl (fun b => b = d) w).setCell d 2 _ (.inr rfl)).setCell d 3 _ (.inr rfl)).setCell d 4 _ (.inr rfl)
  have h0 := h.own hbk hfr
  have hlm := len_same h.keys ok.rise hget
  have HNM := Lib.hid (names_any h0 (by have := ok.len; omega) (fnames X.L) ok.rise (keys_same h.keys ok.rise hget))
  have HLT := Lib.hid h.lt
  have H0 := Lib.hid h0
  have HFR := Lib.hid hfr
  have HOK := Lib.hid ok
  have HGET := Lib.hid hget
  have HIN : Hid (IntIn (((w.setCell ⟨d, 2, none⟩ (.bool false)).setCell ⟨d, 3, none⟩ (.int .i64 0)).setCell ⟨d, 4, none⟩ (.bool false)) kb keep) := Lib.hid (by
    rcases hkb with hkb | hkb
    · left; rw [hkb]; rfl
    · exact InW.fr hin hfr (fun k o hk e => hkb k o hk (e ▸ hdB)))
  have HKB := Lib.hid hkb
  have HK := Lib.hid hk
  clear h h0 hbk hfr hget ok hin hkb hk hlm
  obtain ⟨kn, hkn⟩ : ∃ kn, keep.length = kn := ⟨_, rfl⟩
  rw [hkn] at hkl ⊢
  have HKN := Lib.hid hkn
  clear hkn
  go_enter Tryz.func12, Tryz.ntmps12
  go_wp2_with fail
  generalize hw0 : ((w.setCell ⟨d, 2, none⟩ (.bool false)).setCell ⟨d, 3, none⟩ (.int .i64 0)).setCell ⟨d, 4, none⟩ (.bool false) = w0 at *
  refine HNM.out.mono ?_
  rintro e wN ⟨v, rfl, hmk⟩
  obtain ⟨nb, nc, hv, hnc, hnm, hst⟩ := hmk.tx.strs
  subst hv
  have HNW := Lib.hid hmk.nw
  have HBL := Lib.hid hmk.bl
  have HST := Lib.hid hst
  have hl : (fnames X.L).length = X.L.length := by simp [fnames]
  have hln := HOK.out.len
  obtain ⟨ln, hlne⟩ : ∃ ln, X.L.length = ln := ⟨_, rfl⟩
  rw [hl, hlne] at hnc ⊢
  rw [hlne] at hln
  have HLN := Lib.hid hlne
  have HC0 : Hid (CrW wN wN d m (dblocks d m M) (crashP keep X.L 0)) := Lib.hid ⟨⟨M, by rw [crashP_zero]; exact H0.out.bel hmk.bl, by rw [crashP_zero]; exact HGET.out, fun b hb => .inl hb⟩, Fr.refl _ _⟩
  clear hmk hst hl hlne hw0 c0 c1 c2 c3 c4 f2 f3 f4 HNM
  go_wp2_with fail
  go_loopw [20] (fun c wr => ∃ i : Nat, i ≤ ln ∧ c = .int .i64 i ∧ CrW wN wr d m (dblocks d m M) (crashP keep X.L i)) (fun c _ => ln - (intOf c).toNat)
  case atStart => exact ⟨0, by omega, rfl, HC0.out⟩
  case round =>
    obtain ⟨i, hi, rfl, hcr⟩ := hrel
    have HCR := Lib.hid hcr
    clear hcr
    by_cases hlt : i < ln
    · obtain ⟨p, hp⟩ : ∃ p, X.L[i]? = some p := ⟨X.L[i]'(by rw [HLN.out]; exact hlt), List.getElem?_eq_getElem _⟩
      obtain ⟨⟨Mi, k1, k2, k3⟩, k4⟩ := HCR.out
      have hpm := List.mem_of_getElem? hp
      have hla := HOK.out.last p hpm
      have hnm1 := HOK.out.name p hpm
      have hgs : p.2.s.size ≤ 4194304 := by
        have h1 := fsum_at HOK.out.rise.nodup p.1
        have h2 : sizeAt X.L p.1 = p.2.s.size := by unfold sizeAt; rw [get_of_mem HOK.out.rise.nodup (a := p.1) (v := p.2) hpm]
        have := HOK.out.sum
        omega
      have hns : p.1.size ≤ 64 := by unfold nameD at hnm1; simp at hnm1; exact hnm1.2
      have hfl : flOf Mi p.1 = some p.2 := by rw [k2, crashP_get HOK.out.rise hp]
      obtain ⟨⟨q, v, g⟩, hgq, hgg⟩ := Option.map_eq_some_iff.1 hfl
      have hgg' : g = p.2 := hgg
      subst hgg'
      have hfm : FileR wr q v p.2 := k1.fl _ (mem_of_get hgq)
      obtain ⟨vb, vc, hvv, hvc, hvm, hvin, hvo⟩ := row_of_by hfm.row
      subst hvv
      have HAP := Lib.hid (k1.apart hgq)
      have r0 : wr.cell? ⟨q, 0, none⟩ = some (.slice vb p.2.s.size vc) := hfm.bk.cell 0
      have r1 : wr.cell? ⟨q, 1, none⟩ = some (.int .i64 p.2.lasts) := hfm.bk.cell 1
      have r2 : wr.cell? ⟨q, 2, none⟩ = some (.bool p.2.stays) := hfm.bk.cell 2
      have hqlt := hfm.bk.lt
      have hdlt := k1.bk.lt
      have e0 : wr.cell? ⟨d, 0, none⟩ = some (.map (some m)) := k1.bk.cell 0
      have e1 : wr.cell? ⟨d, 1, none⟩ = some (.int .i64 (fsum (crashP keep X.L i))) := k1.bk.cell 1
      have e1f := k1.bk.free 1
      have hlk := k1.look1 p.1 (by omega)
      rw [hgq] at hlk
      have hlk' : (Instr.lookup 63 (.map (some m)) (.string p.1) false).run Tryz.prog wr = .ok (.pointer (some ⟨q, 0, none⟩)) wr := hlk
      obtain ⟨NB, noff, hnb, hNB, hnc0⟩ := HST.out.at (i := i) (s := p.1) (by unfold fnames; rw [List.getElem?_map, hp]; rfl)
      subst hnb
      have hNBn : NB ∉ dblocks d m M := fun c => by
        have h1 := HLT.out NB c
        have h2 := HNW.out NB rfl
        have h3 := HFR.out.size
        omega
      have n0 : wr.cell? ⟨NB, noff + i, none⟩ = some (.string p.1) := (k4.cell hNB hNBn).trans hnc0
      have hi0 : (0 : Int) ≤ (i : Int) := by omega
      have hi1 : (i : Int) < (ln : Int) := by omega
      have HKEEP : Hid (∀ (x : Int), keep[i]? = some x → ∃ KB ko, kb = some ⟨KB, ko, none⟩ ∧ wr.cell? ⟨KB, ko + i, none⟩ = some (.int .i64 x)) := Lib.hid (fun x hx => by
        obtain ⟨KB, ko, h1, h2, h3⟩ := HIN.out.at hx
        have h4 := HKB.out.resolve_left (fun e => by rw [e] at hx; cases hx) KB ko h1
        refine ⟨KB, ko, h1, ?_⟩
        rw [k4.cell (Nat.lt_of_lt_of_le h2 HBL.out.size) h4]
        exact (HBL.out.cell (p := ⟨KB, ko + i, none⟩) h2).trans h3)
      obtain ⟨K, hK⟩ : ∃ K, keepN p.2 keep i = K := ⟨_, rfl⟩
      have hKle : K ≤ p.2.s.size - p.2.lasts := hK ▸ keepN_le _ _ _
      have q1 : IntKind.i64.wrap ((p.2.s.size : Int) - (p.2.lasts : Int)) = p.2.s.size - p.2.lasts := IntWalk.i64_in _ (by omega)
      have HMI := Lib.hid k1
      have HGI := Lib.hid k2
      have HSI := Lib.hid k3
      have HFI := Lib.hid k4
      have HGQ := Lib.hid hgq
      have HVIN := Lib.hid hvin
      have HVO := Lib.hid hvo
      have HP := Lib.hid hp
      have HKK := Lib.hid hK
      have HFM := Lib.hid hfm
      clear k1 k2 k3 k4 hgq hvin hvo hp hK hfm hfl hgg hlk hnc0 hpm hnm1
      go_upto_if 34 with fail
      go_cut [7, 20] (fun s7 s20 wx => s7 = .int .i64 K ∧ s20 = .int .i64 i ∧ Below wr.heap.size wr wx)
      case first =>
        by_cases hik : i < kn
        · obtain ⟨x, hx⟩ : ∃ x, keep[i]? = some x := ⟨keep[i]'(by rw [HKN.out]; exact hik), List.getElem?_eq_getElem _⟩
          obtain ⟨KB, ko, rfl, kc0⟩ := HKEEP.out x hx
          have hx64 := HK.out x (List.mem_of_getElem? hx)
          unfold I64 at hx64
          have hik1 : (i : Int) < (kn : Int) := by omega
          have hKe : min (max x 0) ((p.2.s.size : Int) - (p.2.lasts : Int)) = (K : Int) := by
            rw [← HKK.out]; unfold keepN; rw [hx]; simp only [Option.getD_some]; omega
          clear hx
          go_wp2_with fail
          go_region
          go_wp2_with fail
          go_meet
          exact ⟨rfl, rfl, (Below.refl _ _).drew⟩
        · have hK0 : K = 0 := by
            rw [← HKK.out]; unfold keepN
            rw [List.getElem?_eq_none (by have := HKN.out; omega)]; simp
          subst hK0
          have hik1 : ¬ (i : Int) < (kn : Int) := by omega
          go_wp2_with fail
          go_meet
          exact ⟨rfl, rfl, Below.refl _ _⟩
      case rest =>
        obtain ⟨rfl, rfl, bX⟩ := hcut
        clear r0 r1 r2 e0 e1 e1f n0 hlk' hqlt hdlt
        have h1 := HMI.out.bel bX
        have hf1 : FileR wc q (.slice vb p.2.s.size vc) p.2 := h1.fl _ (mem_of_get HGQ.out)
        have r0 : wc.cell? ⟨q, 0, none⟩ = some (.slice vb p.2.s.size vc) := hf1.bk.cell 0
        have r1 : wc.cell? ⟨q, 1, none⟩ = some (.int .i64 p.2.lasts) := hf1.bk.cell 1
        have hqlt := hf1.bk.lt
        have hdlt := h1.bk.lt
        have e1 : wc.cell? ⟨d, 1, none⟩ = some (.int .i64 (fsum (crashP keep X.L i))) := h1.bk.cell 1
        have e1f := h1.bk.free 1
        obtain ⟨sm, hsm⟩ : ∃ sm, fsum (crashP keep X.L i) = sm := ⟨_, rfl⟩
        obtain ⟨sm2, hsm2⟩ : ∃ sm2, fsum (crashP keep X.L (i + 1)) = sm2 := ⟨_, rfl⟩
        have hsum := crashP_sum HP.out hla keep
        have hsle := crashP_le HOK.out.last keep i
        rw [HKK.out, hsm, hsm2] at hsum
        rw [hsm] at e1 h1 hsle
        have hstop := HOK.out.sum
        have q2 : IntKind.i64.wrap ((p.2.s.size : Int) - (p.2.lasts : Int) - (K : Int)) = p.2.s.size - p.2.lasts - K := IntWalk.i64_in _ (by omega)
        have q3 : IntKind.i64.wrap ((sm : Int) - ((p.2.s.size : Int) - (p.2.lasts : Int) - (K : Int))) = sm2 := by
          have : (sm : Int) - ((p.2.s.size : Int) - (p.2.lasts : Int) - (K : Int)) = sm2 := by omega
          rw [this]; exact IntWalk.i64_in _ (by omega)
        have hown := (h1.own (w' := wc.setCell ⟨d, 1, none⟩ (.int .i64 sm2)) (h1.bk.set 1 (.int .i64 sm2)) ((Fr.refl (fun b => b = d) _).setCell d 1 _ (.inr rfl))).bel (Below.refl _ _).drew
        have hf8 : Fr (fun b => b = d) wc (wc.setCell ⟨d, 1, none⟩ (.int .i64 sm2)).drew := ((Fr.refl (fun b => b = d) wc).setCell d 1 _ (.inr rfl)).drew
        have H8 := Lib.hid hown
        have HF8 := Lib.hid hf8
        have HSM2 := Lib.hid hsm2
        clear h1 hf1 hown hf8 hsm hsm2
        go_upto_region 9 with go_region
        generalize hw8 : (wc.setCell ⟨d, 1, none⟩ (.int .i64 sm2)).drew = w8 at *
        clear r0 r1 hqlt hdlt e1 e1f hw8
        have hf8 : FileR w8 q (.slice vb p.2.s.size vc) p.2 := H8.out.fl _ (mem_of_get HGQ.out)
        have r0 : w8.cell? ⟨q, 0, none⟩ = some (.slice vb p.2.s.size vc) := hf8.bk.cell 0
        have r1 : w8.cell? ⟨q, 1, none⟩ = some (.int .i64 p.2.lasts) := hf8.bk.cell 1
        have hq8 := hf8.bk.lt
        have q4 : IntKind.i64.wrap ((p.2.lasts : Int) + (K : Int)) = p.2.lasts + K := IntWalk.i64_in _ (by omega)
        have hsl : ∀ W, (Instr.slice 22 (.slice vb p.2.s.size vc) none (some (.int .i64 ((p.2.lasts : Int) + (K : Int)))) none).run Tryz.prog W = .ok (.slice vb (p.2.lasts + K) vc) W := fun W => by
          have := run_slice_to (P := Tryz.prog) W 22 5 vb p.2.s.size vc (p.2.lasts + K) 1 Tryz.underlying22 ⟨i0, hi0T, hz1⟩ (by omega)
          rw [← this]; simp
        obtain ⟨_, _, hve, _, _, hvin8, _⟩ := row_of_by hf8.row
        cases hve
        have hcs := by_cut hvin8 (p.2.lasts + K)
        have hcl := size_cut p.2.s (p.2.lasts + K) (by omega)
        obtain ⟨cs, hcse⟩ : ∃ cs, cutB p.2.s (p.2.lasts + K) = cs := ⟨_, rfl⟩
        rw [hcse] at hcs hcl
        have HCSE := Lib.hid hcse
        have hb9 := ((Below.refl w8.heap.size w8).alloc (Nat.le_refl _) (.cells #[] 5)).drew
        have HROW : Hid ((w8.alloc (.cells #[] 5)).drew.ownsRow 0 5 1 (.slice (some ⟨w8.heap.size, 0, none⟩) 0 0) ([] : List UInt8).length (([] : List UInt8).map byV)) := Lib.hid ((Fr.of_bel (S := none') (Below.refl _ _).drew).row (by_empty w8) (fun _ _ => id))
        have HIN8 : Hid (ByIn (w8.alloc (.cells #[] 5)).drew vb cs) := Lib.hid (InW.fr hcs (Fr.of_bel (S := none') hb9) (fun _ _ _ => id))
        have HN2 : Hid (p.2.lasts + K = cs.data.toList.length) := Lib.hid (by rw [len_data]; exact hcl.symm)
        have HLN2 : Hid (([] : List UInt8).length + cs.data.toList.length ≤ 100000000) := Lib.hid (by rw [len_data]; simp; omega)
        have HB9 := Lib.hid hb9
        have HCL := Lib.hid hcl
        clear hf8 hcs hcse hvin8 hb9 hcl
        go_cut [20] (fun s20 wx => s20 = .int .i64 i ∧ ∃ w9 ub uc, ByMk w8 w9 (.slice ub cs.size uc) cs ∧ (∃ b, (Value.slice ub cs.size uc).ownBlock = some b ∧ w8.heap.size ≤ b) ∧ wx = w9.setCell ⟨q, 0, none⟩ (.slice ub cs.size uc))
        case first =>
          go_region_law (first
            | (refine step_append_big byV byOne (by rfl) _ _ _ (by rfl) 5 i0 _ 1 Tryz.underlying22 hi0T hz0 hz1 hz2 rfl (by decide) (.slice (some ⟨w8.heap.size, 0, none⟩) 0 0) ([] : List UInt8) cs.data.toList (by rfl) HROW.out vb (p.2.lasts + K) vc (by rfl) HN2.out HIN8.out HLN2.out ?_
               intro u w9 o9 f9 e9
               have hM := by_made HB9.out (Nat.le_refl _) o9 f9 e9
               have hus := by_some (by simp) e9
               obtain ⟨ub, uc, huu⟩ := row_shape hM.tx
               subst huu
               have h9 := H8.out.bel hM.bl
               have hfr9 : FileR w9 q (.slice vb p.2.s.size vc) p.2 := h9.fl _ (mem_of_get HGQ.out)
               have p0 : w9.cell? ⟨q, 0, none⟩ = some (.slice vb p.2.s.size vc) := hfr9.bk.cell 0
               have p0f := hfr9.bk.free 0
               have hq9 := hfr9.bk.lt
               have HM9 := Lib.hid hM
               have HUS := Lib.hid hus
               clear o9 f9 e9 hM hus h9 hfr9)
            | fail)
          all_goals
            go_wp2_with fail
            go_meet
            exact ⟨rfl, _, _, _, HM9.out, HUS.out, rfl⟩
        case rest =>
          obtain ⟨rfl, w9, ub, uc, hM, hus, rfl⟩ := hcut
          have h9 := H8.out.bel hM.bl
          have hf9 : FileR w9 q (.slice vb p.2.s.size vc) p.2 := h9.fl _ (mem_of_get HGQ.out)
          have hb10 : Bk (w9.setCell ⟨q, 0, none⟩ (.slice ub cs.size uc)) q [.slice ub cs.size uc, .int .i64 p.2.lasts, .bool p.2.stays] 77 := hf9.bk.set 0 (.slice ub cs.size uc)
          have hf10 : Fr (fun b => b = q) w9 (w9.setCell ⟨q, 0, none⟩ (.slice ub cs.size uc)) := (Fr.refl (fun b => b = q) w9).setCell q 0 _ (.inr rfl)
          have h10d : Bk (w9.setCell ⟨q, 0, none⟩ (.slice ub cs.size uc)) d [.map (some m), .int .i64 sm2, .bool false, .int .i64 0, .bool false] 65 := h9.bk.fr hf10 (fun e => HAP.out.2.1 e.symm)
          have hq8' := H8.out.bk.lt
          have hnq : ∀ b, (Value.slice ub cs.size uc).ownBlock = some b → ¬ b = q := fun b hb e => by have := hM.nw b hb; omega
          have ho10 := hf10.row hM.tx hnq
          have hf810 : Fr (fun b => b = q ∨ (Value.slice vb p.2.s.size vc).ownBlock = some b) w8 (w9.setCell ⟨q, 0, none⟩ (.slice ub cs.size uc)) := (Fr.of_bel (S := fun b => b = q ∨ (Value.slice vb p.2.s.size vc).ownBlock = some b) hM.bl).trans hf10 (fun _ _ e => .inl e)
          have hmp10 := h9.mp.fr hf10 (fun e => HAP.out.2.2.1 e.symm)
          generalize w9.setCell ⟨q, 0, none⟩ (.slice ub cs.size uc) = w10 at *
          have HB10 := Lib.hid hb10
          have HF810 := Lib.hid hf810
          have HO10 := Lib.hid ho10
          have HMP10 := Lib.hid hmp10
          have s0 : w10.cell? ⟨q, 0, none⟩ = some (.slice ub cs.size uc) := hb10.cell 0
          have s1 : w10.cell? ⟨q, 1, none⟩ = some (.int .i64 p.2.lasts) := hb10.cell 1
          have s2 : w10.cell? ⟨q, 2, none⟩ = some (.bool p.2.stays) := hb10.cell 2
          have s1f := hb10.free 1
          have s2f := hb10.free 2
          have hq10 := hb10.lt
          have d0 : w10.cell? ⟨d, 0, none⟩ = some (.map (some m)) := h10d.cell 0
          have hd10 := h10d.lt
          have hqd : ¬ q = d := HAP.out.2.1
          have hdq : ¬ d = q := fun e => hqd e.symm
          have hcsz : cs.size ≤ 5000000 := by have := HCL.out; omega
          clear h9 hf9 hb10 hf10 h10d ho10 hf810 hmp10 r0 r1 hq8 hM
          cases hst : p.2.stays with
          | true =>
            rw [hst] at s2
            have HW : Hid (CrW wN ((w10.setCell ⟨q, 1, none⟩ (.int .i64 cs.size)).setCell ⟨q, 2, none⟩ (.bool true)) d m (dblocks d m M) (crashP keep X.L (i + 1))) := Lib.hid (by
              have hcf : crashF p.2 K = some ⟨cs, cs.size, true⟩ := by
                unfold crashF
                rw [HCSE.out, HCL.out, if_neg (by rw [hst]; simp)]
              have hb12 : Bk ((w10.setCell ⟨q, 1, none⟩ (.int .i64 cs.size)).setCell ⟨q, 2, none⟩ (.bool true)) q [.slice ub cs.size uc, .int .i64 cs.size, .bool true] 77 := (HB10.out.set 1 (.int .i64 cs.size)).set 2 (.bool true)
              have hf12 : Fr (fun b => b = q) w10 ((w10.setCell ⟨q, 1, none⟩ (.int .i64 cs.size)).setCell ⟨q, 2, none⟩ (.bool true)) := ((Fr.refl (fun b => b = q) w10).setCell q 1 _ (.inr rfl)).setCell q 2 _ (.inr rfl)
              exact cr_keep HGI.out HSI.out HFI.out bX HF8.out H8.out hdB HGQ.out (HF810.out.trans hf12 (fun _ _ e => .inl e)) (g' := ⟨cs, cs.size, true⟩) ⟨hb12, hf12.row HO10.out hnq⟩ hus HSM2.out (fun k => by rw [crashP_next HOK.out.rise HP.out, HKK.out, hcf]))
            go_wp2_with fail
            go_roundw
            case rel => exact ⟨i + 1, by omega, by go_num, HW.out⟩
            case measure => simp [intOf]; omega
          | false =>
            rw [hst] at s2
            by_cases hz : cs.size = 0
            · have hz1 : ((cs.size : Int) == 0) = true := by rw [beq_iff_eq]; omega
              have hz2 : (cs.size : Int) = 0 := by omega
              have hb11 : Bk (w10.setCell ⟨q, 1, none⟩ (.int .i64 0)) q [.slice ub cs.size uc, .int .i64 0, .bool p.2.stays] 77 := HB10.out.set 1 (.int .i64 0)
              have hf11 : Fr (fun b => b = q) w10 (w10.setCell ⟨q, 1, none⟩ (.int .i64 0)) := (Fr.refl (fun b => b = q) w10).setCell q 1 _ (.inr rfl)
              have HMP11 := Lib.hid (HMP10.out.fr hf11 (fun e => HAP.out.2.2.1 e.symm))
              have HF811 := Lib.hid (HF810.out.trans hf11 (fun _ _ e => .inl e))
              have HR11 : Hid (FileR (w10.setCell ⟨q, 1, none⟩ (.int .i64 0)) q (.slice ub cs.size uc) ⟨cs, 0, p.2.stays⟩) := Lib.hid ⟨hb11, hf11.row HO10.out hnq⟩
              have hok : okS p.1 := by unfold okS maxLen; omega
              have hcf : crashF p.2 K = none := by
                unfold crashF
                rw [if_pos (by rw [hst]; have := HCL.out; simp; omega)]
              have HCF := Lib.hid hcf
              clear hb11 hf11 hcf
              go_wp2_with (
                (at_delete
                 refine wpList_drop rfl _ _ rfl keyS Tryz.underlying63 HMP11.out rfl p.1 rfl hok ?_
                 intro w13 m13 f13 z13
                 have hb13 := HR11.out.bk.fr f13 (fun e => HAP.out.2.2.1 e)
                 have t2 : w13.cell? ⟨q, 2, none⟩ = some (.bool p.2.stays) := hb13.cell 2
                 have t2f := hb13.free 2
                 have hq13 := hb13.lt
                 have HM13 := Lib.hid m13
                 have HF13 := Lib.hid f13
                 clear m13 f13 z13 hb13))
              have HW : Hid (CrW wN (w13.setCell ⟨q, 2, none⟩ (.bool true)) d m (dblocks d m M) (crashP keep X.L (i + 1))) := Lib.hid (by
                refine cr_gone HGI.out HSI.out HFI.out bX HF8.out H8.out hdB hmB HGQ.out HF811.out HR11.out hus ?_ HF13.out ((Fr.refl (fun b => b = q) w13).setCell q 2 _ (.inr rfl)) HSM2.out (fun k => by rw [crashP_next HOK.out.rise HP.out, HKK.out, HCF.out])
                have e3 : ptrM (mput Mi p.1 (q, .slice ub cs.size uc, ⟨cs, 0, p.2.stays⟩)) = ptrM Mi := by
                  obtain ⟨M1, M2, e1, e2, _⟩ := split_get HGQ.out
                  rw [e2]; conv => rhs; rw [e1]
                  simp [ptrM]
                rw [e3]; exact HM13.out)
              go_roundw
              case rel => exact ⟨i + 1, by omega, by go_num, HW.out⟩
              case measure => simp [intOf]; omega
            · have hz1 : ((cs.size : Int) == 0) = false := by rw [beq_eq_false_iff_ne]; omega
              have hz2 : ¬ (cs.size : Int) = 0 := by omega
              have HW : Hid (CrW wN ((w10.setCell ⟨q, 1, none⟩ (.int .i64 cs.size)).setCell ⟨q, 2, none⟩ (.bool true)) d m (dblocks d m M) (crashP keep X.L (i + 1))) := Lib.hid (by
                have hcf : crashF p.2 K = some ⟨cs, cs.size, true⟩ := by
                  unfold crashF
                  rw [HCSE.out, HCL.out, if_neg (by rw [hst]; have := HCL.out; simp; omega)]
                have hb12 : Bk ((w10.setCell ⟨q, 1, none⟩ (.int .i64 cs.size)).setCell ⟨q, 2, none⟩ (.bool true)) q [.slice ub cs.size uc, .int .i64 cs.size, .bool true] 77 := (HB10.out.set 1 (.int .i64 cs.size)).set 2 (.bool true)
                have hf12 : Fr (fun b => b = q) w10 ((w10.setCell ⟨q, 1, none⟩ (.int .i64 cs.size)).setCell ⟨q, 2, none⟩ (.bool true)) := ((Fr.refl (fun b => b = q) w10).setCell q 1 _ (.inr rfl)).setCell q 2 _ (.inr rfl)
                exact cr_keep HGI.out HSI.out HFI.out bX HF8.out H8.out hdB HGQ.out (HF810.out.trans hf12 (fun _ _ e => .inl e)) (g' := ⟨cs, cs.size, true⟩) ⟨hb12, hf12.row HO10.out hnq⟩ hus HSM2.out (fun k => by rw [crashP_next HOK.out.rise HP.out, HKK.out, hcf]))
              go_wp2_with fail
              go_roundw
              case rel => exact ⟨i + 1, by omega, by go_num, HW.out⟩
              case measure => simp [intOf]; omega
    · obtain rfl : i = ln := by omega
      go_wp2_with fail
      go_end0
      refine ⟨rfl, ?_⟩
      obtain ⟨⟨M2, k1, k2, k3⟩, k4⟩ := HCR.out
      rw [← HLN.out, crashP_end] at k1 k2
      have a1 : Fr (fun b => b ∈ dblocks d m M) w wN := (HFR.out.mono (T := fun b => b ∈ dblocks d m M) (fun b _ e => e ▸ hdB)).bel HBL.out
      refine ⟨_, ⟨crashD_ok HOK.out keep, m, M2, rfl, k1, k2⟩, a1.trans k4 (fun _ _ e => e), fun b hb => ?_⟩
      rcases k3 b hb with h | h
      · exact .inl h
      · exact .inr (Nat.le_trans a1.size h)
end Go.Proofs.YtkofcegdoilaeaaGreatDoor
namespace Go.Proofs.YtkofcegdoilaeaaGreatDoor
open Go.RowKit Go.MapKept Go.Maps
set_option linter.unusedVariables false
theorem fuse_zero (x : Int) : (decide (0 ≤ x) && decide (max x 0 = 0)) = decide (x = 0) := by
  rw [← Bool.decide_and]
  exact decide_eq_decide.2 ⟨fun h => by omega, fun h => by omega⟩
theorem fuse_burn {X : Dk} (h : -1 ≤ X.fuse) : fuB (decide (0 ≤ X.fuse)) (max X.fuse 0) = max (burn X).fuse 0 ∧ decide (0 ≤ X.fuse) = decide (0 ≤ (burn X).fuse) := by
  rw [(burn_fuse X h).1]
  unfold fuB
  constructor
  · by_cases h0 : 0 < X.fuse
    · rw [if_pos (by simp; omega), if_pos h0]; omega
    · rw [if_neg (by simp; omega), if_neg h0]
  · refine decide_eq_decide.2 ?_
    split <;> omega
section
variable {w : World} {d : Nat} {B : List Nat} {X : Dk}
theorem dk_size (ok : DkOk X) (n : ByteArray) : (getF X.L n).s.size ≤ 4194304 := by
  have h1 := fsum_at ok.rise.nodup n
  rw [sizeAt_eq] at h1
  have := ok.sum
  omega
theorem DkPost.same (h : DiskAt w d B X) : DkPost w d B X w := ⟨B, h, Fr.refl _ _, fun b hb => .inl hb⟩
theorem append_at (h : DiskAt w d B X) (n s : ByteArray) (sb : Option Addr) (cap : Nat) (hn : n.size ≤ 1000) (hs : ByIn w sb s) (hsb : ∀ k o, sb = some ⟨k, o, none⟩ → k ∉ B) (hsz : s.size ≤ 5000000) :
    Calls Tryz.prog 35 #[.pointer (some ⟨d, 0, none⟩), .string n, .slice sb s.size cap] w fun e w' => e = .returned (.int .i64 (stepA X n s).2) ∧ DkPost w d B (stepA X n s).1 w' := by
  have hA := h
  obtain ⟨ok, m, M, rfl, h, hget⟩ := h
  have hl := len_same h.keys ok.rise hget
  have hso : (mget M n).isSome = (mget X.L n).isSome := by rw [← hget n]; cases mget M n <;> rfl
  have hsum := ok.sum
  have hlen := ok.len
  by_cases hd : askN X.down n = 0
  · have hd0 : X.down = false := by unfold askN at hd; cases hx : X.down <;> simp_all
    have hn0 : nameD n = true := by unfold askN at hd; cases hx : nameD n <;> simp_all
    have hfe : fullN (fsum X.L) s.size (mget M n).isSome M.length = fullB X n (fsum X.L + s.size) := by
      unfold fullN fullB
      rw [hso, hl]
      congr 1
      · exact decide_eq_decide.2 (by omega)
      · cases mget X.L n <;> rfl
    cases hf : fullB X n (fsum X.L + s.size) with
    | true =>
      have e : stepA X n s = (X, 5) := by unfold stepA; rw [hd0, hn0, hf]; rfl
      rw [e]
      refine (append_full h n s.size sb cap hn hsz (by omega) (by omega) hd (hfe.trans hf)).mono ?_
      rintro e w' ⟨rfl, rfl⟩
      exact ⟨rfl, DkPost.same hA⟩
    | false =>
      have hb := fuse_burn ok.fuse
      have e : stepA X n s = (⟨fput X.L n { getF X.L n with s := catB (getF X.L n).s s }, (burn X).fuse, X.down || decide (X.fuse = 0)⟩, if X.fuse = 0 then 8 else 0) := by
        unfold stepA
        rw [hd0, hn0, hf]
        by_cases h0 : X.fuse = 0
        · simp [h0, burn]
        · simp [h0, burn_eq, hd0]
      have hok := stepA_ok ok n s
      rw [e] at hok ⊢
      have hfl : (flOf M n).getD emptyF = getF X.L n := by unfold getF; rw [← hget]; rfl
      refine (append_yes h n s sb cap hn hs hsb hsz (by omega) (by rw [hfl]; have := dk_size ok n; omega) (by omega) (by have := ok.fuse2; omega) hd (hfe.trans hf)).mono ?_
      rw [fuse_zero, hfl]
      rintro e w' ⟨M', rfl, k1, k2, k3, k4⟩
      refine ⟨by by_cases h0 : X.fuse = 0 <;> simp [h0], _, ⟨hok, m, M', rfl, ?_, fun k => ?_⟩, k3, k4⟩
      · have e1 : (fsum X.L : Int) + s.size = (fsum (fput X.L n { getF X.L n with s := catB (getF X.L n).s s }) : Nat) := by
          rw [fsum_put ok.rise]
          have := sum_put ok n s
          show _ = ((fsumBut n X.L + (catB (getF X.L n).s s).size : Nat) : Int)
          omega
        rw [e1] at k1
        have k1' : DiskR w' d m M' _ (decide (0 ≤ X.fuse)) (fuB (decide (0 ≤ X.fuse)) (max X.fuse 0)) _ := k1
        rw [hb.1] at k1'
        rw [hb.2] at k1'
        exact k1'
      · show flOf M' k = mget (fput X.L n _) k
        rw [k2, fput_get ok.rise]
        by_cases e : n = k
        · rw [if_pos e, if_pos e]
        · rw [if_neg e, if_neg e]; exact hget k
  · have e : stepA X n s = (X, askN X.down n) := by
      unfold stepA askN
      cases hx : X.down
      · cases hy : nameD n
        · rfl
        · exact absurd (by unfold askN; rw [hx, hy]; rfl) hd
      · rfl
    rw [e]
    refine (append_no h n hn _ _ rfl hd).mono ?_
    rintro e w' ⟨rfl, rfl⟩
    exact ⟨rfl, DkPost.same hA⟩
end
end Go.Proofs.YtkofcegdoilaeaaGreatDoor
namespace Go.Proofs.YtkofcegdoilaeaaGreatDoor
open Go.RowKit Go.MapKept Go.Maps
set_option linter.unusedVariables false
section
variable {w : World} {d : Nat} {B : List Nat} {X : Dk}
theorem down_at (h : DiskAt w d B X) : Calls Tryz.prog 22 #[.pointer (some ⟨d, 0, none⟩)] w fun e w' => e = .returned (.bool X.down) ∧ w = w' := by
  obtain ⟨ok, m, M, rfl, h, hget⟩ := h
  exact down_any h
theorem names_at (h : DiskAt w d B X) : Calls Tryz.prog 20 #[.pointer (some ⟨d, 0, none⟩)] w fun e w' => ∃ v : Value, e = .returned v ∧ MkT w w' v (fnames X.L) := by
  obtain ⟨ok, m, M, rfl, h, hget⟩ := h
  have hl := len_same h.keys ok.rise hget
  exact names_any h (by have := ok.len; omega) (fnames X.L) ok.rise (keys_same h.keys ok.rise hget)
theorem some_same {M : FM} (hget : ∀ n, (mget M n).map (·.2.2) = mget X.L n) (n : ByteArray) : (mget M n).isSome = (mget X.L n).isSome := by rw [← hget n]; cases mget M n <;> rfl
theorem read_at (h : DiskAt w d B X) (n : ByteArray) (hn : n.size ≤ 1000) :
    Calls Tryz.prog 24 #[.pointer (some ⟨d, 0, none⟩), .string n] w fun e w' => ∃ u, e = .returned (.tuple #[u, .int .i64 (readD X n).2]) ∧ ByMk w w' u (readD X n).1 := by
  obtain ⟨ok, m, M, rfl, h, hget⟩ := h
  have hso := some_same hget n
  by_cases hd : foundN X.down n (mget M n).isSome = 0
  · have hd0 : X.down = false := by unfold foundN at hd; cases hx : X.down <;> simp_all
    have hn0 : nameD n = true := by unfold foundN at hd; cases hx : nameD n <;> simp_all
    cases hg : mget M n with
    | none => rw [hg] at hd; unfold foundN at hd; rw [hd0, hn0] at hd; cases hd
    | some x =>
      obtain ⟨q, v, g⟩ := x
      have hxl : mget X.L n = some g := by rw [← hget n, hg]; rfl
      have e : readD X n = (g.s, 0) := by unfold readD; rw [hd0, hn0, hxl]; rfl
      rw [e]
      have hgs : g.s.size ≤ 4194304 := by have := dk_size ok n; unfold getF at this; rw [hxl] at this; exact this
      rw [hg] at hd
      exact read_yes h n hn hg hd (by omega)
  · have e : readD X n = (⟨#[]⟩, foundN X.down n (mget M n).isSome) := by
      rw [hso]
      rw [hso] at hd
      unfold readD foundN
      cases hx : X.down
      · cases hy : nameD n
        · rfl
        · cases hz : mget X.L n
          · rfl
          · exact absurd (by unfold foundN; rw [hx, hy, hz]; rfl) hd
      · rfl
    rw [e]
    refine (read_no h n hn _ rfl hd).mono ?_
    rintro e w' ⟨rfl, rfl⟩
    exact ⟨_, rfl, ByMk.nil w⟩
theorem sync_at (h : DiskAt w d B X) (n : ByteArray) (hn : n.size ≤ 1000) :
    Calls Tryz.prog 28 #[.pointer (some ⟨d, 0, none⟩), .string n] w fun e w' => e = .returned (.int .i64 (stepS X n).2) ∧ DkPost w d B (stepS X n).1 w' := by
  have hA := h
  obtain ⟨ok, m, M, rfl, h, hget⟩ := h
  have hso := some_same hget n
  have hok := stepS_ok ok n
  by_cases hd : foundN X.down n (mget M n).isSome = 0
  · have hd0 : X.down = false := by unfold foundN at hd; cases hx : X.down <;> simp_all
    have hn0 : nameD n = true := by unfold foundN at hd; cases hx : nameD n <;> simp_all
    cases hg : mget M n with
    | none => rw [hg] at hd; unfold foundN at hd; rw [hd0, hn0] at hd; cases hd
    | some x =>
      obtain ⟨q, v, g⟩ := x
      have hxl : mget X.L n = some g := by rw [← hget n, hg]; rfl
      have hgf : getF X.L n = g := by unfold getF; rw [hxl]; rfl
      have hgs : g.s.size ≤ 4194304 := by have := dk_size ok n; rw [hgf] at this; exact this
      rw [hg] at hd
      by_cases h0 : X.fuse = 0
      · have e : stepS X n = ({ X with down := true }, 8) := by unfold stepS; rw [hd0, hn0, hxl, if_pos h0]; rfl
        rw [e] at hok ⊢
        refine (sync_stop h n hn hg hd (by rw [fuse_zero]; exact decide_eq_true h0)).mono ?_
        rintro e w' ⟨rfl, k1, k2⟩
        exact ⟨rfl, _, ⟨hok, m, M, rfl, k1, hget⟩, k2.mono (fun b _ e => by rw [e]; simp [dblocks]), fun b hb => .inl hb⟩
      · have e : stepS X n = (⟨fput X.L n ⟨g.s, g.s.size, true⟩, (burn X).fuse, X.down⟩, 0) := by unfold stepS; rw [hd0, hn0, hxl, if_neg h0, hgf, burn_eq, hd0]; rfl
        rw [e] at hok ⊢
        have hb := fuse_burn ok.fuse
        refine (sync_yes h n hn hg hd (by have := ok.fuse2; omega) (by rw [fuse_zero]; exact decide_eq_false h0) (by omega)).mono ?_
        rintro e w' ⟨rfl, k1, k2, k3⟩
        refine ⟨rfl, _, ⟨hok, m, _, rfl, ?_, fun k => ?_⟩, k2, k3⟩
        · rw [hb.1, hb.2] at k1
          have e1 : fsum (fput X.L n ⟨g.s, g.s.size, true⟩) = fsum X.L := by
            rw [fsum_put ok.rise]
            have := fsum_at ok.rise.nodup n
            rw [sizeAt_eq, hgf] at this
            exact this.symm
          show DiskR w' d m _ ((fsum (fput X.L n ⟨g.s, g.s.size, true⟩) : Nat) : Int) _ _ _
          rw [e1]; exact k1
        · show _ = mget (fput X.L n _) k
          rw [get_put, fput_get ok.rise]
          by_cases e : n = k
          · rw [if_pos e, if_pos e]; rfl
          · rw [if_neg e, if_neg e]; exact hget k
  · have e : stepS X n = (X, foundN X.down n (mget M n).isSome) := by
      rw [hso]
      rw [hso] at hd
      unfold stepS foundN
      cases hx : X.down
      · cases hy : nameD n
        · rfl
        · cases hz : mget X.L n
          · rfl
          · exact absurd (by unfold foundN; rw [hx, hy, hz]; rfl) hd
      · rfl
    rw [e]
    refine (sync_no h n hn _ rfl hd).mono ?_
    rintro e w' ⟨rfl, rfl⟩
    exact ⟨rfl, DkPost.same hA⟩
end
end Go.Proofs.YtkofcegdoilaeaaGreatDoor
namespace Go.Proofs.YtkofcegdoilaeaaGreatDoor
open Go.RowKit Go.MapKept Go.Maps
set_option linter.unusedVariables false
section
variable {w : World} {d : Nat} {B : List Nat} {X : Dk}
theorem replace_at (h : DiskAt w d B X) (n s : ByteArray) (sb : Option Addr) (cap : Nat) (hn : n.size ≤ 1000) (hs : ByIn w sb s) (hsb : ∀ k o, sb = some ⟨k, o, none⟩ → k ∉ B) (hsz : s.size ≤ 5000000) :
    Calls Tryz.prog 27 #[.pointer (some ⟨d, 0, none⟩), .string n, .slice sb s.size cap] w fun e w' => e = .returned (.int .i64 (stepR X n s).2) ∧ DkPost w d B (stepR X n s).1 w' := by
  have hA := h
  obtain ⟨ok, m, M, rfl, h, hget⟩ := h
  have hl := len_same h.keys ok.rise hget
  have hso := some_same hget n
  have hsum := ok.sum
  have hlen := ok.len
  have hok := stepR_ok ok n s
  have hb := fuse_burn ok.fuse
  have hat := fsum_at ok.rise.nodup n
  rw [sizeAt_eq] at hat
  have hgs := dk_size ok n
  by_cases hd : askN X.down n = 0
  · have hd0 : X.down = false := by unfold askN at hd; cases hx : X.down <;> simp_all
    have hn0 : nameD n = true := by unfold askN at hd; cases hx : nameD n <;> simp_all
    have hfe : ∀ more : Int, (fsum X.L : Int) + more = (fsumBut n X.L + s.size : Nat) → fullN (fsum X.L) more (mget M n).isSome M.length = fullB X n (fsumBut n X.L + s.size) := fun more hm => by
      unfold fullN fullB
      rw [hso, hl, hm]
      congr 1
      · exact decide_eq_decide.2 (by omega)
      · cases mget X.L n <;> rfl
    have e5 : fullB X n (fsumBut n X.L + s.size) = true → stepR X n s = (X, 5) := fun hf => by unfold stepR; rw [hd0, hn0, hf]; rfl
    have e8 : fullB X n (fsumBut n X.L + s.size) = false → X.fuse = 0 → stepR X n s = ({ X with down := true }, 8) := fun hf h0 => by unfold stepR; rw [hd0, hn0, hf, if_pos h0]; rfl
    have e0 : fullB X n (fsumBut n X.L + s.size) = false → ¬ X.fuse = 0 → stepR X n s = (⟨fput X.L n ⟨s, s.size, true⟩, (burn X).fuse, X.down⟩, 0) := fun hf h0 => by unfold stepR; rw [hd0, hn0, hf, if_neg h0, burn_eq, hd0]; rfl
    have fin : ∀ (more : Int) (w' : World) (M' : FM), (fsum X.L : Int) + more = (fsumBut n X.L + s.size : Nat) → DkOk ⟨fput X.L n ⟨s, s.size, true⟩, (burn X).fuse, X.down⟩ → DiskR w' d m M' (fsum X.L + more) (decide (0 ≤ X.fuse)) (fuB (decide (0 ≤ X.fuse)) (max X.fuse 0)) X.down → (∀ k, flOf M' k = if n = k then some ⟨s, s.size, true⟩ else flOf M k) → Fr (fun b => b ∈ dblocks d m M) w w' → (∀ b ∈ dblocks d m M', b ∈ dblocks d m M ∨ w.heap.size ≤ b) → DkPost w d (dblocks d m M) ⟨fput X.L n ⟨s, s.size, true⟩, (burn X).fuse, X.down⟩ w' := fun more w' M' hm ok' k1 k2 k3 k4 => by
      refine ⟨_, ⟨ok', m, M', rfl, ?_, fun k => ?_⟩, k3, k4⟩
      · rw [hb.1, hb.2, hm] at k1
        show DiskR w' d m M' ((fsum (fput X.L n ⟨s, s.size, true⟩) : Nat) : Int) _ _ _
        rw [fsum_put ok.rise]; exact k1
      · show flOf M' k = mget (fput X.L n _) k
        rw [k2, fput_get ok.rise]
        by_cases e : n = k
        · rw [if_pos e, if_pos e]
        · rw [if_neg e, if_neg e]; exact hget k
    cases hg : mget M n with
    | some x =>
      obtain ⟨q, v, g⟩ := x
      have hxl : mget X.L n = some g := by rw [← hget n, hg]; rfl
      have hgf : getF X.L n = g := by unfold getF; rw [hxl]; rfl
      rw [hgf] at hat hgs
      have hm : (fsum X.L : Int) + ((s.size : Int) - g.s.size) = (fsumBut n X.L + s.size : Nat) := by omega
      have hfe1 := hfe _ hm
      rw [hg] at hfe1
      cases hf : fullB X n (fsumBut n X.L + s.size) with
      | true =>
        rw [e5 hf]
        refine (replace_full_old h n s sb cap hn hg (by omega) hsz (by omega) (by omega) hd (hfe1.trans hf)).mono ?_
        rintro e w' ⟨rfl, rfl⟩
        exact ⟨rfl, DkPost.same hA⟩
      | false =>
        by_cases h0 : X.fuse = 0
        · rw [e8 hf h0] at hok ⊢
          refine (replace_stop_old h n s sb cap hn hg (by omega) hsz (by omega) (by omega) hd (hfe1.trans hf) (by rw [fuse_zero]; exact decide_eq_true h0)).mono ?_
          rintro e w' ⟨rfl, k1, k2⟩
          exact ⟨rfl, _, ⟨hok, m, M, rfl, k1, hget⟩, k2.mono (fun b _ e => by rw [e]; simp [dblocks]), fun b hb => .inl hb⟩
        · rw [e0 hf h0] at hok ⊢
          refine (replace_yes_old h n s sb cap hn hg (by omega) hsz (by omega) (by omega) hd hs hsb (hfe1.trans hf) (by have := ok.fuse2; omega) (by rw [fuse_zero]; exact decide_eq_false h0)).mono ?_
          rintro e w' ⟨M', rfl, k1, k2, k3, k4⟩
          exact ⟨rfl, fin _ w' M' hm hok k1 k2 k3 k4⟩
    | none =>
      have hxl : mget X.L n = none := by rw [← hget n, hg]; rfl
      have hgf : getF X.L n = emptyF := by unfold getF; rw [hxl]; rfl
      rw [hgf] at hat
      have hz : emptyF.s.size = 0 := rfl
      have hm : (fsum X.L : Int) + (s.size : Int) = (fsumBut n X.L + s.size : Nat) := by omega
      have hfe1 := hfe _ hm
      rw [hg] at hfe1
      cases hf : fullB X n (fsumBut n X.L + s.size) with
      | true =>
        rw [e5 hf]
        refine (replace_full_new h n s sb cap hn hg hsz (by omega) (by omega) hd (hfe1.trans hf)).mono ?_
        rintro e w' ⟨rfl, rfl⟩
        exact ⟨rfl, DkPost.same hA⟩
      | false =>
        by_cases h0 : X.fuse = 0
        · rw [e8 hf h0] at hok ⊢
          refine (replace_stop_new h n s sb cap hn hg hsz (by omega) (by omega) hd (hfe1.trans hf) (by rw [fuse_zero]; exact decide_eq_true h0)).mono ?_
          rintro e w' ⟨rfl, k1, k2⟩
          exact ⟨rfl, _, ⟨hok, m, M, rfl, k1, hget⟩, k2.mono (fun b _ e => by rw [e]; simp [dblocks]), fun b hb => .inl hb⟩
        · rw [e0 hf h0] at hok ⊢
          refine (replace_yes_new h n s sb cap hn hg hsz (by omega) (by omega) hd hs hsb (hfe1.trans hf) (by have := ok.fuse2; omega) (by rw [fuse_zero]; exact decide_eq_false h0)).mono ?_
          rintro e w' ⟨M', rfl, k1, k2, k3, k4⟩
          exact ⟨rfl, fin _ w' M' hm hok k1 k2 k3 k4⟩
  · have e : stepR X n s = (X, askN X.down n) := by
      unfold stepR askN
      cases hx : X.down
      · cases hy : nameD n
        · rfl
        · exact absurd (by unfold askN; rw [hx, hy]; rfl) hd
      · rfl
    rw [e]
    refine (replace_no h n hn _ _ rfl hd).mono ?_
    rintro e w' ⟨rfl, rfl⟩
    exact ⟨rfl, DkPost.same hA⟩
end
end Go.Proofs.YtkofcegdoilaeaaGreatDoor
namespace Go.Proofs.YtkofcegdoilaeaaGreatDoor
open Go.RowKit Go.MapKept Go.Maps
set_option linter.unusedVariables false
/-- 'string(b)' -/
theorem text_of {w : World} {b : Option Addr} {s : ByteArray} (h : ByIn w b s) (c : Nat) : (convert 22 9 (.slice b s.size c)).run Tryz.prog w = .ok (.string s) w := by
  have e : (⟨s.data.toList.toArray⟩ : ByteArray) = s := by simp
  rcases h with h | ⟨B, off, rfl, hl, hc⟩
  · have h0 : s.data.toList = [] := List.map_eq_nil_iff.1 h
    have hz : s.size = 0 := by rw [← len_data, h0]; rfl
    rw [hz]
    have := Go.run_convert_bytes_string (P := Tryz.prog) w 22 9 5 b 0 c Tryz.underlying22 Tryz.underlying5 Tryz.underlying9
    rw [this]
    rw [h0] at e
    rw [← e]
    cases b with
    | none => simp [Conv.bytesToString]; rfl
    | some a =>
      have := Go.run_convert_bytes_back (P := Tryz.prog) w 22 9 5 a c [] Tryz.underlying22 Tryz.underlying5 Tryz.underlying9 (fun j hj => by simp at hj)
      rw [Go.run_convert_bytes_string (P := Tryz.prog) w 22 9 5 (some a) _ c Tryz.underlying22 Tryz.underlying5 Tryz.underlying9] at this
      exact this
  · have := Go.run_convert_bytes_back (P := Tryz.prog) w 22 9 5 ⟨B, off, none⟩ c s.data.toList Tryz.underlying22 Tryz.underlying5 Tryz.underlying9 (fun j hj => by
      have := hc j [byV s.data.toList[j]] (by rw [List.getElem?_map, List.getElem?_eq_getElem hj]; rfl) 0 _ rfl
      rw [Addr.add_lit]
      simpa [byV] using this)
    rw [len_data, e] at this
    exact this
/-- '[]byte(s)' -/
theorem bytes_of (w : World) (s : ByteArray) : ∃ c w', (convert 9 22 (.string s)).run Tryz.prog w = .ok (.slice (some ⟨w.heap.size, 0, none⟩) s.size c) w' ∧ ByIn w' (some ⟨w.heap.size, 0, none⟩) s ∧ Below w.heap.size w w' ∧ w'.heap.size = w.heap.size + 1 := by
  refine ⟨_, _, Go.Lib.run_convert_string_bytes (P := Tryz.prog) w 9 22 5 s Tryz.underlying9 Tryz.underlying22 Tryz.underlying5, ?_, ⟨rfl, rfl, rfl, by rw [Go.Lib.bytesWorld_size]; omega, fun k hk => Go.Lib.bytesWorld_at_old w _ s k hk⟩, Go.Lib.bytesWorld_size w _ s⟩
  refine .inr ⟨w.heap.size, 0, rfl, by rw [Go.Lib.bytesWorld_size]; omega, fun i c hi j u hj => ?_⟩
  rw [List.getElem?_map] at hi
  obtain ⟨x, hx, rfl⟩ := Option.map_eq_some_iff.1 hi
  have hlt : i < s.size := by have := (List.getElem?_eq_some_iff.1 hx).1; rw [len_data] at this; exact this
  match j, hj with
  | 0, hj =>
    cases hj
    have := Go.Lib.bytesWorld_cell w 5 s i hlt
    have e : s.data.toList.getD i 0 = x := by rw [List.getD_eq_getElem?_getD, hx]; rfl
    rw [e] at this
    simpa [byV] using this
end Go.Proofs.YtkofcegdoilaeaaGreatDoor

/- For every input ciceronelaw13.DistinctMerges returns true, and its arguments read behind the call as before. No conditions. -/
import Derived.Test.YtipblbmpckfigaaDRef2
import Derived.Test.YtipblbmpckfigaaDMerge
import Derived.Test.YtipblbmpckfigaaTexts
import Derived.Test.YtipblbmpckfigaaRows
import Derived.ProofKit
import Derived.OpenShut
import Derived.ShutString
import Derived.ChangeOld
import Derived.Below
import Derived.Lib.SmallJoins
namespace Go.Proofs.Ytipblbmpckfigaa.distinctMerges
open Go.ChangeShapes Go.WideShapes Go.ChangeAt Go.RowKit Go.Joins
open Go.ChangeMaps (open_string shut_string)
set_option linter.unusedVariables false

open Dist
theorem infoS : (Try.prog.info? 9).map (fun i => (i.zero, i.size, i.bytes)) = some (some (.string ⟨#[]⟩), 1, 16) := by kernel_rfl
set_option maxHeartbeats 1000000 in
set_option maxRecDepth 100000 in
theorem walk_same (w : World) (k : Int) (wk : (Lit.int .i64 k).wf = true) (other : Int) (wo : (Lit.int .i64 other).wf = true) (b1 : Option Addr) (c1 : Nat) (xs : List ByteArray) (l1 : xs.length ≤ c1) (m1 : c1 ≤ maxLen) (i1 : InW w b1 1 (xs.map fun s => [.string s])) (o1 : ∀ s ∈ xs, s.size ≤ maxLen) (b2 : Option Addr) (c2 : Nat) (ys : List ByteArray) (l2 : ys.length ≤ c2) (m2 : c2 ≤ maxLen) (i2 : InW w b2 1 (ys.map fun s => [.string s])) (o2 : ∀ s ∈ ys, s.size ≤ maxLen) (hlx : longB xs = false) (hly : longB ys = false) (hK : sizeK k = sizeK other) :
    Calls Try.prog 8 #[.int .i64 k, .int .i64 other, .slice b1 xs.length c1, .slice b2 ys.length c2] w fun e w' => e = .returned (.bool true) ∧ Below w.heap.size w w' := by
  have LX := short_of hlx
  have LY := short_of hly
  have HLx := Lib.hid (long_any b1 c1 xs w i1 m1 l1 o1)
  have HLy := Lib.hid (long_any b2 c2 ys w i2 m2 l2 o2)
  rw [hlx] at HLx
  rw [hly] at HLy
  have HF1 := Lib.hid (fill_any k b1 c1 xs w i1 o1 (by omega))
  have HF2 := Lib.hid (fun wx (h : Strs wx b2 ys) => fill_any other b2 c2 ys wx h o2 (by omega))
  have HA1 := Lib.hid (fun wx (h : Strs wx b1 xs) => all_any b1 c1 xs wx h o1 (by omega))
  have HA2 := Lib.hid (fun wx (h : Strs wx b2 ys) => all_any b2 c2 ys wx h o2 (by omega))
  have RS1 := Lib.hid (fun wx => rsize_any k wx)
  have RS2 := Lib.hid (fun wx => rsize_any other wx)
  have hLl : (allOf (hs xs) []).length ≤ 1000000 := by have := all_length (hs xs) []; have h2 : (hs xs).length = xs.length := List.length_map _; simp only [List.length_nil] at this; omega
  have hMl : (allOf (hs ys) []).length ≤ 1000000 := by have := all_length (hs ys) []; have h2 : (hs ys).length = ys.length := List.length_map _; simp only [List.length_nil] at this; omega
  have HXY : Hid (allOf (hs (xs ++ ys)) [] = allOf (allOf (hs ys) []) (allOf (hs xs) [])) := by
    show allOf (hs (xs ++ ys)) [] = _
    refine up_ext (up_all _ up_nil) (up_all _ (up_all _ up_nil)) fun x => ?_
    rw [mem_all, mem_all, mem_all, mem_all]
    simp only [hs, List.map_append, List.mem_append]
    constructor
    · rintro ((h | h) | h)
      · exact .inr (.inl h)
      · exact .inl (.inl h)
      · cases h
    · rintro ((h | h) | (h | h))
      · exact .inl (.inr h)
      · cases h
      · exact .inl (.inl h)
      · cases h
  have hXl : (allOf (hs (xs ++ ys)) []).length ≤ 1000000 := by have := all_length (hs (xs ++ ys)) []; have h2 : (hs (xs ++ ys)).length = (xs ++ ys).length := List.length_map _; rw [List.length_append] at h2; simp only [List.length_nil] at this; omega
  have HA3 := Lib.hid (fun wx b c (h : Strs wx b (xs ++ ys)) => all_any b c (xs ++ ys) wx h (fun s hs => by rcases List.mem_append.1 hs with h | h; exact o1 s h; exact o2 s h) (by rw [List.length_append]; omega))
  rw [HXY.out] at HA3 hXl
  obtain ⟨i0, hi, hz0, hz1, hz2⟩ := info_parts infoS
  generalize hnx : xs.length = nx at *
  generalize hny : ys.length = ny at *
  have Hnx := Lib.hid hnx
  have Hny := Lib.hid hny
  clear hnx hny hlx hly
  unfold maxLen at m1 m2
  rw [← hK] at RS2 HF2
  clear hK
  generalize sizeK k = K at *
  generalize hLL : allOf (hs xs) [] = L at *
  generalize hMM : allOf (hs ys) [] = M at *
  have HLL := Lib.hid hLL
  have HMM := Lib.hid hMM
  clear hLL hMM
  go_enter Try.func8, Try.ntmps8
  go_wp2_with fail
  refine HLx.out.mono ?_
  rintro e w0 ⟨rfl, rfl⟩
  go_wp2_with fail
  refine HLy.out.mono ?_
  rintro e w0 ⟨rfl, rfl⟩
  go_wp2_with fail
  refine HF1.out.mono ?_
  rintro e w1 ⟨va, rfl, CA, hva, B1⟩
  rw [HLL.out] at CA
  go_wp2_with fail
  refine (HF2.out _ (Strs.bel i2 B1)).mono ?_
  rintro e w2 ⟨vb, rfl, CB, hvb, b2'⟩
  rw [HMM.out] at CB
  have hNM : w.heap.size < w1.heap.size := CA.lt.1
  have hvM : ∀ b, va.ownBlock = some b → b < w1.heap.size := fun b hb => (CA.lt.2 b hb).1
  replace CA := CA.bel b2'
  have B2 : Below w.heap.size w w2 := B1.trans (b2'.mono B1.size)
  obtain ⟨gB, hgB⟩ : ∃ g, w1.heap.size = g := ⟨_, rfl⟩
  rw [hgB] at CB hvb hNM hvM
  have hd : Disj w.heap.size va gB vb := ⟨by omega, fun e => by have := hvM _ e; omega, fun e => by have := hvb _ e; omega, fun b h1 h2 => by have := hvM b h1; have := hvb b h2; omega⟩
  clear b2' B1 HF1 HF2 HLx HLy
  go_wp2_with fail
  clear hgB
  refine (merge_none w.heap.size _ va L _ CA).mono ?_
  rintro e w3 ⟨rfl, b3⟩
  replace CA := CA.bel b3
  replace CB := CB.bel b3
  have B3 : Below w.heap.size w w3 := B2.trans (b3.mono B2.size)
  clear b3 B2
  go_wp2_with fail
  refine (HA1.out _ (Strs.bel i1 B3)).mono ?_
  rintro e w4 ⟨vx, rfl, RX, hvx, b4⟩
  have hgx : gB < w3.heap.size := CB.lt.1
  have hbx : ∀ b, vb.ownBlock = some b → b < w3.heap.size := fun b hb => (CB.lt.2 b hb).1
  replace CA := CA.bel b4
  replace CB := CB.bel b4
  have B4 : Below w.heap.size w w4 := B3.trans (b4.mono B3.size)
  go_wp2_with fail
  refine (HA2.out _ (Strs.bel i2 B4)).mono ?_
  rintro e w5 ⟨vy, rfl, RY, hvy, b5⟩
  replace CA := CA.bel b5
  replace CB := CB.bel b5
  replace RX := (Fr.of_bel (S := none') b5).row RX (fun _ _ => id)
  have B5 : Below w.heap.size w w5 := B4.trans (b5.mono B4.size)
  have s45 : w3.heap.size ≤ w4.heap.size := b4.size
  have s55 : w4.heap.size ≤ w5.heap.size := b5.size
  clear b4 b5 B4
  go_wp2_with fail
  refine (RS1.out _).mono ?_
  rintro e w6 ⟨rfl, rfl⟩
  go_wp2_with fail
  refine (RS2.out _).mono ?_
  rintro e w6 ⟨rfl, rfl⟩
  have q0 : ((K : Int) == (K : Int)) = true := by simp
  go_wp2_with fail
  refine (merge_yes w.heap.size gB K va vb L M _ CA CB hd).mono ?_
  rintro e w7 ⟨va2, rfl, CA2, F7, S7⟩
  have hgx2 : ∀ b, vx.ownBlock = some b → ¬ own2 w.heap.size va b := fun b hb e => by
    have := hvx b hb
    rcases e with e | e
    · omega
    · have := hvM b e; omega
  have hgy2 : ∀ b, vy.ownBlock = some b → ¬ own2 w.heap.size va b := fun b hb e => by
    have := hvy b hb
    rcases e with e | e
    · omega
    · have := hvM b e; omega
  have CB2 := hd.fr CB F7
  have s57 := F7.size
  have RY2 := F7.row RY hgy2
  have B7 : Below w.heap.size w w7 := B5.trans (F7.below B5.size (fun b hb => by rcases hb with rfl | hb; exact Nat.le_refl _; exact hva b hb))
  have hva2 : ∀ b, va2.ownBlock = some b → w.heap.size ≤ b := fun b hb => by
    rcases S7 with e | ⟨c, e, hc⟩
    · rw [e] at hb; exact hva b hb
    · rw [e] at hb; cases hb; have := B5.size; omega
  have hva7 : ∀ b, va2.ownBlock = some b → b < w7.heap.size := fun b hb => (CA2.lt.2 b hb).1
  clear CA CB RX RY F7 S7 B5 B3 hd
  go_wp2_with fail
  refine (RS2.out _).mono ?_
  rintro e w8 ⟨rfl, rfl⟩
  go_wp2_with fail
  refine (like_any gB K vb vy M _ CB2 RY2 hMl).mono ?_
  rintro e w8 ⟨rfl, b8⟩
  replace CA2 := CA2.bel b8
  have B8 : Below w.heap.size w w8 := B7.trans (b8.mono B7.size)
  have s78 := b8.size
  clear CB2 RY2 b8 B7
  have Rs := texts_empty w8 9
  have Bs : Below w.heap.size w (w8.alloc (.cells #[] 9)) := B8.alloc B8.size _
  have fs : Fr none' w8 (w8.alloc (.cells #[] 9)) := (Fr.refl _ _).alloc _
  go_wp2_with (first
    | (at_builtin; refine wpList_append_texts _ rfl (.tmp 60) (.tmp 61) 26 rfl 9 i0 Try.underlying26 hi hz0 hz1 hz2 _ [] xs rfl Rs b1 nx c1 rfl Hnx.out.symm (Strs.bel i1 Bs) (by have := Hnx.out; simp only [List.length_nil]; omega) ?_; intro t1 w9 r9 f9 e9; have B9 : Below w.heap.size w w9 := Bs.trans (f9.below Bs.size (fun b hb => by cases hb; exact B8.size)))
    | (at_builtin; refine wpList_append_texts _ rfl (.tmp 62) (.tmp 63) 26 rfl 9 i0 Try.underlying26 hi hz0 hz1 hz2 _ xs ys rfl r9 b2 ny c2 rfl Hny.out.symm (Strs.bel i2 B9) (by have := Hnx.out; have := Hny.out; omega) ?_; intro t2 w10 r10 f10 e10)
    | fail)
  have h9 : ∀ b, t1.ownBlock = some b → w8.heap.size ≤ b := fun b hb => by
    rcases e9 with e | e
    · rw [e] at hb; cases hb; exact Nat.le_refl _
    · rw [e] at hb; cases hb; simp
  have F9 : Fr none' w8 w10 := ((fs.trans f9 (fun b hb e => by cases e; exact absurd hb (Nat.lt_irrefl _))).trans f10 (fun b hb e => by have := h9 b e; omega))
  have b10 : Below w8.heap.size w8 w10 := F9.below (Nat.le_refl _) (fun _ h => h.elim)
  replace CA2 := CA2.bel b10
  have B10 : Below w.heap.size w w10 := B8.trans (b10.mono B8.size)
  have s10 := b10.size
  obtain ⟨p1, q1, rfl, _, _, N1, _⟩ := strs_of_row r10
  clear r9 f9 e9 f10 e10 h9 F9 b10 B8 B9 Bs fs Rs r10
  have e22 : (xs ++ ys).length = nx + ny := by rw [List.length_append, Hnx.out, Hny.out]
  have HA4 := Lib.hid (HA3.out _ p1 q1 N1)
  rw [e22] at HA4
  rw [e22]
  clear e22 N1 HA3
  refine HA4.out.mono ?_
  rintro e w11 ⟨vz, rfl, RZ, hvz, b11⟩
  replace CA2 := CA2.bel b11
  have B11 : Below w.heap.size w w11 := B10.trans (b11.mono B10.size)
  clear b11 B10
  go_wp2_with fail
  refine (RS1.out _).mono ?_
  rintro e w12 ⟨rfl, rfl⟩
  go_wp2_with fail
  refine (like_any w.heap.size K va2 vz (allOf M L) _ CA2 RZ hXl).mono ?_
  rintro e w12 ⟨rfl, b12⟩
  replace CA2 := CA2.bel b12
  replace RZ := (Fr.of_bel (S := none') b12).row RZ (fun _ _ => id)
  have B12 : Below w.heap.size w w12 := B11.trans (b12.mono B11.size)
  clear b12 B11
  go_wp2_with fail
  refine (merge_self w.heap.size K va2 (allOf M L) _ CA2).mono ?_
  rintro e w13 ⟨va3, rfl, CA3, F13, S13⟩
  have RZ3 := F13.row RZ (fun b hb e => by
    have := hvz b hb
    rcases e with e | e
    · have := B12.size; omega
    · have := hva7 b e; omega)
  have B13 : Below w.heap.size w w13 := B12.trans (F13.below B12.size (fun b hb => by rcases hb with rfl | hb; exact Nat.le_refl _; exact hva2 b hb))
  clear CA2 RZ F13 S13 B12
  go_wp2_with fail
  refine (RS1.out _).mono ?_
  rintro e w14 ⟨rfl, rfl⟩
  go_wp2_with fail
  refine (like_any w.heap.size K va3 vz (allOf M L) _ CA3 RZ3 hXl).mono ?_
  rintro e w14 ⟨rfl, b14⟩
  have B14 : Below w.heap.size w w14 := B13.trans (b14.mono B13.size)
  go_wp2_with fail
  refine (awake_any _).mono ?_
  rintro e w15 ⟨rfl, b15⟩
  go_wp2_with fail
  go_ret
  exact ⟨rfl, B14.trans (b15.mono B14.size)⟩
set_option maxHeartbeats 1000000 in
set_option maxRecDepth 100000 in
theorem walk_diff (w : World) (k : Int) (wk : (Lit.int .i64 k).wf = true) (other : Int) (wo : (Lit.int .i64 other).wf = true) (b1 : Option Addr) (c1 : Nat) (xs : List ByteArray) (l1 : xs.length ≤ c1) (m1 : c1 ≤ maxLen) (i1 : InW w b1 1 (xs.map fun s => [.string s])) (o1 : ∀ s ∈ xs, s.size ≤ maxLen) (b2 : Option Addr) (c2 : Nat) (ys : List ByteArray) (l2 : ys.length ≤ c2) (m2 : c2 ≤ maxLen) (i2 : InW w b2 1 (ys.map fun s => [.string s])) (o2 : ∀ s ∈ ys, s.size ≤ maxLen) (hlx : longB xs = false) (hly : longB ys = false) (hK : sizeK k ≠ sizeK other) :
    Calls Try.prog 8 #[.int .i64 k, .int .i64 other, .slice b1 xs.length c1, .slice b2 ys.length c2] w fun e w' => e = .returned (.bool true) ∧ Below w.heap.size w w' := by
  have LX := short_of hlx
  have LY := short_of hly
  have HLx := Lib.hid (long_any b1 c1 xs w i1 m1 l1 o1)
  have HLy := Lib.hid (long_any b2 c2 ys w i2 m2 l2 o2)
  rw [hlx] at HLx
  rw [hly] at HLy
  have HF1 := Lib.hid (fill_any k b1 c1 xs w i1 o1 (by omega))
  have HF2 := Lib.hid (fun wx (h : Strs wx b2 ys) => fill_any other b2 c2 ys wx h o2 (by omega))
  have HA1 := Lib.hid (fun wx (h : Strs wx b1 xs) => all_any b1 c1 xs wx h o1 (by omega))
  have HA2 := Lib.hid (fun wx (h : Strs wx b2 ys) => all_any b2 c2 ys wx h o2 (by omega))
  have RS1 := Lib.hid (fun wx => rsize_any k wx)
  have RS2 := Lib.hid (fun wx => rsize_any other wx)
  have hLl : (allOf (hs xs) []).length ≤ 1000000 := by have := all_length (hs xs) []; have h2 : (hs xs).length = xs.length := List.length_map _; simp only [List.length_nil] at this; omega
  have hMl : (allOf (hs ys) []).length ≤ 1000000 := by have := all_length (hs ys) []; have h2 : (hs ys).length = ys.length := List.length_map _; simp only [List.length_nil] at this; omega
  generalize hnx : xs.length = nx at *
  generalize hny : ys.length = ny at *
  have Hnx := Lib.hid hnx
  have Hny := Lib.hid hny
  clear hnx hny hlx hly
  unfold maxLen at m1 m2
  generalize sizeK k = K at *
  generalize sizeK other = K' at *
  generalize hLL : allOf (hs xs) [] = L at *
  generalize hMM : allOf (hs ys) [] = M at *
  have HLL := Lib.hid hLL
  have HMM := Lib.hid hMM
  clear hLL hMM
  go_enter Try.func8, Try.ntmps8
  go_wp2_with fail
  refine HLx.out.mono ?_
  rintro e w0 ⟨rfl, rfl⟩
  go_wp2_with fail
  refine HLy.out.mono ?_
  rintro e w0 ⟨rfl, rfl⟩
  go_wp2_with fail
  refine HF1.out.mono ?_
  rintro e w1 ⟨va, rfl, CA, hva, B1⟩
  rw [HLL.out] at CA
  go_wp2_with fail
  refine (HF2.out _ (Strs.bel i2 B1)).mono ?_
  rintro e w2 ⟨vb, rfl, CB, hvb, b2'⟩
  rw [HMM.out] at CB
  have hNM : w.heap.size < w1.heap.size := CA.lt.1
  have hvM : ∀ b, va.ownBlock = some b → b < w1.heap.size := fun b hb => (CA.lt.2 b hb).1
  replace CA := CA.bel b2'
  have B2 : Below w.heap.size w w2 := B1.trans (b2'.mono B1.size)
  obtain ⟨gB, hgB⟩ : ∃ g, w1.heap.size = g := ⟨_, rfl⟩
  rw [hgB] at CB hvb hNM hvM
  have hd : Disj w.heap.size va gB vb := ⟨by omega, fun e => by have := hvM _ e; omega, fun e => by have := hvb _ e; omega, fun b h1 h2 => by have := hvM b h1; have := hvb b h2; omega⟩
  clear b2' B1 HF1 HF2 HLx HLy
  go_wp2_with fail
  clear hgB
  refine (merge_none w.heap.size _ va L _ CA).mono ?_
  rintro e w3 ⟨rfl, b3⟩
  replace CA := CA.bel b3
  replace CB := CB.bel b3
  have B3 : Below w.heap.size w w3 := B2.trans (b3.mono B2.size)
  clear b3 B2
  go_wp2_with fail
  refine (HA1.out _ (Strs.bel i1 B3)).mono ?_
  rintro e w4 ⟨vx, rfl, RX, hvx, b4⟩
  have hgx : gB < w3.heap.size := CB.lt.1
  have hbx : ∀ b, vb.ownBlock = some b → b < w3.heap.size := fun b hb => (CB.lt.2 b hb).1
  replace CA := CA.bel b4
  replace CB := CB.bel b4
  have B4 : Below w.heap.size w w4 := B3.trans (b4.mono B3.size)
  go_wp2_with fail
  refine (HA2.out _ (Strs.bel i2 B4)).mono ?_
  rintro e w5 ⟨vy, rfl, RY, hvy, b5⟩
  replace CA := CA.bel b5
  replace CB := CB.bel b5
  replace RX := (Fr.of_bel (S := none') b5).row RX (fun _ _ => id)
  have B5 : Below w.heap.size w w5 := B4.trans (b5.mono B4.size)
  have s45 : w3.heap.size ≤ w4.heap.size := b4.size
  have s55 : w4.heap.size ≤ w5.heap.size := b5.size
  clear b4 b5 B4
  go_wp2_with fail
  refine (RS1.out _).mono ?_
  rintro e w6 ⟨rfl, rfl⟩
  go_wp2_with fail
  refine (RS2.out _).mono ?_
  rintro e w6 ⟨rfl, rfl⟩
  have q0 : ((K : Int) == (K' : Int)) = false := by simp; omega
  go_wp2_with fail
  refine (merge_other w.heap.size gB K K' va vb L M _ CA CB (fun e => hK e.symm)).mono ?_
  rintro e w7 ⟨rfl, b7⟩
  replace CA := CA.bel b7
  replace CB := CB.bel b7
  replace RX := (Fr.of_bel (S := none') b7).row RX (fun _ _ => id)
  replace RY := (Fr.of_bel (S := none') b7).row RY (fun _ _ => id)
  have B7 : Below w.heap.size w w7 := B5.trans (b7.mono B5.size)
  clear b7 B5 B3 hd
  go_wp2_with fail
  refine (RS2.out _).mono ?_
  rintro e w8 ⟨rfl, rfl⟩
  go_wp2_with fail
  refine (like_any gB K' vb vy M _ CB RY hMl).mono ?_
  rintro e w8 ⟨rfl, b8⟩
  replace CA := CA.bel b8
  replace RX := (Fr.of_bel (S := none') b8).row RX (fun _ _ => id)
  have B8 : Below w.heap.size w w8 := B7.trans (b8.mono B7.size)
  clear CB RY b8 B7
  go_wp2_with fail
  refine (RS1.out _).mono ?_
  rintro e w12 ⟨rfl, rfl⟩
  go_wp2_with fail
  refine (like_any w.heap.size K va vx L _ CA RX hLl).mono ?_
  rintro e w12 ⟨rfl, b12⟩
  replace CA := CA.bel b12
  replace RX := (Fr.of_bel (S := none') b12).row RX (fun _ _ => id)
  have B12 : Below w.heap.size w w12 := B8.trans (b12.mono B8.size)
  clear b12 B8
  go_wp2_with fail
  refine (merge_self w.heap.size K va L _ CA).mono ?_
  rintro e w13 ⟨va3, rfl, CA3, F13, S13⟩
  have RZ3 := F13.row RX (fun b hb e => by
    have := hvx b hb
    rcases e with e | e
    · omega
    · have := hvM b e; omega)
  have B13 : Below w.heap.size w w13 := B12.trans (F13.below B12.size (fun b hb => by rcases hb with rfl | hb; exact Nat.le_refl _; exact hva b hb))
  clear CA RX F13 S13 B12
  go_wp2_with fail
  refine (RS1.out _).mono ?_
  rintro e w14 ⟨rfl, rfl⟩
  go_wp2_with fail
  refine (like_any w.heap.size K va3 vx L _ CA3 RZ3 hLl).mono ?_
  rintro e w14 ⟨rfl, b14⟩
  have B14 : Below w.heap.size w w14 := B13.trans (b14.mono B13.size)
  go_wp2_with fail
  refine (awake_any _).mono ?_
  rintro e w15 ⟨rfl, b15⟩
  go_wp2_with fail
  go_ret
  exact ⟨rfl, B14.trans (b15.mono B14.size)⟩
set_option maxHeartbeats 1000000 in
theorem walk (w : World) (k : Int) (wk : (Lit.int .i64 k).wf = true) (other : Int) (wo : (Lit.int .i64 other).wf = true) (b1 : Option Addr) (c1 : Nat) (xs : List ByteArray) (l1 : xs.length ≤ c1) (m1 : c1 ≤ maxLen) (i1 : InW w b1 1 (xs.map fun s => [.string s])) (o1 : ∀ s ∈ xs, s.size ≤ maxLen) (b2 : Option Addr) (c2 : Nat) (ys : List ByteArray) (l2 : ys.length ≤ c2) (m2 : c2 ≤ maxLen) (i2 : InW w b2 1 (ys.map fun s => [.string s])) (o2 : ∀ s ∈ ys, s.size ≤ maxLen) :
    Calls Try.prog 8 #[.int .i64 k, .int .i64 other, .slice b1 xs.length c1, .slice b2 ys.length c2] w fun e w' => e = .returned (.bool true) ∧ Below w.heap.size w w' := by
  cases hlx : longB xs
  · cases hly : longB ys
    · by_cases hK : sizeK k = sizeK other
      · exact walk_same w k wk other wo b1 c1 xs l1 m1 i1 o1 b2 c2 ys l2 m2 i2 o2 hlx hly hK
      · exact walk_diff w k wk other wo b1 c1 xs l1 m1 i1 o1 b2 c2 ys l2 m2 i2 o2 hlx hly hK
    · have HLx := Lib.hid (long_any b1 c1 xs w i1 m1 l1 o1)
      have HLy := Lib.hid (long_any b2 c2 ys w i2 m2 l2 o2)
      rw [hlx] at HLx
      rw [hly] at HLy
      generalize xs.length = nx at *
      generalize ys.length = ny at *
      go_enter Try.func8, Try.ntmps8
      go_wp2_with fail
      refine HLx.out.mono ?_
      rintro e w0 ⟨rfl, rfl⟩
      go_wp2_with fail
      refine HLy.out.mono ?_
      rintro e w0 ⟨rfl, rfl⟩
      go_wp2_with fail
      refine (awake_any _).mono ?_
      rintro e w2 ⟨rfl, b2⟩
      go_wp2_with fail
      go_ret
      exact ⟨rfl, b2⟩
  · have HLx := Lib.hid (long_any b1 c1 xs w i1 m1 l1 o1)
    rw [hlx] at HLx
    generalize xs.length = nx at *
    generalize ys.length = ny at *
    go_enter Try.func8, Try.ntmps8
    go_wp2_with fail
    refine HLx.out.mono ?_
    rintro e w0 ⟨rfl, rfl⟩
    go_wp2_with fail
    refine (awake_any _).mono ?_
    rintro e w2 ⟨rfl, b2⟩
    go_wp2_with fail
    go_ret
    exact ⟨rfl, b2⟩

theorem own : ownKnob Try.prog.godebug = none := by kernel_rfl
theorem laidOut : laidOutB Try.prog = true := by kernel_rfl

set_option maxRecDepth 100000 in
theorem lifted (os : Os) (started : os.Started) (H : Type) (enc : TypeId × Value → H) :
    ReturnsInHanded {} Try.checked os 8 .any (Rows.distinctMergesSpec.pre6 enc Try.prog Try.f8 Rows.distinctMergesRow.domain false) (Rows.distinctMergesSpec.post enc Try.prog Try.f8 false true false false) := by
  refine returnsInHanded_of_change (C := Try.checked) own started (by kernel_rfl) Try.func8
    (ChangeSpec.witness6 (enc := enc) (C := Try.checked) false ⟨#[], #[.int .i64 0, .int .i64 0, .slice none 0 0, .slice none 0 0], []⟩ 8 (by kernel_rfl) (by kernel_rfl) (by kernel_rfl) (by kernel_rfl)) ?_
  intro W base args ds gs before hval0 hW hcnd _
  have hval : ∀ (j : Nat) t v, Try.f8.params[j]? = some t → args[j]? = some v → Value.okWide Try.prog W .any base t v := hval0
  have hW' := hW
  obtain ⟨p, q, hA0, hV, rfl, hfz, hnd⟩ := hW
  have hA : DataW.TrodAll enc Try.prog W 0 (fun _ => true) true Try.f8.params.toList args.toList ds p := hA0
  rw [Try.params8] at hA hval
  obtain ⟨v0, vs0, d0, ds0, p0, q0, hargs, rfl, rfl, h0, r0⟩ := trodAll_cons hA
  obtain ⟨v1, vs1, d1, ds1, p1, q1, rfl, rfl, rfl, h1, r1⟩ := trodAll_cons r0
  obtain ⟨v2, vs2, d2, ds2, p2, q2, rfl, rfl, rfl, h2, r2⟩ := trodAll_cons r1
  obtain ⟨v3, vs3, d3, ds3, p3, q3, rfl, rfl, rfl, h3, r3⟩ := trodAll_cons r2
  obtain ⟨rfl, rfl, rfl⟩ := trodAll_nil r3
  obtain rfl : args = #[v0, v1, v2, v3] := by cases args; simp_all
  obtain ⟨rfl, rfl⟩ := trodVars_none hV
  have k0 := h0
  have lt0 : ∀ x ∈ p0, x.block < W.heap.size := by obtain ⟨m, hm⟩ := k0; exact DataW.trod_lt m _ _ _ hm
  obtain ⟨a0, rfl, rfl, rfl, w0⟩ := open_int Try.underlying3 (hval 0 3 v0 rfl rfl) h0
  have k1 := h1
  have lt1 : ∀ x ∈ p1, x.block < W.heap.size := by obtain ⟨m, hm⟩ := k1; exact DataW.trod_lt m _ _ _ hm
  obtain ⟨a1, rfl, rfl, rfl, w1⟩ := open_int Try.underlying3 (hval 1 3 v1 rfl rfl) h1
  have k2 := h2
  have lt2 : ∀ x ∈ p2, x.block < W.heap.size := by obtain ⟨m, hm⟩ := k2; exact DataW.trod_lt m _ _ _ hm
  obtain ⟨b2, c2, x2, rfl, l2, m2, i2, o2⟩ := open_l (hval 2 26 v2 rfl rfl) h2
  have k3 := h3
  have lt3 : ∀ x ∈ p3, x.block < W.heap.size := by obtain ⟨m, hm⟩ := k3; exact DataW.trod_lt m _ _ _ hm
  obtain ⟨b3, c3, x3, rfl, l3, m3, i3, o3⟩ := open_l (hval 3 26 v3 rfl rfl) h3
  clear hA0 hval0
  refine (walk W a0 w0 a1 w1 b2 c2 x2 l2 m2 i2 o2 b3 c3 x3 l3 m3 i3 o3).mono fun e W' ⟨he, bel⟩ => ?_
  subst he
  exact ⟨_, rfl, _, _, _, [], _, [], hW', trodAll_mk1 (shut_bool Try.underlying4 _), (trodAll_cons_mk (Below.trod laidOut (by kernel_rfl) (of_decide_eq_true (by kernel_rfl)) k0 bel lt0) (trodAll_cons_mk (Below.trod laidOut (by kernel_rfl) (of_decide_eq_true (by kernel_rfl)) k1 bel lt1) (trodAll_cons_mk (Below.trod laidOut (by kernel_rfl) (of_decide_eq_true (by kernel_rfl)) k2 bel lt2) (trodAll_cons_mk (Below.trod laidOut (by kernel_rfl) (of_decide_eq_true (by kernel_rfl)) k3 bel lt3) trodAll_mk0)))), rfl, bel.frame _, fun h => by cases h⟩

theorem over : Rows.distinctMergesRow.holds Try.pinned (OpenSpec.ofChange Rows.distinctMergesSpec) :=
  OpenClaim.holds_of_wide 8 Try.f8 rfl rfl rfl rfl rfl rfl rfl ⟨rfl, rfl, rfl, rfl, rfl⟩ rfl rfl rfl rfl rfl (by kernel_rfl) Try.func8 (by kernel_rfl)
    (of_decide_eq_true (by kernel_rfl)) (by unfold Func.isWrapper; first | (rw [if_pos (by decide +kernel)]; kernel_rfl) | (rw [if_neg (by decide +kernel)]; exact ⟨rfl, rfl⟩))
    (fun os started H enc _ => lifted os started H enc)

theorem proved : Rows.DistinctMergesSaid := over
#print axioms proved
end Go.Proofs.Ytipblbmpckfigaa.distinctMerges

/- Contract of (*pane.Panes).Keys: the loop. -/
import Derived.Test.YtlmonbclloamiaaPKeys
namespace Go.Proofs.Ytlmonbclloamiaa
open Go.RowKit Go.MapKept Go.Maps
set_option linter.unusedVariables false
abbrev Rows := List (ByteArray × (Value × List Int))
def rowsM (rw : Rows) : List (ByteArray × Value) := rw.map fun x => (x.1, x.2.1)
def picks (rw : Rows) (lo hi : Int) (done : List (ByteArray × Value)) : List ByteArray := (done.filter fun x => (rowL rw x.1).any (inR lo hi)).map Prod.fst
structure KeysW (w0 wr : World) (p s r b1 b2 it : Nat) (wd ad lo hi : Int) (sm : List (CK × Int)) (rw : Rows) (v : Value) (done : List (ByteArray × Value)) : Prop where
  pr : PaneR wr p s r wd ad sm rw
  c1 : Bk wr b1 [.int .i64 lo] 3
  c2 : Bk wr b2 [.int .i64 hi] 3
  l1 : b1 < it
  l2 : b2 < it
  l3 : w0.heap.size ≤ it
  l4 : ∀ b ∈ pblocks p s r rw, b < it
  own : wr.ownsRow 0 9 1 v (picks rw lo hi done).length ((picks rw lo hi done).map Value.string)
  new : ∀ b, v.ownBlock = some b → it < b
  bel : Below w0.heap.size w0 wr
theorem Fr.belOf {S : Nat → Prop} {w0 w w' : World} (h : Below w0.heap.size w0 w) (hf : Fr S w w') (hS : ∀ b, S b → w0.heap.size ≤ b) : Below w0.heap.size w0 w' := h.trans (hf.below h.size hS)
theorem KeysW.fr {S : Nat → Prop} {w0 wr w' : World} {p s r b1 b2 it : Nat} {wd ad lo hi : Int} {sm : List (CK × Int)} {rw : Rows} {v : Value} {done : List (ByteArray × Value)} (h : KeysW w0 wr p s r b1 b2 it wd ad lo hi sm rw v done)
    (hf : Fr S wr w') (hS : ∀ b, S b → b = it ∨ wr.heap.size ≤ b) : KeysW w0 w' p s r b1 b2 it wd ad lo hi sm rw v done := by
  have hlt : ∀ b, b < it → b < wr.heap.size → ¬ S b := fun b h1 h2 hs => by
    rcases hS b hs with h | h <;> omega
  refine ⟨h.pr.fr hf (fun b hb => hlt b (h.l4 b hb) (h.pr.lt b hb)), h.c1.fr hf (hlt _ h.l1 h.c1.lt), h.c2.fr hf (hlt _ h.l2 h.c2.lt), h.l1, h.l2, h.l3, h.l4, hf.row h.own (fun b hb hs => ?_), h.new, Fr.belOf h.bel hf (fun b hs => ?_)⟩
  · have := h.new b hb
    have := own_lt h.own hb
    rcases hS b hs with h | h <;> omega
  · have := h.l3
    have := h.bel.size
    rcases hS b hs with h | h <;> omega
/-- one key more -/
theorem KeysW.more {w0 wr w' : World} {p s r b1 b2 it : Nat} {wd ad lo hi : Int} {sm : List (CK × Int)} {rw : Rows} {v v' : Value} {done : List (ByteArray × Value)} {a : ByteArray} {u : Value} (h : KeysW w0 wr p s r b1 b2 it wd ad lo hi sm rw v done) (hit : it < wr.heap.size)
    (ha : (rowL rw a).any (inR lo hi) = true) (ho : w'.ownsRow 0 9 1 v' ((picks rw lo hi done).length + 1) ((picks rw lo hi done).map Value.string ++ [.string a])) (hf : Fr (fun b => v.ownBlock = some b) wr w')
    (hh : v'.ownBlock = v.ownBlock ∨ ∃ b, v'.ownBlock = some b ∧ wr.heap.size ≤ b) : KeysW w0 w' p s r b1 b2 it wd ad lo hi sm rw v' (done ++ [(a, u)]) := by
  have hp : picks rw lo hi (done ++ [(a, u)]) = picks rw lo hi done ++ [a] := by simp [picks, ha]
  have hlt : ∀ b, b < it → ¬ v.ownBlock = some b := fun b h1 hs => by
    have := h.new b hs; omega
  refine ⟨h.pr.fr hf (fun b hb => hlt b (h.l4 b hb)), h.c1.fr hf (hlt _ h.l1), h.c2.fr hf (hlt _ h.l2), h.l1, h.l2, h.l3, h.l4, ?_, fun b hb => ?_, Fr.belOf h.bel hf (fun b hs => ?_)⟩
  · rw [hp]; simpa using ho
  · rcases hh with hh | ⟨c, hc, hge⟩
    · exact h.new b (by rw [← hh]; exact hb)
    · have : c = b := Option.some.inj (hc.symm.trans hb)
      omega
  · have := h.new b hs
    have := h.l3
    omega
theorem KeysW.less {w0 wr : World} {p s r b1 b2 it : Nat} {wd ad lo hi : Int} {sm : List (CK × Int)} {rw : Rows} {v : Value} {done : List (ByteArray × Value)} {a : ByteArray} {u : Value} (h : KeysW w0 wr p s r b1 b2 it wd ad lo hi sm rw v done)
    (ha : (rowL rw a).any (inR lo hi) = false) : KeysW w0 wr p s r b1 b2 it wd ad lo hi sm rw v (done ++ [(a, u)]) := by
  have hp : picks rw lo hi (done ++ [(a, u)]) = picks rw lo hi done := by simp [picks, ha]
  exact ⟨h.pr, h.c1, h.c2, h.l1, h.l2, h.l3, h.l4, by rw [hp]; exact h.own, h.new, h.bel⟩
/-- a row's value, out of the map -/
theorem PaneR.rowAt {w : World} {p s r : Nat} {wd ad : Int} {sm : List (CK × Int)} {rw : Rows} {A : List Ad} (h : PaneR w p s r wd ad sm rw) (hi : PInv A sm rw) {a : ByteArray} {u : Value} (hm : (a, u) ∈ rowsM rw) :
    ∃ g cap, u = .slice (some ⟨g, 0, none⟩) (rowL rw a).length cap ∧ (∀ j, j < (rowL rw a).length → ∃ g', some (⟨g, 0, none⟩ : Addr) = some ⟨g', 0, none⟩ ∧ w.cell? ⟨g', j, none⟩ = some (.int .i64 ((rowL rw a).getD j 0))) ∧ rowV rw a = u := by
  obtain ⟨x, hx, e⟩ := List.mem_map.1 hm
  obtain ⟨rfl, rfl⟩ := Prod.mk.inj e
  have hg : mget rw x.1 = some x.2 := get_of_mem hi.ndr (by obtain ⟨a, b⟩ := x; exact hx)
  have hl : rowL rw x.1 = x.2.2 := by unfold rowL; rw [hg]; rfl
  have hv : rowV rw x.1 = x.2.1 := by unfold rowV; rw [hg]; rfl
  have hne := (hi.present x.1 x.2.1 x.2.2 hg).1
  have ho := h.own x hx
  rw [hl]
  obtain ⟨_, hb | ⟨g, cap, cs, hs, _⟩⟩ := bk_of_row ho
  · exact absurd (List.map_eq_nil_iff.1 hb.2.2) hne
  · rw [hs] at ho
    obtain ⟨_, hc⟩ := row_cells ho
    exact ⟨g, cap, hs, fun j hj => ⟨g, rfl, hc j hj⟩, hv⟩
theorem infoStr : (Try.prog.info? 9).map (fun i => (i.zero, i.size, i.bytes)) = some (some (.string ⟨#[]⟩), 1, 16) := by kernel_rfl
theorem picks_len {rw : Rows} {lo hi : Int} {done left : List (ByteArray × Value)} (h : (done ++ left).Perm (rowsM rw)) : (picks rw lo hi done).length ≤ rw.length := by
  have h1 : (picks rw lo hi done).length ≤ done.length := by simp only [picks, List.length_map]; exact List.length_filter_le _ _
  have h2 := h.length_eq
  simp [rowsM] at h2
  omega
set_option maxRecDepth 100000 in
set_option maxHeartbeats 4000000 in
theorem keys_walk (p s r : Nat) (wd ad : Int) (sm : List (CK × Int)) (rw : Rows) (A : List Ad) (f t : Int) (w : World) (h : PaneR w p s r wd ad sm rw) (hi : PInv A sm rw) (hw : 1 ≤ wd) (hA : A.length ≤ 1048576) (hlr : rw.length ≤ 1048576) (hf : I64 f) (ht : I64 t) :
    Calls Try.prog 28 #[.pointer (some ⟨p, 0, none⟩), .int .i64 f, .int .i64 t] w fun e w' => ∃ v done, e = .returned v ∧ done.Perm (rowsM rw) ∧
      w'.ownsRow 0 9 1 v (picks rw (f / wd) (t / wd) done).length ((sortB (picks rw (f / wd) (t / wd) done)).map Value.string) ∧ (∀ b, v.ownBlock = some b → w.heap.size ≤ b) ∧ Below w.heap.size w w' := by
  have ho1 := Lib.hid (of_any p wd f w h.cells.1 hw hf)
  have ho2 := Lib.hid (of_any p wd t w h.cells.1 hw ht)
  obtain ⟨c0, c1, c2, c3⟩ := h.cells
  obtain ⟨i0, hi0, hz0, hz1, hz2⟩ := info_parts infoStr
  have b1 := floor_le f wd hw hf
  have b2 := floor_le t wd hw ht
  generalize f / wd = lo at *
  generalize t / wd = hi' at *
  have H := Lib.hid h
  have HI := Lib.hid hi
  have hbel : Below w.heap.size w ((w.alloc (.cells #[.int .i64 lo] 3)).alloc (.cells #[.int .i64 hi'] 3)) := ((Below.refl _ _).alloc (Nat.le_refl _) _).alloc (by simp) _
  have HB := Lib.hid hbel
  have HK1 := Lib.hid ((Bk.new w [.int .i64 lo] 3).old (.cells #[.int .i64 hi'] 3))
  have HK2 : Hid (Bk ((w.alloc (.cells #[.int .i64 lo] 3)).alloc (.cells #[.int .i64 hi'] 3)) (w.heap.size + 1) [.int .i64 hi'] 3) := Lib.hid (by simpa using Bk.new (w.alloc (.cells #[.int .i64 lo] 3)) [.int .i64 hi'] 3)
  have hlp := h.bk.lt
  clear h hi hbel
  go_enter Try.func28, Try.ntmps28
  go_wp2_with fail
  refine ho1.out.mono ?_
  rintro e w1 ⟨rfl, rfl⟩
  go_wp2_with fail
  refine ho2.out.mono ?_
  rintro e w1 ⟨rfl, rfl⟩
  go_wp2_with (at_range; refine wpList_range rfl _ rfl Try.underlying61 (H.out.bel HB.out).rows rfl ?_; intro w2 rg2 b2' z2)
  go_frame
  have hK0 : KeysW w w2 p s r w.heap.size (w.heap.size + 1) (w.heap.size + 2) wd ad lo hi' sm rw (.slice none 0 0) [] := by
    have h1 := (H.out.bel HB.out).bel b2'
    have hlt := H.out.lt
    refine ⟨h1, HK1.out.bel b2', HK2.out.bel b2', by omega, by omega, by omega, fun b hb => by have := hlt b hb; omega, own_nil _ _, (fun b hb => by cases hb), HB.out.trans (b2'.mono ?_)⟩
    simp; omega
  have hit : ((w.alloc (.cells #[.int .i64 lo] 3)).alloc (.cells #[.int .i64 hi'] 3)).heap.size = w.heap.size + 2 := by simp
  rw [hit] at rg2 ⊢
  clear hit b2' z2 HK1 HK2 HB ho1 ho2 hlp c0 c1 c2 c3 H
  generalize hS0 : w.heap.size = N0 at *
  clear hS0
  go_loopw [9] (fun v wr => ∃ done left, Rg encS okS wr r (N0 + 2) (rowsM rw) left ∧ Hid ((done ++ left).Perm (rowsM rw)) ∧ KeysW w wr p s r N0 (N0 + 1) (N0 + 2) wd ad lo hi' sm rw v done) (fun _ wr => wr.rangeLeft r (N0 + 2))
  case atStart => exact ⟨[], rowsM rw, rg2, Lib.hid (List.Perm.refl _), hK0⟩
  case round =>
    obtain ⟨done, left, hrg, HPm, hkw⟩ := hrel
    clear rg2 hK0
    have HRG := Lib.hid hrg
    go_wp2_with (at_next; refine wpList_next' Value.string (fun _ => rfl) rfl _ rfl hrg rfl ?_ ?_)
    · intro hl0
      subst hl0
      have hpm := HPm.out
      rw [List.append_nil] at hpm
      have HPm2 := Lib.hid hpm
      have hlen : (picks rw lo hi' done).length ≤ 1000000000 := by
        have := picks_len (lo := lo) (hi := hi') (left := []) HPm.out
        omega
      have HS := Lib.hid (sort_texts u9 (picks rw lo hi' done) wr hkw.own hlen)
      have HE : Hid (∀ w4, w4.ownsRow 0 9 1 u9 (picks rw lo hi' done).length ((sortB (picks rw lo hi' done)).map Value.string) → Fr (fun b => u9.ownBlock = some b) wr w4 → (∀ b, u9.ownBlock = some b → w.heap.size ≤ b) ∧ Below w.heap.size w w4) := Lib.hid (fun w4 _ hf4 => by
        have hn : ∀ b, u9.ownBlock = some b → w.heap.size ≤ b := fun b hb => by
          have := hkw.new b hb
          have := hkw.l3
          omega
        exact ⟨hn, Fr.belOf hkw.bel hf4 hn⟩)
      clear hpm hlen hkw hrg HRG HPm
      go_wp2_with fail
      refine HS.out.mono ?_
      rintro e w4 ⟨rfl, ho4, hf4⟩
      have HE2 := Lib.hid (HE.out w4 ho4 hf4)
      have HO4 := Lib.hid ho4
      clear HE HS ho4 hf4
      go_wp2_with fail
      go_ret
      exact ⟨u9, done, rfl, HPm2.out, HO4.out, HE2.out.1, HE2.out.2⟩
    · intro a u more w3 hp hok hm hrg3 hf3 hz3 hen
      have hk3 := hkw.fr hf3 (fun b e => .inl e)
      obtain ⟨g, cap, rfl, hcell, _⟩ := hk3.pr.rowAt HI.out hm
      have hll := HI.out.len a
      have HPm3 : Hid (((done ++ [(a, Value.slice (some ⟨g, 0, none⟩) (rowL rw a).length cap)]) ++ more).Perm (rowsM rw)) := Lib.hid ((by
        rw [List.append_assoc]
        exact List.Perm.append_left done hp.symm : ((done ++ [(a, Value.slice (some ⟨g, 0, none⟩) (rowL rw a).length cap)]) ++ more).Perm (done ++ left)).trans HPm.out)
      have hmes : w3.rangeLeft r (N0 + 2) < wr.rangeLeft r (N0 + 2) := by
        rw [hrg3.left_eq, hrg.left_eq, hp.length_eq]; simp
      have HM := Lib.hid hmes
      have hpl := picks_len (lo := lo) (hi := hi') HPm.out
      have hit3 : N0 + 2 < w3.heap.size := hrg3.lt
      have HC := Lib.hid (contains_any N0 (N0 + 1) lo hi' (some ⟨g, 0, none⟩) (rowL rw a) cap w3 (hk3.c1.cell 0) (hk3.c2.cell 0) hcell (by omega))
      have HRG3 := Lib.hid hrg3
      have HK3 := Lib.hid hk3
      clear hcell hmes hrg hkw HRG HPm hp hok hm hrg3 hf3 hz3 hk3 hll
      cases hany : (rowL rw a).any (inR lo hi') with
      | false =>
        rw [hany] at HC
        have HK4 := Lib.hid (HK3.out.less (u := .slice (some ⟨g, 0, none⟩) (rowL rw a).length cap) hany)
        clear hany HK3
        generalize (rowL rw a).length = nl at *
        go_wp2_with fail
        refine HC.out.mono ?_
        rintro e w4 ⟨rfl, rfl⟩
        go_wp2_with fail
        go_roundw
        case rel => exact ⟨_, more, HRG3.out, HPm3, HK4.out⟩
        case measure => exact HM.out
      | true =>
        rw [hany] at HC
        have HA := Lib.hid hany
        clear hany
        have HO3 := Lib.hid ((Fr.refl none' w3).alloc (.cells #[.string a] 9) |>.row HK3.out.own (fun _ _ => id))
        have HN : Hid (∀ (j : Nat) (u : Value), ([.string a] : List Value)[j]? = some u → (w3.alloc (.cells #[.string a] 9)).cell? ((⟨w3.heap.size, 0, none⟩ : Addr).add j) = some u) := Lib.hid (fun j u hj => by
          have hb := (Bk.new w3 [.string a] 9).cell j
          rw [Addr.add_lit, Nat.zero_add]
          exact hb.trans hj)
        have hv63 : (picks rw lo hi' done).length + 1 ≤ maxLen := by unfold maxLen; omega
        have hv47 : ((picks rw lo hi' done).length + 1) * 16 ≤ 140737488355328 := by omega
        generalize (rowL rw a).length = nl at *
        go_wp2_with fail
        refine HC.out.mono ?_
        rintro e w4 ⟨rfl, rfl⟩
        clear HC
        go_wp2_with (at_builtin; refine wpList_append_row _ rfl _ _ _ rfl 9 i0 _ 1 16 Try.underlying30 hi0 hz0 hz1 hz2 rfl (by decide) u9 (picks rw lo hi' done).length _ rfl HO3.out ⟨w3.heap.size, 0, none⟩ 1 1 [.string a] rfl rfl HN.out (by simp [Value.oneCell']) hv63 hv47 ?_; intro v5 w5 ho5 hf5 hh5)
        have hf5' : Fr (fun b => u9.ownBlock = some b) w3 w5 := ((Fr.refl _ w3).alloc _).trans hf5 (fun _ _ e => e)
        have HK5 := Lib.hid (HK3.out.more (u := .slice (some ⟨g, 0, none⟩) nl cap) hit3 HA.out ho5 hf5' (by
          rcases hh5 with h | h
          · exact .inl h
          · exact .inr ⟨_, h, by simp⟩))
        have HRG5 := Lib.hid (HRG3.out.fr hf5' (fun e => by have := HK3.out.new _ e; have := HK3.out.l4 r (by simp [pblocks]); omega) (fun e => by have := HK3.out.new _ e; omega))
        have HM5 : Hid (w5.rangeLeft r (N0 + 2) < wr.rangeLeft r (N0 + 2)) := Lib.hid (by rw [HRG5.out.left_eq, ← HRG3.out.left_eq]; exact HM.out)
        clear ho5 hf5 hh5 hf5' HO3 HN hv63 hv47 HK3 HRG3 HM
        go_wp2_with fail
        go_roundw
        case rel => exact ⟨_, more, HRG5.out, HPm3, HK5.out⟩
        case measure => exact HM5.out
end Go.Proofs.Ytlmonbclloamiaa

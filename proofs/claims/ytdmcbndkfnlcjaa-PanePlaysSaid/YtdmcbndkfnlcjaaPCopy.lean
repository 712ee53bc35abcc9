/- Contract of (*pane.Panes).Copy. -/
import Derived.Test.YtdmcbndkfnlcjaaPIter
namespace Go.Proofs.Ytdmcbndkfnlcjaa
open Go.RowKit Go.MapKept Go.Maps
set_option linter.unusedVariables false
/-- rows that tell the same as rw, of the keys in done -/
structure RowsAs (rw rw2 : Rows) (done : List (ByteArray × Value)) : Prop where
  nd : (mkeys rw2).Nodup
  at_ : ∀ k, (mget rw2 k).isSome = true ↔ k ∈ done.map Prod.fst
  eq : ∀ k v l, mget rw2 k = some (v, l) → l = rowL rw k
theorem RowsAs.step {rw rw2 : Rows} {done : List (ByteArray × Value)} (h : RowsAs rw rw2 done) (k : ByteArray) (u v : Value) : RowsAs rw (mput rw2 k (v, rowL rw k)) (done ++ [(k, u)]) := by
  refine ⟨nodup_put h.nd _ _, fun j => ?_, fun j v' l' hj => ?_⟩
  · rw [get_put]
    by_cases e : k = j
    · simp [e]
    · rw [if_neg e, h.at_]
      simp [Ne.symm e]
  · rw [get_put] at hj
    by_cases e : k = j
    · rw [if_pos e] at hj; cases hj; rw [e]
    · rw [if_neg e] at hj; exact h.eq j v' l' hj
theorem RowsAs.inv {A : List Ad} {sm : List (CK × Int)} {rw rw2 : Rows} {done : List (ByteArray × Value)} (h : RowsAs rw rw2 done) (hi : PInv A sm rw) (hp : done.Perm (rowsM rw)) : PInv A sm rw2 := by
  have hmem : ∀ k, k ∈ done.map Prod.fst ↔ k ∈ mkeys rw := fun k => by
    have := (hp.map Prod.fst).mem_iff (a := k)
    rw [this]
    unfold rowsM mkeys
    rw [List.map_map]
    exact Iff.rfl
  have hsome : ∀ k, k ∈ mkeys rw → ∃ x, mget rw k = some x := fun k hk => by
    obtain ⟨x, hx, rfl⟩ := List.mem_map.1 hk
    exact ⟨x.2, get_of_mem hi.ndr (by obtain ⟨a, b⟩ := x; exact hx)⟩
  refine ⟨hi.nds, h.nd, hi.sums, fun k hk n => ?_, fun k v l hk => ?_⟩
  · refine hi.absent k ?_ n
    cases hg : mget rw k with
    | none => rfl
    | some x =>
      have h1 : k ∈ mkeys rw := List.mem_map.2 ⟨(k, x), mem_of_get hg, rfl⟩
      have := (h.at_ k).2 ((hmem k).2 h1)
      rw [hk] at this; cases this
  · have h1 : k ∈ mkeys rw := (hmem k).1 ((h.at_ k).1 (by rw [hk]; rfl))
    obtain ⟨x, hx⟩ := hsome k h1
    have h2 := h.eq k v l hk
    have h3 : rowL rw k = x.2 := by unfold rowL; rw [hx]; rfl
    rw [h2, h3]
    exact hi.present k x.1 x.2 hx
structure CopyW (w0 wr : World) (p s r c s2 r2 it : Nat) (wd ad : Int) (sm : List (CK × Int)) (rw rw2 : Rows) (done : List (ByteArray × Value)) : Prop where
  pr : PaneR wr p s r wd ad sm rw
  cp : PaneR wr c s2 r2 wd ad sm rw2
  as_ : RowsAs rw rw2 done
  l1 : ∀ b ∈ pblocks p s r rw, b < w0.heap.size
  l2 : ∀ b ∈ pblocks c s2 r2 rw2, w0.heap.size ≤ b
  l3 : ∀ b ∈ pblocks c s2 r2 rw2, b ≠ it
  l4 : w0.heap.size ≤ it
  bel : Below w0.heap.size w0 wr
theorem CopyW.next {w0 wr w' : World} {p s r c s2 r2 it : Nat} {wd ad : Int} {sm : List (CK × Int)} {rw rw2 : Rows} {done : List (ByteArray × Value)} (h : CopyW w0 wr p s r c s2 r2 it wd ad sm rw rw2 done) (hf : Fr (fun b => b = it) wr w') : CopyW w0 w' p s r c s2 r2 it wd ad sm rw rw2 done :=
  ⟨h.pr.fr hf (fun b hb e => by have := h.l1 b hb; have := h.l4; omega), h.cp.fr hf (fun b hb e => h.l3 b hb e), h.as_, h.l1, h.l2, h.l3, h.l4, Fr.belOf h.bel hf (fun b e => by have := h.l4; omega)⟩
/-- a row more -/
theorem CopyW.more {w0 wr w4 w5 : World} {p s r c s2 r2 it : Nat} {wd ad : Int} {sm : List (CK × Int)} {rw rw2 : Rows} {done : List (ByteArray × Value)} {k : ByteArray} {u v : Value} (h : CopyW w0 wr p s r c s2 r2 it wd ad sm rw rw2 done) (hit : it < wr.heap.size)
    (hb : Below wr.heap.size wr w4) (ho : w4.ownsRow wr.heap.size 3 1 v (rowL rw k).length ((rowL rw k).map (Value.int .i64))) (hvn : v ≠ .slice none 0 0)
    (m5 : Mp encS okS w5 r2 (mput (rw2.map fun x => (x.1, x.2.1)) k v)) (f5 : Fr (fun b => b = r2) w4 w5) : CopyW w0 w5 p s r c s2 r2 it wd ad sm rw (mput rw2 k (v, rowL rw k)) (done ++ [(k, u)]) := by
  have hr2 : w0.heap.size ≤ r2 := h.l2 r2 (by simp [pblocks])
  have hs0 := h.bel.size
  have hlt := h.cp.lt
  have hvb : ∀ b, v.ownBlock = some b → wr.heap.size ≤ b := fun b hb => (ho.lt b hb).1
  have hv0 : w4.ownsRow 0 3 1 v (rowL rw k).length ((rowL rw k).map (Value.int .i64)) := ownsRow_base_a ho (Nat.zero_le _)
  have f : Fr (fun b => b = r2 ∨ (rowV rw2 k).ownBlock = some b) wr w5 := (Fr.of_bel hb).trans f5 (fun b _ e => .inl e)
  have hr2lt : r2 < wr.heap.size := hlt r2 (by simp [pblocks])
  have hvr : (∀ b, v.ownBlock = some b → ¬ b = r2) := fun b hb' e => by have := hvb b hb'; omega
  have hnew : ∃ b, v.ownBlock = some b ∧ wr.heap.size ≤ b := by
    rcases ho.2 with ⟨e, _⟩ | ⟨g, cap, cur, e, hg, _⟩
    · exact absurd e hvn
    · exact ⟨g, by rw [e]; rfl, hg⟩
  have hown5 := f5.row hv0 hvr
  have hcp := h.cp.setRow m5 f hown5 (.inr hnew)
  have hblk : ∀ b ∈ pblocks c s2 r2 (mput rw2 k (v, rowL rw k)), b ∈ pblocks c s2 r2 rw2 ∨ wr.heap.size ≤ b := fun b hb => by
    simp only [pblocks, List.mem_cons] at hb ⊢
    rcases hb with hb | hb | hb | hb
    · exact .inl (.inl hb)
    · exact .inl (.inr (.inl hb))
    · exact .inl (.inr (.inr (.inl hb)))
    · rcases mem_fm_put hb with hb | hb
      · exact .inr (hvb b hb)
      · exact .inl (.inr (.inr (.inr hb)))
  refine ⟨(h.pr.bel hb).fr f5 (fun b hb' e => by have := h.l1 b hb'; omega), hcp, h.as_.step k u v, h.l1, fun b hb' => ?_, fun b hb' => ?_, h.l4, Fr.belOf (h.bel.trans (hb.mono hs0)) f5 (fun b e => by omega)⟩
  · rcases hblk b hb' with h' | h'
    · exact h.l2 b h'
    · omega
  · rcases hblk b hb' with h' | h'
    · exact h.l3 b h'
    · omega
set_option maxRecDepth 100000 in
set_option maxHeartbeats 4000000 in
theorem copy_walk (p s r : Nat) (wd ad : Int) (sm : List (CK × Int)) (rw : Rows) (A : List Ad) (w : World) (h : PaneR w p s r wd ad sm rw) (hi : PInv A sm rw) (hA : A.length ≤ 1048576) :
    Calls Try.prog 14 #[.pointer (some ⟨p, 0, none⟩)] w fun e w' => ∃ c s2 r2 rw2 done, e = .returned (.pointer (some ⟨c, 0, none⟩)) ∧ done.Perm (rowsM rw) ∧ PaneR w' c s2 r2 wd ad sm rw2 ∧ RowsAs rw rw2 done ∧ (∀ b ∈ pblocks c s2 r2 rw2, w.heap.size ≤ b) ∧ Below w.heap.size w w' := by
  obtain ⟨c0, c1, c2, c3⟩ := h.cells
  have hlt := h.lt
  have hplt : p < w.heap.size := h.bk.lt
  have hmm := @run_makeMap Try.prog
  have H := Lib.hid h
  have HI := Lib.hid hi
  have HLT := Lib.hid hlt
  clear h hi hlt
  go_enter Try.func14, Try.ntmps14
  go_wp2_with fail
  have C1 := Lib.hid (clone_sums s _ w.drew (H.out.sums.fr (Fr.refl none' w).drew id))
  have C2 := Lib.hid (clone_sums s _ (w.alloc (.map #[] 0)).drew (H.out.sums.fr ((Fr.refl none' w).alloc _).drew id))
  go_region_held3 (fun X => X.cell? ⟨p, 0, none⟩ = some (.int .i64 wd) ∧ X.cell? ⟨p, 1, none⟩ = some (.int .i64 ad) ∧ X.cell? ⟨p, 2, none⟩ = some (.map (some s))) (first | assumption | go_keep)
    (first
      | (go_at_call 29
         (with_reducible refine C1.out.mono ?_)
         rintro e w3 ⟨rfl, m3, b3, z3⟩
         have M3 := Lib.hid m3
         have B3 := Lib.hid b3
         have Z3 := Lib.hid z3
         have hcc : w3.cell? ⟨p, 0, none⟩ = some (.int .i64 wd) ∧ w3.cell? ⟨p, 1, none⟩ = some (.int .i64 ad) ∧ w3.cell? ⟨p, 2, none⟩ = some (.map (some s)) := by
           have hk := (H.out.bk.fr (Fr.refl none' w).drew id).bel b3
           exact ⟨hk.cell 0, hk.cell 1, hk.cell 2⟩
         clear m3 b3 z3)
      | (go_at_call 29
         (with_reducible refine C2.out.mono ?_)
         rintro e w3 ⟨rfl, m3, b3, z3⟩
         have M3 := Lib.hid m3
         have B3 := Lib.hid b3
         have Z3 := Lib.hid z3
         have hcc : w3.cell? ⟨p, 0, none⟩ = some (.int .i64 wd) ∧ w3.cell? ⟨p, 1, none⟩ = some (.int .i64 ad) ∧ w3.cell? ⟨p, 2, none⟩ = some (.map (some s)) := by
           have hk := (H.out.bk.fr ((Fr.refl none' w).alloc (.map #[] 0)).drew id).bel b3
           exact ⟨hk.cell 0, hk.cell 1, hk.cell 2⟩
         clear m3 b3 z3)
      | fail)
  all_goals first
     | (have H4 : Hid (PaneR ((w3.alloc (.map #[] 0)).alloc (.cells #[.int .i64 wd, .int .i64 ad, .map (some w.heap.size), .map (some w3.heap.size)] 55)) p s r wd ad sm rw ∧ PaneR ((w3.alloc (.map #[] 0)).alloc (.cells #[.int .i64 wd, .int .i64 ad, .map (some w.heap.size), .map (some w3.heap.size)] 55)) (w3.heap.size + 1) w.heap.size w3.heap.size wd ad sm [] ∧
            (∀ b ∈ pblocks (w3.heap.size + 1) w.heap.size w3.heap.size [], w.heap.size ≤ b ∧ b < ((w3.alloc (.map #[] 0)).alloc (.cells #[.int .i64 wd, .int .i64 ad, .map (some w.heap.size), .map (some w3.heap.size)] 55)).heap.size) ∧ Below w.heap.size w ((w3.alloc (.map #[] 0)).alloc (.cells #[.int .i64 wd, .int .i64 ad, .map (some w.heap.size), .map (some w3.heap.size)] 55))) := Lib.hid (by
          have hz := Z3.out
          have hz' : w3.heap.size = w.heap.size + 1 := hz
          have hb3 : Below w.heap.size w w3 := ((Below.refl w.heap.size w).drew).trans B3.out
          have hb4 := hb3.alloc (o := .map #[] 0) (by omega)
          have hb5 := hb4.alloc (o := .cells #[.int .i64 wd, .int .i64 ad, .map (some w.heap.size), .map (some w3.heap.size)] 55) (by simp; omega)
          have b1 : Below w3.heap.size w3 (w3.alloc (.map #[] 0)) := (Below.refl _ _).alloc (Nat.le_refl _) _
          have b2 : Below (w3.alloc (.map #[] 0)).heap.size (w3.alloc (.map #[] 0)) ((w3.alloc (.map #[] 0)).alloc (.cells #[.int .i64 wd, .int .i64 ad, .map (some w.heap.size), .map (some w3.heap.size)] 55)) := (Below.refl _ _).alloc (Nat.le_refl _) _
          refine ⟨H.out.bel hb5, ⟨?_, (M3.out.bel b1).bel b2, (Mp.made w3).bel b2, (fun x hx => by cases hx), ?_⟩, fun b hb => ?_, hb5⟩
          · have := Bk.new (w3.alloc (.map #[] 0)) [.int .i64 wd, .int .i64 ad, .map (some w.heap.size), .map (some w3.heap.size)] 55
            simpa using this
          · simp [pblocks]; omega
          · simp [pblocks] at hb ⊢; omega)
        generalize (w3.alloc (.map #[] 0)).alloc (.cells #[.int .i64 wd, .int .i64 ad, .map (some w.heap.size), .map (some w3.heap.size)] 55) = W4 at *
        clear M3 B3 Z3
        generalize w3.heap.size + 1 = c at *
        generalize w3.heap.size = r2 at *
        obtain ⟨s2, hs2⟩ : ∃ s2, s2 = w.heap.size := ⟨_, rfl⟩
        have H5 : Hid (PaneR W4 p s r wd ad sm rw ∧ PaneR W4 c s2 r2 wd ad sm [] ∧ (∀ b ∈ pblocks c s2 r2 [], w.heap.size ≤ b ∧ b < W4.heap.size) ∧ Below w.heap.size w W4) := Lib.hid (by have h4 := H4.out; rw [hs2]; exact h4)
        clear hs2 H4)
     | (have H4 : Hid (PaneR (w3.alloc (.cells #[.int .i64 wd, .int .i64 ad, .map (some (w.heap.size + 1)), .map (some w.heap.size)] 55)) p s r wd ad sm rw ∧ PaneR (w3.alloc (.cells #[.int .i64 wd, .int .i64 ad, .map (some (w.heap.size + 1)), .map (some w.heap.size)] 55)) w3.heap.size (w.heap.size + 1) w.heap.size wd ad sm [] ∧
            (∀ b ∈ pblocks w3.heap.size (w.heap.size + 1) w.heap.size [], w.heap.size ≤ b ∧ b < (w3.alloc (.cells #[.int .i64 wd, .int .i64 ad, .map (some (w.heap.size + 1)), .map (some w.heap.size)] 55)).heap.size) ∧ Below w.heap.size w (w3.alloc (.cells #[.int .i64 wd, .int .i64 ad, .map (some (w.heap.size + 1)), .map (some w.heap.size)] 55))) := Lib.hid (by
          have hz := Z3.out
          have hz1 : (w.alloc (.map #[] 0)).drew.heap.size = w.heap.size + 1 := by simp
          have hb1 : Below w.heap.size w (w.alloc (.map #[] 0)).drew := ((Below.refl w.heap.size w).alloc (Nat.le_refl _) _).drew
          have hb3 : Below w.heap.size w w3 := hb1.trans (B3.out.mono (by omega))
          have hb5 := hb3.alloc (o := .cells #[.int .i64 wd, .int .i64 ad, .map (some (w.heap.size + 1)), .map (some w.heap.size)] 55) (by omega)
          have b2 : Below w3.heap.size w3 (w3.alloc (.cells #[.int .i64 wd, .int .i64 ad, .map (some (w.heap.size + 1)), .map (some w.heap.size)] 55)) := (Below.refl _ _).alloc (Nat.le_refl _) _
          have m0 : Mp encS okS (w.alloc (.map #[] 0)).drew w.heap.size [] := (Mp.made w).fr (Fr.refl none' _).drew id
          have m3 := M3.out
          rw [hz1] at m3 hz
          refine ⟨H.out.bel hb5, ⟨Bk.new w3 [.int .i64 wd, .int .i64 ad, .map (some (w.heap.size + 1)), .map (some w.heap.size)] 55, m3.bel b2, (m0.bel B3.out).bel b2, (fun x hx => by cases hx), ?_⟩, fun b hb => ?_, hb5⟩
          · simp [pblocks]; omega
          · simp [pblocks] at hb ⊢; omega)
        generalize w3.alloc (.cells #[.int .i64 wd, .int .i64 ad, .map (some (w.heap.size + 1)), .map (some w.heap.size)] 55) = W4 at *
        clear M3 B3 Z3
        generalize w3.heap.size = c at *
        generalize w.heap.size + 1 = s2 at *
        obtain ⟨r2, hs2⟩ : ∃ r2, r2 = w.heap.size := ⟨_, rfl⟩
        have H5 : Hid (PaneR W4 p s r wd ad sm rw ∧ PaneR W4 c s2 r2 wd ad sm [] ∧ (∀ b ∈ pblocks c s2 r2 [], w.heap.size ≤ b ∧ b < W4.heap.size) ∧ Below w.heap.size w W4) := Lib.hid (by have h4 := H4.out; rw [hs2]; exact h4)
        clear hs2 H4)
  all_goals
    clear C1 C2 hmm hcc c0 c1 c2 c3 hplt
    obtain ⟨e0, e1, e2, e3⟩ := H5.out.1.cells
    go_wp2_with (at_range; refine wpList_range rfl _ rfl Try.underlying53 H5.out.1.rows rfl ?_; intro w5 rg5 b5 z5)
    go_frame
    have hK0 : CopyW w w5 p s r c s2 r2 W4.heap.size wd ad sm rw [] [] := by
      obtain ⟨q1, q2, q3, q4⟩ := H5.out
      exact ⟨q1.bel b5, q2.bel b5, ⟨by simp [mkeys], fun k => by simp [mget], fun k v l hk => by cases hk⟩, HLT.out, fun b hb => (q3 b hb).1, fun b hb e => by have := (q3 b hb).2; omega, q4.size, q4.trans (b5.mono q4.size)⟩
    clear e0 e1 e2 e3 b5 z5 H5 H
    generalize W4.heap.size = it at *
    go_loopw [] (fun wr => ∃ done left rw2, Rg encS okS wr r it (rowsM rw) left ∧ Hid ((done ++ left).Perm (rowsM rw)) ∧ CopyW w wr p s r c s2 r2 it wd ad sm rw rw2 done) (fun wr => wr.rangeLeft r it)
    case atStart => exact ⟨[], rowsM rw, [], rg5, Lib.hid (List.Perm.refl _), hK0⟩
    case round =>
      obtain ⟨done, left, rw2, hrg, HPm, hcw⟩ := hrel
      clear rg5 hK0
      go_wp2_with (at_next; refine wpList_next' Value.string (fun _ => rfl) rfl _ rfl hrg rfl ?_ ?_)
      · intro hl0
        subst hl0
        have hpm := HPm.out
        rw [List.append_nil] at hpm
        have HE : Hid (∃ rw2 done, done.Perm (rowsM rw) ∧ PaneR wr c s2 r2 wd ad sm rw2 ∧ RowsAs rw rw2 done ∧ (∀ b ∈ pblocks c s2 r2 rw2, w.heap.size ≤ b) ∧ Below w.heap.size w wr) := Lib.hid ⟨rw2, done, hpm, hcw.cp, hcw.as_, hcw.l2, hcw.bel⟩
        clear hpm HPm hrg hcw
        go_wp2_with fail
        go_ret
        obtain ⟨rw2', done', h⟩ := HE.out
        exact ⟨c, s2, r2, rw2', done', rfl, h⟩
      · intro k u more w3 hp hok hm hrg3 hf3 hz3 hen
        have hcw3 := hcw.next hf3
        obtain ⟨g, cap, rfl, hcell, _⟩ := hcw3.pr.rowAt HI.out hm
        have hll := HI.out.len k
        have HPm3 : Hid (((done ++ [(k, Value.slice (some ⟨g, 0, none⟩) (rowL rw k).length cap)]) ++ more).Perm (rowsM rw)) := Lib.hid ((by
          rw [List.append_assoc]
          exact List.Perm.append_left done hp.symm : ((done ++ [(k, Value.slice (some ⟨g, 0, none⟩) (rowL rw k).length cap)]) ++ more).Perm (done ++ left)).trans HPm.out)
        have hmes : w3.rangeLeft r it < wr.rangeLeft r it := by
          rw [hrg3.left_eq, hrg.left_eq, hp.length_eq]; simp
        have HM := Lib.hid hmes
        have hit3 : it < w3.heap.size := hrg3.lt
        have HOK := Lib.hid hok
        have hc1 : ∀ j, j < (rowL rw k).length → w3.drew.cell? ⟨g, 0 + j, none⟩ = some (.int .i64 ((rowL rw k).getD j 0)) := fun j hj => by
          obtain ⟨g', e, hc'⟩ := hcell j hj
          cases e
          rw [Nat.zero_add]; exact hc'
        have HC := Lib.hid (Try.slices_Clone_int g 0 (rowL rw k).length cap (rowL rw k) w3.drew (Nat.le_refl _) (by omega) hc1)
        rw [List.take_length] at HC
        have HRG3 := Lib.hid hrg3
        have HK3 := Lib.hid hcw3
        obtain ⟨f0, f1, f2, f3⟩ := hcw3.cp.cells
        clear hcell hmes hrg hcw HPm hp hok hm hrg3 hf3 hz3 hcw3 hll hc1
        go_wp2_with fail
        go_region_held3 (fun X => X.cell? ⟨c, 3, none⟩ = some (.map (some r2))) (first | assumption | go_keep)
          (first
            | (go_at_call 30
               (with_reducible refine HC.out.mono ?_)
               rintro e w4 ⟨v4, rfl, o4, n4, b4⟩
               have O4 := Lib.hid o4
               have N4 := Lib.hid n4
               have B4 := Lib.hid b4
               have hk4 : w4.cell? ⟨c, 3, none⟩ = some (.map (some r2)) := ((HK3.out.cp.fr (Fr.refl none' w3).drew (fun _ _ => id)).bel b4).cells.2.2.2
               have hms := ((HK3.out.cp.rows.fr (Fr.refl none' w3).drew id).bel b4).store (P := Try.prog) keyS Try.underlying53 (a := k) HOK.out v4
               obtain ⟨w6, hr6, m6, f6, z6⟩ := hms
               have hr7 : (Instr.mapUpdate 53 (.map (some r2)) (.string k) v4).run Try.prog w4 = .ok () w6 := hr6
               have M6 := Lib.hid m6
               have F6 := Lib.hid f6
               have hk6 : w6.cell? ⟨c, 3, none⟩ = some (.map (some r2)) := by
                 have nd := HK3.out.cp.nd
                 simp only [pblocks, List.nodup_cons, List.mem_cons, not_or] at nd
                 exact (((HK3.out.cp.bk.fr (Fr.refl none' w3).drew id).bel b4).fr f6 nd.1.2.1).cell 3
               clear o4 n4 b4 m6 f6 z6 hr6)
            | fail)
        have hb4 : Below w3.heap.size w3 w4 := ((Below.refl w3.heap.size w3).drew).trans B4.out
        have HK6 := Lib.hid (HK3.out.more (u := Value.slice (some ⟨g, 0, none⟩) (rowL rw k).length cap) hit3 hb4 O4.out N4.out M6.out F6.out)
        have HRG6 := Lib.hid ((HRG3.out.bel hb4).fr F6.out (fun e => by have := HK3.out.l1 r (by simp [pblocks]); have := HK3.out.l2 r2 (by simp [pblocks]); omega) (fun e => HK3.out.l3 r2 (by simp [pblocks]) e.symm))
        have HM6 : Hid (w6.rangeLeft r it < wr.rangeLeft r it) := Lib.hid (by rw [HRG6.out.left_eq, ← HRG3.out.left_eq]; exact HM.out)
        clear O4 N4 B4 M6 F6 hk4 hk6 hr7 hb4 HK3 HRG3 HM HC f0 f1 f2 f3 hen
        go_wp2_with fail
        exact ⟨⟨_, more, _, HRG6.out, HPm3, HK6.out⟩, HM6.out⟩
theorem copy_any (p : Nat) (B : List Nat) (wd ad : Int) (A : List Ad) (w : World) (h : PaneAt w p B wd ad A) :
    Calls Try.prog 14 #[.pointer (some ⟨p, 0, none⟩)] w fun e w' => ∃ c B', e = .returned (.pointer (some ⟨c, 0, none⟩)) ∧ PaneAt w' c B' wd ad A ∧ (∀ b ∈ B', w.heap.size ≤ b) ∧ Below w.heap.size w w' := by
  obtain ⟨s, r, sm, rw, rfl, h1, h2⟩ := h.ex
  have a1 := h.a1
  have a2 := h.a2
  refine (copy_walk p s r wd ad sm rw A w h1 h2 (by omega)).mono ?_
  rintro e w' ⟨c, s2, r2, rw2, done, rfl, hp, hc, ha, hb, hbel⟩
  exact ⟨c, pblocks c s2 r2 rw2, rfl, ⟨h.ok, h.w1, h.w2, h.a1, h.a2, s2, r2, sm, rw2, rfl, hc, ha.inv h2 hp⟩, hb, hbel⟩
end Go.Proofs.Ytdmcbndkfnlcjaa

/- slices.Clone of bytes; a map made with room; a disk that is copied, in the midst of it. Contract of (*disk.Disk).Copy. -/
import Derived.Test.YtemfnchiedepoaaDkOw
import Derived.Test.YtemfnchiedepoaaMapRange
import Derived.Test.YtemfnchiedepoaaRowG
import Derived.WalkSpells
import Derived.Lib.LazyBuf
import Derived.BigRegion
namespace Go.Proofs.Ytemfnchiedepoaa
open Go.RowKit Go.MapKept Go.Maps
set_option linter.unusedVariables false
theorem make_room (n : Nat) (w : World) : (Instr.makeMap 60 (some (.int .i64 (n : Int)))).run Try.prog w = .ok (.map (some w.heap.size)) (w.alloc (.map #[] 0)) := by
  simp [Instr.makeMap, asInt, asIntOf]
set_option maxRecDepth 100000 in
set_option maxHeartbeats 1000000 in
theorem clone_bytes (v : Value) (s : ByteArray) (w : World) (h : w.ownsRow 0 5 1 v s.size (bV s)) (hsz : s.size ≤ 5000000) :
    Calls Try.prog 41 #[v] w fun e w' => ∃ u, e = .returned u ∧ ByMk w w' u s := by
  obtain ⟨i0, hi0T, hz0, hz1, hz2⟩ := info_parts infoByte
  obtain ⟨sb, cap, hv, hle, hmx, hin, _⟩ := row_of_by h
  subst hv
  have HROW := Lib.hid (by_empty w)
  have HIN : Hid (ByIn (w.alloc (.cells #[] 5)) sb s) := Lib.hid (InW.fr hin (Fr.of_bel (S := none') ((Below.refl _ _).alloc (Nat.le_refl _) _)) (fun _ _ _ => id))
  have HN2 : Hid (s.size = s.data.toList.length) := Lib.hid (len_data s).symm
  have HLN : Hid (([] : List UInt8).length + s.data.toList.length ≤ 100000000) := Lib.hid (by rw [len_data]; simp; omega)
  have HBL := Lib.hid ((Below.refl w.heap.size w).alloc (Nat.le_refl _) (.cells #[] 5))
  unfold maxLen at hmx
  cases sb with
  | none =>
    have hz : s.size = 0 := by
      rcases hin with h' | ⟨B, off, e, _⟩
      · have := List.map_eq_nil_iff.1 h'
        rw [← len_data, this]; rfl
      · cases e
    have hes : s = ⟨#[]⟩ := by
      have : s.data.size = 0 := hz
      have := Array.eq_empty_of_size_eq_zero this
      cases s; simp_all
    have hcap : cap = 0 := by
      rcases h.2 with ⟨e, _⟩ | ⟨g, cp, cur, e, _⟩
      · rw [hz] at e; simp at e; exact e
      · cases e
    subst hes hcap
    clear h hin hz HIN HN2 HLN HROW
    have e0 : (⟨#[]⟩ : ByteArray).size = 0 := rfl
    rw [e0]
    have hq : (binOp .eql 28 (.slice none 0 0) (.slice none 0 0)).run Try.prog w = .ok (.bool true) w := by rw [run_eql_nil_slice w 28 5 none 0 0 0 0 Try.underlying28]; rfl
    go_enter Try.func41, Try.ntmps41
    go_wp2_with fail
    go_ret
    exact ⟨_, rfl, ByMk.nil w⟩
  | some a =>
    clear h hin
    generalize hn : s.size = n at *
    have Hn := Lib.hid hn
    clear hn
    have hq : (binOp .eql 28 (.slice (some a) n cap) (.slice none 0 0)).run Try.prog w = .ok (.bool false) w := by rw [Go.run_eql_slice_nil w 28 5 (some a) n cap Try.underlying28]; rfl
    go_enter Try.func41, Try.ntmps41
    go_wp2_with (
      (at_builtin
       refine wpList_append_big byV byOne _ rfl _ _ _ rfl 5 i0 _ 1 Try.underlying28 hi0T hz0 hz1 hz2 rfl (by decide) (.slice (some ⟨w.heap.size, 0, none⟩) 0 0) ([] : List UInt8) s.data.toList rfl HROW.out (some a) n cap rfl HN2.out HIN.out HLN.out ?_
       intro v2 w2 o2 f2 e2
       have HM := Lib.hid (by_made HBL.out (Nat.le_refl _) o2 f2 e2)
       obtain ⟨vb, vc, hvv⟩ := row_shape HM.out.tx
       subst hvv
       clear o2 f2 e2))
    go_ret
    exact ⟨_, rfl, HM.out⟩
/-- a copy under way -/
structure CpW (w0 wr : World) (d m c m2 it : Nat) (M M2 : FM) (used : Int) (lit : Bool) (fuse : Int) (down : Bool) (done : List (ByteArray × Value)) : Prop where
  src : DiskR wr d m M used lit fuse down
  cp : DiskR wr c m2 M2 used lit fuse down
  as_ : (∀ n, n ∈ done.map Prod.fst → (mget M2 n).map (·.2.2) = (mget M n).map (·.2.2)) ∧ ∀ n, n ∉ done.map Prod.fst → mget M2 n = none
  l1 : ∀ b ∈ dblocks d m M, b < w0.heap.size
  l2 : ∀ b ∈ dblocks c m2 M2, w0.heap.size ≤ b
  l3 : ∀ b ∈ dblocks c m2 M2, b ≠ it
  l4 : w0.heap.size ≤ it
  bel : Below w0.heap.size w0 wr
section
variable {w0 wr w' : World} {d m c m2 it : Nat} {M M2 : FM} {used : Int} {lit : Bool} {fuse : Int} {down : Bool} {done : List (ByteArray × Value)}
theorem CpW.next (h : CpW w0 wr d m c m2 it M M2 used lit fuse down done) (hf : Fr (fun b => b = it) wr w') : CpW w0 w' d m c m2 it M M2 used lit fuse down done :=
  ⟨h.src.fr hf (fun b hb e => by have := h.l1 b hb; have := h.l4; omega), h.cp.fr hf (fun b hb e => h.l3 b hb e), h.as_, h.l1, h.l2, h.l3, h.l4, h.bel.trans (hf.below h.bel.size (fun b e => by have := h.l4; omega))⟩
/-- a file more -/
theorem CpW.more {w1 : World} {k : ByteArray} {u v : Value} {q q2 : Nat} {v2 : Value} {g : Fl} (h : CpW w0 wr d m c m2 it M M2 used lit fuse down done) (hit : it < wr.heap.size) (hk : k ∉ done.map Prod.fst) (hg : mget M k = some (q, v, g))
    (hb : Below wr.heap.size wr w1) (hr : FileR w1 q2 v2 g) (hq : wr.heap.size ≤ q2) (hv : ∀ b, v2.ownBlock = some b → wr.heap.size ≤ b ∧ b ≠ q2)
    (m1 : Mp encS okS w' m2 (mput (ptrM M2) k (.pointer (some ⟨q2, 0, none⟩)))) (hf : Fr (fun b => b = m2) w1 w') : CpW w0 w' d m c m2 it M (mput M2 k (q2, v2, g)) used lit fuse down (done ++ [(k, u)]) := by
  have hno : mget M2 k = none := h.as_.2 k hk
  have hm2 : w0.heap.size ≤ m2 := h.l2 m2 (by simp [dblocks])
  obtain ⟨a1, a2⟩ := h.cp.add hno hb hr hq hv m1 hf
  have hs := h.bel.size
  refine ⟨(h.src.bel hb).fr hf (fun b hb' e => by have := h.l1 b hb'; omega), a1, ⟨fun n hn => ?_, fun n hn => ?_⟩, h.l1, fun b hb' => ?_, fun b hb' e => ?_, h.l4, (h.bel.trans (hb.mono hs)).trans (hf.below (Nat.le_trans hs hb.size) (fun b e => by omega))⟩
  · rw [get_put]
    by_cases e : k = n
    · subst e
      rw [if_pos rfl, hg]; rfl
    · rw [if_neg e]
      refine h.as_.1 n ?_
      rw [List.map_append, List.mem_append] at hn
      rcases hn with hn | hn
      · exact hn
      · simp at hn; exact absurd hn.symm e
  · rw [List.map_append, List.mem_append, not_or] at hn
    rw [get_put, if_neg (fun e => hn.2 (by simp [e]))]
    exact h.as_.2 n hn.1
  · rcases a2 b hb' with h' | h'
    · exact h.l2 b h'
    · omega
  · rcases a2 b hb' with h' | h'
    · exact h.l3 b h' e
    · omega
end
set_option maxRecDepth 100000 in
set_option maxHeartbeats 4000000 in
theorem copy_walk {w : World} {d m : Nat} {M : FM} {used : Int} {lit : Bool} {fuse : Int} {down : Bool} (h : DiskR w d m M used lit fuse down) (hml : M.length ≤ 1000000) (hok : ∀ x ∈ M, x.1.size ≤ 1000 ∧ x.2.2.2.s.size ≤ 5000000) :
    Calls Try.prog 25 #[.pointer (some ⟨d, 0, none⟩)] w fun e w' => ∃ c m2 M2, e = .returned (.pointer (some ⟨c, 0, none⟩)) ∧ DiskR w' c m2 M2 used lit fuse down ∧ (∀ n, (mget M2 n).map (·.2.2) = (mget M n).map (·.2.2)) ∧ (∀ b ∈ dblocks c m2 M2, w.heap.size ≤ b) ∧ Below w.heap.size w w' := by
  obtain ⟨c0, c1, c2, c3, c4⟩ := h.cells
  have hlt := h.lt
  have hdlt : d < w.heap.size := h.bk.lt
  have hln : ∀ ty, (Builtin.len_ #[60] ty #[.map (some m)]).run Try.prog w.drew = .ok (.int .i64 M.length) w.drew := fun ty => by
    have := (h.mp.fr (Fr.refl none' w).drew id).len (P := Try.prog) Try.underlying60 ty
    rw [show (ptrM M).length = M.length by simp [ptrM]] at this
    exact this
  have hmk := make_room M.length
  have H := Lib.hid h
  have HLT := Lib.hid hlt
  have HOK := Lib.hid hok
  have HKN := Lib.hid h.keys
  clear h hlt hok
  generalize hmn : M.length = mn at *
  clear hmn
  go_enter Try.func25, Try.ntmps25
  go_wp2_with fail
  go_region
  have H4 : Hid (DiskR ((w.alloc (.map #[] 0)).alloc (.cells #[.map (some w.heap.size), .int .i64 used, .bool lit, .int .i64 fuse, .bool down] 62)).drew d m M used lit fuse down ∧ DiskR ((w.alloc (.map #[] 0)).alloc (.cells #[.map (some w.heap.size), .int .i64 used, .bool lit, .int .i64 fuse, .bool down] 62)).drew (w.heap.size + 1) w.heap.size [] used lit fuse down ∧
      (∀ b ∈ dblocks (w.heap.size + 1) w.heap.size [], w.heap.size ≤ b ∧ b < ((w.alloc (.map #[] 0)).alloc (.cells #[.map (some w.heap.size), .int .i64 used, .bool lit, .int .i64 fuse, .bool down] 62)).drew.heap.size) ∧ Below w.heap.size w ((w.alloc (.map #[] 0)).alloc (.cells #[.map (some w.heap.size), .int .i64 used, .bool lit, .int .i64 fuse, .bool down] 62)).drew) := Lib.hid (by
    have b1 : Below w.heap.size w (w.alloc (.map #[] 0)) := (Below.refl _ _).alloc (Nat.le_refl _) _
    have b2 : Below (w.alloc (.map #[] 0)).heap.size (w.alloc (.map #[] 0)) ((w.alloc (.map #[] 0)).alloc (.cells #[.map (some w.heap.size), .int .i64 used, .bool lit, .int .i64 fuse, .bool down] 62)).drew := ((Below.refl _ _).alloc (Nat.le_refl _) _).drew
    refine ⟨(H.out.bel b1).bel b2, ⟨?_, (Mp.made w).bel b2, (fun x hx => by cases hx), ?_⟩, fun b hb => ?_, b1.trans (b2.mono (by simp))⟩
    · have := (Bk.new (w.alloc (.map #[] 0)) [.map (some w.heap.size), .int .i64 used, .bool lit, .int .i64 fuse, .bool down] 62)
      simpa using this.fr (Fr.refl none' _).drew id
    · simp [dblocks]
    · simp [dblocks] at hb ⊢; omega)
  generalize ((w.alloc (.map #[] 0)).alloc (.cells #[.map (some w.heap.size), .int .i64 used, .bool lit, .int .i64 fuse, .bool down] 62)).drew = W4 at *
  obtain ⟨c, hc⟩ : ∃ c, c = w.heap.size + 1 := ⟨_, rfl⟩
  obtain ⟨m2, hm2⟩ : ∃ m2, m2 = w.heap.size := ⟨_, rfl⟩
  have H5 : Hid (DiskR W4 d m M used lit fuse down ∧ DiskR W4 c m2 [] used lit fuse down ∧ (∀ b ∈ dblocks c m2 [], w.heap.size ≤ b ∧ b < W4.heap.size) ∧ Below w.heap.size w W4) := Lib.hid (by rw [hc, hm2]; exact H4.out)
  rw [← hc]
  clear hc hm2 H4 hln hmk c0 c1 c2 c3 c4 hdlt
  obtain ⟨e0, e1, e2, e3, e4⟩ := H5.out.1.cells
  go_wp2_with (at_range; refine wpList_range rfl _ rfl Try.underlying60 H5.out.1.mp rfl ?_; intro w5 rg5 b5 z5)
  go_frame
  have hK0 : CpW w w5 d m c m2 W4.heap.size M [] used lit fuse down [] := by
    obtain ⟨q1, q2, q3, q4⟩ := H5.out
    exact ⟨q1.bel b5, q2.bel b5, ⟨fun n hn => by simp at hn, fun n _ => rfl⟩, HLT.out, fun b hb => (q3 b hb).1, fun b hb e => by have := (q3 b hb).2; omega, q4.size, q4.trans (b5.mono q4.size)⟩
  clear e0 e1 e2 e3 e4 b5 z5 H5 H
  generalize W4.heap.size = it at *
  go_loopw [] (fun wr => ∃ done left M2, Rg encS okS wr m it (ptrM M) left ∧ Hid ((done ++ left).Perm (ptrM M)) ∧ CpW w wr d m c m2 it M M2 used lit fuse down done) (fun wr => wr.rangeLeft m it)
  case atStart => exact ⟨[], ptrM M, [], rg5, Lib.hid (List.Perm.refl _), hK0⟩
  case round =>
    obtain ⟨done, left, M2, hrg, HPm, hcw⟩ := hrel
    clear rg5 hK0
    go_wp2_with (at_next; refine wpList_next' Value.string (fun _ => rfl) rfl _ rfl hrg rfl ?_ ?_)
    · intro hl0
      subst hl0
      have hpm := HPm.out
      rw [List.append_nil] at hpm
      have HE : Hid (∃ m2' M2', DiskR wr c m2' M2' used lit fuse down ∧ (∀ n, (mget M2' n).map (·.2.2) = (mget M n).map (·.2.2)) ∧ (∀ b ∈ dblocks c m2' M2', w.heap.size ≤ b) ∧ Below w.heap.size w wr) := Lib.hid ⟨m2, M2, hcw.cp, fun n => by
        by_cases hn : n ∈ done.map Prod.fst
        · exact hcw.as_.1 n hn
        · rw [hcw.as_.2 n hn]
          have h2 : n ∉ mkeys M := fun c => hn (((hpm.map Prod.fst).mem_iff (a := n)).2 (by rw [show (ptrM M).map Prod.fst = mkeys M from ptr_keys M]; exact c))
          cases hg : mget M n with
          | none => rfl
          | some x => exact absurd (List.mem_map.2 ⟨(n, x), mem_of_get hg, rfl⟩) h2, hcw.l2, hcw.bel⟩
      clear hpm HPm hrg hcw
      go_wp2_with fail
      go_ret
      obtain ⟨m2', M2', h⟩ := HE.out
      exact ⟨c, rfl, m2', M2', h⟩
    · intro k0 u more w3 hp hok hm hrg3 hf3 hz3 hen
      have hcw3 := hcw.next hf3
      obtain ⟨⟨k, q, v, g⟩, hx, hxe⟩ := List.mem_map.1 hm
      cases hxe
      have hkd : k ∉ done.map Prod.fst := fun hc => by
        have h1 : ((done ++ left).map Prod.fst).Nodup := ((HPm.out.map Prod.fst).nodup_iff).2 (by rw [show (ptrM M).map Prod.fst = mkeys M from ptr_keys M]; exact HKN.out)
        rw [List.map_append, List.nodup_append] at h1
        exact h1.2.2 k hc k (List.mem_map.2 ⟨(k, Value.pointer (some ⟨q, 0, none⟩)), hp.mem_iff.2 (by simp), rfl⟩) rfl
      have hgk : mget M k = some (q, v, g) := get_of_mem HKN.out hx
      have hfr : FileR w3 q v g := hcw3.src.fl _ hx
      have hgz := (HOK.out _ hx).2
      have r0 : w3.cell? ⟨q, 0, none⟩ = some v := hfr.bk.cell 0
      have r1 : w3.cell? ⟨q, 1, none⟩ = some (.int .i64 g.lasts) := hfr.bk.cell 1
      have r2 : w3.cell? ⟨q, 2, none⟩ = some (.bool g.stays) := hfr.bk.cell 2
      obtain ⟨f0, f1, f2, f3, f4⟩ := hcw3.cp.cells
      have HC := Lib.hid (clone_bytes v g.s w3.drew ((Fr.refl none' w3).drew.row hfr.row (fun _ _ => id)) hgz)
      have HPm3 : Hid (((done ++ [(k, Value.pointer (some ⟨q, 0, none⟩))]) ++ more).Perm (ptrM M)) := Lib.hid ((by
        rw [List.append_assoc]
        exact List.Perm.append_left done hp.symm : ((done ++ [(k, Value.pointer (some ⟨q, 0, none⟩))]) ++ more).Perm (done ++ left)).trans HPm.out)
      have hmes : w3.rangeLeft m it < wr.rangeLeft m it := by
        rw [hrg3.left_eq, hrg.left_eq, hp.length_eq]; simp
      have HQM : Hid (¬ q = m2) := Lib.hid (fun e => by
        have h1 := HLT.out q (mem_fblocks hx).1
        have h2 := hcw3.l2 m2 (by simp [dblocks])
        omega)
      have HM := Lib.hid hmes
      have HIT := Lib.hid hrg3.lt
      have HKO := Lib.hid hok
      have HRG3 := Lib.hid hrg3
      have HK3 := Lib.hid hcw3
      have HKD := Lib.hid hkd
      have HGK := Lib.hid hgk
      have HFR := Lib.hid hfr
      have hk3 : w3.cell? ⟨c, 0, none⟩ = some (.map (some m2)) ∧ w3.cell? ⟨q, 0, none⟩ = some v ∧ w3.cell? ⟨q, 1, none⟩ = some (.int .i64 g.lasts) ∧ w3.cell? ⟨q, 2, none⟩ = some (.bool g.stays) := ⟨f0, r0, r1, r2⟩
      obtain ⟨vb, vc, hvv, _, _, _, _⟩ := row_of_by hfr.row
      subst hvv
      clear hmes hrg hcw HPm hp hok hm hrg3 hf3 hz3 hcw3 hx hkd hgk hfr hgz
      go_wp2_with fail
      go_region_held3 (fun X => X.cell? ⟨c, 0, none⟩ = some (.map (some m2)) ∧ X.cell? ⟨q, 0, none⟩ = some (.slice vb g.s.size vc) ∧ X.cell? ⟨q, 1, none⟩ = some (.int .i64 g.lasts) ∧ X.cell? ⟨q, 2, none⟩ = some (.bool g.stays)) (first | assumption | go_keep)
        (first
          | (go_at_call 41
             (with_reducible refine HC.out.mono ?_)
             rintro e w4 ⟨v4, rfl, mk4⟩
             obtain ⟨ub, uc, hv4, _, _, _, _⟩ := row_of_by mk4.tx
             have hbx : Below w4.heap.size w4 (w4.alloc (.cells #[v4, .int .i64 g.lasts, .bool g.stays] 67)) := (Below.refl _ _).alloc (Nat.le_refl _) _
             have hms := ((((HK3.out.cp.mp.fr (Fr.refl none' w3).drew id).bel mk4.bl)).bel hbx).store (P := Try.prog) keyS Try.underlying60 (a := k) HKO.out (.pointer (some ⟨w4.heap.size, 0, none⟩))
             obtain ⟨w6, hr6, m6, f6, z6⟩ := hms
             have hr7 : (Instr.mapUpdate 60 (.map (some m2)) (.string k) (.pointer (some ⟨w4.heap.size, 0, none⟩))).run Try.prog (w4.alloc (.cells #[v4, .int .i64 g.lasts, .bool g.stays] 67)) = .ok () w6 := hr6
             have M6 := Lib.hid m6
             have F6 := Lib.hid f6
             have MK4 := Lib.hid mk4
             have hk4 : w4.cell? ⟨c, 0, none⟩ = some (.map (some m2)) ∧ w4.cell? ⟨q, 0, none⟩ = some (.slice vb g.s.size vc) ∧ w4.cell? ⟨q, 1, none⟩ = some (.int .i64 g.lasts) ∧ w4.cell? ⟨q, 2, none⟩ = some (.bool g.stays) := by
               have a1 := ((HK3.out.cp.fr (Fr.refl none' w3).drew (fun _ _ => id)).bel mk4.bl).cells.1
               have a2 := (HFR.out.bk.fr (Fr.refl none' w3).drew id).bel mk4.bl
               exact ⟨a1, a2.cell 0, a2.cell 1, a2.cell 2⟩
             have hk6 : w6.cell? ⟨c, 0, none⟩ = some (.map (some m2)) ∧ w6.cell? ⟨q, 0, none⟩ = some (.slice vb g.s.size vc) ∧ w6.cell? ⟨q, 1, none⟩ = some (.int .i64 g.lasts) ∧ w6.cell? ⟨q, 2, none⟩ = some (.bool g.stays) := by
               have nd := HK3.out.cp.nd
               simp only [dblocks, List.nodup_cons, List.mem_cons, not_or] at nd
               have a1 := (((HK3.out.cp.bk.fr (Fr.refl none' w3).drew id).bel mk4.bl).bel hbx).fr f6 nd.1.1
               have a2 := (((HFR.out.bk.fr (Fr.refl none' w3).drew id).bel mk4.bl).bel hbx).fr f6 HQM.out
               exact ⟨a1.cell 0, a2.cell 0, a2.cell 1, a2.cell 2⟩
             subst hv4
             clear mk4 m6 f6 z6 hr6 hbx)
          | fail)
      have hb3 : Below w3.heap.size w3 w4 := ((Below.refl w3.heap.size w3).drew).trans MK4.out.bl
      have hbx : Below w4.heap.size w4 (w4.alloc (.cells #[.slice ub g.s.size uc, .int .i64 g.lasts, .bool g.stays] 67)) := (Below.refl _ _).alloc (Nat.le_refl _) _
      have hnew : FileR (w4.alloc (.cells #[.slice ub g.s.size uc, .int .i64 g.lasts, .bool g.stays] 67)) w4.heap.size (.slice ub g.s.size uc) g := ⟨Bk.new w4 [.slice ub g.s.size uc, .int .i64 g.lasts, .bool g.stays] 67, (Fr.of_bel (S := none') hbx).row MK4.out.tx (fun _ _ => id)⟩
      have HK6 := Lib.hid (HK3.out.more (u := Value.pointer (some ⟨q, 0, none⟩)) HIT.out HKD.out HGK.out (hb3.trans (hbx.mono hb3.size)) hnew hb3.size (fun b hb => ⟨MK4.out.nw b hb, fun e => by have := own_lt MK4.out.tx hb; omega⟩) M6.out F6.out)
      have HRG6 := Lib.hid ((HRG3.out.bel (hb3.trans (hbx.mono hb3.size))).fr F6.out (fun e => by have := HK3.out.l1 m (by simp [dblocks]); have := HK3.out.l2 m2 (by simp [dblocks]); omega) (fun e => HK3.out.l3 m2 (by simp [dblocks]) e.symm))
      have HM6 : Hid (w6.rangeLeft m it < wr.rangeLeft m it) := Lib.hid (by rw [HRG6.out.left_eq, ← HRG3.out.left_eq]; exact HM.out)
      clear MK4 M6 F6 hk4 hk6 hr7 hb3 hbx hnew HK3 HRG3 HM HC f0 f1 f2 f3 f4 hen r0 r1 r2 hk3 HFR
      go_wp2_with fail
      exact ⟨⟨_, more, _, HRG6.out, HPm3, HK6.out⟩, HM6.out⟩
end Go.Proofs.Ytemfnchiedepoaa

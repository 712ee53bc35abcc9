/- Contract of Append of a disk. -/
import Derived.Test.YtemfnchiedepoaaDk2
import Derived.Test.YtemfnchiedepoaaRowB
namespace Go.Proofs.Ytemfnchiedepoaa
open Go.RowKit Go.MapKept Go.Maps
set_option linter.unusedVariables false
theorem byOne (c : UInt8) : (byV c).oneCell' = true := rfl
theorem infoByte : (Try.prog.info? 5).map (fun i => (i.zero, i.size, i.bytes)) = some (some (.int .u8 0), 1, 1) := by kernel_rfl
/-- bytes of a slice -/
def ByIn (w : World) (b : Option Addr) (s : ByteArray) : Prop := InW w b 1 (s.data.toList.map fun c => [byV c])
theorem len_data (s : ByteArray) : s.data.toList.length = s.size := by simp
theorem row_by {w : World} {v : Value} {s : ByteArray} (h : w.ownsRow 0 5 1 v s.size (bV s)) : w.ownsRow 0 5 1 v s.data.toList.length (s.data.toList.map byV) := by rw [len_data]; exact h
theorem row_cat {w : World} {v : Value} {s t : ByteArray} (h : w.ownsRow 0 5 1 v (s.data.toList ++ t.data.toList).length ((s.data.toList ++ t.data.toList).map byV)) : w.ownsRow 0 5 1 v (catB s t).size (bV (catB s t)) := by
  have e : (catB s t).data.toList = s.data.toList ++ t.data.toList := by simp [catB]
  rw [size_cat, bV, e]
  rw [List.length_append, len_data, len_data] at h
  exact h
theorem row_of_by {w : World} {v : Value} {s : ByteArray} (h : w.ownsRow 0 5 1 v s.size (bV s)) : ∃ b cap, v = .slice b s.size cap ∧ s.size ≤ cap ∧ cap ≤ maxLen ∧ ByIn w b s ∧ ∀ k o, b = some ⟨k, o, none⟩ → v.ownBlock = some k := by
  obtain ⟨b, cap, h1, h2, h3, h4, _⟩ := inw_of_row byV (row_by h)
  rw [len_data] at h1 h2
  refine ⟨b, cap, h1, h2, h3, h4, fun k o hb => ?_⟩
  rcases h.2 with ⟨e, _⟩ | ⟨g, c, cur, e, _, _⟩
  · rw [h1] at e
    simp only [Value.slice.injEq] at e
    rw [e.1] at hb; cases hb
  · rw [h1] at e
    simp only [Value.slice.injEq] at e
    rw [h1, e.1]
    rw [e.1] at hb
    cases hb
    rfl
theorem row_shape {w : World} {e : TypeId} {sz : Nat} {v : Value} {n : Nat} {xs : List Value} (h : w.ownsRow 0 e sz v n xs) : ∃ b c, v = .slice b n c := by
  rcases h.2 with ⟨rfl, rfl⟩ | ⟨g, cap, cur, rfl, _⟩
  · exact ⟨none, 0, rfl⟩
  · exact ⟨_, _, rfl⟩
section
variable {w : World} {d m : Nat} {M : FM} {used : Int} {lit : Bool} {fuse : Int} {down : Bool}
theorem DiskR.apart (h : DiskR w d m M used lit fuse down) {n : ByteArray} {q : Nat} {v : Value} {g : Fl} (hg : mget M n = some (q, v, g)) : d ≠ m ∧ q ≠ d ∧ q ≠ m ∧ ∀ b, v.ownBlock = some b → b ≠ d ∧ b ≠ m ∧ b ≠ q := by
  have hm := mem_of_get hg
  have nd := h.nd
  obtain ⟨M1, M2, e1, _, _⟩ := split_get hg
  rw [e1] at nd
  have hB : dblocks d m (M1 ++ (n, (q, v, g)) :: M2) = d :: m :: (M1.flatMap fblocks ++ (q :: (v.ownBlock.toList ++ M2.flatMap fblocks))) := by simp [dblocks, fblocks]
  rw [hB] at nd
  simp only [List.nodup_cons, List.mem_cons, List.mem_append, not_or, List.nodup_append] at nd
  obtain ⟨⟨n1, n2, n3, n4⟩, ⟨n5, n6, n7⟩, n8, ⟨n9, n10⟩, n11⟩ := nd
  refine ⟨n1, fun e => n3 e.symm, fun e => n6 e.symm, fun b hb => ⟨fun e => n4.1 (by rw [← e, hb]; simp), fun e => n7.1 (by rw [← e, hb]; simp), fun e => n9.1 (by rw [← e, hb]; simp)⟩⟩
set_option maxRecDepth 100000 in
set_option maxHeartbeats 4000000 in
theorem append_yes (h : DiskR w d m M used lit fuse down) (n s : ByteArray) (sb : Option Addr) (cap : Nat) (hn : n.size ≤ 1000) (hs : ByIn w sb s) (hsb : ∀ k o, sb = some ⟨k, o, none⟩ → k ∉ dblocks d m M) (hsz : s.size ≤ 5000000) (hu : -10000000 ≤ used ∧ used ≤ 10000000) (hfl : ((flOf M n).getD emptyF).s.size ≤ 5000000) (hml : M.length ≤ 1000000)
    (hf : 0 ≤ fuse ∧ fuse ≤ 9223372036854775807) (ha : askN down n = 0) (hfu : fullN used s.size (mget M n).isSome M.length = false) :
    Calls Try.prog 13 #[.pointer (some ⟨d, 0, none⟩), .string n, .slice sb s.size cap] w fun e w' => ∃ M', e = .returned (.int .i64 (if lit && decide (fuse = 0) then 8 else 0)) ∧
      DiskR w' d m M' (used + s.size) lit (if lit && decide (0 < fuse) then fuse - 1 else fuse) (down || (lit && decide (fuse = 0))) ∧ (∀ k, flOf M' k = if n = k then some { (flOf M n).getD emptyF with s := catB ((flOf M n).getD emptyF).s s } else flOf M k) ∧ Fr (fun b => b ∈ dblocks d m M) w w' ∧ ∀ b ∈ dblocks d m M', b ∈ dblocks d m M ∨ w.heap.size ≤ b := by
  obtain ⟨i0, hi0T, hz0, hz1, hz2⟩ := info_parts infoByte
  have hA := asked_any h n hn
  rw [ha] at hA
  have hF := full_any h n s.size hn hu (by omega) hml
  rw [hfu] at hF
  have HA := Lib.hid hA
  have HF := Lib.hid hF
  have FI := Lib.hid (file_any h n hn)
  have H := Lib.hid h
  have HS := Lib.hid hs
  have HSB := Lib.hid hsb
  have hmB : m ∈ dblocks d m M := by simp [dblocks]
  have hdB : d ∈ dblocks d m M := by simp [dblocks]
  generalize hg : (flOf M n).getD emptyF = g at *
  have hlen : ([] : List UInt8).length = 0 := rfl
  clear h hA hF ha hfu hs hsb hg hml hlen
  obtain ⟨rv, hrv⟩ : ∃ rv : Int, (if lit && decide (fuse = 0) then (8 : Int) else 0) = rv := ⟨_, rfl⟩
  obtain ⟨fu2, hfu2⟩ : ∃ rv : Int, (if lit && decide (0 < fuse) then fuse - 1 else fuse) = rv := ⟨_, rfl⟩
  obtain ⟨dn2, hdn2⟩ : ∃ rv : Bool, (down || (lit && decide (fuse = 0))) = rv := ⟨_, rfl⟩
  rw [hrv, hfu2, hdn2]
  have HRV := Lib.hid hrv
  have HFU2 := Lib.hid hfu2
  have HDN2 := Lib.hid hdn2
  clear hrv hfu2 hdn2
  go_enter Try.func13, Try.ntmps13
  go_wp2_with fail
  refine HA.out.mono ?_
  rintro e wx ⟨rfl, rfl⟩
  go_wp2_with fail
  refine HF.out.mono ?_
  rintro e wx ⟨rfl, rfl⟩
  go_wp2_with fail
  refine FI.out.mono ?_
  rintro e w1 ⟨q, v, M1, rfl, h1, g1, k1, s1, f1⟩
  clear HA HF FI
  have hap := h1.apart g1
  have hfr : FileR w1 q v g := h1.fl _ (mem_of_get g1)
  have r0 : w1.cell? ⟨q, 0, none⟩ = some v := hfr.bk.cell 0
  have r0f := hfr.bk.free 0
  have hs1 : ByIn w1 sb s := InW.fr HS.out f1 (fun k o hk e => HSB.out k o hk (e ▸ hmB))
  have HS1 := Lib.hid hs1
  have H1 := Lib.hid h1
  have HG1 := Lib.hid g1
  have HK1 := Lib.hid k1
  have HSP1 := Lib.hid s1
  have HF1 := Lib.hid f1
  have HAP := Lib.hid hap
  have HFR := Lib.hid hfr
  have HROW : Hid (w1.ownsRow 0 5 1 v g.s.data.toList.length (g.s.data.toList.map byV)) := Lib.hid (row_by hfr.row)
  have HLN : Hid (g.s.data.toList.length + s.data.toList.length ≤ 100000000) := Lib.hid (by rw [len_data, len_data]; omega)
  have HN2 : Hid (s.size = s.data.toList.length) := Lib.hid (len_data s).symm
  have hqlt := hfr.bk.lt
  have hdlt := h1.bk.lt
  have q1 : IntKind.i64.wrap (used + (s.size : Int)) = used + s.size := IntWalk.i64_in _ (by omega)
  clear h1 g1 k1 s1 f1 hs1 hap hfr
  go_wp2_with (
    (at_builtin
     refine wpList_append_big byV byOne _ rfl _ _ _ rfl 5 i0 _ 1 Try.underlying28 hi0T hz0 hz1 hz2 rfl (by decide) v g.s.data.toList s.data.toList rfl HROW.out sb s.size cap rfl HN2.out HS1.out HLN.out ?_
     intro v2 w2 o2 f2 e2
     have o3 := row_cat o2
     have hb2 : Bk w2 q [v, .int .i64 g.lasts, .bool g.stays] 67 := HFR.out.bk.fr f2 (fun c => (HAP.out.2.2.2 q c).2.2 rfl)
     have p0 : w2.cell? ⟨q, 0, none⟩ = some v := hb2.cell 0
     have p0f := hb2.free 0
     have hlt2 : q < w2.heap.size := hb2.lt
     obtain ⟨vb, vc, hvv⟩ := row_shape o3
     subst hvv
     have hb3 : Bk (w2.setCell ⟨q, 0, none⟩ (.slice vb (catB g.s s).size vc)) q [.slice vb (catB g.s s).size vc, .int .i64 g.lasts, .bool g.stays] 67 := hb2.set 0 _
     have hf23 : Fr (fun b => b = q) w2 (w2.setCell ⟨q, 0, none⟩ (.slice vb (catB g.s s).size vc)) := (Fr.refl (fun b => b = q) w2).setCell q 0 _ (.inr rfl)
     have hv2 : (Value.slice vb (catB g.s s).size vc).ownBlock = v.ownBlock ∨ ∃ b, (Value.slice vb (catB g.s s).size vc).ownBlock = some b ∧ w1.heap.size ≤ b := e2.imp id (fun e => ⟨_, e, Nat.le_refl _⟩)
     have hr3 : FileR (w2.setCell ⟨q, 0, none⟩ (.slice vb (catB g.s s).size vc)) q (.slice vb (catB g.s s).size vc) { g with s := catB g.s s } := ⟨hb3, hf23.row o3 (fun b hb c => by
       rcases hv2 with e | ⟨b', e, hge⟩
       · exact (HAP.out.2.2.2 b (by rw [← e]; exact hb)).2.2 c
       · have := Option.some.inj (e.symm.trans hb); have := HFR.out.bk.lt; omega)⟩
     have hf13 : Fr (fun b => b = q ∨ v.ownBlock = some b) w1 (w2.setCell ⟨q, 0, none⟩ (.slice vb (catB g.s s).size vc)) := (f2.mono (T := fun b => b = q ∨ v.ownBlock = some b) (fun _ _ e => .inr e)).trans hf23 (fun _ _ e => .inl e)
     have hset := H1.out.set HG1.out hf13 hr3 hv2
     have hown := hset.1.own (w' := (w2.setCell ⟨q, 0, none⟩ (.slice vb (catB g.s s).size vc)).setCell ⟨d, 1, none⟩ (.int .i64 (used + s.size))) (hset.1.bk.set 1 (.int .i64 (used + s.size))) ((Fr.refl (fun b => b = d) _).setCell d 1 _ (.inr rfl))
     have HOWN := Lib.hid hown
     have HSP3 := Lib.hid hset.2
     have HF13 := Lib.hid (hf13)
     have u1 : (w2.setCell ⟨q, 0, none⟩ (.slice vb (catB g.s s).size vc)).cell? ⟨d, 1, none⟩ = some (.int .i64 used) := hset.1.bk.cell 1
     have u1f : (w2.setCell ⟨q, 0, none⟩ (.slice vb (catB g.s s).size vc)).frozen? ⟨d, 1, none⟩ = false := hset.1.bk.free 1
     have x1 : w2.cell? ⟨d, 1, none⟩ = some (.int .i64 used) := (H1.out.bk.fr f2 (fun c => (HAP.out.2.2.2 d c).1 rfl)).cell 1
     have x1f := (H1.out.bk.fr f2 (fun c => (HAP.out.2.2.2 d c).1 rfl)).free 1
     have hdlt2 : d < w2.heap.size := (H1.out.bk.fr f2 (fun c => (HAP.out.2.2.2 d c).1 rfl)).lt
     clear o2 f2 e2 o3 hb2 hb3 hf23 hv2 hr3 hf13 hset hown))
  have hdq : ¬ d = q := fun e => HAP.out.2.1 e.symm
  obtain ⟨W4, hW4⟩ : ∃ W4, (w2.setCell ⟨q, 0, none⟩ (.slice vb (catB g.s s).size vc)).setCell ⟨d, 1, none⟩ (.int .i64 (used + s.size)) = W4 := ⟨_, rfl⟩
  rw [hW4] at HOWN
  have HW4 := Lib.hid hW4
  have s4 := step_any HOWN.out hf
  rw [HFU2.out, HDN2.out] at s4
  have S4 := Lib.hid s4
  clear s4
  have hq1 := (mem_fblocks (d := d) (m := m) (mem_of_get HG1.out)).1
  have hq2 := (mem_fblocks (d := d) (m := m) (mem_of_get HG1.out)).2
  have HFW : Hid (Fr (fun b => b ∈ dblocks d m M) w W4) := Lib.hid (by
    have a1 : Fr (fun b => b ∈ dblocks d m M) w w1 := HF1.out.mono (fun b _ e => e ▸ hmB)
    have a2 := a1.trans HF13.out (fun b hb e => by
      have hin : b ∈ dblocks d m M1 := by
        rcases e with rfl | e
        · exact hq1
        · exact hq2 b e
      rcases HSP1.out b hin with h | h
      · exact h
      · omega)
    have a3 : Fr (fun b => b = d) (w2.setCell ⟨q, 0, none⟩ (.slice vb (catB g.s s).size vc)) W4 := by rw [← hW4]; exact (Fr.refl (fun b => b = d) _).setCell d 1 _ (.inr rfl)
    exact a2.trans a3 (fun b _ e => e ▸ hdB))
  have HSPW : Hid (∀ b ∈ dblocks d m (mput M1 n (q, .slice vb (catB g.s s).size vc, { g with s := catB g.s s })), b ∈ dblocks d m M ∨ w.heap.size ≤ b) := Lib.hid (fun b hb => by
    rcases HSP3.out b hb with h | h
    · exact HSP1.out b h
    · have := HF1.out.size; exact .inr (by omega))
  have HFL : Hid (∀ k, flOf (mput M1 n (q, .slice vb (catB g.s s).size vc, { g with s := catB g.s s })) k = if n = k then some { g with s := catB g.s s } else flOf M k) := Lib.hid (fun k => by
    unfold flOf
    rw [get_put]
    by_cases e : n = k
    · rw [if_pos e, if_pos e]; rfl
    · rw [if_neg e, if_neg e, HK1.out k e])
  clear hW4 hq1 hq2 HF1 HF13 HSP1 HSP3 HK1 hdq
  rw [HW4.out]
  refine S4.out.mono ?_
  rintro e w5 ⟨rfl, h5, f5⟩
  have H5 := Lib.hid h5
  have HF5 := Lib.hid (HFW.out.trans f5 (fun b _ e => e ▸ hdB))
  clear h5 f5 S4
  cases hst : (lit && decide (fuse = 0)) with
  | true =>
    have hr8 : rv = 8 := by rw [← HRV.out, hst]; rfl
    subst hr8
    have e1 : (!lit || !decide (fuse = 0)) = false := by
      cases lit
      · cases hst
      · simp at hst; simp [hst]
    rw [e1]
    clear e1 hst
    go_wp2_with fail
    go_ret
    exact ⟨mput M1 n (q, .slice vb (catB g.s s).size vc, { g with s := catB g.s s }), rfl, H5.out, HFL.out, HF5.out, HSPW.out⟩
  | false =>
    have hr8 : rv = 0 := by rw [← HRV.out, hst]; rfl
    subst hr8
    have e1 : (!lit || !decide (fuse = 0)) = true := by
      cases lit
      · rfl
      · simp at hst; simp [hst]
    rw [e1]
    clear e1 hst
    go_wp2_with fail
    go_ret
    exact ⟨mput M1 n (q, .slice vb (catB g.s s).size vc, { g with s := catB g.s s }), rfl, H5.out, HFL.out, HF5.out, HSPW.out⟩
end
end Go.Proofs.Ytemfnchiedepoaa

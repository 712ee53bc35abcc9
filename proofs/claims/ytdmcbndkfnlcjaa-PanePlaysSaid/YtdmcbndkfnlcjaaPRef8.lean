/- Contract of the document's Merge. -/
import Derived.Test.YtdmcbndkfnlcjaaPRef7
namespace Go.Proofs.Ytdmcbndkfnlcjaa
open Go.RowKit Go.MapKept Go.Maps
set_option linter.unusedVariables false
set_option maxRecDepth 100000 in
set_option maxHeartbeats 1000000 in
theorem rmerge_no (p o : Nat) (v v2 : Value) (wd wd2 ad ad2 : Int) (A A2 : List Ad) (w : World) (h : RefAt w p v wd ad A) (h2 : RefAt w o v2 wd2 ad2 A2) (hno : wd ≠ wd2 ∨ 1048576 < ad + ad2) :
    Calls Try.prog 23 #[.pointer (some ⟨p, 0, none⟩), .pointer (some ⟨o, 0, none⟩)] w fun e w' => e = .returned (.bool false) ∧ ∃ q, w' = w.drewN q := by
  have a1 := h.a1
  have a2 := h.a2
  have a3 := h2.a1
  have a4 := h2.a2
  obtain ⟨c0, c1, c2⟩ := h.cells
  obtain ⟨d0, d1, d2⟩ := h2.cells
  have q2 : IntKind.i64.wrap (ad + ad2) = ad + ad2 := IntWalk.i64_in _ (by omega)
  clear h h2
  by_cases hw : wd = wd2
  · subst hw
    have q1 : decide (1048576 < ad + ad2) = true := decide_eq_true (by rcases hno with h | h; exact absurd rfl h; exact h)
    have q3 : (wd != wd) = false := by simp
    go_enter Try.func23, Try.ntmps23
    go_wp2_with fail
    go_quiet (fail)
    go_wp2_with fail
    go_ret
    exact ⟨rfl, nq, rfl⟩
  · have q3 : (wd == wd2) = false := by simpa using hw
    have q4 : (wd != wd2) = true := by simpa using hw
    clear hno hw
    go_enter Try.func23, Try.ntmps23
    go_wp2_with fail
    go_quiet (fail)
    go_wp2_with fail
    go_ret
    exact ⟨rfl, nq, rfl⟩
set_option maxRecDepth 100000 in
set_option maxHeartbeats 4000000 in
theorem rmerge_yes (p o : Nat) (v v2 : Value) (wd ad ad2 : Int) (A A2 : List Ad) (w : World) (h : RefAt w p v wd ad A) (h2 : RefAt w o v2 wd ad2 A2) (hne : p ≠ o) (hsum : ad + ad2 ≤ 1048576) (hl1 : A.length ≤ 1000) (hl2 : A2.length ≤ 1000) :
    Calls Try.prog 23 #[.pointer (some ⟨p, 0, none⟩), .pointer (some ⟨o, 0, none⟩)] w fun e w' => e = .returned (.bool true) ∧ ∃ v', RefAt w' p v' wd (ad + ad2) (A ++ A2) ∧ (∀ b, v'.ownBlock = some b → w.heap.size ≤ b) ∧ Fr (fun b => b = p) w w' := by
  obtain ⟨bv, cv, rfl, _, _, hvi, _⟩ := inw_of_rowm adLen (by omega) h.row
  obtain ⟨bo, co, rfl, _, _, hoi, _⟩ := inw_of_rowm adLen (by omega) h2.row
  obtain ⟨i0, hi0, hz0, hz1, hz2⟩ := info_parts infoSum
  have a1 := h.a1
  have a2 := h.a2
  have a3 := h2.a1
  have a4 := h2.a2
  obtain ⟨c0, c1, c2⟩ := h.cells
  obtain ⟨d0, d1, d2⟩ := h2.cells
  have hpl := h.bk.lt
  have hol := h2.bk.lt
  have q1 : decide (1048576 < ad + ad2) = false := decide_eq_false (by omega)
  have q2 : IntKind.i64.wrap (ad + ad2) = ad + ad2 := IntWalk.i64_in _ (by omega)
  have q3 : (wd != wd) = false := by simp
  have H := Lib.hid h
  have H2 := Lib.hid h2
  have HVI := Lib.hid hvi
  have HOI := Lib.hid hoi
  clear h h2 hvi hoi
  generalize hal : A.length = al at *
  have HAL := Lib.hid hal
  generalize hal2 : A2.length = al2 at *
  have HAL2 := Lib.hid hal2
  clear hal hal2
  go_enter Try.func23, Try.ntmps23
  go_wp2_with fail
  go_quiet (fail)
  clear q1
  go_wp2_with fail
  have HC : Hid (∀ W, Fr (fun b => w.heap.size ≤ b) w W → Bk W p [.int .i64 wd, .slice bv al cv, .int .i64 ad] 50 ∧ Bk W o [.int .i64 wd, .slice bo al2 co, .int .i64 ad2] 50) := Lib.hid (fun W hF => by
    refine ⟨H.out.bk.fr hF (by omega), H2.out.bk.fr hF (by omega)⟩)
  obtain ⟨V, hV⟩ : ∃ V, w.drewN nq = V := ⟨_, rfl⟩
  have HV := Lib.hid hV
  have hFV : Fr (fun b => w.heap.size ≤ b) w V := by rw [← hV]; exact (Fr.refl _ w).drewN nq
  have hvz : V.heap.size = w.heap.size := by rw [← hV]; rfl
  have HFV := Lib.hid hFV
  have HVZ := Lib.hid hvz
  rw [hV]
  have hkV := HC.out V hFV
  have x1 := hkV.1.cell 1
  have x2 := hkV.2.cell 1
  clear hV hFV hvz c0 c1 c2 d0 d1 d2
  have HVI' : Hid (∀ W, Fr (fun b => V.heap.size ≤ b) V W → InW W bv 3 (A.map adC) ∧ InW W bo 3 (A2.map adC)) := Lib.hid (fun W hF => by
    have hF' : Fr (fun b => w.heap.size ≤ b) w W := HFV.out.trans hF (fun b _ e => by have := HVZ.out; omega)
    exact ⟨inw_fr HVI.out hF', inw_fr HOI.out hF'⟩)
  have HK : Hid (∀ W, Fr (fun b => V.heap.size ≤ b) V W → W.cell? ⟨p, 1, none⟩ = some (.slice bv al cv) ∧ W.cell? ⟨o, 1, none⟩ = some (.slice bo al2 co) ∧ W.frozen? ⟨p, 1, none⟩ = false) := Lib.hid (fun W hF => by
    have hF' : Fr (fun b => w.heap.size ≤ b) w W := HFV.out.trans hF (fun b _ e => by have := HVZ.out; omega)
    have hk := HC.out W hF'
    exact ⟨hk.1.cell 1, hk.2.cell 1, hk.1.free 1⟩)
  have HL1 : Hid (([] : List Ad).length + A.length ≤ 1000000) := Lib.hid (by have := HAL.out; simp; omega)
  have HL2 : Hid (([] ++ A : List Ad).length + A2.length ≤ 1000000) := Lib.hid (by have := HAL.out; have := HAL2.out; simp; omega)
  have s1 := (HK.out _ (((fr_new V).alloc (.cells #[] 70)).drew)).1
  have s2 := (HK.out _ (((fr_new V).alloc (.cells #[] 70)).drew)).2.1
  have hpv : p < V.heap.size := by have := HVZ.out; omega
  have hov : o < V.heap.size := by have := HVZ.out; omega
  clear hkV
  go_region_law (first
    | (refine step_append_m adLen adOne (by rfl) (.tmp 27) (.tmp 31) _ (by rfl) 70 i0 _ 32 Try.underlying48 hi0 hz0 hz1 hz2 rfl (by decide) (by omega) (.slice (some ⟨V.heap.size, 0, none⟩) 0 0) [] A (by rfl) (row_empty ((Bk.new V [] 70).fr (Fr.refl none' _).drew id)) bv al cv (by rfl) HAL.out.symm (HVI'.out _ (((fr_new V).alloc (.cells #[] 70)).drew)).1 HL1.out ?_
       intro v5 w5 o5 f5 h5
       have O5 := Lib.hid o5
       have hfa := fr_append (((fr_new V).alloc (.cells #[] 70)).drew) (own_at (by omega)) f5 h5
       have FR5 := Lib.hid hfa.1
       have N5 := Lib.hid hfa.2
       have k5 := HK.out _ hfa.1
       obtain ⟨y1, y2, y3⟩ := k5
       clear o5 f5 h5 hfa)
    | (refine step_append_m adLen adOne (by rfl) (.tmp 32) (.tmp 36) _ (by rfl) 70 i0 _ 32 Try.underlying48 hi0 hz0 hz1 hz2 rfl (by decide) (by omega) v5 ([] ++ A) A2 (by rfl) O5.out bo al2 co (by rfl) HAL2.out.symm (HVI'.out _ FR5.out).2 HL2.out ?_
       intro v6 w6 o6 f6 h6
       have O6 := Lib.hid o6
       have hfa := fr_append FR5.out N5.out f6 h6
       have FR6 := Lib.hid hfa.1
       have N6 := Lib.hid hfa.2
       have k6 := HK.out _ hfa.1
       obtain ⟨z1, z2, z3⟩ := k6
       have hv6 := inw_of_rowm adLen (by omega) o6
       obtain ⟨b6, c6, hv6, _, _, _, hn6⟩ := hv6
       generalize hl6 : (([] ++ A) ++ A2 : List Ad).length = l6 at hv6
       have HL6 := Lib.hid hl6
       subst hv6
       clear o6 f6 h6 hfa hl6 hn6)
    | fail)
  all_goals
    have hF6 : Fr (fun b => w.heap.size ≤ b) w w6 := HFV.out.trans FR6.out (fun b _ e => by have := HVZ.out; omega)
    have hk6 := HC.out w6 hF6
    have HK6 := Lib.hid hk6
    have HF6 := Lib.hid hF6
    have e1 : (w6.setCell ⟨p, 1, none⟩ (.slice b6 l6 c6)).cell? ⟨p, 2, none⟩ = some (.int .i64 ad) := (hk6.1.set 1 _).cell 2
    have e2 : (w6.setCell ⟨p, 1, none⟩ (.slice b6 l6 c6)).cell? ⟨o, 2, none⟩ = some (.int .i64 ad2) := (hk6.2.other p 1 _ (fun e => hne e.symm)).cell 2
    have e3 : (w6.setCell ⟨p, 1, none⟩ (.slice b6 l6 c6)).frozen? ⟨p, 2, none⟩ = false := (hk6.1.set 1 _).free 2
    clear hF6 hk6 s1 s2 x1 x2
    have HFIN : Hid (∃ v', RefAt ((w6.setCell ⟨p, 1, none⟩ (.slice b6 l6 c6)).setCell ⟨p, 2, none⟩ (.int .i64 (ad + ad2))).drew p v' wd (ad + ad2) (A ++ A2) ∧ (∀ b, v'.ownBlock = some b → w.heap.size ≤ b) ∧ Fr (fun b => b = p) w ((w6.setCell ⟨p, 1, none⟩ (.slice b6 l6 c6)).setCell ⟨p, 2, none⟩ (.int .i64 (ad + ad2))).drew) := Lib.hid (by
      have hn : ∀ b, (Value.slice b6 l6 c6).ownBlock = some b → w.heap.size ≤ b := fun b hb => by have := N6.out b hb; have := HVZ.out; omega
      have fm : Fr (fun b => b = p) w6 ((w6.setCell ⟨p, 1, none⟩ (.slice b6 l6 c6)).setCell ⟨p, 2, none⟩ (.int .i64 (ad + ad2))).drew := (((Fr.refl (fun b => b = p) w6).setCell p 1 _ (.inr rfl)).setCell p 2 _ (.inr rfl)).drew
      refine ⟨.slice b6 l6 c6, ⟨((HK6.out.1.set 1 _).set 2 _).fr (Fr.refl none' _).drew id, ?_, fun e => by have := hn p e; omega, H.out.w1, H.out.w2, ?_, hsum, fun x hx => ?_⟩, hn, ?_⟩
      · have := O6.out
        rw [List.nil_append] at this
        exact fm.row this (fun b hb e => by have := hn b hb; omega)
      · have := HAL.out; have := HAL2.out; simp; omega
      · rcases List.mem_append.1 hx with h | h
        · exact H.out.ok x h
        · exact H2.out.ok x h
      · exact (Fr.of_bel (HF6.out.below (Nat.le_refl _) (fun _ h => h))).trans fm (fun _ _ e => e))
    generalize w6.setCell ⟨p, 1, none⟩ (.slice b6 l6 c6) = W at *
    go_wp2_with fail
    go_still_tail 12, (by kernel_rfl)
    change wpList _ _ _ _ _ W.drew
    have e1' : W.drew.cell? ⟨p, 2, none⟩ = some (.int .i64 ad) := e1
    have e3' : W.drew.frozen? ⟨p, 2, none⟩ = false := e3
    go_wp2_with fail
    go_ret
    exact ⟨rfl, HFIN.out⟩
end Go.Proofs.Ytdmcbndkfnlcjaa

/- Contracts of package disk: Replace. Printed by genDk6.py. -/
import Derived.Test.YtemfnchiedepoaaDk5
namespace Go.Proofs.Ytemfnchiedepoaa
open Go.RowKit Go.MapKept Go.Maps
set_option linter.unusedVariables false
theorem by_some {w1 : World} {k c : Nat} {v : Value} (hk : k ≤ w1.heap.size) (he : Hence (.slice (some ⟨k, 0, none⟩) 0 c) v w1) : ∃ b, v.ownBlock = some b ∧ k ≤ b := by
  rcases he with e | e
  · exact ⟨k, e, Nat.le_refl _⟩
  · exact ⟨_, e, hk⟩
section
variable {w : World} {d m : Nat} {M : FM} {used : Int} {lit : Bool} {fuse : Int} {down : Bool}
set_option maxRecDepth 100000 in
set_option maxHeartbeats 1000000 in
theorem replace_no (h : DiskR w d m M used lit fuse down) (n : ByteArray) (hn : n.size ≤ 1000) (sv : Value) (r : Int) (hr : askN down n = r) (hz : r ≠ 0) :
    Calls Try.prog 19 #[.pointer (some ⟨d, 0, none⟩), .string n, sv] w fun e w' => e = .returned (.int .i64 r) ∧ w = w' := by
  have ha := asked_any h n hn
  rw [hr] at ha
  have HA := Lib.hid ha
  have hin : -100 ≤ r ∧ r ≤ 100 := hr ▸ ask_in _ _
  have t1 : (r == 0) = false := by simp [hz]
  clear h hr ha
  go_enter Try.func19, Try.ntmps19
  go_wp2_with fail
  refine HA.out.mono ?_
  rintro e wx ⟨rfl, rfl⟩
  go_wp2_with fail
  go_ret
  exact ⟨rfl, rfl⟩
set_option maxRecDepth 100000 in
set_option maxHeartbeats 4000000 in
theorem replace_full_old (h : DiskR w d m M used lit fuse down) (n s : ByteArray) (sb : Option Addr) (cap : Nat) (hn : n.size ≤ 1000) {q : Nat} {v : Value} {g : Fl} (hg : mget M n = some (q, v, g)) (hgs : g.s.size ≤ 5000000) (hsz : s.size ≤ 5000000) (hu : -10000000 ≤ used ∧ used ≤ 10000000) (hml : M.length ≤ 1000000) (ha : askN down n = 0) (hfu : fullN used (s.size - g.s.size : Int) true M.length = true) :
    Calls Try.prog 19 #[.pointer (some ⟨d, 0, none⟩), .string n, .slice sb s.size cap] w fun e w' => e = .returned (.int .i64 5) ∧ w = w' := by
  have hfr : FileR w q v g := h.fl _ (mem_of_get hg)
  obtain ⟨vb, vc, hvv⟩ := row_shape hfr.row
  subst hvv
  have r0 : w.cell? ⟨q, 0, none⟩ = some (.slice vb g.s.size vc) := hfr.bk.cell 0
  have hlt := hfr.bk.lt
  have hlk := h.look n hn
  rw [hg] at hlk
  have hlk' : (Instr.lookup 60 (.map (some m)) (.string n) true).run Try.prog w = .ok (.tuple #[.pointer (some ⟨q, 0, none⟩), .bool true]) w := hlk
  have hfl : (flOf M n).getD emptyF = g := by unfold flOf; rw [hg]; rfl
  have qm : IntKind.i64.wrap ((s.size : Int) - (g.s.size : Int)) = s.size - g.s.size := IntWalk.i64_in _ (by omega)
  have qu : IntKind.i64.wrap (used + ((s.size : Int) - (g.s.size : Int))) = used + (s.size - g.s.size) := IntWalk.i64_in _ (by omega)
  clear hlk hfr
  obtain ⟨c0, c1, c2, c3, c4⟩ := h.cells
  have hA := asked_any h n hn
  rw [ha] at hA
  have hF := full_any h n (s.size - g.s.size : Int) hn hu (by omega) hml
  rw [hg] at hF
  rw [show (some (q, Value.slice vb g.s.size vc, g) : Option (Nat × Value × Fl)).isSome = true from rfl, hfu] at hF
  have HA := Lib.hid hA
  have HF := Lib.hid hF
  clear h hA hF ha hfu hg hml hfl
  go_enter Try.func19, Try.ntmps19
  go_wp2_with fail
  refine HA.out.mono ?_
  rintro e wx ⟨rfl, rfl⟩
  go_wp2_with fail
  refine HF.out.mono ?_
  rintro e wx ⟨rfl, rfl⟩
  go_wp2_with fail
  go_ret
  exact ⟨rfl, rfl⟩
set_option maxRecDepth 100000 in
set_option maxHeartbeats 4000000 in
theorem replace_stop_old (h : DiskR w d m M used lit fuse down) (n s : ByteArray) (sb : Option Addr) (cap : Nat) (hn : n.size ≤ 1000) {q : Nat} {v : Value} {g : Fl} (hg : mget M n = some (q, v, g)) (hgs : g.s.size ≤ 5000000) (hsz : s.size ≤ 5000000) (hu : -10000000 ≤ used ∧ used ≤ 10000000) (hml : M.length ≤ 1000000) (ha : askN down n = 0) (hfu : fullN used (s.size - g.s.size : Int) true M.length = false) (hst : (lit && decide (fuse = 0)) = true) :
    Calls Try.prog 19 #[.pointer (some ⟨d, 0, none⟩), .string n, .slice sb s.size cap] w fun e w' => e = .returned (.int .i64 8) ∧ DiskR w' d m M used lit fuse true ∧ Fr (fun b => b = d) w w' := by
  have hfr : FileR w q v g := h.fl _ (mem_of_get hg)
  obtain ⟨vb, vc, hvv⟩ := row_shape hfr.row
  subst hvv
  have r0 : w.cell? ⟨q, 0, none⟩ = some (.slice vb g.s.size vc) := hfr.bk.cell 0
  have hlt := hfr.bk.lt
  have hlk := h.look n hn
  rw [hg] at hlk
  have hlk' : (Instr.lookup 60 (.map (some m)) (.string n) true).run Try.prog w = .ok (.tuple #[.pointer (some ⟨q, 0, none⟩), .bool true]) w := hlk
  have hfl : (flOf M n).getD emptyF = g := by unfold flOf; rw [hg]; rfl
  have qm : IntKind.i64.wrap ((s.size : Int) - (g.s.size : Int)) = s.size - g.s.size := IntWalk.i64_in _ (by omega)
  have qu : IntKind.i64.wrap (used + ((s.size : Int) - (g.s.size : Int))) = used + (s.size - g.s.size) := IntWalk.i64_in _ (by omega)
  clear hlk hfr
  obtain ⟨c0, c1, c2, c3, c4⟩ := h.cells
  have hA := asked_any h n hn
  rw [ha] at hA
  have hF := full_any h n (s.size - g.s.size : Int) hn hu (by omega) hml
  rw [hg] at hF
  rw [show (some (q, Value.slice vb g.s.size vc, g) : Option (Nat × Value × Fl)).isSome = true from rfl, hfu] at hF
  have HA := Lib.hid hA
  have HF := Lib.hid hF
  have HS := Lib.hid (step_stop h hst)
  clear h hA hF ha hfu hg hml hfl hst
  go_enter Try.func19, Try.ntmps19
  go_wp2_with fail
  refine HA.out.mono ?_
  rintro e wx ⟨rfl, rfl⟩
  go_wp2_with fail
  refine HF.out.mono ?_
  rintro e wx ⟨rfl, rfl⟩
  go_wp2_with fail
  refine HS.out.mono ?_
  rintro e w1 ⟨rfl, h1, f1⟩
  have H1 := Lib.hid h1
  have F1 := Lib.hid f1
  clear h1 f1
  go_wp2_with fail
  go_ret
  exact ⟨rfl, H1.out, F1.out⟩
set_option maxRecDepth 100000 in
set_option maxHeartbeats 4000000 in
theorem replace_yes_old (h : DiskR w d m M used lit fuse down) (n s : ByteArray) (sb : Option Addr) (cap : Nat) (hn : n.size ≤ 1000) {q : Nat} {v : Value} {g : Fl} (hg : mget M n = some (q, v, g)) (hgs : g.s.size ≤ 5000000) (hsz : s.size ≤ 5000000) (hu : -10000000 ≤ used ∧ used ≤ 10000000) (hml : M.length ≤ 1000000) (ha : askN down n = 0) (hs : ByIn w sb s) (hsb : ∀ k o, sb = some ⟨k, o, none⟩ → k ∉ dblocks d m M) (hfu : fullN used (s.size - g.s.size : Int) true M.length = false) (hf : 0 ≤ fuse ∧ fuse ≤ 9223372036854775807) (hst : (lit && decide (fuse = 0)) = false) :
    Calls Try.prog 19 #[.pointer (some ⟨d, 0, none⟩), .string n, .slice sb s.size cap] w fun e w' => ∃ M', e = .returned (.int .i64 0) ∧ DiskR w' d m M' (used + (s.size - g.s.size : Int)) lit (fuB lit fuse) down ∧ (∀ k, flOf M' k = if n = k then some ⟨s, s.size, true⟩ else flOf M k) ∧ Fr (fun b => b ∈ dblocks d m M) w w' ∧ ∀ b ∈ dblocks d m M', b ∈ dblocks d m M ∨ w.heap.size ≤ b := by
  have hfr : FileR w q v g := h.fl _ (mem_of_get hg)
  obtain ⟨vb, vc, hvv⟩ := row_shape hfr.row
  subst hvv
  have r0 : w.cell? ⟨q, 0, none⟩ = some (.slice vb g.s.size vc) := hfr.bk.cell 0
  have hlt := hfr.bk.lt
  have hlk := h.look n hn
  rw [hg] at hlk
  have hlk' : (Instr.lookup 60 (.map (some m)) (.string n) true).run Try.prog w = .ok (.tuple #[.pointer (some ⟨q, 0, none⟩), .bool true]) w := hlk
  have hfl : (flOf M n).getD emptyF = g := by unfold flOf; rw [hg]; rfl
  have qm : IntKind.i64.wrap ((s.size : Int) - (g.s.size : Int)) = s.size - g.s.size := IntWalk.i64_in _ (by omega)
  have qu : IntKind.i64.wrap (used + ((s.size : Int) - (g.s.size : Int))) = used + (s.size - g.s.size) := IntWalk.i64_in _ (by omega)
  clear hlk hfr
  obtain ⟨c0, c1, c2, c3, c4⟩ := h.cells
  have hA := asked_any h n hn
  rw [ha] at hA
  have hF := full_any h n (s.size - g.s.size : Int) hn hu (by omega) hml
  rw [hg] at hF
  rw [show (some (q, Value.slice vb g.s.size vc, g) : Option (Nat × Value × Fl)).isSome = true from rfl, hfu] at hF
  have HA := Lib.hid hA
  have HF := Lib.hid hF
  obtain ⟨i0, hi0T, hz0, hz1, hz2⟩ := info_parts infoByte
  have HS := Lib.hid (step_go h hf hst)
  have HIN := Lib.hid hs
  have HSB := Lib.hid hsb
  have hmB : m ∈ dblocks d m M := by simp [dblocks]
  have hdB : d ∈ dblocks d m M := by simp [dblocks]
  have HFL := Lib.hid hfl
  clear h hA hF ha hfu hg hml hfl hst hs hsb
  go_enter Try.func19, Try.ntmps19
  go_wp2_with fail
  refine HA.out.mono ?_
  rintro e wx ⟨rfl, rfl⟩
  go_wp2_with fail
  refine HF.out.mono ?_
  rintro e wx ⟨rfl, rfl⟩
  go_wp2_with fail
  refine HS.out.mono ?_
  rintro e w1 ⟨rfl, h1, f1⟩
  have FI := Lib.hid (file_any h1 n hn)
  have F1 := Lib.hid f1
  have IN1 : Hid (ByIn w1 sb s) := Lib.hid (InW.fr HIN.out f1 (fun k o hk e => HSB.out k o hk (e ▸ hdB)))
  clear h1 f1 HA HF HS HIN
  go_wp2_with fail
  refine FI.out.mono ?_
  rintro e w2 ⟨q2, v2, M2, rfl, h2, g2, k2, s2, f2⟩
  rw [HFL.out] at g2
  have IN2 : ByIn w2 sb s := InW.fr IN1.out f2 (fun k o hk e => HSB.out k o hk (e ▸ hmB))
  have HAP := Lib.hid (h2.apart g2)
  have hqd : ¬ q2 = d := HAP.out.2.1
  have hdq : ¬ d = q2 := fun e => hqd e.symm
  have hb3 := (Below.refl w2.heap.size w2).alloc (Nat.le_refl _) (.cells #[] 5)
  have HBL := Lib.hid hb3
  have HROW := Lib.hid (by_empty w2)
  have HIN3 : Hid (ByIn (w2.alloc (.cells #[] 5)) sb s) := Lib.hid (InW.fr IN2 (Fr.of_bel (S := none') hb3) (fun _ _ _ => id))
  have HN2 : Hid (s.size = s.data.toList.length) := Lib.hid (len_data s).symm
  have HLN : Hid (([] : List UInt8).length + s.data.toList.length ≤ 100000000) := Lib.hid (by rw [len_data]; simp; omega)
  have H2 := Lib.hid h2
  have HG2 := Lib.hid g2
  have HK2 := Lib.hid k2
  have HSP2 := Lib.hid s2
  have F2 := Lib.hid f2
  clear h2 g2 k2 s2 f2 IN2 IN1 hb3 FI
  go_wp2_with (
    (at_builtin
     refine wpList_append_big byV byOne _ rfl _ _ _ rfl 5 i0 _ 1 Try.underlying28 hi0T hz0 hz1 hz2 rfl (by decide) (.slice (some ⟨w2.heap.size, 0, none⟩) 0 0) ([] : List UInt8) s.data.toList rfl HROW.out sb s.size cap rfl HN2.out HIN3.out HLN.out ?_
     intro u w3 o3 f3 e3
     have hM := by_made HBL.out (Nat.le_refl _) o3 f3 e3
     have hus := by_some (by simp) e3
     obtain ⟨ub, uc, huu⟩ := row_shape hM.tx
     subst huu
     have h3 := H2.out.bel hM.bl
     have hfr3 : FileR w3 q2 v2 g := h3.fl _ (mem_of_get HG2.out)
     have p0 : w3.cell? ⟨q2, 0, none⟩ = some v2 := hfr3.bk.cell 0
     have p1 : w3.cell? ⟨q2, 1, none⟩ = some (.int .i64 (g).lasts) := hfr3.bk.cell 1
     have p2 : w3.cell? ⟨q2, 2, none⟩ = some (.bool (g).stays) := hfr3.bk.cell 2
     have p0f := hfr3.bk.free 0
     have p1f := hfr3.bk.free 1
     have p2f := hfr3.bk.free 2
     have d1 : w3.cell? ⟨d, 1, none⟩ = some (.int .i64 used) := h3.bk.cell 1
     have d1f := h3.bk.free 1
     have hq3 := hfr3.bk.lt
     have hd3 := h3.bk.lt
     obtain ⟨w4, hw4⟩ : ∃ w4, ((w3.setCell ⟨q2, 0, none⟩ (.slice ub s.size uc)).setCell ⟨q2, 1, none⟩ (.int .i64 s.size)).setCell ⟨q2, 2, none⟩ (.bool true) = w4 := ⟨_, rfl⟩
     have hb4 : Bk w4 q2 [.slice ub s.size uc, .int .i64 s.size, .bool true] 67 := by
       rw [← hw4]
       exact ((hfr3.bk.set 0 (.slice ub s.size uc)).set 1 (.int .i64 s.size)).set 2 (.bool true)
     have hf34 : Fr (fun b => b = q2) w3 w4 := by
       rw [← hw4]
       exact (((Fr.refl (fun b => b = q2) w3).setCell q2 0 _ (.inr rfl)).setCell q2 1 _ (.inr rfl)).setCell q2 2 _ (.inr rfl)
     have hf24 : Fr (fun b => b = q2 ∨ v2.ownBlock = some b) w2 w4 := (Fr.of_bel (S := fun b => b = q2 ∨ v2.ownBlock = some b) hM.bl).trans hf34 (fun _ _ e => .inl e)
     have hq2lt : q2 < w2.heap.size := by
       have hfr2 : FileR w2 q2 v2 g := H2.out.fl _ (mem_of_get HG2.out)
       exact hfr2.bk.lt
     have hr4 : FileR w4 q2 (.slice ub s.size uc) ⟨s, s.size, true⟩ := ⟨hb4, hf34.row hM.tx (fun b hb e => by have := hM.nw b hb; omega)⟩
     have hset := H2.out.set HG2.out hf24 hr4 (.inr hus)
     have hdd : Bk (w4.setCell ⟨d, 1, none⟩ (.int .i64 (used + (s.size - g.s.size : Int)))) d _ 62 := hset.1.bk.set 1 (.int .i64 (used + (s.size - g.s.size : Int)))
     have hff : Fr (fun b => b = d) w4 (w4.setCell ⟨d, 1, none⟩ (.int .i64 (used + (s.size - g.s.size : Int)))) := (Fr.refl (fun b => b = d) _).setCell d 1 _ (.inr rfl)
     have HOWN := Lib.hid (hset.1.own hdd hff)
     have HSP4 := Lib.hid hset.2
     have HF24 := Lib.hid hf24
     have HFF := Lib.hid hff
     have HW4 := Lib.hid hw4
     clear o3 f3 e3 hM hus h3 hfr3 hb4 hf34 hf24 hr4 hset hdd hff hw4))
  go_ret
  rw [HW4.out]
  refine ⟨mput M2 n (q2, .slice ub s.size uc, ⟨s, s.size, true⟩), rfl, HOWN.out, fun k => ?_, ?_, fun b hb => ?_⟩
  · unfold flOf
    rw [get_put]
    by_cases e : n = k
    · rw [if_pos e, if_pos e]; rfl
    · rw [if_neg e, if_neg e, HK2.out k e]
  · have a1 : Fr (fun b => b ∈ dblocks d m M) w w2 := (F1.out.mono (fun b _ e => e ▸ hdB)).trans F2.out (fun b _ e => e ▸ hmB)
    have a2 := a1.trans HF24.out (fun b hb e => by
      have hin : b ∈ dblocks d m M2 := by
        rcases e with rfl | e
        · exact (mem_fblocks (d := d) (m := m) (mem_of_get HG2.out)).1
        · exact (mem_fblocks (d := d) (m := m) (mem_of_get HG2.out)).2 b e
      rcases HSP2.out b hin with h | h
      · exact h
      · have := F1.out.size; omega)
    exact a2.trans HFF.out (fun b _ e => e ▸ hdB)
  · have z1 := F1.out.size
    have z2 := F2.out.size
    rcases HSP4.out b hb with h | h
    · rcases HSP2.out b h with h | h
      · exact .inl h
      · exact .inr (by omega)
    · exact .inr (by omega)
set_option maxRecDepth 100000 in
set_option maxHeartbeats 4000000 in
theorem replace_full_new (h : DiskR w d m M used lit fuse down) (n s : ByteArray) (sb : Option Addr) (cap : Nat) (hn : n.size ≤ 1000) (hg : mget M n = none) (hsz : s.size ≤ 5000000) (hu : -10000000 ≤ used ∧ used ≤ 10000000) (hml : M.length ≤ 1000000) (ha : askN down n = 0) (hfu : fullN used (s.size : Int) false M.length = true) :
    Calls Try.prog 19 #[.pointer (some ⟨d, 0, none⟩), .string n, .slice sb s.size cap] w fun e w' => e = .returned (.int .i64 5) ∧ w = w' := by
  have hlk := h.look n hn
  rw [hg] at hlk
  have hlk' : (Instr.lookup 60 (.map (some m)) (.string n) true).run Try.prog w = .ok (.tuple #[.pointer none, .bool false]) w := hlk
  have hfl : (flOf M n).getD emptyF = emptyF := by unfold flOf; rw [hg]; rfl
  have qu : IntKind.i64.wrap (used + (s.size : Int)) = used + s.size := IntWalk.i64_in _ (by omega)
  have qm : IntKind.i64.wrap (s.size : Int) = s.size := IntWalk.i64_in _ (by omega)
  clear hlk
  obtain ⟨c0, c1, c2, c3, c4⟩ := h.cells
  have hA := asked_any h n hn
  rw [ha] at hA
  have hF := full_any h n (s.size : Int) hn hu (by omega) hml
  rw [hg] at hF
  rw [show (none : Option (Nat × Value × Fl)).isSome = false from rfl, hfu] at hF
  have HA := Lib.hid hA
  have HF := Lib.hid hF
  clear h hA hF ha hfu hg hml hfl
  go_enter Try.func19, Try.ntmps19
  go_wp2_with fail
  refine HA.out.mono ?_
  rintro e wx ⟨rfl, rfl⟩
  go_wp2_with fail
  refine HF.out.mono ?_
  rintro e wx ⟨rfl, rfl⟩
  go_wp2_with fail
  go_ret
  exact ⟨rfl, rfl⟩
set_option maxRecDepth 100000 in
set_option maxHeartbeats 4000000 in
theorem replace_stop_new (h : DiskR w d m M used lit fuse down) (n s : ByteArray) (sb : Option Addr) (cap : Nat) (hn : n.size ≤ 1000) (hg : mget M n = none) (hsz : s.size ≤ 5000000) (hu : -10000000 ≤ used ∧ used ≤ 10000000) (hml : M.length ≤ 1000000) (ha : askN down n = 0) (hfu : fullN used (s.size : Int) false M.length = false) (hst : (lit && decide (fuse = 0)) = true) :
    Calls Try.prog 19 #[.pointer (some ⟨d, 0, none⟩), .string n, .slice sb s.size cap] w fun e w' => e = .returned (.int .i64 8) ∧ DiskR w' d m M used lit fuse true ∧ Fr (fun b => b = d) w w' := by
  have hlk := h.look n hn
  rw [hg] at hlk
  have hlk' : (Instr.lookup 60 (.map (some m)) (.string n) true).run Try.prog w = .ok (.tuple #[.pointer none, .bool false]) w := hlk
  have hfl : (flOf M n).getD emptyF = emptyF := by unfold flOf; rw [hg]; rfl
  have qu : IntKind.i64.wrap (used + (s.size : Int)) = used + s.size := IntWalk.i64_in _ (by omega)
  have qm : IntKind.i64.wrap (s.size : Int) = s.size := IntWalk.i64_in _ (by omega)
  clear hlk
  obtain ⟨c0, c1, c2, c3, c4⟩ := h.cells
  have hA := asked_any h n hn
  rw [ha] at hA
  have hF := full_any h n (s.size : Int) hn hu (by omega) hml
  rw [hg] at hF
  rw [show (none : Option (Nat × Value × Fl)).isSome = false from rfl, hfu] at hF
  have HA := Lib.hid hA
  have HF := Lib.hid hF
  have HS := Lib.hid (step_stop h hst)
  clear h hA hF ha hfu hg hml hfl hst
  go_enter Try.func19, Try.ntmps19
  go_wp2_with fail
  refine HA.out.mono ?_
  rintro e wx ⟨rfl, rfl⟩
  go_wp2_with fail
  refine HF.out.mono ?_
  rintro e wx ⟨rfl, rfl⟩
  go_wp2_with fail
  refine HS.out.mono ?_
  rintro e w1 ⟨rfl, h1, f1⟩
  have H1 := Lib.hid h1
  have F1 := Lib.hid f1
  clear h1 f1
  go_wp2_with fail
  go_ret
  exact ⟨rfl, H1.out, F1.out⟩
set_option maxRecDepth 100000 in
set_option maxHeartbeats 4000000 in
theorem replace_yes_new (h : DiskR w d m M used lit fuse down) (n s : ByteArray) (sb : Option Addr) (cap : Nat) (hn : n.size ≤ 1000) (hg : mget M n = none) (hsz : s.size ≤ 5000000) (hu : -10000000 ≤ used ∧ used ≤ 10000000) (hml : M.length ≤ 1000000) (ha : askN down n = 0) (hs : ByIn w sb s) (hsb : ∀ k o, sb = some ⟨k, o, none⟩ → k ∉ dblocks d m M) (hfu : fullN used (s.size : Int) false M.length = false) (hf : 0 ≤ fuse ∧ fuse ≤ 9223372036854775807) (hst : (lit && decide (fuse = 0)) = false) :
    Calls Try.prog 19 #[.pointer (some ⟨d, 0, none⟩), .string n, .slice sb s.size cap] w fun e w' => ∃ M', e = .returned (.int .i64 0) ∧ DiskR w' d m M' (used + (s.size : Int)) lit (fuB lit fuse) down ∧ (∀ k, flOf M' k = if n = k then some ⟨s, s.size, true⟩ else flOf M k) ∧ Fr (fun b => b ∈ dblocks d m M) w w' ∧ ∀ b ∈ dblocks d m M', b ∈ dblocks d m M ∨ w.heap.size ≤ b := by
  have hlk := h.look n hn
  rw [hg] at hlk
  have hlk' : (Instr.lookup 60 (.map (some m)) (.string n) true).run Try.prog w = .ok (.tuple #[.pointer none, .bool false]) w := hlk
  have hfl : (flOf M n).getD emptyF = emptyF := by unfold flOf; rw [hg]; rfl
  have qu : IntKind.i64.wrap (used + (s.size : Int)) = used + s.size := IntWalk.i64_in _ (by omega)
  have qm : IntKind.i64.wrap (s.size : Int) = s.size := IntWalk.i64_in _ (by omega)
  clear hlk
  obtain ⟨c0, c1, c2, c3, c4⟩ := h.cells
  have hA := asked_any h n hn
  rw [ha] at hA
  have hF := full_any h n (s.size : Int) hn hu (by omega) hml
  rw [hg] at hF
  rw [show (none : Option (Nat × Value × Fl)).isSome = false from rfl, hfu] at hF
  have HA := Lib.hid hA
  have HF := Lib.hid hF
  obtain ⟨i0, hi0T, hz0, hz1, hz2⟩ := info_parts infoByte
  have HS := Lib.hid (step_go h hf hst)
  have HIN := Lib.hid hs
  have HSB := Lib.hid hsb
  have hmB : m ∈ dblocks d m M := by simp [dblocks]
  have hdB : d ∈ dblocks d m M := by simp [dblocks]
  have HFL := Lib.hid hfl
  clear h hA hF ha hfu hg hml hfl hst hs hsb
  go_enter Try.func19, Try.ntmps19
  go_wp2_with fail
  refine HA.out.mono ?_
  rintro e wx ⟨rfl, rfl⟩
  go_wp2_with fail
  refine HF.out.mono ?_
  rintro e wx ⟨rfl, rfl⟩
  go_wp2_with fail
  refine HS.out.mono ?_
  rintro e w1 ⟨rfl, h1, f1⟩
  have FI := Lib.hid (file_any h1 n hn)
  have F1 := Lib.hid f1
  have IN1 : Hid (ByIn w1 sb s) := Lib.hid (InW.fr HIN.out f1 (fun k o hk e => HSB.out k o hk (e ▸ hdB)))
  clear h1 f1 HA HF HS HIN
  go_wp2_with fail
  refine FI.out.mono ?_
  rintro e w2 ⟨q2, v2, M2, rfl, h2, g2, k2, s2, f2⟩
  rw [HFL.out] at g2
  have IN2 : ByIn w2 sb s := InW.fr IN1.out f2 (fun k o hk e => HSB.out k o hk (e ▸ hmB))
  have HAP := Lib.hid (h2.apart g2)
  have hqd : ¬ q2 = d := HAP.out.2.1
  have hdq : ¬ d = q2 := fun e => hqd e.symm
  have hb3 := (Below.refl w2.heap.size w2).alloc (Nat.le_refl _) (.cells #[] 5)
  have HBL := Lib.hid hb3
  have HROW := Lib.hid (by_empty w2)
  have HIN3 : Hid (ByIn (w2.alloc (.cells #[] 5)) sb s) := Lib.hid (InW.fr IN2 (Fr.of_bel (S := none') hb3) (fun _ _ _ => id))
  have HN2 : Hid (s.size = s.data.toList.length) := Lib.hid (len_data s).symm
  have HLN : Hid (([] : List UInt8).length + s.data.toList.length ≤ 100000000) := Lib.hid (by rw [len_data]; simp; omega)
  have H2 := Lib.hid h2
  have HG2 := Lib.hid g2
  have HK2 := Lib.hid k2
  have HSP2 := Lib.hid s2
  have F2 := Lib.hid f2
  clear h2 g2 k2 s2 f2 IN2 IN1 hb3 FI
  go_wp2_with (
    (at_builtin
     refine wpList_append_big byV byOne _ rfl _ _ _ rfl 5 i0 _ 1 Try.underlying28 hi0T hz0 hz1 hz2 rfl (by decide) (.slice (some ⟨w2.heap.size, 0, none⟩) 0 0) ([] : List UInt8) s.data.toList rfl HROW.out sb s.size cap rfl HN2.out HIN3.out HLN.out ?_
     intro u w3 o3 f3 e3
     have hM := by_made HBL.out (Nat.le_refl _) o3 f3 e3
     have hus := by_some (by simp) e3
     obtain ⟨ub, uc, huu⟩ := row_shape hM.tx
     subst huu
     have h3 := H2.out.bel hM.bl
     have hfr3 : FileR w3 q2 v2 emptyF := h3.fl _ (mem_of_get HG2.out)
     have p0 : w3.cell? ⟨q2, 0, none⟩ = some v2 := hfr3.bk.cell 0
     have p1 : w3.cell? ⟨q2, 1, none⟩ = some (.int .i64 (emptyF).lasts) := hfr3.bk.cell 1
     have p2 : w3.cell? ⟨q2, 2, none⟩ = some (.bool (emptyF).stays) := hfr3.bk.cell 2
     have p0f := hfr3.bk.free 0
     have p1f := hfr3.bk.free 1
     have p2f := hfr3.bk.free 2
     have d1 : w3.cell? ⟨d, 1, none⟩ = some (.int .i64 used) := h3.bk.cell 1
     have d1f := h3.bk.free 1
     have hq3 := hfr3.bk.lt
     have hd3 := h3.bk.lt
     obtain ⟨w4, hw4⟩ : ∃ w4, ((w3.setCell ⟨q2, 0, none⟩ (.slice ub s.size uc)).setCell ⟨q2, 1, none⟩ (.int .i64 s.size)).setCell ⟨q2, 2, none⟩ (.bool true) = w4 := ⟨_, rfl⟩
     have hb4 : Bk w4 q2 [.slice ub s.size uc, .int .i64 s.size, .bool true] 67 := by
       rw [← hw4]
       exact ((hfr3.bk.set 0 (.slice ub s.size uc)).set 1 (.int .i64 s.size)).set 2 (.bool true)
     have hf34 : Fr (fun b => b = q2) w3 w4 := by
       rw [← hw4]
       exact (((Fr.refl (fun b => b = q2) w3).setCell q2 0 _ (.inr rfl)).setCell q2 1 _ (.inr rfl)).setCell q2 2 _ (.inr rfl)
     have hf24 : Fr (fun b => b = q2 ∨ v2.ownBlock = some b) w2 w4 := (Fr.of_bel (S := fun b => b = q2 ∨ v2.ownBlock = some b) hM.bl).trans hf34 (fun _ _ e => .inl e)
     have hq2lt : q2 < w2.heap.size := by
       have hfr2 : FileR w2 q2 v2 emptyF := H2.out.fl _ (mem_of_get HG2.out)
       exact hfr2.bk.lt
     have hr4 : FileR w4 q2 (.slice ub s.size uc) ⟨s, s.size, true⟩ := ⟨hb4, hf34.row hM.tx (fun b hb e => by have := hM.nw b hb; omega)⟩
     have hset := H2.out.set HG2.out hf24 hr4 (.inr hus)
     have hdd : Bk (w4.setCell ⟨d, 1, none⟩ (.int .i64 (used + (s.size : Int)))) d _ 62 := hset.1.bk.set 1 (.int .i64 (used + (s.size : Int)))
     have hff : Fr (fun b => b = d) w4 (w4.setCell ⟨d, 1, none⟩ (.int .i64 (used + (s.size : Int)))) := (Fr.refl (fun b => b = d) _).setCell d 1 _ (.inr rfl)
     have HOWN := Lib.hid (hset.1.own hdd hff)
     have HSP4 := Lib.hid hset.2
     have HF24 := Lib.hid hf24
     have HFF := Lib.hid hff
     have HW4 := Lib.hid hw4
     clear o3 f3 e3 hM hus h3 hfr3 hb4 hf34 hf24 hr4 hset hdd hff hw4))
  go_ret
  rw [HW4.out]
  refine ⟨mput M2 n (q2, .slice ub s.size uc, ⟨s, s.size, true⟩), rfl, HOWN.out, fun k => ?_, ?_, fun b hb => ?_⟩
  · unfold flOf
    rw [get_put]
    by_cases e : n = k
    · rw [if_pos e, if_pos e]; rfl
    · rw [if_neg e, if_neg e, HK2.out k e]
  · have a1 : Fr (fun b => b ∈ dblocks d m M) w w2 := (F1.out.mono (fun b _ e => e ▸ hdB)).trans F2.out (fun b _ e => e ▸ hmB)
    have a2 := a1.trans HF24.out (fun b hb e => by
      have hin : b ∈ dblocks d m M2 := by
        rcases e with rfl | e
        · exact (mem_fblocks (d := d) (m := m) (mem_of_get HG2.out)).1
        · exact (mem_fblocks (d := d) (m := m) (mem_of_get HG2.out)).2 b e
      rcases HSP2.out b hin with h | h
      · exact h
      · have := F1.out.size; omega)
    exact a2.trans HFF.out (fun b _ e => e ▸ hdB)
  · have z1 := F1.out.size
    have z2 := F2.out.size
    rcases HSP4.out b hb with h | h
    · rcases HSP2.out b h with h | h
      · exact .inl h
      · exact .inr (by omega)
    · exact .inr (by omega)
end
end Go.Proofs.Ytemfnchiedepoaa

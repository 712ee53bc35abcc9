/- Contracts of package disk: Sync, Remove. -/
import Derived.Test.YtemfnchiedepoaaDk3
namespace Go.Proofs.Ytemfnchiedepoaa
open Go.RowKit Go.MapKept Go.Maps
set_option linter.unusedVariables false
/-- a fuse behind a step -/
def fuB (lit : Bool) (fuse : Int) : Int := if lit && decide (0 < fuse) then fuse - 1 else fuse
section
variable {w : World} {d m : Nat} {M : FM} {used : Int} {lit : Bool} {fuse : Int} {down : Bool}
theorem step_stop (h : DiskR w d m M used lit fuse down) (hz : (lit && decide (fuse = 0)) = true) :
    Calls Try.prog 32 #[.pointer (some ⟨d, 0, none⟩)] w fun e w' => e = .returned (.bool false) ∧ DiskR w' d m M used lit fuse true ∧ Fr (fun b => b = d) w w' := by
  obtain ⟨rfl, h0⟩ : lit = true ∧ fuse = 0 := by simpa using hz
  subst h0
  refine (step_any h (by omega)).mono ?_
  rintro e w' ⟨rfl, h1, h2⟩
  exact ⟨rfl, by simpa using h1, h2⟩
theorem step_go (h : DiskR w d m M used lit fuse down) (hf : 0 ≤ fuse ∧ fuse ≤ 9223372036854775807) (hz : (lit && decide (fuse = 0)) = false) :
    Calls Try.prog 32 #[.pointer (some ⟨d, 0, none⟩)] w fun e w' => e = .returned (.bool true) ∧ DiskR w' d m M used lit (fuB lit fuse) down ∧ Fr (fun b => b = d) w w' := by
  have e1 : (!lit || !decide (fuse = 0)) = true := by cases lit <;> simp_all
  refine (step_any h hf).mono ?_
  rw [e1, hz, Bool.or_false]
  exact fun e w' h => h
/-- the file that found finds -/
theorem found_yes (h : DiskR w d m M used lit fuse down) (n : ByteArray) (hn : n.size ≤ 1000) {q : Nat} {v : Value} {g : Fl} (hg : mget M n = some (q, v, g)) (hz : foundN down n true = 0) :
    Calls Try.prog 33 #[.pointer (some ⟨d, 0, none⟩), .string n] w fun e w' => e = .returned (.tuple #[.pointer (some ⟨q, 0, none⟩), .int .i64 0]) ∧ w = w' := by
  have := found_any h n hn
  rw [hg] at this
  simpa [hz] using this
theorem found_no (h : DiskR w d m M used lit fuse down) (n : ByteArray) (hn : n.size ≤ 1000) (r : Int) (hr : foundN down n (mget M n).isSome = r) (hz : r ≠ 0) :
    Calls Try.prog 33 #[.pointer (some ⟨d, 0, none⟩), .string n] w fun e w' => e = .returned (.tuple #[.pointer none, .int .i64 r]) ∧ w = w' := by
  have := found_any h n hn
  rw [hr, if_neg hz] at this
  exact this
theorem found_in (down : Bool) (n : ByteArray) (b : Bool) : -100 ≤ foundN down n b ∧ foundN down n b ≤ 100 := by unfold foundN; split <;> (try split) <;> (try split) <;> omega
theorem ask_in (down : Bool) (n : ByteArray) : -100 ≤ askN down n ∧ askN down n ≤ 100 := by unfold askN; split <;> (try split) <;> omega
set_option maxRecDepth 100000 in
set_option maxHeartbeats 1000000 in
theorem sync_no (h : DiskR w d m M used lit fuse down) (n : ByteArray) (hn : n.size ≤ 1000) (r : Int) (hr : foundN down n (mget M n).isSome = r) (hz : r ≠ 0) :
    Calls Try.prog 17 #[.pointer (some ⟨d, 0, none⟩), .string n] w fun e w' => e = .returned (.int .i64 r) ∧ w = w' := by
  have HA := Lib.hid (found_no h n hn r hr hz)
  have hin : -100 ≤ r ∧ r ≤ 100 := hr ▸ found_in _ _ _
  have t1 : (r == 0) = false := by simp [hz]
  clear h hr
  go_enter Try.func17, Try.ntmps17
  go_wp2_with fail
  refine HA.out.mono ?_
  rintro e wx ⟨rfl, rfl⟩
  go_wp2_with fail
  go_ret
  exact ⟨rfl, rfl⟩
set_option maxRecDepth 100000 in
set_option maxHeartbeats 1000000 in
theorem sync_stop (h : DiskR w d m M used lit fuse down) (n : ByteArray) (hn : n.size ≤ 1000) {q : Nat} {v : Value} {g : Fl} (hg : mget M n = some (q, v, g)) (hz : foundN down n true = 0) (hst : (lit && decide (fuse = 0)) = true) :
    Calls Try.prog 17 #[.pointer (some ⟨d, 0, none⟩), .string n] w fun e w' => e = .returned (.int .i64 8) ∧ DiskR w' d m M used lit fuse true ∧ Fr (fun b => b = d) w w' := by
  have HA := Lib.hid (found_yes h n hn hg hz)
  have HS := Lib.hid (step_stop h hst)
  clear h hz hg hst
  go_enter Try.func17, Try.ntmps17
  go_wp2_with fail
  refine HA.out.mono ?_
  rintro e wx ⟨rfl, rfl⟩
  go_wp2_with fail
  refine HS.out.mono ?_
  rintro e w1 ⟨rfl, h1, f1⟩
  have H1 := Lib.hid h1
  have F1 := Lib.hid f1
  clear h1 f1
  go_wp2_with fail
  go_ret
  exact ⟨rfl, H1.out, F1.out⟩
set_option maxRecDepth 100000 in
set_option maxHeartbeats 2000000 in
theorem sync_yes (h : DiskR w d m M used lit fuse down) (n : ByteArray) (hn : n.size ≤ 1000) {q : Nat} {v : Value} {g : Fl} (hg : mget M n = some (q, v, g)) (hz : foundN down n true = 0) (hf : 0 ≤ fuse ∧ fuse ≤ 9223372036854775807) (hst : (lit && decide (fuse = 0)) = false) (hsz : g.s.size ≤ 5000000) :
    Calls Try.prog 17 #[.pointer (some ⟨d, 0, none⟩), .string n] w fun e w' => e = .returned (.int .i64 0) ∧ DiskR w' d m (mput M n (q, v, ⟨g.s, g.s.size, true⟩)) used lit (fuB lit fuse) down ∧ Fr (fun b => b ∈ dblocks d m M) w w' ∧ ∀ b ∈ dblocks d m (mput M n (q, v, ⟨g.s, g.s.size, true⟩)), b ∈ dblocks d m M ∨ w.heap.size ≤ b := by
  have HA := Lib.hid (found_yes h n hn hg hz)
  have HS := Lib.hid (step_go h hf hst)
  have hdB : d ∈ dblocks d m M := by simp [dblocks]
  have HQ := Lib.hid (mem_fblocks (d := d) (m := m) (mem_of_get hg)).1
  have HAP := Lib.hid (h.apart hg)
  have HG := Lib.hid hg
  obtain ⟨vb, vc, hvv⟩ := row_shape (h.fl _ (mem_of_get hg)).row
  have hvv' : v = .slice vb g.s.size vc := hvv
  subst hvv'
  clear hvv
  clear h hz hg hst
  go_enter Try.func17, Try.ntmps17
  go_wp2_with fail
  refine HA.out.mono ?_
  rintro e wx ⟨rfl, rfl⟩
  go_wp2_with fail
  refine HS.out.mono ?_
  rintro e w1 ⟨rfl, h1, f1⟩
  have hfr : FileR w1 q (.slice vb g.s.size vc) g := h1.fl _ (mem_of_get HG.out)
  have r0 : w1.cell? ⟨q, 0, none⟩ = some (.slice vb g.s.size vc) := hfr.bk.cell 0
  have r1 : w1.cell? ⟨q, 1, none⟩ = some (.int .i64 g.lasts) := hfr.bk.cell 1
  have r2 : w1.cell? ⟨q, 2, none⟩ = some (.bool g.stays) := hfr.bk.cell 2
  have p1 := hfr.bk.free 1
  have p2 := hfr.bk.free 2
  have hlt := hfr.bk.lt
  have hb3 : Bk ((w1.setCell ⟨q, 1, none⟩ (.int .i64 g.s.size)).setCell ⟨q, 2, none⟩ (.bool true)) q [.slice vb g.s.size vc, .int .i64 g.s.size, .bool true] 67 := (hfr.bk.set 1 (.int .i64 g.s.size)).set 2 (.bool true)
  have hf3 : Fr (fun b => b = q) w1 ((w1.setCell ⟨q, 1, none⟩ (.int .i64 g.s.size)).setCell ⟨q, 2, none⟩ (.bool true)) := ((Fr.refl (fun b => b = q) w1).setCell q 1 _ (.inr rfl)).setCell q 2 _ (.inr rfl)
  have hr3 : FileR ((w1.setCell ⟨q, 1, none⟩ (.int .i64 g.s.size)).setCell ⟨q, 2, none⟩ (.bool true)) q (.slice vb g.s.size vc) ⟨g.s, g.s.size, true⟩ := ⟨hb3, hf3.row hfr.row (fun b hb => (HAP.out.2.2.2 b hb).2.2)⟩
  have hset := h1.set HG.out (hf3.mono (fun _ _ e => .inl e)) hr3 (.inl rfl)
  have HW := Lib.hid hset
  have HF : Hid (Fr (fun b => b ∈ dblocks d m M) w ((w1.setCell ⟨q, 1, none⟩ (.int .i64 g.s.size)).setCell ⟨q, 2, none⟩ (.bool true))) := Lib.hid ((f1.mono (T := fun b => b ∈ dblocks d m M) (fun _ _ e => e ▸ hdB)).trans hf3 (fun b _ e => by rw [e]; exact HQ.out))
  have HSZ := Lib.hid f1.size
  clear h1 f1 hfr hb3 hf3 hr3 hset
  go_wp2_with fail
  go_ret
  refine ⟨rfl, HW.out.1, HF.out, fun b hb => ?_⟩
  rcases HW.out.2 b hb with h | h
  · exact .inl h
  · have := HSZ.out; exact .inr (by omega)
set_option maxRecDepth 100000 in
set_option maxHeartbeats 1000000 in
theorem remove_no (h : DiskR w d m M used lit fuse down) (n : ByteArray) (hn : n.size ≤ 1000) (r : Int) (hr : foundN down n (mget M n).isSome = r) (hz : r ≠ 0) :
    Calls Try.prog 36 #[.pointer (some ⟨d, 0, none⟩), .string n] w fun e w' => e = .returned (.int .i64 r) ∧ w = w' := by
  have HA := Lib.hid (found_no h n hn r hr hz)
  have hin : -100 ≤ r ∧ r ≤ 100 := hr ▸ found_in _ _ _
  have t1 : (r == 0) = false := by simp [hz]
  clear h hr
  go_enter Try.func36, Try.ntmps36
  go_wp2_with fail
  refine HA.out.mono ?_
  rintro e wx ⟨rfl, rfl⟩
  go_wp2_with fail
  go_ret
  exact ⟨rfl, rfl⟩
set_option maxRecDepth 100000 in
set_option maxHeartbeats 1000000 in
theorem remove_stop (h : DiskR w d m M used lit fuse down) (n : ByteArray) (hn : n.size ≤ 1000) {q : Nat} {v : Value} {g : Fl} (hg : mget M n = some (q, v, g)) (hz : foundN down n true = 0) (hst : (lit && decide (fuse = 0)) = true) :
    Calls Try.prog 36 #[.pointer (some ⟨d, 0, none⟩), .string n] w fun e w' => e = .returned (.int .i64 8) ∧ DiskR w' d m M used lit fuse true ∧ Fr (fun b => b = d) w w' := by
  have HA := Lib.hid (found_yes h n hn hg hz)
  have HS := Lib.hid (step_stop h hst)
  clear h hz hg hst
  go_enter Try.func36, Try.ntmps36
  go_wp2_with fail
  refine HA.out.mono ?_
  rintro e wx ⟨rfl, rfl⟩
  go_wp2_with fail
  refine HS.out.mono ?_
  rintro e w1 ⟨rfl, h1, f1⟩
  have H1 := Lib.hid h1
  have F1 := Lib.hid f1
  clear h1 f1
  go_wp2_with fail
  go_ret
  exact ⟨rfl, H1.out, F1.out⟩
set_option maxRecDepth 100000 in
set_option maxHeartbeats 2000000 in
theorem remove_yes (h : DiskR w d m M used lit fuse down) (n : ByteArray) (hn : n.size ≤ 1000) {q : Nat} {v : Value} {g : Fl} (hg : mget M n = some (q, v, g)) (hz : foundN down n true = 0) (hf : 0 ≤ fuse ∧ fuse ≤ 9223372036854775807) (hst : (lit && decide (fuse = 0)) = false) (hsz : g.s.size ≤ 5000000) (hu : -10000000 ≤ used ∧ used ≤ 10000000) :
    Calls Try.prog 36 #[.pointer (some ⟨d, 0, none⟩), .string n] w fun e w' => e = .returned (.int .i64 0) ∧ DiskR w' d m (mdel M n) (used - g.s.size) lit (fuB lit fuse) down ∧ Fr (fun b => b ∈ dblocks d m M) w w' ∧ ∀ b ∈ dblocks d m (mdel M n), b ∈ dblocks d m M := by
  have HA := Lib.hid (found_yes h n hn hg hz)
  have HS := Lib.hid (step_go h hf hst)
  have hdB : d ∈ dblocks d m M := by simp [dblocks]
  have hmB : m ∈ dblocks d m M := by simp [dblocks]
  have HAP := Lib.hid (h.apart hg)
  have HG := Lib.hid hg
  obtain ⟨vb, vc, hvv⟩ := row_shape (h.fl _ (mem_of_get hg)).row
  have hvv' : v = .slice vb g.s.size vc := hvv
  subst hvv'
  clear hvv
  clear h hz hg hst
  have q1 : IntKind.i64.wrap (used - (g.s.size : Int)) = used - g.s.size := IntWalk.i64_in _ (by omega)
  have hok : okS n := by unfold okS maxLen; omega
  go_enter Try.func36, Try.ntmps36
  go_wp2_with fail
  refine HA.out.mono ?_
  rintro e wx ⟨rfl, rfl⟩
  go_wp2_with fail
  refine HS.out.mono ?_
  rintro e w1 ⟨rfl, h1, f1⟩
  have hfr : FileR w1 q (.slice vb g.s.size vc) g := h1.fl _ (mem_of_get HG.out)
  have r0 : w1.cell? ⟨q, 0, none⟩ = some (.slice vb g.s.size vc) := hfr.bk.cell 0
  have c1 : w1.cell? ⟨d, 1, none⟩ = some (.int .i64 used) := h1.bk.cell 1
  have c1f := h1.bk.free 1
  have hlt := hfr.bk.lt
  have hltd := h1.bk.lt
  have hown0 := h1.own (w' := w1.setCell ⟨d, 1, none⟩ (.int .i64 (used - g.s.size))) (h1.bk.set 1 (.int .i64 (used - g.s.size))) ((Fr.refl (fun b => b = d) _).setCell d 1 _ (.inr rfl))
  have hbd := (Below.refl (w1.setCell ⟨d, 1, none⟩ (.int .i64 (used - g.s.size))).heap.size (w1.setCell ⟨d, 1, none⟩ (.int .i64 (used - g.s.size)))).drew
  have hown := hown0.bel hbd
  have c0' : w1.cell? ⟨d, 0, none⟩ = some (.map (some m)) := h1.bk.cell 0
  have HOWN := Lib.hid hown
  have HMP := Lib.hid hown.mp
  have HF1 := Lib.hid (((f1.mono (T := fun b => b ∈ dblocks d m M) (fun _ _ e => e ▸ hdB)).trans ((Fr.refl (fun b => b = d) w1).setCell d 1 (.int .i64 (used - g.s.size)) (.inr rfl)) (fun b _ e => e ▸ hdB)).trans (Fr.of_bel (S := none') hbd) (fun _ _ e => e.elim))
  clear h1 f1 hfr hown hown0 hbd
  go_wp2_with fail
  go_region
  go_wp2_with (at_delete; refine wpList_drop rfl _ _ rfl keyS Try.underlying60 HMP.out rfl n rfl hok ?_; intro w6 m6 f6 z6)
  have HD := Lib.hid (HOWN.out.del m6 f6)
  have HF := Lib.hid (HF1.out.trans f6 (fun b _ e => e ▸ hmB))
  clear m6 f6 z6 c0' r0 c1 c1f
  go_wp2_with fail
  go_ret
  exact ⟨rfl, HD.out.1, HF.out, HD.out.2⟩
end
end Go.Proofs.Ytemfnchiedepoaa

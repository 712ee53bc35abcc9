/- Contracts of package window (Holds, isEnd, At), and of the law's counts, few. -/
import Derived.Test.YtkjcgeaoiabkjaaTWin
import Derived.BigQuiet
import Derived.Test.YtkjcgeaoiabkjaaHeld
import Derived.Deep.RegionWith
namespace Go.Proofs.Ytkjcgeaoiabkjaa
open Go.RowKit Go.MapKept Go.Maps
set_option linter.unusedVariables false
set_option linter.unusedSimpArgs false
theorem SpecOk.one {sz hp wd : Int} (h : SpecOk sz hp wd) : SpecOk sz hp 1 := ⟨by omega, by omega, h.s1, h.s2, h.h1, h.h2, Int.tmod_one _, Int.tmod_one _⟩
set_option maxHeartbeats 1000000 in
theorem holds_top (sz hp wd at_ : Int) (w : World) (h : SpecOk sz hp wd) (ha : 0 ≤ at_) (hb : at_ ≤ 100000) :
    Calls Try.prog 10 #[.agg #[.int .i64 sz, .int .i64 hp], .int .i64 at_] w fun e w' => ∃ u k, e = .returned u ∧ MkG 3 1 iC w w' u (endsF ((at_.tdiv hp + 1) * hp) hp k) ∧ at_ + sz < (at_.tdiv hp + 1) * hp + k * hp ∧ k ≤ 1002 := by
  have HB1 : Hid (Below w.heap.size w (w.alloc (.cells #[.int .i64 sz, .int .i64 hp] 27))) := Lib.hid ((Below.refl _ _).alloc (Nat.le_refl _) _)
  have HM := Lib.hid (may_top sz hp 1 (w.alloc (.cells #[.int .i64 sz, .int .i64 hp] 27)) h.one)
  have HX0 := Lib.hid (Bk.new w [.int .i64 sz, .int .i64 hp] 27)
  have HE : Hid (∀ W, Calls Try.prog 23 #[.agg #[.int .i64 sz, .int .i64 hp], .int .i64 at_, .int .i64 (at_ + sz)] W fun e w' => ∃ u k, e = .returned u ∧ MkG 3 1 iC W w' u (endsF ((at_.tdiv hp + 1) * hp) hp k) ∧ at_ + sz < (at_.tdiv hp + 1) * hp + k * hp ∧ k ≤ 1002) := Lib.hid (fun W => ends_top sz hp wd at_ W h.one ha hb)
  have hs1 := h.s1
  have hs2 := h.s2
  have t1 : decide (at_ < 0) = false := decide_eq_false (by omega)
  have t2 : decide ((1099511627776 : Int) < at_) = false := decide_eq_false (by omega)
  have q1 : IntKind.i64.wrap (at_ + sz) = at_ + sz := IntWalk.i64_in _ (by omega)
  clear h
  go_enter Try.func10, Try.ntmps10
  go_wp2_with fail
  refine HM.out.mono ?_
  rintro e w1 ⟨rfl, b1⟩
  have HX1 := Lib.hid (HX0.out.bel b1)
  have HB2 := Lib.hid (HB1.out.trans (b1.mono HB1.out.size))
  have x0 : w1.cell? ⟨w.heap.size, 0, none⟩ = some (.int .i64 sz) := HX1.out.cell 0
  have x1 : w1.cell? ⟨w.heap.size, 1, none⟩ = some (.int .i64 hp) := HX1.out.cell 1
  clear b1 HM HX0
  go_wp2_with fail
  refine (HE.out _).mono ?_
  rintro e w2 ⟨u, k, rfl, m2, k1, k2⟩
  have HMK := Lib.hid (m2.from HB2.out)
  have HK := Lib.hid (And.intro k1 k2)
  obtain ⟨ub, uc, hu, _, _, _⟩ := m2.read iLen (by omega)
  subst hu
  clear m2 k1 k2 x0 x1 HX1 HB2
  go_wp2_with fail
  go_ret
  exact ⟨_, k, rfl, HMK.out, HK.out.1, HK.out.2⟩
theorem wdCell {w : World} {p : Nat} {B : List Nat} {wd ad : Int} {A : List Ad} (h : PaneAt w p B wd ad A) : w.cell? ⟨p, 0, none⟩ = some (.int .i64 wd) := by
  obtain ⟨s, r, sm, rw, _, h1, _⟩ := h.ex
  exact h1.cells.1
theorem ptrLt {w : World} {p : Nat} {B : List Nat} {wd ad : Int} {A : List Ad} (h : PaneAt w p B wd ad A) : p < w.heap.size := by
  obtain ⟨s, r, sm, rw, rfl, h1, _⟩ := h.ex
  exact h1.bk.lt
set_option maxRecDepth 100000 in
set_option maxHeartbeats 2000000 in
theorem isEnd_top (p : Nat) (sz hp wd q : Int) (w : World) (hc : w.cell? ⟨p, 0, none⟩ = some (.int .i64 wd)) (hpl : p < w.heap.size) (h : SpecOk sz hp wd) (h0 : 0 ≤ q) (h1 : q ≤ 100000) (hm : q.tmod hp = 0) :
    Calls Try.prog 24 #[.pointer (some ⟨p, 0, none⟩), .agg #[.int .i64 sz, .int .i64 hp], .int .i64 q] w fun e w' => e = .returned (.bool (decide (hp ≤ q))) ∧ Below w.heap.size w w' := by
  obtain ⟨W, hW⟩ : ∃ W, (w.alloc (.cells #[.int .i64 sz, .int .i64 hp] 27)) = W := ⟨_, rfl⟩
  have HBW : Hid (Below w.heap.size w W) := Lib.hid (by rw [← hW]; exact (Below.refl w.heap.size w).alloc (Nat.le_refl _) _)
  have hcW : W.drew.cell? ⟨p, 0, none⟩ = some (.int .i64 wd) := (HBW.out.cell (p := ⟨p, 0, none⟩) hpl).trans hc
  have HWI := Lib.hid (width_any p wd W.drew hcW)
  have HMA := Lib.hid (may_top sz hp wd W.drew h)
  have hbk := Bk.new w [.int .i64 sz, .int .i64 hp] 27
  have s0 : W.drew.cell? ⟨w.heap.size, 0, none⟩ = some (.int .i64 sz) := by rw [← hW]; exact hbk.cell 0
  have s1 : W.drew.cell? ⟨w.heap.size, 1, none⟩ = some (.int .i64 hp) := by rw [← hW]; exact hbk.cell 1
  have hzz : w.heap.size < W.drew.heap.size := by rw [← hW]; simp
  have hh1 := h.h1
  have hh2 := h.h2
  have t0 : (hp == 0) = false := by simp; omega
  have hz' : hp ≠ 0 := by omega
  have t5 : decide (q ≤ 2199023255552) = true := decide_eq_true (by omega)
  have HSC : Hid (∀ W', Below W.drew.heap.size W.drew W' → W'.cell? ⟨w.heap.size, 0, none⟩ = some (.int .i64 sz) ∧ W'.cell? ⟨w.heap.size, 1, none⟩ = some (.int .i64 hp)) := Lib.hid (fun W' hb => ⟨(hb.cell (p := ⟨w.heap.size, 0, none⟩) hzz).trans s0, (hb.cell (p := ⟨w.heap.size, 1, none⟩) hzz).trans s1⟩)
  have s01 : W.drew.cell? ⟨w.heap.size, 0, none⟩ = some (.int .i64 sz) ∧ W.drew.cell? ⟨w.heap.size, 1, none⟩ = some (.int .i64 hp) := ⟨s0, s1⟩
  have HW1 := Lib.hid hW
  clear h hbk hcW
  by_cases g : hp ≤ q
  · have t6 : decide (hp ≤ q) = true := decide_eq_true g
    rw [t6]
    clear g
    go_enter Try.func24, Try.ntmps24
    go_wp2_with fail
    clear hW
    go_region_held3 (fun X => X.cell? ⟨w.heap.size, 0, none⟩ = some (.int .i64 sz) ∧ X.cell? ⟨w.heap.size, 1, none⟩ = some (.int .i64 hp)) (first | assumption | go_keep)
      (first
        | (go_at_call 31
           (with_reducible refine HWI.out.mono ?_)
           rintro e w3 ⟨rfl, rfl⟩)
        | (go_at_call 7
           (with_reducible refine HMA.out.mono ?_)
           rintro e w4 ⟨rfl, b4⟩
           have HB4 := Lib.hid b4
           have s4 := HSC.out w4 b4
           clear b4)
        | fail)
    go_wp2_with fail
    go_ret
    exact ⟨rfl, HBW.out.trans (((Below.refl _ _).drew.trans HB4.out).mono HBW.out.size)⟩
  · have t6 : decide (hp ≤ q) = false := decide_eq_false g
    rw [t6]
    clear g
    go_enter Try.func24, Try.ntmps24
    go_wp2_with fail
    clear hW
    refine wp_region_held_drew (S := fun X => X.cell? ⟨w.heap.size, 0, none⟩ = some (.int .i64 sz) ∧ X.cell? ⟨w.heap.size, 1, none⟩ = some (.int .i64 hp)) (by kernel_rfl) s01 (fun hHeld => ?_)
    refine take_at (i := 0) (v := ?_) (some 7) rfl rfl (by kernel_rfl) (by kernel_rfl) (by kernel_rfl) (fun _ _ _ h => h) (by rfl) ?_ (by assumption) ?_
    rotate_left
    · intro w hSw
      (try dsimp only at hSw)
      go_simp
      try (with_reducible rfl)
    (try simp only [Act.put, List.setIfInBounds_toArray, List.set_cons_zero, List.set_cons_succ])
    refine take_at (i := 1) (v := ?_) (some 8) rfl rfl (by kernel_rfl) (by kernel_rfl) (by kernel_rfl) (fun _ _ _ h => h) (by rfl) ?_ (by assumption) ?_
    rotate_left
    · intro w hSw
      (try dsimp only at hSw)
      go_simp
      try (with_reducible rfl)
    (try simp only [Act.put, List.setIfInBounds_toArray, List.set_cons_zero, List.set_cons_succ])
    refine take_at (i := 2) (v := ?_) (some 9) rfl rfl (by kernel_rfl) (by kernel_rfl) (by kernel_rfl) (fun _ _ _ h => h) (by rfl) ?_ (by assumption) ?_
    rotate_left
    · intro w hSw
      (try dsimp only at hSw)
      go_simp
      try (with_reducible rfl)
    (try simp only [Act.put, List.setIfInBounds_toArray, List.set_cons_zero, List.set_cons_succ])
    refine take_at (i := 3) (v := ?_) (some 10) rfl rfl (by kernel_rfl) (by kernel_rfl) (by kernel_rfl) (fun _ _ _ h => h) (by rfl) ?_ (by assumption) ?_
    rotate_left
    · intro w hSw
      (try dsimp only at hSw)
      go_simp
      try (with_reducible rfl)
    (try simp only [Act.put, List.setIfInBounds_toArray, List.set_cons_zero, List.set_cons_succ])
    refine take_at (i := 4) (v := ?_) (some 11) rfl rfl (by kernel_rfl) (by kernel_rfl) (by kernel_rfl) (fun _ _ _ h => h) (by rfl) ?_ (by assumption) ?_
    rotate_left
    · intro w hSw
      (try dsimp only at hSw)
      go_simp
      try (with_reducible rfl)
    (try simp only [Act.put, List.setIfInBounds_toArray, List.set_cons_zero, List.set_cons_succ])
    refine call_at (i := 5) (by kernel_rfl) rfl (fun K hK => ?_)
    go_simp
    refine HWI.out.mono ?_
    rintro e w3 ⟨rfl, rfl⟩
    refine hK.out _ _ s01 (fun hHeld => ?_)
    clear hK K
    (try simp only [Act.put, List.setIfInBounds_toArray, List.set_cons_zero, List.set_cons_succ])
    refine call_at (i := 6) (by kernel_rfl) rfl (fun K hK => ?_)
    go_simp
    refine HMA.out.mono ?_
    rintro e w4 ⟨rfl, b4⟩
    have HB4 := Lib.hid b4
    have s4 := HSC.out w4 b4
    clear b4
    refine hK.out _ _ s4 (fun hHeld => ?_)
    clear hK K
    (try simp only [Act.put, List.setIfInBounds_toArray, List.set_cons_zero, List.set_cons_succ])
    refine take_at (i := 7) (v := ?_) (some 14) rfl rfl (by kernel_rfl) (by kernel_rfl) (by kernel_rfl) (fun _ _ _ h => h) (by rfl) ?_ (by assumption) ?_
    rotate_left
    · intro w hSw
      (try dsimp only at hSw)
      go_simp
      try (with_reducible rfl)
    (try simp only [Act.put, List.setIfInBounds_toArray, List.set_cons_zero, List.set_cons_succ])
    refine take_at (i := 8) (v := ?_) (some 15) rfl rfl (by kernel_rfl) (by kernel_rfl) (by kernel_rfl) (fun _ _ _ h => h) (by rfl) ?_ (by assumption) ?_
    rotate_left
    · intro w hSw
      (try dsimp only at hSw)
      go_simp
      try (with_reducible rfl)
    (try simp only [Act.put, List.setIfInBounds_toArray, List.set_cons_zero, List.set_cons_succ])
    refine take_at (i := 9) (v := ?_) (some 16) rfl rfl (by kernel_rfl) (by kernel_rfl) (by kernel_rfl) (fun _ _ _ h => h) (by rfl) ?_ (by assumption) ?_
    rotate_left
    · intro w hSw
      (try dsimp only at hSw)
      go_simp
      try (with_reducible rfl)
    (try simp only [Act.put, List.setIfInBounds_toArray, List.set_cons_zero, List.set_cons_succ])
    refine take_at (i := 10) (v := ?_) (some 17) rfl rfl (by kernel_rfl) (by kernel_rfl) (by kernel_rfl) (fun _ _ _ h => h) (by rfl) ?_ (by assumption) ?_
    rotate_left
    · intro w hSw
      (try dsimp only at hSw)
      go_simp
      try (with_reducible rfl)
    (try simp only [Act.put, List.setIfInBounds_toArray, List.set_cons_zero, List.set_cons_succ])
    refine take_at (i := 11) (v := ?_) (some 18) rfl rfl (by kernel_rfl) (by kernel_rfl) (by kernel_rfl) (fun _ _ _ h => h) (by rfl) ?_ (by assumption) ?_
    rotate_left
    · intro w hSw
      (try dsimp only at hSw)
      go_simp
      try (with_reducible rfl)
    (try simp only [Act.put, List.setIfInBounds_toArray, List.set_cons_zero, List.set_cons_succ])
    refine take_at (i := 12) (v := ?_) (some 19) rfl rfl (by kernel_rfl) (by kernel_rfl) (by kernel_rfl) (fun _ _ _ h => h) (by rfl) ?_ (by assumption) ?_
    rotate_left
    · intro w hSw
      (try dsimp only at hSw)
      go_simp
      try (with_reducible rfl)
    (try simp only [Act.put, List.setIfInBounds_toArray, List.set_cons_zero, List.set_cons_succ])
    refine take_at (i := 13) (v := ?_) (some 20) rfl rfl (by kernel_rfl) (by kernel_rfl) (by kernel_rfl) (fun _ _ _ h => h) (by rfl) ?_ (by assumption) ?_
    rotate_left
    · intro w hSw
      (try dsimp only at hSw)
      go_simp
      try (with_reducible rfl)
    (try simp only [Act.put, List.setIfInBounds_toArray, List.set_cons_zero, List.set_cons_succ])
    refine take_at (i := 14) (v := ?_) (some 21) rfl rfl (by kernel_rfl) (by kernel_rfl) (by kernel_rfl) (fun _ _ _ h => h) (by rfl) ?_ (by assumption) ?_
    rotate_left
    · intro w hSw
      (try dsimp only at hSw)
      go_simp
      try (with_reducible rfl)
    (try simp only [Act.put, List.setIfInBounds_toArray, List.set_cons_zero, List.set_cons_succ])
    refine skip_at (i := 15) (some 22) rfl rfl (by kernel_rfl) (by kernel_rfl) (by kernel_rfl) (fun _ _ _ h => h) (by rfl) (by assumption) ?_
    (try simp only [Act.put, List.setIfInBounds_toArray, List.set_cons_zero, List.set_cons_succ])
    refine skip_at (i := 16) (some 23) rfl rfl (by kernel_rfl) (by kernel_rfl) (by kernel_rfl) (fun _ _ _ h => h) (by rfl) (by assumption) ?_
    (try simp only [Act.put, List.setIfInBounds_toArray, List.set_cons_zero, List.set_cons_succ])
    refine take_at (i := 17) (v := ?_) (some 24) rfl rfl (by kernel_rfl) (by kernel_rfl) (by kernel_rfl) (fun _ _ _ h => h) (by rfl) ?_ (by assumption) ?_
    rotate_left
    · intro w hSw
      (try dsimp only at hSw)
      go_simp
      try (with_reducible rfl)
    (try simp only [Act.put, List.setIfInBounds_toArray, List.set_cons_zero, List.set_cons_succ])
    refine take_at (i := 18) (v := ?_) (some 25) rfl rfl (by kernel_rfl) (by kernel_rfl) (by kernel_rfl) (fun _ _ _ h => h) (by rfl) ?_ (by assumption) ?_
    rotate_left
    · intro w hSw
      (try dsimp only at hSw)
      go_simp
      try (with_reducible rfl)
    (try simp only [Act.put, List.setIfInBounds_toArray, List.set_cons_zero, List.set_cons_succ])
    refine skip_at (i := 19) (some 26) rfl rfl (by kernel_rfl) (by kernel_rfl) (by kernel_rfl) (fun _ _ _ h => h) (by rfl) (by assumption) ?_
    (try simp only [Act.put, List.setIfInBounds_toArray, List.set_cons_zero, List.set_cons_succ])
    refine skip_at (i := 20) (some 27) rfl rfl (by kernel_rfl) (by kernel_rfl) (by kernel_rfl) (fun _ _ _ h => h) (by rfl) (by assumption) ?_
    (try simp only [Act.put, List.setIfInBounds_toArray, List.set_cons_zero, List.set_cons_succ])
    refine skip_at (i := 21) (some 28) rfl rfl (by kernel_rfl) (by kernel_rfl) (by kernel_rfl) (fun _ _ _ h => h) (by rfl) (by assumption) ?_
    (try simp only [Act.put, List.setIfInBounds_toArray, List.set_cons_zero, List.set_cons_succ])
    refine pass_at (i := 22) (some 29) (by kernel_rfl) rfl rfl (by rfl) s4 ?_
    (try simp only [Act.put, List.setIfInBounds_toArray, List.set_cons_zero, List.set_cons_succ])
    refine skip_at (i := 23) (some 30) rfl rfl (by kernel_rfl) (by kernel_rfl) (by kernel_rfl) (fun _ _ _ h => h) (by rfl) (by assumption) ?_
    (try simp only [Act.put, List.setIfInBounds_toArray, List.set_cons_zero, List.set_cons_succ])
    refine take_at (i := 24) (v := ?_) (some 31) rfl rfl (by kernel_rfl) (by kernel_rfl) (by kernel_rfl) (fun _ _ _ h => h) (by rfl) ?_ (by assumption) ?_
    rotate_left
    · intro w hSw
      (try dsimp only at hSw)
      go_simp
      try (with_reducible rfl)
    (try simp only [Act.put, List.setIfInBounds_toArray, List.set_cons_zero, List.set_cons_succ])
    refine take_at (i := 25) (v := ?_) (some 6) rfl rfl (by kernel_rfl) (by kernel_rfl) (by kernel_rfl) (fun _ _ _ h => h) (by rfl) ?_ (by assumption) ?_
    rotate_left
    · intro w hSw
      (try dsimp only at hSw)
      go_simp
      try (with_reducible rfl)
    (try simp only [Act.put, List.setIfInBounds_toArray, List.set_cons_zero, List.set_cons_succ])
    refine wpAnyH_done (by kernel_rfl) ?_ _
    go_wp2_with fail
    go_ret
    exact ⟨rfl, HBW.out.trans (((Below.refl _ _).drew.trans HB4.out).mono HBW.out.size)⟩
end Go.Proofs.Ytkjcgeaoiabkjaa

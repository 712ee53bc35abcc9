/- Contracts of package season: ago and its closure, Now. -/
import Derived.Test.YtlmonbclloamiaaSCalls
namespace Go.Proofs.Ytlmonbclloamiaa
open Go.RowKit Go.MapKept Go.Maps Wide
set_option linter.unusedVariables false
theorem quiet_same {P : Program} {f : FuncId} {args : Array Value} {w : World} {n : Nat} {v : Value} (h : Calls P f args (w.drewN n) fun e w' => e = .returned v ∧ w.drewN n = w') : Calls P f args (w.drewN n) fun e w'' => e = .returned v ∧ ∃ m, w'' = w.drewN m :=
  h.mono fun _ _ ⟨he, hm⟩ => ⟨he, n, hm.symm⟩
theorem PaneAt.drewN {w : World} {p : Nat} {B : List Nat} {wd ad : Int} {A : List Ad} (h : PaneAt w p B wd ad A) (n : Nat) : PaneAt (w.drewN n) p B wd ad A := h.fr ((Fr.refl none' w).drewN n) (fun _ _ => id)
theorem PaneAt.wdCell {w : World} {p : Nat} {B : List Nat} {wd ad : Int} {A : List Ad} (h : PaneAt w p B wd ad A) : w.cell? ⟨p, 0, none⟩ = some (.int .i64 wd) := by
  obtain ⟨s, r, sm, rw, _, h1, _⟩ := h.ex
  exact h1.cells.1
theorem PaneAt.ptr {w : World} {p : Nat} {B : List Nat} {wd ad : Int} {A : List Ad} (h : PaneAt w p B wd ad A) : p < w.heap.size := by
  obtain ⟨s, r, sm, rw, rfl, h1, _⟩ := h.ex
  exact h1.bk.lt
theorem prod_le {n pe : Int} (h0 : 0 ≤ n) (h1 : n ≤ 1000) (h2 : 1 ≤ pe) (h3 : pe ≤ 1099511627776) : 0 ≤ n * pe ∧ n * pe ≤ 1099511627776000 :=
  ⟨Int.mul_nonneg h0 (by omega), Int.le_trans (Int.mul_le_mul h1 h3 (by omega) (by omega)) (by decide)⟩
set_option maxHeartbeats 1000000 in
theorem ago1_any (p cb sb pb kb : Nat) (B : List Nat) (wd ad : Int) (A : List Ad) (key : ByteArray) (pe bk now n : Int) (w : World) (h : PaneAt w p B wd ad A) (hk : key.size ≤ 100) (hr : rightS pe bk wd now = true) (h0 : 0 ≤ n) (h1 : n ≤ 1000)
    (c1 : w.cell? ⟨cb, 0, none⟩ = some (.int .i64 (now - now % wd))) (c2 : w.cell? ⟨sb, 0, none⟩ = some (.int .i64 pe)) (c3 : w.cell? ⟨pb, 0, none⟩ = some (.pointer (some ⟨p, 0, none⟩))) (c4 : w.cell? ⟨kb, 0, none⟩ = some (.string key)) :
    Calls Try.prog 35 #[.int .i64 n, .pointer (some ⟨cb, 0, none⟩), .pointer (some ⟨sb, 0, none⟩), .pointer (some ⟨pb, 0, none⟩), .pointer (some ⟨kb, 0, none⟩)] w fun e w' => e = .returned (.int .i64 (sget A key (agoQ pe wd now n))) ∧ ∃ q, w' = w.drewN q := by
  obtain ⟨⟨r1, r2, r3, r4, r5, r6⟩, r7, r8⟩ := (rightS_iff _ _ _ _).1 hr
  have hp := prod_le h0 h1 r2 r3
  have hd := ago_div hr n
  have hw2 := h.w2
  have hmod : 0 ≤ now % wd ∧ now % wd < wd := ⟨Int.emod_nonneg _ (by omega), Int.emod_lt_of_pos _ (by omega)⟩
  have hS : ∀ m, Calls Try.prog 36 #[.pointer (some ⟨p, 0, none⟩), .string key, .int .i64 (now - now % wd - n * pe), .int .i64 (now - now % wd - n * pe + wd)] (w.drewN m) fun e w' => e = .returned (.int .i64 (sget A key (agoQ pe wd now n))) ∧ w.drewN m = w' := fun m => by
    have := sum_any p B wd ad A key (now - now % wd - n * pe) (now - now % wd - n * pe + wd) (w.drewN m) (h.drewN m) hk (by unfold I64; omega) (by unfold I64; omega)
    rw [hd.1, hd.2, psum_one] at this
    exact this
  have hW : ∀ m, Calls Try.prog 18 #[.pointer (some ⟨p, 0, none⟩)] (w.drewN m) fun e w' => e = .returned (.int .i64 wd) ∧ w.drewN m = w' := fun m => width_any p wd (w.drewN m) (h.drewN m).wdCell
  generalize sget A key (agoQ pe wd now n) = R at *
  have q1 : IntKind.i64.wrap (n * pe) = n * pe := IntWalk.i64_in _ (by omega)
  have hb : 0 ≤ now - now % wd ∧ now - now % wd ≤ 1099511627776 := by
    have := Int.mul_ediv_add_emod now wd
    have : 0 ≤ now / wd := Int.ediv_nonneg r7 (by omega)
    have : 0 ≤ wd * (now / wd) := Int.mul_nonneg (by omega) this
    omega
  generalize now - now % wd = b at *
  have q2 : IntKind.i64.wrap (b - n * pe) = b - n * pe := IntWalk.i64_in _ (by omega)
  have q3 : IntKind.i64.wrap (b - n * pe + wd) = b - n * pe + wd := IntWalk.i64_in _ (by omega)
  have HS := Lib.hid hS
  have HW := Lib.hid hW
  clear hS hW hd hr hmod h
  go_enter Try.func35, Try.ntmps35
  go_wp2_with fail
  go_quiet (first | (go_at_call 18; exact quiet_same (HW.out _)) | (go_at_call 36; exact quiet_same (HS.out _)))
  go_wp2_with fail
  go_ret
  exact ⟨rfl, nq, rfl⟩
/-- what ago's closure finds in memory -/
structure AgoAt (w : World) (p n : Nat) (key : ByteArray) (pe bk wd now : Int) : Prop where
  c1 : w.cell? ⟨n + 3, 0, none⟩ = some (.int .i64 (now - now % wd))
  c2 : w.cell? ⟨n + 1, 0, none⟩ = some (.int .i64 pe)
  c3 : w.cell? ⟨n, 0, none⟩ = some (.pointer (some ⟨p, 0, none⟩))
  c4 : w.cell? ⟨n + 2, 0, none⟩ = some (.string key)
theorem bk_at {W : World} {n : Nat} (cs : List Value) (t : TypeId) (h : W.heap.size = n) : Bk (W.alloc (.cells cs.toArray t)) n cs t := by subst h; exact Bk.new W cs t
theorem AgoAt.bel {w w' : World} {p n : Nat} {key : ByteArray} {pe bk wd now : Int} (h : AgoAt w p n key pe bk wd now) (hb : Below w.heap.size w w') (hn : n + 4 ≤ w.heap.size) : AgoAt w' p n key pe bk wd now :=
  ⟨(hb.cell (p := ⟨n + 3, 0, none⟩) (by show n + 3 < _; omega)).trans h.c1, (hb.cell (p := ⟨n + 1, 0, none⟩) (by show n + 1 < _; omega)).trans h.c2, (hb.cell (p := ⟨n, 0, none⟩) (by show n < _; omega)).trans h.c3, (hb.cell (p := ⟨n + 2, 0, none⟩) (by show n + 2 < _; omega)).trans h.c4⟩
set_option maxHeartbeats 1000000 in
theorem ago_any (p : Nat) (B : List Nat) (wd ad : Int) (A : List Ad) (key : ByteArray) (pe bk now : Int) (w : World) (h : PaneAt w p B wd ad A) (hr : rightS pe bk wd now = true) :
    Calls Try.prog 27 #[.pointer (some ⟨p, 0, none⟩), .agg #[.int .i64 pe, .int .i64 bk], .string key, .int .i64 now] w fun e w' => e = .returned (.func (.func 35) #[] #[.pointer (some ⟨w.heap.size + 3, 0, none⟩), .pointer (some ⟨w.heap.size + 1, 0, none⟩), .pointer (some ⟨w.heap.size, 0, none⟩), .pointer (some ⟨w.heap.size + 2, 0, none⟩)]) ∧ AgoAt w' p w.heap.size key pe bk wd now ∧ Below w.heap.size w w' ∧ w'.heap.size = w.heap.size + 4 := by
  obtain ⟨⟨r1, r2, r3, r4, r5, r6⟩, r7, r8⟩ := (rightS_iff _ _ _ _).1 hr
  have hb3 := (((Below.refl w.heap.size w).alloc (Nat.le_refl _) (.cells #[.pointer (some ⟨p, 0, none⟩)] 35)).alloc (by simp) (.cells #[.int .i64 pe, .int .i64 bk] 23)).alloc (by simp; omega) (.cells #[.string key] 9)
  have HW := Lib.hid (width_any p wd _ ((hb3.cell (p := ⟨p, 0, none⟩) h.ptr).trans h.wdCell))
  have HB := Lib.hid (hb3.alloc (by simp; omega) (.cells #[.int .i64 (now - now % wd)] 3))
  have k3 : Bk ((((w.alloc (.cells #[.pointer (some ⟨p, 0, none⟩)] 35)).alloc (.cells #[.int .i64 pe, .int .i64 bk] 23)).alloc (.cells #[.string key] 9)).alloc (.cells #[.int .i64 (now - now % wd)] 3)) (w.heap.size + 3) [.int .i64 (now - now % wd)] 3 := bk_at _ _ (by simp)
  have k2 : Bk (((w.alloc (.cells #[.pointer (some ⟨p, 0, none⟩)] 35)).alloc (.cells #[.int .i64 pe, .int .i64 bk] 23)).alloc (.cells #[.string key] 9)) (w.heap.size + 2) [.string key] 9 := bk_at _ _ (by simp)
  have k1 : Bk ((w.alloc (.cells #[.pointer (some ⟨p, 0, none⟩)] 35)).alloc (.cells #[.int .i64 pe, .int .i64 bk] 23)) (w.heap.size + 1) [.int .i64 pe, .int .i64 bk] 23 := bk_at _ _ (by simp)
  have k0 : Bk (w.alloc (.cells #[.pointer (some ⟨p, 0, none⟩)] 35)) w.heap.size [.pointer (some ⟨p, 0, none⟩)] 35 := bk_at _ _ rfl
  have HAG : Hid (AgoAt ((((w.alloc (.cells #[.pointer (some ⟨p, 0, none⟩)] 35)).alloc (.cells #[.int .i64 pe, .int .i64 bk] 23)).alloc (.cells #[.string key] 9)).alloc (.cells #[.int .i64 (now - now % wd)] 3)) p w.heap.size key pe bk wd now) := Lib.hid ⟨k3.cell 0, ((k1.old _).old _).cell 0, (((k0.old _).old _).old _).cell 0, (k2.old _).cell 0⟩
  have hw2 := h.w2
  clear hb3 h hr k0 k1 k2 k3
  go_enter Try.func27, Try.ntmps27
  go_wp2_with fail
  refine HW.out.mono ?_
  rintro e wx ⟨rfl, rfl⟩
  have hmod : 0 ≤ now % wd ∧ now % wd < wd := ⟨Int.emod_nonneg _ (by omega), Int.emod_lt_of_pos _ (by omega)⟩
  go_wp2_with fail
  go_ret
  exact ⟨rfl, HAG.out, HB.out, by simp⟩
set_option maxHeartbeats 1000000 in
theorem now_no (P : Option Addr) (pe bk now : Int) (key : ByteArray) (w : World) (hr : ∀ W, Below w.heap.size w W → Calls Try.prog 26 #[.pointer P, .agg #[.int .i64 pe, .int .i64 bk], .int .i64 now] W fun e w' => e = .returned (.bool false) ∧ Below W.heap.size W w') :
    Calls Try.prog 12 #[.pointer P, .agg #[.int .i64 pe, .int .i64 bk], .string key, .int .i64 now] w fun e w' => e = .returned (.int .i64 0) ∧ Below w.heap.size w w' := by
  have hb := (Below.refl w.heap.size w).alloc (Nat.le_refl _) (.cells #[.int .i64 pe, .int .i64 bk] 23)
  have HR := Lib.hid (hr _ hb)
  have HB := Lib.hid hb
  clear hr hb
  go_enter Try.func12, Try.ntmps12
  go_wp2_with fail
  refine HR.out.mono ?_
  rintro e w2 ⟨rfl, b2⟩
  have HB2 : Hid (Below w.heap.size w w2) := Lib.hid (HB.out.trans (b2.mono (by simp)))
  clear b2
  go_wp2_with fail
  go_ret
  exact ⟨rfl, HB2.out⟩
set_option maxHeartbeats 1000000 in
theorem now_yes (p : Nat) (B : List Nat) (wd ad : Int) (A : List Ad) (key : ByteArray) (pe bk now : Int) (w : World) (h : PaneAt w p B wd ad A) (hk : key.size ≤ 100) (hr : rightS pe bk wd now = true) :
    Calls Try.prog 12 #[.pointer (some ⟨p, 0, none⟩), .agg #[.int .i64 pe, .int .i64 bk], .string key, .int .i64 now] w fun e w' => e = .returned (.int .i64 (nowS A key wd now)) ∧ Below w.heap.size w w' := by
  obtain ⟨⟨r1, r2, r3, r4, r5, r6⟩, r7, r8⟩ := (rightS_iff _ _ _ _).1 hr
  have hw2 := h.w2
  have hb := (Below.refl w.heap.size w).alloc (Nat.le_refl _) (.cells #[.int .i64 pe, .int .i64 bk] 23)
  have hbk := Bk.new w [.int .i64 pe, .int .i64 bk] 23
  have hR := right_any p pe bk wd now (w.alloc (.cells #[.int .i64 pe, .int .i64 bk] 23)) ((hb.cell (p := ⟨p, 0, none⟩) h.ptr).trans h.wdCell) (by have := h.ptr; simp; omega) (by unfold I64; omega) (by unfold I64; omega) (by unfold I64; omega) (by unfold I64; omega)
  rw [hr] at hR
  have HR := Lib.hid hR
  have HB := Lib.hid hb
  have HBK := Lib.hid hbk
  have H := Lib.hid h
  have HRT := Lib.hid hr
  clear hb hbk hR h hr
  go_enter Try.func12, Try.ntmps12
  go_wp2_with fail
  refine HR.out.mono ?_
  rintro e w2 ⟨rfl, b2⟩
  have hB2 : Below w.heap.size w w2 := HB.out.trans (b2.mono (by simp))
  have hk2 := HBK.out.bel b2
  have k0 := hk2.cell 0
  have k1 := hk2.cell 1
  have AG := Lib.hid (ago_any p B wd ad A key pe bk now w2 (H.out.bel hB2) HRT.out)
  have HB2 := Lib.hid hB2
  clear b2 HR hB2 hk2
  go_wp2_with fail
  refine AG.out.mono ?_
  rintro e w3 ⟨rfl, a3, b3, z3⟩
  have hB3 : Below w.heap.size w w3 := HB2.out.trans (b3.mono HB2.out.size)
  have A1 := Lib.hid (ago1_any p _ _ _ _ B wd ad A key pe bk now 0 w3 (H.out.bel hB3) hk HRT.out (by omega) (by omega) a3.c1 a3.c2 a3.c3 a3.c4)
  have HB3 := Lib.hid hB3
  clear AG a3 b3 z3 hB3 k0 k1
  go_wp2_with fail
  refine A1.out.mono ?_
  rintro e w4 ⟨rfl, q, rfl⟩
  go_wp2_with fail
  go_ret
  exact ⟨by unfold nowS; rw [agoQ_zero]; rfl, bdrewN HB3.out q⟩
set_option maxHeartbeats 1000000 in
theorem usual_no (P : Option Addr) (pe bk now : Int) (key : ByteArray) (w : World) (hr : ∀ W, Below w.heap.size w W → Calls Try.prog 26 #[.pointer P, .agg #[.int .i64 pe, .int .i64 bk], .int .i64 now] W fun e w' => e = .returned (.bool false) ∧ Below W.heap.size W w') :
    Calls Try.prog 13 #[.pointer P, .agg #[.int .i64 pe, .int .i64 bk], .string key, .int .i64 now] w fun e w' => e = .returned (.agg #[.int .i64 0, .int .i64 1]) ∧ Below w.heap.size w w' := by
  have hb := ((Below.refl w.heap.size w).alloc (Nat.le_refl _) (.cells #[.int .i64 pe, .int .i64 bk] 23)).alloc (by simp) (.cells #[.int .i64 0, .int .i64 0] 28)
  have HR := Lib.hid (hr _ hb)
  have HB := Lib.hid hb
  have hbk := bk_at (W := w.alloc (.cells #[.int .i64 pe, .int .i64 bk] 23)) (n := w.heap.size + 1) [.int .i64 0, .int .i64 0] 28 (by simp)
  have HBK := Lib.hid hbk
  clear hr hb hbk
  go_enter Try.func13, Try.ntmps13
  go_wp2_with fail
  refine HR.out.mono ?_
  rintro e w2 ⟨rfl, b2⟩
  have HB2 : Hid (Below w.heap.size w w2) := Lib.hid (HB.out.trans (b2.mono (by simp; omega)))
  have hk := HBK.out.bel b2
  have c0 := hk.cell 0
  have c1 := hk.cell 1
  have f0 := hk.free 0
  have f1 := hk.free 1
  have hz : w.heap.size + 1 < w2.heap.size := hk.lt
  have HK := Lib.hid hk
  clear b2 hk
  go_wp2_with fail
  refine bodyPost_ret (v := .agg #[.int .i64 0, .int .i64 1]) (by simp [results, Try.results13, go_sem, c0, c1]) rfl ⟨rfl, ?_⟩
  exact (HB2.out.setCell (by simp) _).setCell (by simp) _
end Go.Proofs.Ytlmonbclloamiaa

/- Contract of season.Usual. -/
import Derived.Test.YtlmonbclloamiaaSAgo
namespace Go.Proofs.Ytlmonbclloamiaa
open Go.RowKit Go.MapKept Go.Maps Wide
set_option linter.unusedVariables false
set_option maxHeartbeats 2000000 in
theorem usual_yes (p : Nat) (B : List Nat) (wd ad : Int) (A : List Ad) (key : ByteArray) (pe bk now : Int) (w : World) (h : PaneAt w p B wd ad A) (hl : A.length ≤ 1000) (hk : key.size ≤ 100) (hr : rightS pe bk wd now = true) :
    Calls Try.prog 13 #[.pointer (some ⟨p, 0, none⟩), .agg #[.int .i64 pe, .int .i64 bk], .string key, .int .i64 now] w fun e w' => e = .returned (.agg #[.int .i64 (thenS A key pe wd now bk.toNat), .int .i64 bk]) ∧ Below w.heap.size w w' := by
  obtain ⟨⟨r1, r2, r3, r4, r5, r6⟩, r7, r8⟩ := (rightS_iff _ _ _ _).1 hr
  have hw2 := h.w2
  have hTS := fun n => thenS_bd h.ok hl key pe wd now n
  have HTS := Lib.hid hTS
  have hb := ((Below.refl w.heap.size w).alloc (Nat.le_refl _) (.cells #[.int .i64 pe, .int .i64 bk] 23)).alloc (by simp) (.cells #[.int .i64 0, .int .i64 0] 28)
  have hbk := (Bk.new w [.int .i64 pe, .int .i64 bk] 23).old (.cells #[.int .i64 0, .int .i64 0] 28)
  have hb2 : Bk ((w.alloc (.cells #[.int .i64 pe, .int .i64 bk] 23)).alloc (.cells #[.int .i64 0, .int .i64 0] 28)) (w.heap.size + 1) [.int .i64 0, .int .i64 0] 28 := bk_at _ _ (by simp)
  have hR := right_any p pe bk wd now _ ((hb.cell (p := ⟨p, 0, none⟩) h.ptr).trans h.wdCell) (by have := h.ptr; simp; omega) (by unfold I64; omega) (by unfold I64; omega) (by unfold I64; omega) (by unfold I64; omega)
  rw [hr] at hR
  have HR := Lib.hid hR
  have HB := Lib.hid hb
  have HBK := Lib.hid hbk
  have HBR := Lib.hid hb2
  have H := Lib.hid h
  have HRT := Lib.hid hr
  clear hb hbk hb2 hR h hr hTS
  obtain ⟨n, rfl⟩ : ∃ n : Nat, bk = n := ⟨bk.toNat, by omega⟩
  have e0 : ((n : Int)).toNat = n := rfl
  rw [e0]
  clear e0
  go_enter Try.func13, Try.ntmps13
  go_wp2_with fail
  refine HR.out.mono ?_
  rintro e w2 ⟨rfl, b2⟩
  have hB2 : Below w.heap.size w w2 := HB.out.trans (b2.mono (by simp; omega))
  have hk2 := HBK.out.bel b2
  have k0 := hk2.cell 0
  have k1 := hk2.cell 1
  have AG := Lib.hid (ago_any p B wd ad A key pe n now w2 (H.out.bel hB2) HRT.out)
  have HB2 := Lib.hid hB2
  have HK2 := Lib.hid hk2
  have HR2 := Lib.hid (HBR.out.bel b2)
  clear b2 HR hB2 hk2
  go_wp2_with fail
  refine AG.out.mono ?_
  rintro e w3 ⟨rfl, a3, b3, z3⟩
  have hB3 : Below w.heap.size w w3 := HB2.out.trans (b3.mono HB2.out.size)
  have HP3 := Lib.hid (H.out.bel hB3)
  have HA3 := Lib.hid a3
  have HB3 := Lib.hid hB3
  have hk3 := HK2.out.bel b3
  have hr3 := HR2.out.bel b3
  have HR3 := Lib.hid hr3
  have g1 := hk3.cell 1
  have HK3 := Lib.hid hk3
  clear AG a3 b3 z3 hB3 k0 k1 hk3 hr3
  generalize w2.heap.size = N2 at *
  go_wp2_with fail
  go_loopw [10, 25] (fun u c wr => ∃ (j z : Nat), j ≤ n ∧ c = .int .i64 j ∧ u = .int .i64 (thenS A key pe wd now j) ∧ wr = w3.drewN z) (fun _ c _ => n - (intOf c).toNat)
  case atStart => exact ⟨0, 0, by omega, rfl, rfl, rfl⟩
  case round =>
    obtain ⟨j, z, hj, rfl, rfl, rfl⟩ := hrel
    by_cases hlt : j < n
    · have hA := HA3.out
      have A1 := Lib.hid (ago1_any p _ _ _ _ B wd ad A key pe n now ((j : Int) + 1) (w3.drewN z) (HP3.out.drewN z) hk HRT.out (by omega) (by omega) hA.c1 hA.c2 hA.c3 hA.c4)
      have t1 := HTS.out j
      have t2 := HTS.out (j + 1)
      have HS : Hid (thenS A key pe wd now (j + 1) = thenS A key pe wd now j + sget A key (agoQ pe wd now ((j : Int) + 1))) := Lib.hid rfl
      rw [HS.out] at t2
      generalize sget A key (agoQ pe wd now ((j : Int) + 1)) = X at *
      clear hA
      generalize hT : thenS A key pe wd now j = T at *
      have HT := Lib.hid hT
      clear hT
      go_wp2_with fail
      refine A1.out.mono ?_
      rintro e w4 ⟨rfl, q, rfl⟩
      go_wp2_with fail
      go_roundw
      case rel => exact ⟨j + 1, z + q, by omega, by go_num, by rw [HS.out], by simp⟩
      case measure => simp [intOf]; omega
    · obtain rfl : j = n := by omega
      have gk : (w3.drewN z).cell? ⟨w.heap.size, 1, none⟩ = some (.int .i64 (j : Int)) := g1
      have hk := HR3.out
      have c0 : (w3.drewN z).cell? ⟨w.heap.size + 1, 0, none⟩ = some (.int .i64 0) := hk.cell 0
      have c1 : (w3.drewN z).cell? ⟨w.heap.size + 1, 1, none⟩ = some (.int .i64 0) := hk.cell 1
      have f0 : (w3.drewN z).frozen? ⟨w.heap.size + 1, 0, none⟩ = false := hk.free 0
      have f1 : (w3.drewN z).frozen? ⟨w.heap.size + 1, 1, none⟩ = false := hk.free 1
      clear hk
      generalize hT : thenS A key pe wd now j = T at *
      go_wp2_with fail
      refine bodyPost_ret (v := .agg #[.int .i64 T, .int .i64 (j : Int)]) (by simp [results, Try.results13, go_sem, c0, c1]) rfl ⟨by rw [hT], ?_⟩
      exact ((bdrewN HB3.out z).setCell (by simp) _).setCell (by simp) _
end Go.Proofs.Ytlmonbclloamiaa

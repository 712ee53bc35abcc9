/- For every input ciceronelaw17.PairsRemove returns true, and its arguments read behind the call as before. No conditions. -/
import Derived.Test.YtnpjihbaebbbcaaQOpen
import Derived.Test.YtnpjihbaebbbcaaMk
import Derived.Test.YtnpjihbaebbbcaaRows
import Derived.ProofKit
import Derived.OpenShut
import Derived.ShutString
import Derived.ChangeOld
import Derived.Below
import Derived.Lib.SmallJoins
namespace Go.Proofs.Ytnpjihbaebbbcaa.pairsRemove
open Go.ChangeShapes Go.WideShapes Go.ChangeAt Go.RowKit Go.Joins
open Go.ChangeMaps (open_string shut_string)
set_option linter.unusedVariables false

theorem svLen (x : Sv) : (svC x).length = 4 := rfl
theorem svOne (x : Sv) : ∀ u ∈ svC x, u.oneCell' = true := fun u hu => by
  simp only [svC, List.mem_cons, List.not_mem_nil, or_false] at hu
  rcases hu with rfl | rfl | rfl | rfl <;> rfl
theorem sizeSv : ∃ i, Try.prog.info? 30 = some i ∧ i.size = 4 := by
  obtain ⟨i0, hi0, hz0, hz1, hz2⟩ := info_parts sv_info
  exact ⟨i0, hi0, hz1⟩
theorem cntB_append (l d : List Sv) (x y : ByteArray) : cntB (l ++ d) x y = cntB l x y + cntB d x y := by unfold cntB; rw [List.countP_append]
theorem rem_step {l : List Sv} {k : Nat} {x : Sv} (h : l[k]? = some x) (d : List Sv) : bumpAll (cntF (l.take (k + 1) ++ d)) x.its (-1) = cntF (l.take k ++ d) := by
  funext a b
  rw [bumpAll_is, cntF_is, cntF_is, cntB_append, cntB_append, cntB_snoc h]
  by_cases e : hasB x a b = true
  · rw [if_pos e, if_pos e]; omega
  · rw [if_neg e, if_neg e]; omega
theorem rem_can {l : List Sv} {k : Nat} {x : Sv} (h : l[k]? = some x) (d : List Sv) : canB (cntF (l.take (k + 1) ++ d)) x.its = true := by
  rw [canB_iff]
  intro a ha b hb
  have e : hasB x a b = true := by
    unfold hasB
    rw [Bool.and_eq_true]
    exact ⟨(memB_iff _ _).2 ha, (memB_iff _ _).2 hb⟩
  rw [cntF_is, cntB_append, cntB_snoc h, if_pos e]
  omega
theorem rem_back (C : CF) (xs : List ByteArray) : bumpAll (bumpAll C xs (-1)) xs 1 = C := by
  funext a b
  unfold bumpAll
  by_cases h : a ∈ xs ∧ b ∈ xs
  · rw [if_pos h, if_pos h]; omega
  · rw [if_neg h, if_neg h]
theorem rem_small {l : List Sv} (h : l.length ≤ 1000) (xs : List ByteArray) : Small (bumpAll (cntF l) xs (-1)) := fun a b => by
  unfold bumpAll
  rw [cntF_is]
  have := cntB_le l a b
  split <;> omega
theorem sv_of_row {W : World} {v : Value} {l : List Sv} (h : W.ownsRow 0 30 4 v l.length (l.flatMap svC)) (ho : ∀ x ∈ l, SvOk W x) : ∃ b cap, v = .slice b l.length cap ∧ l.length ≤ cap ∧ cap ≤ maxLen ∧ SvIn W b l := by
  obtain ⟨b, cap, h1, h2, h3, h4, _⟩ := inw_of_rowm svLen (by decide) h
  exact ⟨b, cap, h1, h2, h3, h4, ho⟩
theorem sv_one {W : World} {g : Nat} {x : Sv} (h : Bk W g (svC x) 30) (ho : SvOk W x) : SvIn W (some ⟨g, 0, none⟩) [x] :=
  ⟨inw_one (f := svC) (sz := 4) h, fun y hy => by rw [List.mem_singleton.1 hy]; exact ho⟩
set_option maxRecDepth 20000 in
set_option maxHeartbeats 16000000 in
theorem walk (w : World) (b : Option Addr) (cap : Nat) (l : List Sv) (hlc : l.length ≤ cap) (hm : cap ≤ maxLen) (hi : InW w b 4 (l.map svC)) (ho : ∀ a ∈ l, SvOk w a) (fr : Int) (wf : (Lit.int .i64 fr).wf = true) (to : Int) (wt : (Lit.int .i64 to).wf = true) (mp : ByteArray) (mf mt : Int) (mb : Option Addr) (mc : Nat) (mx : List ByteArray) (_wp : mp.size ≤ maxLen) (_wf : (Lit.int .i64 mf).wf = true) (_wt : (Lit.int .i64 mt).wf = true) (hmx : mx.length ≤ mc) (hmc : mc ≤ maxLen) (hms : Strs w mb mx) (hmo : ∀ s ∈ mx, s.size ≤ maxLen) (x : ByteArray) (wx : x.size ≤ maxLen) (y : ByteArray) (wy : y.size ≤ maxLen) :
    Calls Try.prog 5 #[.slice b l.length cap, .int .i64 fr, .int .i64 to, .agg #[.string mp, .int .i64 mf, .int .i64 mt, .slice mb mx.length mc], .string x, .string y] w fun e w' => e = .returned (.bool true) ∧ Below w.heap.size w w' := by
  have hmOk : SvOk w ⟨mp, mf, mt, mb, mc, mx⟩ := ⟨hms, hmx, hmc, hmo⟩
  have HMO := Lib.hid hmOk
  have HB0 : Hid (Below w.heap.size w (w.alloc (.cells #[.string mp, .int .i64 mf, .int .i64 mt, .slice mb mx.length mc] 30))) := Lib.hid ((Below.refl _ _).alloc (Nat.le_refl _) _)
  have HM0 : Hid (Bk (w.alloc (.cells #[.string mp, .int .i64 mf, .int .i64 mt, .slice mb mx.length mc] 30)) w.heap.size [.string mp, .int .i64 mf, .int .i64 mt, .slice mb mx.length mc] 30) := Lib.hid (Bk.new w _ _)
  have LV := Lib.hid (lives_any (w.alloc (.cells #[.string mp, .int .i64 mf, .int .i64 mt, .slice mb mx.length mc] 30)))
  have H0 : Hid (Here K17 w (w.alloc (.cells #[.string mp, .int .i64 mf, .int .i64 mt, .slice mb mx.length mc] 30)) [.box w.heap.size [.string mp, .int .i64 mf, .int .i64 mt, .slice mb mx.length mc] 30]) := Lib.hid (q_box (Here.nil (K := K17) (Below.refl w.heap.size w)) _ _)
  have HSV : Hid (SvIn w b l) := Lib.hid ⟨hi, ho⟩
  have HV : Hid (∀ W, Below w.heap.size w W → Calls Try.prog 9 #[.slice b l.length cap, .int .i64 16] W fun e w' => e = .returned (.bool (heavyB l 16)) ∧ w' = W) := Lib.hid (fun W hb => heavy_any b cap l 16 W (HSV.out.bel hb) hm hlc (by omega))
  have HV2 : Hid (∀ W, Below w.heap.size w W → Calls Try.prog 9 #[.slice (some ⟨W.heap.size, 0, none⟩) 1 1, .int .i64 1] (W.alloc (.cells #[.string mp, .int .i64 mf, .int .i64 mt, .slice mb mx.length mc] 30)) fun e w' => e = .returned (.bool (heavyB [⟨mp, mf, mt, mb, mc, mx⟩] 1)) ∧ w' = W.alloc (.cells #[.string mp, .int .i64 mf, .int .i64 mt, .slice mb mx.length mc] 30)) := Lib.hid (fun W hb => heavy_any (some ⟨W.heap.size, 0, none⟩) 1 [⟨mp, mf, mt, mb, mc, mx⟩] 1 (W.alloc (.cells #[.string mp, .int .i64 mf, .int .i64 mt, .slice mb mx.length mc] 30)) (sv_one (x := ⟨mp, mf, mt, mb, mc, mx⟩) (Bk.new W _ _) (HMO.out.bel (hb.alloc hb.size _))) (by unfold maxLen; omega) (by simp) (by omega))
  clear hi ho hms hmo hmOk _wp _wf _wt
  have hm' := hm
  have wf' := i64_wf wf
  have wt' := i64_wf wt
  unfold I64 at wf' wt'
  unfold maxLen at hm wx wy
  by_cases hfw : heavyB l 16 = true
  · rw [hfw] at HV
    generalize l.length = n at *
    generalize mx.length = ml at *
    go_enter Try.func5, Try.ntmps5
    go_wp2_with fail
    refine LV.out.mono ?_
    rintro e w1 ⟨rfl, b1⟩
    have B1 := Lib.hid (HB0.out.trans (b1.mono HB0.out.size))
    have bm1 := HM0.out.bel b1
    have c0 : w1.cell? ⟨w.heap.size, 0, none⟩ = some (.string mp) := bm1.cell 0
    have c1 : w1.cell? ⟨w.heap.size, 1, none⟩ = some (.int .i64 mf) := bm1.cell 1
    have c2 : w1.cell? ⟨w.heap.size, 2, none⟩ = some (.int .i64 mt) := bm1.cell 2
    have c3 : w1.cell? ⟨w.heap.size, 3, none⟩ = some (.slice mb ml mc) := bm1.cell 3
    have BM1 := Lib.hid bm1
    have H1 := Lib.hid (H0.out.step_bel b1)
    have F1 := Lib.hid (HV.out w1 B1.out)
    have F2 := Lib.hid (HV2.out w1 B1.out)
    clear b1 HV LV bm1 HV2 HM0 H0
    go_wp2_with fail
    refine F1.out.mono ?_
    rintro e w2 ⟨rfl, rfl⟩
    clear F1
    go_wp2_with fail
    go_ret
    exact ⟨rfl, B1.out⟩
  rw [Bool.not_eq_true] at hfw
  rw [hfw] at HV
  obtain ⟨hn24, hits⟩ := heavy_no hfw
  clear hfw
  by_cases hfm : heavyB [⟨mp, mf, mt, mb, mc, mx⟩] 1 = true
  · rw [hfm] at HV2
    generalize l.length = n at *
    generalize mx.length = ml at *
    go_enter Try.func5, Try.ntmps5
    go_wp2_with fail
    refine LV.out.mono ?_
    rintro e w1 ⟨rfl, b1⟩
    have B1 := Lib.hid (HB0.out.trans (b1.mono HB0.out.size))
    have bm1 := HM0.out.bel b1
    have c0 : w1.cell? ⟨w.heap.size, 0, none⟩ = some (.string mp) := bm1.cell 0
    have c1 : w1.cell? ⟨w.heap.size, 1, none⟩ = some (.int .i64 mf) := bm1.cell 1
    have c2 : w1.cell? ⟨w.heap.size, 2, none⟩ = some (.int .i64 mt) := bm1.cell 2
    have c3 : w1.cell? ⟨w.heap.size, 3, none⟩ = some (.slice mb ml mc) := bm1.cell 3
    have BM1 := Lib.hid bm1
    have H1 := Lib.hid (H0.out.step_bel b1)
    have F1 := Lib.hid (HV.out w1 B1.out)
    have F2 := Lib.hid (HV2.out w1 B1.out)
    clear b1 HV LV bm1 HV2 HM0 H0
    go_wp2_with fail
    refine F1.out.mono ?_
    rintro e w2 ⟨rfl, rfl⟩
    clear F1
    go_wp2_with fail
    refine F2.out.mono ?_
    rintro e w3 ⟨rfl, rfl⟩
    clear F2
    have B3 := Lib.hid (B1.out.alloc (o := .cells #[.string mp, .int .i64 mf, .int .i64 mt, .slice mb ml mc] 30) B1.out.size)
    go_wp2_with fail
    go_ret
    exact ⟨rfl, B3.out⟩
  rw [Bool.not_eq_true] at hfm
  rw [hfm] at HV2
  have hml := ((heavy_no hfm).2 _ (List.mem_singleton.2 rfl)).1
  dsimp only at hml
  clear hfm
  by_cases hx : 100 < x.size
  · have tx : decide ((100 : Int) < (x.size : Int)) = true := decide_eq_true (by omega)
    generalize l.length = n at *
    generalize mx.length = ml at *
    go_enter Try.func5, Try.ntmps5
    go_wp2_with fail
    refine LV.out.mono ?_
    rintro e w1 ⟨rfl, b1⟩
    have B1 := Lib.hid (HB0.out.trans (b1.mono HB0.out.size))
    have bm1 := HM0.out.bel b1
    have c0 : w1.cell? ⟨w.heap.size, 0, none⟩ = some (.string mp) := bm1.cell 0
    have c1 : w1.cell? ⟨w.heap.size, 1, none⟩ = some (.int .i64 mf) := bm1.cell 1
    have c2 : w1.cell? ⟨w.heap.size, 2, none⟩ = some (.int .i64 mt) := bm1.cell 2
    have c3 : w1.cell? ⟨w.heap.size, 3, none⟩ = some (.slice mb ml mc) := bm1.cell 3
    have BM1 := Lib.hid bm1
    have H1 := Lib.hid (H0.out.step_bel b1)
    have F1 := Lib.hid (HV.out w1 B1.out)
    have F2 := Lib.hid (HV2.out w1 B1.out)
    clear b1 HV LV bm1 HV2 HM0 H0
    go_wp2_with fail
    refine F1.out.mono ?_
    rintro e w2 ⟨rfl, rfl⟩
    clear F1
    go_wp2_with fail
    refine F2.out.mono ?_
    rintro e w3 ⟨rfl, rfl⟩
    clear F2
    have B3 := Lib.hid (B1.out.alloc (o := .cells #[.string mp, .int .i64 mf, .int .i64 mt, .slice mb ml mc] 30) B1.out.size)
    go_wp2_with fail
    go_ret
    exact ⟨rfl, B3.out⟩
  have tx : decide ((100 : Int) < (x.size : Int)) = false := decide_eq_false (by omega)
  by_cases hy : 100 < y.size
  · have ty : decide ((100 : Int) < (y.size : Int)) = true := decide_eq_true (by omega)
    generalize l.length = n at *
    generalize mx.length = ml at *
    go_enter Try.func5, Try.ntmps5
    go_wp2_with fail
    refine LV.out.mono ?_
    rintro e w1 ⟨rfl, b1⟩
    have B1 := Lib.hid (HB0.out.trans (b1.mono HB0.out.size))
    have bm1 := HM0.out.bel b1
    have c0 : w1.cell? ⟨w.heap.size, 0, none⟩ = some (.string mp) := bm1.cell 0
    have c1 : w1.cell? ⟨w.heap.size, 1, none⟩ = some (.int .i64 mf) := bm1.cell 1
    have c2 : w1.cell? ⟨w.heap.size, 2, none⟩ = some (.int .i64 mt) := bm1.cell 2
    have c3 : w1.cell? ⟨w.heap.size, 3, none⟩ = some (.slice mb ml mc) := bm1.cell 3
    have BM1 := Lib.hid bm1
    have H1 := Lib.hid (H0.out.step_bel b1)
    have F1 := Lib.hid (HV.out w1 B1.out)
    have F2 := Lib.hid (HV2.out w1 B1.out)
    clear b1 HV LV bm1 HV2 HM0 H0
    go_wp2_with fail
    refine F1.out.mono ?_
    rintro e w2 ⟨rfl, rfl⟩
    clear F1
    go_wp2_with fail
    refine F2.out.mono ?_
    rintro e w3 ⟨rfl, rfl⟩
    clear F2
    have B3 := Lib.hid (B1.out.alloc (o := .cells #[.string mp, .int .i64 mf, .int .i64 mt, .slice mb ml mc] 30) B1.out.size)
    go_wp2_with fail
    go_ret
    exact ⟨rfl, B3.out⟩
  have ty : decide ((100 : Int) < (y.size : Int)) = false := decide_eq_false (by omega)
  by_cases hf : fr < 0
  · have tf : decide (fr < 0) = true := decide_eq_true (by omega)
    generalize l.length = n at *
    generalize mx.length = ml at *
    go_enter Try.func5, Try.ntmps5
    go_wp2_with fail
    refine LV.out.mono ?_
    rintro e w1 ⟨rfl, b1⟩
    have B1 := Lib.hid (HB0.out.trans (b1.mono HB0.out.size))
    have bm1 := HM0.out.bel b1
    have c0 : w1.cell? ⟨w.heap.size, 0, none⟩ = some (.string mp) := bm1.cell 0
    have c1 : w1.cell? ⟨w.heap.size, 1, none⟩ = some (.int .i64 mf) := bm1.cell 1
    have c2 : w1.cell? ⟨w.heap.size, 2, none⟩ = some (.int .i64 mt) := bm1.cell 2
    have c3 : w1.cell? ⟨w.heap.size, 3, none⟩ = some (.slice mb ml mc) := bm1.cell 3
    have BM1 := Lib.hid bm1
    have H1 := Lib.hid (H0.out.step_bel b1)
    have F1 := Lib.hid (HV.out w1 B1.out)
    have F2 := Lib.hid (HV2.out w1 B1.out)
    clear b1 HV LV bm1 HV2 HM0 H0
    go_wp2_with fail
    refine F1.out.mono ?_
    rintro e w2 ⟨rfl, rfl⟩
    clear F1
    go_wp2_with fail
    refine F2.out.mono ?_
    rintro e w3 ⟨rfl, rfl⟩
    clear F2
    have B3 := Lib.hid (B1.out.alloc (o := .cells #[.string mp, .int .i64 mf, .int .i64 mt, .slice mb ml mc] 30) B1.out.size)
    go_wp2_with fail
    go_ret
    exact ⟨rfl, B3.out⟩
  have tf : decide (fr < 0) = false := decide_eq_false (by omega)
  by_cases hg : to < fr
  · have tg : decide (to < fr) = true := decide_eq_true (by omega)
    generalize l.length = n at *
    generalize mx.length = ml at *
    go_enter Try.func5, Try.ntmps5
    go_wp2_with fail
    refine LV.out.mono ?_
    rintro e w1 ⟨rfl, b1⟩
    have B1 := Lib.hid (HB0.out.trans (b1.mono HB0.out.size))
    have bm1 := HM0.out.bel b1
    have c0 : w1.cell? ⟨w.heap.size, 0, none⟩ = some (.string mp) := bm1.cell 0
    have c1 : w1.cell? ⟨w.heap.size, 1, none⟩ = some (.int .i64 mf) := bm1.cell 1
    have c2 : w1.cell? ⟨w.heap.size, 2, none⟩ = some (.int .i64 mt) := bm1.cell 2
    have c3 : w1.cell? ⟨w.heap.size, 3, none⟩ = some (.slice mb ml mc) := bm1.cell 3
    have BM1 := Lib.hid bm1
    have H1 := Lib.hid (H0.out.step_bel b1)
    have F1 := Lib.hid (HV.out w1 B1.out)
    have F2 := Lib.hid (HV2.out w1 B1.out)
    clear b1 HV LV bm1 HV2 HM0 H0
    go_wp2_with fail
    refine F1.out.mono ?_
    rintro e w2 ⟨rfl, rfl⟩
    clear F1
    go_wp2_with fail
    refine F2.out.mono ?_
    rintro e w3 ⟨rfl, rfl⟩
    clear F2
    have B3 := Lib.hid (B1.out.alloc (o := .cells #[.string mp, .int .i64 mf, .int .i64 mt, .slice mb ml mc] 30) B1.out.size)
    go_wp2_with fail
    go_ret
    exact ⟨rfl, B3.out⟩
  have tg : decide (to < fr) = false := decide_eq_false (by omega)
  by_cases ht : (l.length : Int) < to
  · have tt : decide ((l.length : Int) < to) = true := decide_eq_true (by omega)
    generalize l.length = n at *
    generalize mx.length = ml at *
    go_enter Try.func5, Try.ntmps5
    go_wp2_with fail
    refine LV.out.mono ?_
    rintro e w1 ⟨rfl, b1⟩
    have B1 := Lib.hid (HB0.out.trans (b1.mono HB0.out.size))
    have bm1 := HM0.out.bel b1
    have c0 : w1.cell? ⟨w.heap.size, 0, none⟩ = some (.string mp) := bm1.cell 0
    have c1 : w1.cell? ⟨w.heap.size, 1, none⟩ = some (.int .i64 mf) := bm1.cell 1
    have c2 : w1.cell? ⟨w.heap.size, 2, none⟩ = some (.int .i64 mt) := bm1.cell 2
    have c3 : w1.cell? ⟨w.heap.size, 3, none⟩ = some (.slice mb ml mc) := bm1.cell 3
    have BM1 := Lib.hid bm1
    have H1 := Lib.hid (H0.out.step_bel b1)
    have F1 := Lib.hid (HV.out w1 B1.out)
    have F2 := Lib.hid (HV2.out w1 B1.out)
    clear b1 HV LV bm1 HV2 HM0 H0
    go_wp2_with fail
    refine F1.out.mono ?_
    rintro e w2 ⟨rfl, rfl⟩
    clear F1
    go_wp2_with fail
    refine F2.out.mono ?_
    rintro e w3 ⟨rfl, rfl⟩
    clear F2
    have B3 := Lib.hid (B1.out.alloc (o := .cells #[.string mp, .int .i64 mf, .int .i64 mt, .slice mb ml mc] 30) B1.out.size)
    go_wp2_with fail
    go_ret
    exact ⟨rfl, B3.out⟩
  have tt : decide ((l.length : Int) < to) = false := decide_eq_false (by omega)
  obtain ⟨f, rfl⟩ : ∃ f : Nat, fr = f := ⟨fr.toNat, by omega⟩
  obtain ⟨u, rfl⟩ : ∃ u : Nat, to = u := ⟨to.toNat, by omega⟩
  have hfu : f ≤ u := by omega
  have hul : u ≤ l.length := by omega
  have HLF : Hid (l.take u ++ l.drop u = l) := Lib.hid (List.take_append_drop u l)
  obtain ⟨L, hL⟩ : ∃ L, l.take f ++ l.drop u = L := ⟨_, rfl⟩
  have HLL := Lib.hid hL
  have HLsub : Hid (∀ s ∈ L, s ∈ l) := Lib.hid (fun s hs => by
    rw [← hL] at hs
    rcases List.mem_append.1 hs with h | h
    · exact List.mem_of_mem_take h
    · exact List.mem_of_mem_drop h)
  have HLlen : Hid (L.length ≤ 16) := Lib.hid (by
    rw [← hL, List.length_append, List.length_take, List.length_drop]; omega)
  have HLlt : Hid (Light L) := Lib.hid ⟨by have := HLlen.out; omega, fun s hs => by have := (hits s (HLsub.out s hs)).1; omega⟩
  have HLok : Hid (∀ W, Below w.heap.size w W → ∀ s ∈ L, SvOk W s) := Lib.hid (fun W hb s hs => (HSV.out.o s (HLsub.out s hs)).bel hb)
  clear hL
  have HLI : Hid (Light l) := Lib.hid ⟨by omega, fun s hs => by have := (hits s hs).1; omega⟩
  have OF : Hid (∀ W, Below w.heap.size w W → Calls Try.prog 14 #[.slice b l.length cap] W fun e w' => ∃ p t, e = .returned (.pointer (some ⟨p, 0, none⟩)) ∧ Here K17 W w' [.tab t (cntF l), .box p [.pointer (some ⟨t, 0, none⟩), .bool false] 52]) := Lib.hid (fun W hb => of_any b cap l W (HSV.out.bel hb) HLI.out hm' hlc)
  have HIT := Lib.hid hits
  have HMS : Hid (mx.length ≤ 12) := Lib.hid hml
  clear hits hml
  obtain ⟨n, hn⟩ : ∃ n, l.length = n := ⟨_, rfl⟩
  have HN := Lib.hid hn
  rw [hn] at hn24 hlc HV OF hul ht tt ⊢
  clear hn
  have HMXL : Hid (mx.length = mx.length) := Lib.hid rfl
  generalize hml : mx.length = ml at *
  have HML := Lib.hid hml
  clear hml HMXL
  have HT : Hid (∀ W, Below w.heap.size w W → InW W b 4 ((l.take f).map svC)) := Lib.hid (fun W hb => InW.take' (HSV.out.i.bel hb) f)
  have HD : Hid (∀ W, Below w.heap.size w W → InW W (subB b cap u 4) 4 ((l.drop u).map svC)) := Lib.hid (fun W hb => by
    rw [List.map_drop]
    exact subB_inw (HSV.out.i.bel hb) (by rw [List.length_map, HN.out]; omega))
  have hsl1 := fun W => run_slice_to (P := Try.prog) W 22 30 b n cap f 4 Try.underlying22 sizeSv (by omega)
  have hsl2 := fun W => run_slice_from (P := Try.prog) W 22 30 b n cap u 4 Try.underlying22 sizeSv (by omega)
  have ltk : (l.take f).length = f := by rw [List.length_take, HN.out]; omega
  have ldr : (l.drop u).length = n - u := by rw [List.length_drop, HN.out]
  have HLK := Lib.hid ltk
  have HLD := Lib.hid ldr
  clear ltk ldr
  have q6 : RowKit.wrap64 ((u : Int) - 1) = (u : Int) - 1 := IntWalk.wrap64_in _ (by omega)
  go_enter Try.func5, Try.ntmps5
  go_wp2_with fail
  refine LV.out.mono ?_
  rintro e w1 ⟨rfl, b1⟩
  have B1 := Lib.hid (HB0.out.trans (b1.mono HB0.out.size))
  have bm1 := HM0.out.bel b1
  have c0 : w1.cell? ⟨w.heap.size, 0, none⟩ = some (.string mp) := bm1.cell 0
  have c1 : w1.cell? ⟨w.heap.size, 1, none⟩ = some (.int .i64 mf) := bm1.cell 1
  have c2 : w1.cell? ⟨w.heap.size, 2, none⟩ = some (.int .i64 mt) := bm1.cell 2
  have c3 : w1.cell? ⟨w.heap.size, 3, none⟩ = some (.slice mb ml mc) := bm1.cell 3
  have BM1 := Lib.hid bm1
  have H1 := Lib.hid (H0.out.step_bel b1)
  have F1 := Lib.hid (HV.out w1 B1.out)
  have F2 := Lib.hid (HV2.out w1 B1.out)
  clear b1 HV LV bm1 HV2 HM0 H0
  go_wp2_with fail
  refine F1.out.mono ?_
  rintro e w2 ⟨rfl, rfl⟩
  clear F1
  go_wp2_with fail
  refine F2.out.mono ?_
  rintro e w3 ⟨rfl, rfl⟩
  clear F2
  have B3 := Lib.hid (B1.out.alloc (o := .cells #[.string mp, .int .i64 mf, .int .i64 mt, .slice mb ml mc] 30) B1.out.size)
  have H3 := Lib.hid (H1.out.step_bel ((Below.refl w2.heap.size w2).alloc (Nat.le_refl _) (.cells #[.string mp, .int .i64 mf, .int .i64 mt, .slice mb ml mc] 30)))
  clear c0 c1 c2 c3 BM1 H1
  generalize w2.alloc (.cells #[.string mp, .int .i64 mf, .int .i64 mt, .slice mb ml mc] 30) = w3 at *
  have O1 := Lib.hid (OF.out w3 B3.out)
  go_wp2_with fail
  refine O1.out.mono ?_
  rintro e w4 ⟨p, t, rfl, h4⟩
  have H4 : Hid (Here K17 w w4 [.box w.heap.size [.string mp, .int .i64 mf, .int .i64 mt, .slice mb ml mc] 30, .tab t (cntF (l.take u ++ l.drop u)), .box p [.pointer (some ⟨t, 0, none⟩), .bool false] 52]) := Lib.hid (by rw [HLF.out]; exact H3.out.adopts h4)
  clear h4 O1 H3 B3 B1
  go_wp2_with fail
  go_loopw [14] (fun c wr => ∃ k : Nat, f ≤ k ∧ k ≤ u ∧ c = .int .i64 ((k : Int) - 1) ∧ Hid (Here K17 w wr [.box w.heap.size [.string mp, .int .i64 mf, .int .i64 mt, .slice mb ml mc] 30, .tab t (cntF (l.take k ++ l.drop u)), .box p [.pointer (some ⟨t, 0, none⟩), .bool false] 52])) (fun c _ => (intOf c + 1).toNat)
  case atStart => exact ⟨u, hfu, Nat.le_refl _, rfl, H4⟩
  case round =>
    obtain ⟨k, hfk, hku, rfl, HR⟩ := hrel
    clear H4
    by_cases hlt : f < k
    · obtain ⟨j, rfl⟩ : ∃ j, k = j + 1 := ⟨k - 1, by omega⟩
      have ej : ((j + 1 : Nat) : Int) - 1 = (j : Int) := by omega
      rw [ej]
      have t59 : decide ((f : Int) ≤ (j : Int)) = true := decide_eq_true (by omega)
      have q7 : RowKit.wrap64 ((j : Int) - 1) = (j : Int) - 1 := IntWalk.wrap64_in _ (by omega)
      obtain ⟨s, hs⟩ : ∃ s, l[j]? = some s := ⟨l[j]'(by have := HN.out; omega), List.getElem?_eq_getElem _⟩
      have hS := HSV.out.bel HR.out.bel
      obtain ⟨B, off, rfl, hB, d0, d1, d2, d3⟩ := svAt hS hs
      have hsm := List.mem_of_getElem? hs
      have HDS := Lib.hid (rem_step hs (l.drop u))
      have hj0 : (0 : Int) ≤ (j : Int) := by omega
      have hj1 : (j : Int) < (n : Int) := by omega
      have RM := Lib.hid (q_remove_no (i := 2) (j := 1) HR.out rfl rfl (cntF_small (by rw [List.length_append, List.length_take, List.length_drop, HN.out]; omega)) s (hS.o s hsm).st (hS.o s hsm).sz (by have := (HIT.out s hsm).1; omega))
      rw [rem_can hs, if_pos rfl, HDS.out] at RM
      clear hs hS hsm hB HDS ej HT HD hsl1 hsl2 q6
      go_wp2_with fail
      refine RM.out.mono ?_
      rintro e w6 ⟨rfl, h6⟩
      have H6 : Hid (Here K17 w w6 [.box w.heap.size [.string mp, .int .i64 mf, .int .i64 mt, .slice mb ml mc] 30, .tab t (cntF (l.take j ++ l.drop u)), .box p [.pointer (some ⟨t, 0, none⟩), .bool false] 52]) := Lib.hid h6
      clear h6 RM HR d0 d1 d2 d3
      go_wp2_with fail
      go_roundw
      case rel => exact ⟨j, by omega, by omega, rfl, H6⟩
      case measure => simp [intOf]
    · obtain rfl : k = f := by omega
      have t59 : decide ((k : Int) ≤ (k : Int) - 1) = false := decide_eq_false (by omega)
      obtain ⟨i0, hi0T, hz0, hz1, hz2⟩ := info_parts sv_info
      have BR := Lib.hid HR.out.bel
      have M0 := Lib.hid ((MkG.empty (t := 30) (sz := 4) (f := svC) wr).drew)
      have HLN1 : Hid (([] : List Sv).length + (l.take k).length ≤ 1000000) := Lib.hid (by rw [HLK.out]; simp; omega)
      have HLN2 : Hid ((([] : List Sv) ++ l.take k).length + (l.drop u).length ≤ 1000000) := Lib.hid (by rw [List.nil_append, HLK.out, HLD.out]; omega)
      clear q6
      go_wp2_with fail
      go_region_held3 (fun X => True) (first | trivial | assumption)
        (first
          | (refine step_append_m svLen svOne (by rfl) _ _ _ (by rfl) 30 i0 _ 56 Try.underlying22 hi0T hz0 hz1 hz2 rfl (by decide) (by omega) (.slice (some ⟨wr.heap.size, 0, none⟩) 0 0) [] (l.take k) (by rfl) M0.out.tx b k cap (by rfl) HLK.out.symm (HT.out _ (Below.trans' BR.out M0.out.bl)) HLN1.out ?_
             intro v7 w7 o7 f7 h7
             have M7 := Lib.hid (M0.out.more o7 f7 h7)
             clear o7 f7 h7)
          | (refine step_append_m svLen svOne (by rfl) _ _ _ (by rfl) 30 i0 _ 56 Try.underlying22 hi0T hz0 hz1 hz2 rfl (by decide) (by omega) v7 ([] ++ l.take k) (l.drop u) (by rfl) M7.out.tx (subB b cap u 4) (n - u) (cap - u) (by rfl) HLD.out.symm (HD.out _ (Below.trans' BR.out M7.out.bl)) HLN2.out ?_
             intro v8 w8 o8 f8 h8
             have M8 := Lib.hid (M7.out.more o8 f8 h8)
             clear o8 f8 h8)
          | fail)
      have h8 := q_row HR.out M8.out.bl M8.out.tx M8.out.nw
      rw [List.nil_append, HLL.out] at h8
      have ht8 := M8.out.tx
      rw [List.nil_append, HLL.out] at ht8
      have hb8 : Below w.heap.size w w8 := Below.trans' BR.out M8.out.bl
      obtain ⟨lb, lc, rfl, hlc1, hlc2, _⟩ := sv_of_row ht8 (HLok.out w8 hb8)
      generalize hNL : L.length = N at *
      have HNL := Lib.hid hNL
      have H8 : Hid (Here K17 w w8 [.box w.heap.size [.string mp, .int .i64 mf, .int .i64 mt, .slice mb ml mc] 30, .tab t (cntF L), .box p [.pointer (some ⟨t, 0, none⟩), .bool false] 52, .row (.slice lb N lc) 30 4 N (L.flatMap svC)]) := Lib.hid h8
      have HSL : Hid (∀ W os', Here K17 w W os' → os'[3]? = some (.row (.slice lb N lc) 30 4 N (L.flatMap svC)) → SvIn W lb L) := Lib.hid (fun W os' hh hr => by
        have ht := q_rowAt hh hr
        rw [← HNL.out] at ht
        obtain ⟨b', c', he, _, _, hs⟩ := sv_of_row ht (HLok.out W hh.bel)
        cases he
        exact hs)
      have TL : Hid (Tells (cntF L) L) := Lib.hid (fun u v => cntF_is L u v)
      have EVL : Hid (∀ W os', Here K17 w W os' → os'[3]? = some (.row (.slice lb N lc) 30 4 N (L.flatMap svC)) → os'[1]? = some (.tab t (cntF L)) → os'[2]? = some (.box p [.pointer (some ⟨t, 0, none⟩), .bool false] 52) → Calls Try.prog 13 #[.pointer (some ⟨p, 0, none⟩), .slice lb N lc, .string x, .string y] W fun e w' => e = .returned (.bool true) ∧ Below W.heap.size W w') := Lib.hid (fun W os' hh h3 h1 h2 => by
        have := even_any p (cntF L) lb lc L x y W (pr_here hh h2 h1) TL.out (HSL.out W os' hh h3) HLlt.out hlc2 (by rw [HNL.out]; exact hlc1) (by omega) (by omega)
        rw [HNL.out] at this
        exact this)
      have DCL : Hid (∀ W os', Here K17 w W os' → os'[3]? = some (.row (.slice lb N lc) 30 4 N (L.flatMap svC)) → ∀ z z' : ByteArray, Calls Try.prog 18 #[.slice lb N lc, .string z, .string z'] W fun e w' => e = .returned (.int .i64 (cntF L z z')) ∧ w' = W) := Lib.hid (fun W os' hh h3 z z' => by
        have := dcount_any lb lc L z z' W (HSL.out W os' hh h3) HLlt.out hlc2 (by rw [HNL.out]; exact hlc1)
        rw [HNL.out] at this
        rw [cntF_is]
        exact this)
      have E8 := Lib.hid (EVL.out w8 _ H8.out rfl rfl rfl)
      clear hi0T hz0 hz1 hz2 h8 ht8 hb8 hNL M0 M7 M8 HR BR HT HD hsl1 hsl2 HLN1 HLN2
      go_wp2_with fail
      refine E8.out.mono ?_
      rintro e w9 ⟨rfl, b9⟩
      have H9 := Lib.hid (H8.out.step_bel b9)
      have hml12 : ml ≤ 12 := by have := HMS.out; have := HML.out; omega
      have HA0 : Hid ((mx.take 0).all (fun a => mx.all fun b => decide (0 < cntF L a b)) = true) := Lib.hid rfl
      clear b9 E8 H8
      go_wp2_with fail
      go_loopw [16, 17] (fun cn c wr => ∃ (i : Nat) (r : Bool) (q : Nat), i ≤ ml ∧ cn = .bool r ∧ c = .int .i64 i ∧ wr = w9.drewN q ∧ Hid ((mx.take i).all (fun a => mx.all fun b => decide (0 < cntF L a b)) = r)) (fun _ c _ => ml - (intOf c).toNat)
      case atStart => exact ⟨0, true, 0, by omega, rfl, rfl, rfl, HA0⟩
      case round =>
        obtain ⟨i, r, q, hi, rfl, rfl, rfl, HA⟩ := hrel
        clear HA0
        have HW := Lib.hid (H9.out.drewN q)
        generalize hWe : w9.drewN q = W at *
        have HWE := Lib.hid hWe
        clear hWe
        have hbk := q_boxAt HW.out (i := 0) rfl
        have c0 : W.cell? ⟨w.heap.size, 0, none⟩ = some (.string mp) := hbk.cell 0
        have c1 : W.cell? ⟨w.heap.size, 1, none⟩ = some (.int .i64 mf) := hbk.cell 1
        have c2 : W.cell? ⟨w.heap.size, 2, none⟩ = some (.int .i64 mt) := hbk.cell 2
        have c3 : W.cell? ⟨w.heap.size, 3, none⟩ = some (.slice mb ml mc) := hbk.cell 3
        clear hbk
        by_cases hlt : i < ml
        · obtain ⟨za, hza⟩ : ∃ a, mx[i]? = some a := ⟨mx[i]'(by have := HML.out; omega), List.getElem?_eq_getElem _⟩
          have HZA := Lib.hid hza
          have HB0 : Hid ((r && (mx.take 0).all (fun b => decide (0 < cntF L za b))) = r) := Lib.hid (by simp)
          clear hza
          go_wp2_with fail
          go_loopw [16, 18] (fun cn c wr => ∃ (j : Nat) (r2 : Bool) (q : Nat), j ≤ ml ∧ cn = .bool r2 ∧ c = .int .i64 j ∧ wr = w9.drewN q ∧ Hid ((r && (mx.take j).all (fun b => decide (0 < cntF L za b))) = r2)) (fun _ c _ => ml - (intOf c).toNat)
          case atStart => exact ⟨0, r, q, by omega, rfl, rfl, HWE.out.symm, HB0⟩
          case round =>
            obtain ⟨j, r2, q2, hj, rfl, rfl, rfl, HB⟩ := hrel
            clear HB0 HW HWE c0 c1 c2 c3
            have HW := Lib.hid (H9.out.drewN q2)
            generalize hWe : w9.drewN q2 = W2 at *
            have HWE := Lib.hid hWe
            clear hWe
            have hbk := q_boxAt HW.out (i := 0) rfl
            have c3 : W2.cell? ⟨w.heap.size, 3, none⟩ = some (.slice mb ml mc) := hbk.cell 3
            clear hbk
            by_cases hjt : j < ml
            · obtain ⟨zb, hzb⟩ : ∃ a, mx[j]? = some a := ⟨mx[j]'(by have := HML.out; omega), List.getElem?_eq_getElem _⟩
              obtain ⟨Bm, offm, hmb, hBm, ca⟩ := ((HMO.out.bel HW.out.bel).st).at HZA.out
              obtain ⟨Bm', offm', hmb', hBm', cb⟩ := ((HMO.out.bel HW.out.bel).st).at hzb
              dsimp only at hmb hmb'
              rw [hmb] at hmb' c3
              cases hmb'
              have HB1 : Hid ((r && (mx.take (j + 1)).all (fun b => decide (0 < cntF L za b))) = (r2 && decide (0 < cntF L za zb))) := Lib.hid (by
                rw [List.take_add_one, hzb, List.all_append, ← HB.out]
                simp [Bool.and_assoc])
              have hi0 : (0 : Int) ≤ (i : Int) := by omega
              have hi1 : (i : Int) < (ml : Int) := by omega
              have hj0 : (0 : Int) ≤ (j : Int) := by omega
              have hj1 : (j : Int) < (ml : Int) := by omega
              have DC : Hid (∀ m, Calls Try.prog 18 #[.slice lb N lc, .string za, .string zb] (W2.drewN m) fun e w' => e = .returned (.int .i64 (cntF L za zb)) ∧ w' = W2.drewN m) := Lib.hid (fun m => DCL.out _ _ (HW.out.drewN m) rfl za zb)
              have HBJ : Hid (∀ r3, (r2 && decide (0 < cntF L za zb)) = r3 → (r && (mx.take (j + 1)).all (fun b => decide (0 < cntF L za b))) = r3) := Lib.hid (fun r3 h => HB1.out.trans h)
              clear hzb hBm hBm' hmb HB HB1
              generalize hg : cntF L za zb = g at DC
              have HG := Lib.hid hg
              clear hg
              cases r2 with
              | false =>
                have HB2 := Lib.hid (HBJ.out false rfl)
                clear HBJ DC
                go_wp2_with fail
                go_quiet (fail)
                go_wp2_with fail
                go_roundw
                case rel => exact ⟨j + 1, false, q2 + nq, by omega, rfl, by go_num, by rw [← HWE.out]; simp, HB2⟩
                case measure => simp [intOf]; omega
              | true =>
                obtain ⟨r3, hr3⟩ : ∃ r3, decide (0 < g) = r3 := ⟨_, rfl⟩
                have HB2 := Lib.hid (HBJ.out r3 (by rw [HG.out, hr3]; rfl))
                clear HBJ HG
                go_wp2_with fail
                go_quiet (first | (go_at_call 18; refine Calls.quiet_of_same (DC.out _)) | fail)
                go_wp2_with fail
                go_roundw
                case rel => exact ⟨j + 1, r3, q2 + nq, by omega, rfl, by go_num, by rw [← HWE.out]; simp, HB2⟩
                case measure => simp [intOf]; omega
            · have HA1 : Hid ((mx.take (i + 1)).all (fun a => mx.all fun b => decide (0 < cntF L a b)) = r2) := Lib.hid (by
                have h := HB.out
                have ht : mx.take j = mx := List.take_of_length_le (by have := HML.out; omega)
                rw [ht] at h
                rw [List.take_add_one, HZA.out, List.all_append, HA.out, ← h]
                simp)
              clear HB HA
              go_wp2_with fail
              go_roundw
              case rel => exact ⟨i + 1, r2, q2, by omega, rfl, by go_num, HWE.out.symm, HA1⟩
              case measure => simp [intOf]; omega
        · have HCN : Hid (canB (cntF L) mx = r) := Lib.hid (by
            have h := HA.out
            rw [List.take_of_length_le (by have := HML.out; omega)] at h
            exact h)
          have hst := (HMO.out.bel HW.out.bel).st
          have RM := Lib.hid (q_remove_no (i := 2) (j := 1) HW.out rfl rfl (cntF_small (by have := HLlen.out; have := HNL.out; omega)) ⟨mp, mf, mt, mb, mc, mx⟩ hst HMO.out.sz (by have := HMS.out; have := HML.out; dsimp only; omega))
          dsimp only at RM
          rw [HML.out] at RM
          clear HA hst
          cases r with
          | false =>
            rw [HCN.out, if_neg (by decide)] at RM
            go_wp2_with fail
            refine RM.out.mono ?_
            rintro e w10 ⟨rfl, h10⟩
            have E10 := Lib.hid (EVL.out w10 _ h10 rfl rfl rfl)
            have B10 := Lib.hid h10.bel
            clear h10 RM
            go_wp2_with fail
            refine E10.out.mono ?_
            rintro e w11 ⟨rfl, b11⟩
            have B11 := Lib.hid (Below.trans' B10.out b11)
            clear b11 E10
            go_wp2_with fail
            go_ret
            exact ⟨rfl, B11.out⟩
          | true =>
            rw [HCN.out, if_pos rfl] at RM
            go_wp2_with fail
            refine RM.out.mono ?_
            rintro e w10 ⟨rfl, h10⟩
            have H10 : Hid (Here K17 w w10 [.box w.heap.size [.string mp, .int .i64 mf, .int .i64 mt, .slice mb ml mc] 30, .tab t (bumpAll (cntF L) mx (-1)), .box p [.pointer (some ⟨t, 0, none⟩), .bool false] 52, .row (.slice lb N lc) 30 4 N (L.flatMap svC)]) := Lib.hid h10
            have hst := (HMO.out.bel h10.bel).st
            have AD := Lib.hid (q_add_no (i := 2) (j := 1) H10.out rfl rfl (rem_small (by have := HLlen.out; have := HNL.out; omega) mx) ⟨mp, mf, mt, mb, mc, mx⟩ hst HMO.out.sz (by have := HMS.out; have := HML.out; dsimp only; omega))
            dsimp only at AD
            rw [HML.out, rem_back] at AD
            have hbk := q_boxAt H10.out (i := 0) rfl
            have c0 : w10.cell? ⟨w.heap.size, 0, none⟩ = some (.string mp) := hbk.cell 0
            have c1 : w10.cell? ⟨w.heap.size, 1, none⟩ = some (.int .i64 mf) := hbk.cell 1
            have c2 : w10.cell? ⟨w.heap.size, 2, none⟩ = some (.int .i64 mt) := hbk.cell 2
            have c3 : w10.cell? ⟨w.heap.size, 3, none⟩ = some (.slice mb ml mc) := hbk.cell 3
            clear h10 RM hst hbk
            go_wp2_with fail
            refine AD.out.mono ?_
            rintro e w11 ⟨rfl, h11⟩
            have E11 := Lib.hid (EVL.out w11 _ h11 rfl rfl rfl)
            have B11 := Lib.hid h11.bel
            clear h11 AD
            go_wp2_with fail
            refine E11.out.mono ?_
            rintro e w12 ⟨rfl, b12⟩
            have B12 := Lib.hid (Below.trans' B11.out b12)
            clear b12 E11
            go_wp2_with fail
            go_ret
            exact ⟨rfl, B12.out⟩

theorem own : ownKnob Try.prog.godebug = none := by kernel_rfl
theorem laidOut : laidOutB Try.prog = true := by kernel_rfl

set_option maxRecDepth 100000 in
theorem lifted (os : Os) (started : os.Started) (H : Type) (enc : TypeId × Value → H) :
    ReturnsInHanded {} Try.checked os 5 .any (Rows.pairsRemoveSpec.pre6 enc Try.prog Try.f5 Rows.pairsRemoveRow.domain false) (Rows.pairsRemoveSpec.post enc Try.prog Try.f5 false true false false) := by
  refine returnsInHanded_of_change (C := Try.checked) own started (by kernel_rfl) Try.func5
    (ChangeSpec.witness6 (enc := enc) (C := Try.checked) false ⟨#[], #[.slice none 0 0, .int .i64 0, .int .i64 0, .agg #[.string ⟨#[]⟩, .int .i64 0, .int .i64 0, .slice none 0 0], .string ⟨#[]⟩, .string ⟨#[]⟩], []⟩ 8 (by kernel_rfl) (by kernel_rfl) (by kernel_rfl) (by kernel_rfl)) ?_
  intro W base args ds gs before hval0 hW hcnd _
  have hval : ∀ (j : Nat) t v, Try.f5.params[j]? = some t → args[j]? = some v → Value.okWide Try.prog W .any base t v := hval0
  have hW' := hW
  obtain ⟨p, q, hA0, hV, rfl, hfz, hnd⟩ := hW
  have hA : DataW.TrodAll enc Try.prog W 0 (fun _ => true) true Try.f5.params.toList args.toList ds p := hA0
  rw [Try.params5] at hA hval
  obtain ⟨v0, vs0, d0, ds0, p0, q0, hargs, rfl, rfl, h0, r0⟩ := trodAll_cons hA
  obtain ⟨v1, vs1, d1, ds1, p1, q1, rfl, rfl, rfl, h1, r1⟩ := trodAll_cons r0
  obtain ⟨v2, vs2, d2, ds2, p2, q2, rfl, rfl, rfl, h2, r2⟩ := trodAll_cons r1
  obtain ⟨v3, vs3, d3, ds3, p3, q3, rfl, rfl, rfl, h3, r3⟩ := trodAll_cons r2
  obtain ⟨v4, vs4, d4, ds4, p4, q4, rfl, rfl, rfl, h4, r4⟩ := trodAll_cons r3
  obtain ⟨v5, vs5, d5, ds5, p5, q5, rfl, rfl, rfl, h5, r5⟩ := trodAll_cons r4
  obtain ⟨rfl, rfl, rfl⟩ := trodAll_nil r5
  obtain rfl : args = #[v0, v1, v2, v3, v4, v5] := by cases args; simp_all
  obtain ⟨rfl, rfl⟩ := trodVars_none hV
  have k0 := h0
  have lt0 : ∀ x ∈ p0, x.block < W.heap.size := by obtain ⟨m, hm⟩ := k0; exact DataW.trod_lt m _ _ _ hm
  obtain ⟨b0, c0, x0, rfl, l0, m0, i0, o0⟩ := open_svs (hval 0 22 v0 rfl rfl) h0
  have k1 := h1
  have lt1 : ∀ x ∈ p1, x.block < W.heap.size := by obtain ⟨m, hm⟩ := k1; exact DataW.trod_lt m _ _ _ hm
  obtain ⟨a1, rfl, rfl, rfl, w1⟩ := open_int Try.underlying3 (hval 1 3 v1 rfl rfl) h1
  have k2 := h2
  have lt2 : ∀ x ∈ p2, x.block < W.heap.size := by obtain ⟨m, hm⟩ := k2; exact DataW.trod_lt m _ _ _ hm
  obtain ⟨a2, rfl, rfl, rfl, w2⟩ := open_int Try.underlying3 (hval 2 3 v2 rfl rfl) h2
  have k3 := h3
  have lt3 : ∀ x ∈ p3, x.block < W.heap.size := by obtain ⟨m, hm⟩ := k3; exact DataW.trod_lt m _ _ _ hm
  obtain ⟨c30, c31, c32, c33, y30, y31, y32, y33, m3, rfl, hd3, hp3, hy30, hy31, hy32, hy33⟩ := open_agg4 Try.underlying30 (by kernel_rfl) (by kernel_rfl) (hval 3 30 v3 rfl rfl) h3
  obtain ⟨s3, e30, _, w30⟩ := DataW.trod_string Try.underlying9 hy30
  obtain ⟨a3, e31, _, w31⟩ := DataW.trod_int Try.underlying3 hy31
  obtain ⟨g3, e32, _, w32⟩ := DataW.trod_int Try.underlying3 hy32
  obtain ⟨b3, n3, x3, e33, l3, mm3, i3, o3⟩ := open_texts_in hy33
  simp at e30 e31 e32
  subst e30 e31 e32 e33
  have k4 := h4
  have lt4 : ∀ x ∈ p4, x.block < W.heap.size := by obtain ⟨m, hm⟩ := k4; exact DataW.trod_lt m _ _ _ hm
  obtain ⟨a4, rfl, rfl, rfl, w4⟩ := open_string Try.underlying9 (hval 4 9 v4 rfl rfl) h4
  have k5 := h5
  have lt5 : ∀ x ∈ p5, x.block < W.heap.size := by obtain ⟨m, hm⟩ := k5; exact DataW.trod_lt m _ _ _ hm
  obtain ⟨a5, rfl, rfl, rfl, w5⟩ := open_string Try.underlying9 (hval 5 9 v5 rfl rfl) h5
  clear hA0 hval0
  refine (walk W b0 c0 x0 l0 m0 i0 o0 a1 w1 a2 w2 s3 a3 g3 b3 n3 x3 w30 w31 w32 l3 mm3 i3 o3 a4 w4 a5 w5).mono fun e W' ⟨he, bel⟩ => ?_
  subst he
  exact ⟨_, rfl, _, _, _, [], _, [], hW', trodAll_mk1 (shut_bool Try.underlying4 _), (trodAll_cons_mk (Below.trod laidOut (by kernel_rfl) (of_decide_eq_true (by kernel_rfl)) k0 bel lt0) (trodAll_cons_mk (Below.trod laidOut (by kernel_rfl) (of_decide_eq_true (by kernel_rfl)) k1 bel lt1) (trodAll_cons_mk (Below.trod laidOut (by kernel_rfl) (of_decide_eq_true (by kernel_rfl)) k2 bel lt2) (trodAll_cons_mk (Below.trod laidOut (by kernel_rfl) (of_decide_eq_true (by kernel_rfl)) k3 bel lt3) (trodAll_cons_mk (Below.trod laidOut (by kernel_rfl) (of_decide_eq_true (by kernel_rfl)) k4 bel lt4) (trodAll_cons_mk (Below.trod laidOut (by kernel_rfl) (of_decide_eq_true (by kernel_rfl)) k5 bel lt5) trodAll_mk0)))))), rfl, bel.frame _, fun h => by cases h⟩

theorem over : Rows.pairsRemoveRow.holds Try.pinned (OpenSpec.ofChange Rows.pairsRemoveSpec) :=
  OpenClaim.holds_of_wide 5 Try.f5 rfl rfl rfl rfl rfl rfl rfl ⟨rfl, rfl, rfl, rfl, rfl⟩ rfl rfl rfl rfl rfl (by kernel_rfl) Try.func5 (by kernel_rfl)
    (of_decide_eq_true (by kernel_rfl)) (by unfold Func.isWrapper; first | (rw [if_pos (by decide +kernel)]; kernel_rfl) | (rw [if_neg (by decide +kernel)]; exact ⟨rfl, rfl⟩))
    (fun os started H enc _ => lifted os started H enc)

theorem proved : Rows.PairsRemoveSaid := over
#print axioms proved
end Go.Proofs.Ytnpjihbaebbbcaa.pairsRemove

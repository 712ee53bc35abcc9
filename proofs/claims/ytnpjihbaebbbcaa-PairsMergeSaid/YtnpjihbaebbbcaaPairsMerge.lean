/- For every input ciceronelaw17.PairsMerge returns true, and its arguments read behind the call as before. No conditions. -/
import Derived.Test.YtnpjihbaebbbcaaQAddY
import Derived.Test.YtnpjihbaebbbcaaRows
import Derived.ProofKit
import Derived.OpenShut
import Derived.ShutString
import Derived.ChangeOld
import Derived.Below
import Derived.Lib.SmallJoins
namespace Go.Proofs.Ytnpjihbaebbbcaa.pairsMerge
open Go.ChangeShapes Go.WideShapes Go.ChangeAt Go.RowKit Go.Joins
open Go.ChangeMaps (open_string shut_string)
set_option linter.unusedVariables false

set_option maxRecDepth 20000 in
set_option maxHeartbeats 16000000 in
theorem walk (w : World) (b : Option Addr) (cap : Nat) (l : List Sv) (hlc : l.length ≤ cap) (hm : cap ≤ maxLen) (hi : InW w b 4 (l.map svC)) (ho : ∀ a ∈ l, SvOk w a) (at_ : Int) (wa : (Lit.int .i64 at_).wf = true) (x : ByteArray) (wx : x.size ≤ maxLen) (y : ByteArray) (wy : y.size ≤ maxLen) :
    Calls Try.prog 7 #[.slice b l.length cap, .int .i64 at_, .string x, .string y] w fun e w' => e = .returned (.bool true) ∧ Below w.heap.size w w' := by
  have wa2 := i64_wf wa
  unfold I64 at wa2
  unfold maxLen at wx wy
  have LV := Lib.hid (lives_any w)
  have HSV : Hid (SvIn w b l) := Lib.hid ⟨hi, ho⟩
  have HV : Hid (∀ W, Below w.heap.size w W → Calls Try.prog 9 #[.slice b l.length cap, .int .i64 24] W fun e w' => e = .returned (.bool (heavyB l 24)) ∧ w' = W) := Lib.hid (fun W hb => heavy_any b cap l 24 W (HSV.out.bel hb) hm hlc (by omega))
  clear hi ho
  have hm' := hm
  unfold maxLen at hm
  by_cases hfw : heavyB l 24 = true
  · rw [hfw] at HV
    generalize l.length = n at *
    go_enter Try.func7, Try.ntmps7
    go_wp2_with fail
    refine LV.out.mono ?_
    rintro e w1 ⟨rfl, b1⟩
    have B1 := Lib.hid b1
    have F1 := Lib.hid (HV.out w1 b1)
    clear b1 HV LV
    go_wp2_with fail
    refine F1.out.mono ?_
    rintro e w2 ⟨rfl, rfl⟩
    clear F1
    go_wp2_with fail
    go_ret
    exact ⟨rfl, B1.out⟩
  rw [Bool.not_eq_true] at hfw
  rw [hfw] at HV
  obtain ⟨hn24, hits⟩ := heavy_no hfw
  clear hfw
  by_cases hx : 100 < x.size
  · have tx : decide ((100 : Int) < (x.size : Int)) = true := decide_eq_true (by omega)
    generalize l.length = n at *
    go_enter Try.func7, Try.ntmps7
    go_wp2_with fail
    refine LV.out.mono ?_
    rintro e w1 ⟨rfl, b1⟩
    have B1 := Lib.hid b1
    have F1 := Lib.hid (HV.out w1 b1)
    clear b1 HV LV
    go_wp2_with fail
    refine F1.out.mono ?_
    rintro e w2 ⟨rfl, rfl⟩
    clear F1
    go_wp2_with fail
    go_ret
    exact ⟨rfl, B1.out⟩
  have tx : decide ((100 : Int) < (x.size : Int)) = false := decide_eq_false (by omega)
  by_cases hy : 100 < y.size
  · have ty : decide ((100 : Int) < (y.size : Int)) = true := decide_eq_true (by omega)
    generalize l.length = n at *
    go_enter Try.func7, Try.ntmps7
    go_wp2_with fail
    refine LV.out.mono ?_
    rintro e w1 ⟨rfl, b1⟩
    have B1 := Lib.hid b1
    have F1 := Lib.hid (HV.out w1 b1)
    clear b1 HV LV
    go_wp2_with fail
    refine F1.out.mono ?_
    rintro e w2 ⟨rfl, rfl⟩
    clear F1
    go_wp2_with fail
    go_ret
    exact ⟨rfl, B1.out⟩
  have ty : decide ((100 : Int) < (y.size : Int)) = false := decide_eq_false (by omega)
  by_cases hf : at_ < 0
  · have tf : decide (at_ < 0) = true := decide_eq_true (by omega)
    generalize l.length = n at *
    go_enter Try.func7, Try.ntmps7
    go_wp2_with fail
    refine LV.out.mono ?_
    rintro e w1 ⟨rfl, b1⟩
    have B1 := Lib.hid b1
    have F1 := Lib.hid (HV.out w1 b1)
    clear b1 HV LV
    go_wp2_with fail
    refine F1.out.mono ?_
    rintro e w2 ⟨rfl, rfl⟩
    clear F1
    go_wp2_with fail
    go_ret
    exact ⟨rfl, B1.out⟩
  have tf : decide (at_ < 0) = false := decide_eq_false (by omega)
  by_cases ht : (l.length : Int) < at_
  · have tt : decide ((l.length : Int) < at_) = true := decide_eq_true (by omega)
    generalize l.length = n at *
    go_enter Try.func7, Try.ntmps7
    go_wp2_with fail
    refine LV.out.mono ?_
    rintro e w1 ⟨rfl, b1⟩
    have B1 := Lib.hid b1
    have F1 := Lib.hid (HV.out w1 b1)
    clear b1 HV LV
    go_wp2_with fail
    refine F1.out.mono ?_
    rintro e w2 ⟨rfl, rfl⟩
    clear F1
    go_wp2_with fail
    go_ret
    exact ⟨rfl, B1.out⟩
  have tt : decide ((l.length : Int) < at_) = false := decide_eq_false (by omega)
  obtain ⟨u, rfl⟩ : ∃ u : Nat, at_ = u := ⟨at_.toNat, by omega⟩
  have hul : u ≤ l.length := by omega
  have HLF : Hid (l.take u ++ l.drop u = l) := Lib.hid (List.take_append_drop u l)
  have HLI : Hid (Light l) := Lib.hid ⟨by omega, fun s hs => by have := (hits s hs).1; omega⟩
  have EV : Hid (∀ W p C, Below w.heap.size w W → PrAt W p C → Tells C l → ∀ u v : ByteArray, u.size ≤ 1000 → v.size ≤ 1000 → Calls Try.prog 13 #[.pointer (some ⟨p, 0, none⟩), .slice b l.length cap, .string u, .string v] W fun e w' => e = .returned (.bool true) ∧ Below W.heap.size W w') := Lib.hid (fun W p C hb hp hC u v hu hv => even_any p C b cap l u v W hp hC (HSV.out.bel hb) HLI.out hm' hlc hu hv)
  have HL1 : Hid (Light (l.take u)) := Lib.hid ⟨by rw [List.length_take]; omega, fun s hs => HLI.out.2 s (List.mem_of_mem_take hs)⟩
  have HL2 : Hid (Light (l.drop u)) := Lib.hid ⟨by rw [List.length_drop]; omega, fun s hs => HLI.out.2 s (List.mem_of_mem_drop hs)⟩
  have HS1 : Hid (∀ W, Below w.heap.size w W → SvIn W b (l.take u)) := Lib.hid (fun W hb => ⟨InW.take' (HSV.out.i.bel hb) u, fun s hs => (HSV.out.o s (List.mem_of_mem_take hs)).bel hb⟩)
  have HS2 : Hid (∀ W, Below w.heap.size w W → SvIn W (subB b cap u 4) (l.drop u)) := Lib.hid (fun W hb => ⟨by
    rw [List.map_drop]
    exact subB_inw (HSV.out.i.bel hb) (by rw [List.length_map]; exact hlc), fun s hs => (HSV.out.o s (List.mem_of_mem_drop hs)).bel hb⟩)
  have ltk : (l.take u).length = u := by rw [List.length_take]; omega
  have ldr : (l.drop u).length = l.length - u := by rw [List.length_drop]
  have OF1 : Hid (∀ W, Below w.heap.size w W → Calls Try.prog 14 #[.slice b u cap] W fun e w' => ∃ p t, e = .returned (.pointer (some ⟨p, 0, none⟩)) ∧ Here K17 W w' [.tab t (cntF (l.take u)), .box p [.pointer (some ⟨t, 0, none⟩), .bool false] 52]) := Lib.hid (fun W hb => by
    have := of_any b cap (l.take u) W (HS1.out W hb) HL1.out hm' (by rw [ltk]; omega)
    rw [ltk] at this
    exact this)
  have OF2 : Hid (∀ W, Below w.heap.size w W → Calls Try.prog 14 #[.slice (subB b cap u 4) (l.length - u) (cap - u)] W fun e w' => ∃ p t, e = .returned (.pointer (some ⟨p, 0, none⟩)) ∧ Here K17 W w' [.tab t (cntF (l.drop u)), .box p [.pointer (some ⟨t, 0, none⟩), .bool false] 52]) := Lib.hid (fun W hb => by
    have := of_any (subB b cap u 4) (cap - u) (l.drop u) W (HS2.out W hb) HL2.out (by omega) (by rw [ldr]; omega)
    rw [ldr] at this
    exact this)
  have EV2 : Hid (∀ W p C, Below w.heap.size w W → PrAt W p C → Tells C (l.drop u) → Calls Try.prog 13 #[.pointer (some ⟨p, 0, none⟩), .slice (subB b cap u 4) (l.length - u) (cap - u), .string x, .string y] W fun e w' => e = .returned (.bool true) ∧ Below W.heap.size W w') := Lib.hid (fun W p C hb hp hC => by
    have := even_any p C (subB b cap u 4) (cap - u) (l.drop u) x y W hp hC (HS2.out W hb) HL2.out (by omega) (by rw [ldr]; omega) (by omega) (by omega)
    rw [ldr] at this
    exact this)
  have DI : Hid (∀ W, Below w.heap.size w W → Calls Try.prog 23 #[.slice b l.length cap] W fun e w' => ∃ v ks, e = .returned v ∧ ItemsOf l ks ∧ ks.length ≤ 10000 ∧ MkT W w' v ks) := Lib.hid (fun W hb => ditems_any b cap l W (HSV.out.bel hb) HLI.out hm' hlc)
  have HSM : Hid (∀ m : List Sv, m.length ≤ 24 → Small (cntF m)) := Lib.hid (fun m hm => cntF_small (by omega))
  have HT24 : Hid ((l.take u).length ≤ 24 ∧ (l.drop u).length ≤ 24) := Lib.hid ⟨by omega, by omega⟩
  have HCL : Hid (∀ a c, cntB l a c = cntB (l.take u) a c + cntB (l.drop u) a c) := Lib.hid (fun a c => by rw [← cntB_append, HLF.out])
  have hsl1 := fun W => run_slice_to (P := Try.prog) W 22 30 b l.length cap u 4 Try.underlying22 sizeSv (by omega)
  have hsl2 := fun W => run_slice_from (P := Try.prog) W 22 30 b l.length cap u 4 Try.underlying22 sizeSv (by omega)
  clear hits ltk ldr
  obtain ⟨n, hn⟩ : ∃ n, l.length = n := ⟨_, rfl⟩
  have HN := Lib.hid hn
  rw [hn] at hn24 hlc HV EV OF2 EV2 DI hul hsl1 hsl2 ht tt ⊢
  clear hn hm'
  go_enter Try.func7, Try.ntmps7
  go_wp2_with fail
  refine LV.out.mono ?_
  rintro e w1 ⟨rfl, b1⟩
  have B1 := Lib.hid b1
  have F1 := Lib.hid (HV.out w1 b1)
  clear b1 HV LV
  go_wp2_with fail
  refine F1.out.mono ?_
  rintro e w2 ⟨rfl, rfl⟩
  clear F1
  go_wp2_with fail
  go_region_held3 (fun X => True) (first | trivial | assumption)
    (first
      | (go_at_call 14
         (with_reducible refine (OF1.out w2.drew B1.out.drew).mono ?_)
         rintro e w3 ⟨p, tp, rfl, h3⟩
         have H3 := Lib.hid ((Here.nil (K := K17) B1.out.drew).adopts h3)
         clear h3)
      | (go_at_call 14
         (with_reducible refine (OF2.out w3 H3.out.bel).mono ?_)
         rintro e w4 ⟨q, tq, rfl, h4⟩
         have H4 : Hid (Here K17 w w4 [.tab tp (cntF (l.take u)), .box p [.pointer (some ⟨tp, 0, none⟩), .bool false] 52, .tab tq (cntF (l.drop u)), .box q [.pointer (some ⟨tq, 0, none⟩), .bool false] 52]) := Lib.hid (H3.out.adopts h4)
         clear h4)
      | fail)
  clear OF1 OF2 H3 hsl1 B1
  have TL : Hid (Tells (cntF l) l) := Lib.hid (fun a c => cntF_is l a c)
  have TD : Hid (Tells (cntF (l.drop u)) (l.drop u)) := Lib.hid (fun a c => cntF_is (l.drop u) a c)
  have hsz : x.size ≤ maxLen ∧ y.size ≤ maxLen := ⟨by unfold maxLen; omega, by unfold maxLen; omega⟩
  have HSZ := Lib.hid hsz
  have hx1 : x.size ≤ 1000 := by omega
  have hy1 : y.size ≤ 1000 := by omega
  have HGB : Hid (∀ a c, cntB l a c ≤ 24) := Lib.hid (fun a c => by have := cntB_le l a c; have := HN.out; omega)
  clear hsz
  by_cases hz : ∀ z, cntF (l.take u) z z = 0
  · have MG := Lib.hid (q_merge_empty (i := 1) (j := 0) (k := 3) H4.out rfl rfl rfl (by omega) hz)
    have TE : Hid (Tells (cntF (l.drop u)) l) := Lib.hid (fun a c => by
      have h1 := hz a
      rw [cntF_is] at h1
      have h2 := cntB_mono (l.take u) a c
      rw [cntF_is, HCL.out]
      omega)
    clear hz
    go_wp2_with fail
    refine MG.out.mono ?_
    rintro e w5 ⟨rfl, h5⟩
    have H5 : Hid (Here K17 w w5 [.tab tp (cntF (l.take u)), .box p [.pointer (some ⟨tq, 0, none⟩), .bool true] 52, .tab tq (cntF (l.drop u)), .box q [.pointer (some ⟨tq, 0, none⟩), .bool true] 52]) := Lib.hid h5
    clear h5 MG H4
    go_wp2_with fail
    refine (q_merge_nil w5 p).mono ?_
    rintro e w5 ⟨rfl, rfl⟩
    have E1 := Lib.hid (EV.out w5 p _ H5.out.bel (pr_here H5.out (i := 1) (j := 2) rfl rfl) TE.out x y hx1 hy1)
    go_wp2_with fail
    refine E1.out.mono ?_
    rintro e w6 ⟨rfl, b6⟩
    have H6 := Lib.hid (H5.out.step_bel b6)
    have E2 := Lib.hid (EV2.out w6 q _ H6.out.bel (pr_here H6.out (i := 3) (j := 2) rfl rfl) TD.out)
    clear b6 E1 H5
    go_wp2_with fail
    refine E2.out.mono ?_
    rintro e w7 ⟨rfl, b7⟩
    have H7 := Lib.hid (H6.out.step_bel b7)
    have H8 := Lib.hid (q_row H7.out ((Below.refl w7.heap.size w7).alloc (Nat.le_refl _) (.cells #[.string nN] 9)) (row_of_bk (Bk.new w7 [.string nN] 9) rfl (Nat.le_refl 1) (by unfold maxLen; simp) rfl) (own_at (Nat.le_refl _)))
    have AY := Lib.hid (q_add_yes (i := 3) (j := 2) (m := 4) H8.out rfl rfl (HSM.out _ HT24.out.2) nE 0 0 (some ⟨w7.heap.size, 0, none⟩) 1 1 [nN] rfl (by omega) (fun s hs => by rw [List.mem_singleton.1 hs]; decide) (by omega))
    clear b7 E2 H6 H7 EV2 hsl2
    go_wp2_with fail
    refine AY.out.mono ?_
    rintro e w9 ⟨rfl, t2, h9⟩
    have H9 : Hid (Here K17 w w9 [.tab tp (cntF (l.take u)), .box p [.pointer (some ⟨tq, 0, none⟩), .bool true] 52, .tab tq (cntF (l.drop u)), .box q [.pointer (some ⟨t2, 0, none⟩), .bool false] 52, .row (.slice (some ⟨w7.heap.size, 0, none⟩) 1 1) 9 1 1 [.string nN]]) := Lib.hid h9
    have E3 := Lib.hid (EV.out w9 p _ H9.out.bel (pr_here H9.out (i := 1) (j := 2) rfl rfl) TE.out x y hx1 hy1)
    clear h9 AY H8
    go_wp2_with fail
    refine E3.out.mono ?_
    rintro e w10 ⟨rfl, b10⟩
    have H10 := Lib.hid (H9.out.step_bel b10)
    have C10 := Lib.hid (pcount_any (pr_here H10.out (i := 1) (j := 2) rfl rfl) x y HSZ.out.1 HSZ.out.2)
    have S10 := Lib.hid (psingle_any (pr_here H10.out (i := 1) (j := 2) rfl rfl) x HSZ.out.1)
    rw [TE.out] at C10 S10
    clear b10 E3 H9
    obtain ⟨g1, hg1⟩ : ∃ g1 : Int, ((cntB l x y : Nat) : Int) = g1 := ⟨_, rfl⟩
    obtain ⟨g2, hg2⟩ : ∃ g2 : Int, ((cntB l x x : Nat) : Int) = g2 := ⟨_, rfl⟩
    have HG1 := Lib.hid hg1
    have HG2 := Lib.hid hg2
    rw [hg1] at C10
    rw [hg2] at S10
    have hgb : 0 ≤ g1 ∧ g1 ≤ 24 ∧ 0 ≤ g2 ∧ g2 ≤ 24 := by have := HGB.out x y; have := HGB.out x x; omega
    have HGG := Lib.hid hgb
    clear hg1 hg2 hgb
    go_wp2_with fail
    refine C10.out.mono ?_
    rintro e w10 ⟨rfl, rfl⟩
    go_wp2_with fail
    refine S10.out.mono ?_
    rintro e w10 ⟨rfl, rfl⟩
    clear C10 S10
    by_cases hz2 : ∀ z, cntF (l.drop u) z z = 0
    · have MS := Lib.hid (q_merge_empty_self (i := 1) (j := 2) H10.out rfl rfl hz2)
      have HDD : Hid (cntF (l.drop u) = sumC (cntF (l.drop u)) (cntF (l.drop u))) := Lib.hid (by
        funext a c
        have h1 := hz2 a
        rw [cntF_is] at h1
        have h2 := cntB_mono (l.drop u) a c
        unfold sumC
        rw [cntF_is]
        omega)
      clear hz2
      go_wp2_with fail
      refine MS.out.mono ?_
      rintro e w11 ⟨rfl, h11⟩
      have PR : Hid (PrAt w11 p (sumC (cntF (l.drop u)) (cntF (l.drop u)))) := Lib.hid (by
        have := pr_here h11 (i := 1) (j := 2) rfl rfl
        rw [← HDD.out]; exact this)
      have B11 := Lib.hid h11.bel
      clear h11 MS H10 HDD
      have C9 := Lib.hid (pcount_any PR.out x y HSZ.out.1 HSZ.out.2)
      have S9 := Lib.hid (psingle_any PR.out x HSZ.out.1)
      rw [two_tells TE.out, HG1.out] at C9
      rw [two_tells TE.out, HG2.out] at S9
      have I9 := Lib.hid (pitems_any PR.out (allIts l) (fun z hz => (allIts_mem l z).2 ((cnt_self l z).1 (fun c => hz (by rw [two_tells TE.out, c]; rfl)))) (by have := allIts_len HLI.out; omega))
      have hq1 : RowKit.wrap64 (2 * g1) = 2 * g1 := IntWalk.wrap64_in _ (by have := HGG.out; omega)
      have hq2 : RowKit.wrap64 (2 * g2) = 2 * g2 := IntWalk.wrap64_in _ (by have := HGG.out; omega)
      have ht1 : ((2 * g1 : Int) == 2 * g1) = true := by simp
      have ht2 : ((2 * g2 : Int) == 2 * g2) = true := by simp
      clear PR
      go_wp2_with fail
      refine C9.out.mono ?_
      rintro e w11 ⟨rfl, rfl⟩
      go_wp2_with fail
      refine S9.out.mono ?_
      rintro e w11 ⟨rfl, rfl⟩
      go_wp2_with fail
      refine I9.out.mono ?_
      rintro e w12 ⟨v, ks, rfl, k1, k2, k3⟩
      have HK : Hid (ItemsOf l ks) := Lib.hid ⟨k1, fun z => by
        rw [k2, two_tells TE.out, ← cnt_self l z]
        omega⟩
      obtain ⟨b9, n9, c9, rfl⟩ : ∃ b n c, v = .slice b n c := by
        obtain ⟨b', cap', h, _⟩ := strs_of_row k3.1
        exact ⟨_, _, _, h⟩
      have hn9 : n9 = ks.length := by
        obtain ⟨b', cap', h, _⟩ := k3.1.strs
        cases h; rfl
      have HN9 := Lib.hid hn9
      have B12 := Lib.hid (Below.trans' B11.out k3.2.2)
      have D12 := Lib.hid (DI.out w12 B12.out)
      clear k1 k2 k3 hn9 C9 S9 I9
      go_wp2_with fail
      refine D12.out.mono ?_
      rintro e w13 ⟨v, ks', rfl, k4, k5, m13⟩
      have hks : ks' = ks := k4.1.ext HK.out.1 (fun z => by rw [k4.2, HK.out.2])
      obtain ⟨b8, n8, c8, rfl⟩ : ∃ b n c, v = .slice b n c := by
        obtain ⟨b', cap', h, _⟩ := m13.tx.strs
        exact ⟨_, _, _, h⟩
      have hn8 : n8 = n9 := by
        obtain ⟨b', cap', h, _⟩ := m13.tx.strs
        cases h
        rw [hks, HN9.out]
      subst hn8
      have B13 := Lib.hid (Below.trans' B12.out m13.bl)
      have ht3 : ((n8 : Int) == (n8 : Int)) = true := by simp
      clear k4 k5 m13 hks D12
      go_wp2_with fail
      go_ret
      exact ⟨rfl, B13.out⟩
    · have MS := Lib.hid (q_merge_self_yes (i := 1) (j := 2) H10.out rfl rfl (HSM.out _ HT24.out.2) hz2)
      clear hz2
      go_wp2_with fail
      refine MS.out.mono ?_
      rintro e w11 ⟨rfl, os', h11, pr11⟩
      have PR := Lib.hid pr11
      have B11 := Lib.hid h11.bel
      clear h11 pr11 MS H10
      have C9 := Lib.hid (pcount_any PR.out x y HSZ.out.1 HSZ.out.2)
      have S9 := Lib.hid (psingle_any PR.out x HSZ.out.1)
      rw [two_tells TE.out, HG1.out] at C9
      rw [two_tells TE.out, HG2.out] at S9
      have I9 := Lib.hid (pitems_any PR.out (allIts l) (fun z hz => (allIts_mem l z).2 ((cnt_self l z).1 (fun c => hz (by rw [two_tells TE.out, c]; rfl)))) (by have := allIts_len HLI.out; omega))
      have hq1 : RowKit.wrap64 (2 * g1) = 2 * g1 := IntWalk.wrap64_in _ (by have := HGG.out; omega)
      have hq2 : RowKit.wrap64 (2 * g2) = 2 * g2 := IntWalk.wrap64_in _ (by have := HGG.out; omega)
      have ht1 : ((2 * g1 : Int) == 2 * g1) = true := by simp
      have ht2 : ((2 * g2 : Int) == 2 * g2) = true := by simp
      clear PR
      go_wp2_with fail
      refine C9.out.mono ?_
      rintro e w11 ⟨rfl, rfl⟩
      go_wp2_with fail
      refine S9.out.mono ?_
      rintro e w11 ⟨rfl, rfl⟩
      go_wp2_with fail
      refine I9.out.mono ?_
      rintro e w12 ⟨v, ks, rfl, k1, k2, k3⟩
      have HK : Hid (ItemsOf l ks) := Lib.hid ⟨k1, fun z => by
        rw [k2, two_tells TE.out, ← cnt_self l z]
        omega⟩
      obtain ⟨b9, n9, c9, rfl⟩ : ∃ b n c, v = .slice b n c := by
        obtain ⟨b', cap', h, _⟩ := strs_of_row k3.1
        exact ⟨_, _, _, h⟩
      have hn9 : n9 = ks.length := by
        obtain ⟨b', cap', h, _⟩ := k3.1.strs
        cases h; rfl
      have HN9 := Lib.hid hn9
      have B12 := Lib.hid (Below.trans' B11.out k3.2.2)
      have D12 := Lib.hid (DI.out w12 B12.out)
      clear k1 k2 k3 hn9 C9 S9 I9
      go_wp2_with fail
      refine D12.out.mono ?_
      rintro e w13 ⟨v, ks', rfl, k4, k5, m13⟩
      have hks : ks' = ks := k4.1.ext HK.out.1 (fun z => by rw [k4.2, HK.out.2])
      obtain ⟨b8, n8, c8, rfl⟩ : ∃ b n c, v = .slice b n c := by
        obtain ⟨b', cap', h, _⟩ := m13.tx.strs
        exact ⟨_, _, _, h⟩
      have hn8 : n8 = n9 := by
        obtain ⟨b', cap', h, _⟩ := m13.tx.strs
        cases h
        rw [hks, HN9.out]
      subst hn8
      have B13 := Lib.hid (Below.trans' B12.out m13.bl)
      have ht3 : ((n8 : Int) == (n8 : Int)) = true := by simp
      clear k4 k5 m13 hks D12
      go_wp2_with fail
      go_ret
      exact ⟨rfl, B13.out⟩
  · have MG := Lib.hid (q_merge_full (i := 1) (j := 0) (k := 3) (l := 2) H4.out rfl rfl rfl rfl (by omega) (by omega) (HSM.out _ HT24.out.1) (HSM.out _ HT24.out.2) hz)
    have HE : Hid (sumC (cntF (l.take u)) (cntF (l.drop u)) = cntF l) := Lib.hid (by
      funext a c
      unfold sumC
      rw [cntF_is, cntF_is, cntF_is, HCL.out]
      omega)
    have HNZ : Hid (¬ ∀ z, cntF l z z = 0) := Lib.hid (fun hall => hz (fun z => by
      have h1 := hall z
      rw [cntF_is, HCL.out] at h1
      rw [cntF_is]
      omega))
    clear hz
    rw [HE.out] at MG
    go_wp2_with fail
    refine MG.out.mono ?_
    rintro e w5 ⟨rfl, h5⟩
    have H5 : Hid (Here K17 w w5 [.tab tp (cntF l), .box p [.pointer (some ⟨tp, 0, none⟩), .bool false] 52, .tab tq (cntF (l.drop u)), .box q [.pointer (some ⟨tq, 0, none⟩), .bool false] 52]) := Lib.hid h5
    clear h5 MG H4 HE
    go_wp2_with fail
    refine (q_merge_nil w5 p).mono ?_
    rintro e w5 ⟨rfl, rfl⟩
    have E1 := Lib.hid (EV.out w5 p _ H5.out.bel (pr_here H5.out (i := 1) (j := 0) rfl rfl) TL.out x y hx1 hy1)
    go_wp2_with fail
    refine E1.out.mono ?_
    rintro e w6 ⟨rfl, b6⟩
    have H6 := Lib.hid (H5.out.step_bel b6)
    have E2 := Lib.hid (EV2.out w6 q _ H6.out.bel (pr_here H6.out (i := 3) (j := 2) rfl rfl) TD.out)
    clear b6 E1 H5
    go_wp2_with fail
    refine E2.out.mono ?_
    rintro e w7 ⟨rfl, b7⟩
    have H7 := Lib.hid (H6.out.step_bel b7)
    have hbw : Below w7.heap.size w7 (w7.alloc (.cells #[.string nN] 9)) := (Below.refl _ _).alloc (Nat.le_refl _) _
    have H8 := Lib.hid (H7.out.step_bel hbw)
    have AN := Lib.hid (q_add_no (i := 3) (j := 2) H8.out rfl rfl (HSM.out _ HT24.out.2) ⟨nE, 0, 0, some ⟨w7.heap.size, 0, none⟩, 1, [nN]⟩ (row_strs (ks := [nN]) (Bk.new w7 [.string nN] 9)) (fun s hs => by rw [List.mem_singleton.1 hs]; decide) (by simp))
    clear b7 E2 H6 H7 hbw EV2 hsl2
    go_wp2_with fail
    refine AN.out.mono ?_
    rintro e w9 ⟨rfl, h9⟩
    have H9 : Hid (Here K17 w w9 [.tab tp (cntF l), .box p [.pointer (some ⟨tp, 0, none⟩), .bool false] 52, .tab tq (bumpAll (cntF (l.drop u)) [nN] 1), .box q [.pointer (some ⟨tq, 0, none⟩), .bool false] 52]) := Lib.hid h9
    have E3 := Lib.hid (EV.out w9 p _ H9.out.bel (pr_here H9.out (i := 1) (j := 0) rfl rfl) TL.out x y hx1 hy1)
    clear h9 AN H8
    go_wp2_with fail
    refine E3.out.mono ?_
    rintro e w10 ⟨rfl, b10⟩
    have H10 := Lib.hid (H9.out.step_bel b10)
    have C10 := Lib.hid (pcount_any (pr_here H10.out (i := 1) (j := 0) rfl rfl) x y HSZ.out.1 HSZ.out.2)
    have S10 := Lib.hid (psingle_any (pr_here H10.out (i := 1) (j := 0) rfl rfl) x HSZ.out.1)
    rw [TL.out] at C10 S10
    clear b10 E3 H9
    obtain ⟨g1, hg1⟩ : ∃ g1 : Int, ((cntB l x y : Nat) : Int) = g1 := ⟨_, rfl⟩
    obtain ⟨g2, hg2⟩ : ∃ g2 : Int, ((cntB l x x : Nat) : Int) = g2 := ⟨_, rfl⟩
    have HG1 := Lib.hid hg1
    have HG2 := Lib.hid hg2
    rw [hg1] at C10
    rw [hg2] at S10
    have hgb : 0 ≤ g1 ∧ g1 ≤ 24 ∧ 0 ≤ g2 ∧ g2 ≤ 24 := by have := HGB.out x y; have := HGB.out x x; omega
    have HGG := Lib.hid hgb
    clear hg1 hg2 hgb
    go_wp2_with fail
    refine C10.out.mono ?_
    rintro e w10 ⟨rfl, rfl⟩
    go_wp2_with fail
    refine S10.out.mono ?_
    rintro e w10 ⟨rfl, rfl⟩
    clear C10 S10
    have MS := Lib.hid (q_merge_self_no (i := 1) (j := 0) H10.out rfl rfl (HSM.out _ (by have := HN.out; omega)) HNZ.out)
    go_wp2_with fail
    refine MS.out.mono ?_
    rintro e w11 ⟨rfl, os', h11, pr11⟩
    have PR := Lib.hid pr11
    have B11 := Lib.hid h11.bel
    clear h11 pr11 MS H10
    have C9 := Lib.hid (pcount_any PR.out x y HSZ.out.1 HSZ.out.2)
    have S9 := Lib.hid (psingle_any PR.out x HSZ.out.1)
    rw [two_tells TL.out, HG1.out] at C9
    rw [two_tells TL.out, HG2.out] at S9
    have I9 := Lib.hid (pitems_any PR.out (allIts l) (fun z hz => (allIts_mem l z).2 ((cnt_self l z).1 (fun c => hz (by rw [two_tells TL.out, c]; rfl)))) (by have := allIts_len HLI.out; omega))
    have hq1 : RowKit.wrap64 (2 * g1) = 2 * g1 := IntWalk.wrap64_in _ (by have := HGG.out; omega)
    have hq2 : RowKit.wrap64 (2 * g2) = 2 * g2 := IntWalk.wrap64_in _ (by have := HGG.out; omega)
    have ht1 : ((2 * g1 : Int) == 2 * g1) = true := by simp
    have ht2 : ((2 * g2 : Int) == 2 * g2) = true := by simp
    clear PR
    go_wp2_with fail
    refine C9.out.mono ?_
    rintro e w11 ⟨rfl, rfl⟩
    go_wp2_with fail
    refine S9.out.mono ?_
    rintro e w11 ⟨rfl, rfl⟩
    go_wp2_with fail
    refine I9.out.mono ?_
    rintro e w12 ⟨v, ks, rfl, k1, k2, k3⟩
    have HK : Hid (ItemsOf l ks) := Lib.hid ⟨k1, fun z => by
      rw [k2, two_tells TL.out, ← cnt_self l z]
      omega⟩
    obtain ⟨b9, n9, c9, rfl⟩ : ∃ b n c, v = .slice b n c := by
      obtain ⟨b', cap', h, _⟩ := strs_of_row k3.1
      exact ⟨_, _, _, h⟩
    have hn9 : n9 = ks.length := by
      obtain ⟨b', cap', h, _⟩ := k3.1.strs
      cases h; rfl
    have HN9 := Lib.hid hn9
    have B12 := Lib.hid (Below.trans' B11.out k3.2.2)
    have D12 := Lib.hid (DI.out w12 B12.out)
    clear k1 k2 k3 hn9 C9 S9 I9
    go_wp2_with fail
    refine D12.out.mono ?_
    rintro e w13 ⟨v, ks', rfl, k4, k5, m13⟩
    have hks : ks' = ks := k4.1.ext HK.out.1 (fun z => by rw [k4.2, HK.out.2])
    obtain ⟨b8, n8, c8, rfl⟩ : ∃ b n c, v = .slice b n c := by
      obtain ⟨b', cap', h, _⟩ := m13.tx.strs
      exact ⟨_, _, _, h⟩
    have hn8 : n8 = n9 := by
      obtain ⟨b', cap', h, _⟩ := m13.tx.strs
      cases h
      rw [hks, HN9.out]
    subst hn8
    have B13 := Lib.hid (Below.trans' B12.out m13.bl)
    have ht3 : ((n8 : Int) == (n8 : Int)) = true := by simp
    clear k4 k5 m13 hks D12
    go_wp2_with fail
    go_ret
    exact ⟨rfl, B13.out⟩

theorem own : ownKnob Try.prog.godebug = none := by kernel_rfl
theorem laidOut : laidOutB Try.prog = true := by kernel_rfl

set_option maxRecDepth 100000 in
theorem lifted (os : Os) (started : os.Started) (H : Type) (enc : TypeId × Value → H) :
    ReturnsInHanded {} Try.checked os 7 .any (Rows.pairsMergeSpec.pre6 enc Try.prog Try.f7 Rows.pairsMergeRow.domain false) (Rows.pairsMergeSpec.post enc Try.prog Try.f7 false true false false) := by
  refine returnsInHanded_of_change (C := Try.checked) own started (by kernel_rfl) Try.func7
    (ChangeSpec.witness6 (enc := enc) (C := Try.checked) false ⟨#[], #[.slice none 0 0, .int .i64 0, .string ⟨#[]⟩, .string ⟨#[]⟩], []⟩ 8 (by kernel_rfl) (by kernel_rfl) (by kernel_rfl) (by kernel_rfl)) ?_
  intro W base args ds gs before hval0 hW hcnd _
  have hval : ∀ (j : Nat) t v, Try.f7.params[j]? = some t → args[j]? = some v → Value.okWide Try.prog W .any base t v := hval0
  have hW' := hW
  obtain ⟨p, q, hA0, hV, rfl, hfz, hnd⟩ := hW
  have hA : DataW.TrodAll enc Try.prog W 0 (fun _ => true) true Try.f7.params.toList args.toList ds p := hA0
  rw [Try.params7] at hA hval
  obtain ⟨v0, vs0, d0, ds0, p0, q0, hargs, rfl, rfl, h0, r0⟩ := trodAll_cons hA
  obtain ⟨v1, vs1, d1, ds1, p1, q1, rfl, rfl, rfl, h1, r1⟩ := trodAll_cons r0
  obtain ⟨v2, vs2, d2, ds2, p2, q2, rfl, rfl, rfl, h2, r2⟩ := trodAll_cons r1
  obtain ⟨v3, vs3, d3, ds3, p3, q3, rfl, rfl, rfl, h3, r3⟩ := trodAll_cons r2
  obtain ⟨rfl, rfl, rfl⟩ := trodAll_nil r3
  obtain rfl : args = #[v0, v1, v2, v3] := by cases args; simp_all
  obtain ⟨rfl, rfl⟩ := trodVars_none hV
  have k0 := h0
  have lt0 : ∀ x ∈ p0, x.block < W.heap.size := by obtain ⟨m, hm⟩ := k0; exact DataW.trod_lt m _ _ _ hm
  obtain ⟨b0, c0, x0, rfl, l0, m0, i0, o0⟩ := open_svs (hval 0 22 v0 rfl rfl) h0
  have k1 := h1
  have lt1 : ∀ x ∈ p1, x.block < W.heap.size := by obtain ⟨m, hm⟩ := k1; exact DataW.trod_lt m _ _ _ hm
  obtain ⟨a1, rfl, rfl, rfl, w1⟩ := open_int Try.underlying3 (hval 1 3 v1 rfl rfl) h1
  have k2 := h2
  have lt2 : ∀ x ∈ p2, x.block < W.heap.size := by obtain ⟨m, hm⟩ := k2; exact DataW.trod_lt m _ _ _ hm
  obtain ⟨a2, rfl, rfl, rfl, w2⟩ := open_string Try.underlying9 (hval 2 9 v2 rfl rfl) h2
  have k3 := h3
  have lt3 : ∀ x ∈ p3, x.block < W.heap.size := by obtain ⟨m, hm⟩ := k3; exact DataW.trod_lt m _ _ _ hm
  obtain ⟨a3, rfl, rfl, rfl, w3⟩ := open_string Try.underlying9 (hval 3 9 v3 rfl rfl) h3
  clear hA0 hval0
  refine (walk W b0 c0 x0 l0 m0 i0 o0 a1 w1 a2 w2 a3 w3).mono fun e W' ⟨he, bel⟩ => ?_
  subst he
  exact ⟨_, rfl, _, _, _, [], _, [], hW', trodAll_mk1 (shut_bool Try.underlying4 _), (trodAll_cons_mk (Below.trod laidOut (by kernel_rfl) (of_decide_eq_true (by kernel_rfl)) k0 bel lt0) (trodAll_cons_mk (Below.trod laidOut (by kernel_rfl) (of_decide_eq_true (by kernel_rfl)) k1 bel lt1) (trodAll_cons_mk (Below.trod laidOut (by kernel_rfl) (of_decide_eq_true (by kernel_rfl)) k2 bel lt2) (trodAll_cons_mk (Below.trod laidOut (by kernel_rfl) (of_decide_eq_true (by kernel_rfl)) k3 bel lt3) trodAll_mk0)))), rfl, bel.frame _, fun h => by cases h⟩

theorem over : Rows.pairsMergeRow.holds Try.pinned (OpenSpec.ofChange Rows.pairsMergeSpec) :=
  OpenClaim.holds_of_wide 7 Try.f7 rfl rfl rfl rfl rfl rfl rfl ⟨rfl, rfl, rfl, rfl, rfl⟩ rfl rfl rfl rfl rfl (by kernel_rfl) Try.func7 (by kernel_rfl)
    (of_decide_eq_true (by kernel_rfl)) (by unfold Func.isWrapper; first | (rw [if_pos (by decide +kernel)]; kernel_rfl) | (rw [if_neg (by decide +kernel)]; exact ⟨rfl, rfl⟩))
    (fun os started H enc _ => lifted os started H enc)

theorem proved : Rows.PairsMergeSaid := over
#print axioms proved
end Go.Proofs.Ytnpjihbaebbbcaa.pairsMerge

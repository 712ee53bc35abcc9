/- For every input ciceronelaw09.PaneMerges returns true, and its arguments read behind the call as before. No conditions. -/
import Derived.Test.YtdmcbndkfnlcjaaPHere
import Derived.Test.YtdmcbndkfnlcjaaRows
import Derived.ProofKit
import Derived.OpenShut
import Derived.ShutString
import Derived.ChangeOld
import Derived.Below
import Derived.Lib.SmallJoins
namespace Go.Proofs.Ytdmcbndkfnlcjaa.paneMerges
open Go.ChangeShapes Go.WideShapes Go.ChangeAt Go.RowKit Go.Joins
open Go.ChangeMaps (open_string shut_string)
set_option linter.unusedVariables false

def four (P Q M1 M2 : Nat) (wd wd2 : Int) (xs ys : List Act9) : List Ob := [.pane P wd (adds wd xs).length (adds wd xs), .pane Q wd2 (adds wd2 ys).length (adds wd2 ys), .ref M1 wd (adds wd xs).length (adds wd xs), .ref M2 wd2 (adds wd2 ys).length (adds wd2 ys)]
theorem four_next (P Q M1 M2 : Nat) (wd wd2 : Int) (xs ys : List Act9) (a : Act9) (hx : xs.length ≤ 101) :
    ((four P Q M1 M2 wd wd2 xs ys).set 0 (.pane P wd (addTo wd (adds wd xs).length (adds wd xs) a.2.1 a.2.2.1 a.2.2.2).1 (addTo wd (adds wd xs).length (adds wd xs) a.2.1 a.2.2.1 a.2.2.2).2)).set 2 (.ref M1 wd (addTo wd (adds wd xs).length (adds wd xs) a.2.1 a.2.2.1 a.2.2.2).1 (addTo wd (adds wd xs).length (adds wd xs) a.2.1 a.2.2.1 a.2.2.2).2) = four P Q M1 M2 wd wd2 (xs ++ [a]) ys := by
  rw [addTo_adds wd xs a (by omega)]
  rfl
theorem four_next2 (P Q M1 M2 : Nat) (wd wd2 : Int) (xs ys : List Act9) (a : Act9) (hx : ys.length ≤ 101) :
    ((four P Q M1 M2 wd wd2 xs ys).set 1 (.pane Q wd2 (addTo wd2 (adds wd2 ys).length (adds wd2 ys) a.2.1 a.2.2.1 a.2.2.2).1 (addTo wd2 (adds wd2 ys).length (adds wd2 ys) a.2.1 a.2.2.1 a.2.2.2).2)).set 3 (.ref M2 wd2 (addTo wd2 (adds wd2 ys).length (adds wd2 ys) a.2.1 a.2.2.1 a.2.2.2).1 (addTo wd2 (adds wd2 ys).length (adds wd2 ys) a.2.1 a.2.2.1 a.2.2.2).2) = four P Q M1 M2 wd wd2 xs (ys ++ [a]) := by
  rw [addTo_adds wd2 ys a (by omega)]
  rfl
/-- all four behind both Merges -/
def merged (P Q M1 M2 : Nat) (wd wd2 a1 a2 : Int) (A1 A2 : List Ad) : List Ob := [.pane P wd a1 A1, .pane Q wd2 a2 A2, .ref M1 wd a1 A1, .ref M2 wd2 a2 A2]
theorem act_add {w0 w : World} {os : List Ob} (h : Here K9 w0 w os) {i p : Nat} {wd ad : Int} {A : List Ad} (hi : os[i]? = some (.pane p wd ad A)) (a : Act9) (hk : a.2.1.size ≤ 100) (h1 : I64 a.2.2.1) (h2 : I64 a.2.2.2) :
    Calls Try.prog 13 #[.pointer (some ⟨p, 0, none⟩), .string a.2.1, .int .i64 a.2.2.1, .int .i64 a.2.2.2] w fun e w' => (∃ r, e = .returned (.bool r)) ∧ Here K9 w0 w' (os.set i (.pane p wd (addTo wd ad A a.2.1 a.2.2.1 a.2.2.2).1 (addTo wd ad A a.2.1 a.2.2.1 a.2.2.2).2)) :=
  (h_add h hi a.2.1 a.2.2.1 a.2.2.2 hk h1 h2).mono fun _ _ ⟨he, hh⟩ => ⟨⟨_, he⟩, hh⟩
theorem act_radd {w0 w : World} {os : List Ob} (h : Here K9 w0 w os) {i p : Nat} {wd ad : Int} {A : List Ad} (hi : os[i]? = some (.ref p wd ad A)) (a : Act9) (hk : a.2.1.size ≤ 100) (h1 : I64 a.2.2.1) (h2 : I64 a.2.2.2) (hl : A.length ≤ 1000) :
    Calls Try.prog 21 #[.pointer (some ⟨p, 0, none⟩), .string a.2.1, .int .i64 a.2.2.1, .int .i64 a.2.2.2] w fun e w' => (∃ r, e = .returned (.bool r)) ∧ Here K9 w0 w' (os.set i (.ref p wd (addTo wd ad A a.2.1 a.2.2.1 a.2.2.2).1 (addTo wd ad A a.2.1 a.2.2.1 a.2.2.2).2)) :=
  (h_radd h hi a.2.1 a.2.2.1 a.2.2.2 hk h1 h2 hl).mono fun _ _ ⟨he, hh⟩ => ⟨⟨_, he⟩, hh⟩
set_option maxHeartbeats 16000000 in
set_option maxRecDepth 100000 in
theorem walk (w : World) (wi : Int) (wk : (Lit.int .i64 wi).wf = true) (wo : Int) (wok : (Lit.int .i64 wo).wf = true) (b : Option Addr) (cap : Nat) (xs : List Act9) (hl : xs.length ≤ cap) (hm : cap ≤ maxLen) (hi : InW w b 4 (xs.map actC)) (ho : ∀ a ∈ xs, actOk a)
    (b2 : Option Addr) (cap2 : Nat) (ys : List Act9) (hl2 : ys.length ≤ cap2) (hm2 : cap2 ≤ maxLen) (hi2 : InW w b2 4 (ys.map actC)) (ho2 : ∀ a ∈ ys, actOk a)
    (f : Int) (hf : (Lit.int .i64 f).wf = true) (t : Int) (ht : (Lit.int .i64 t).wf = true) :
    Calls Try.prog 8 #[.int .i64 wi, .int .i64 wo, .slice b xs.length cap, .slice b2 ys.length cap2, .int .i64 f, .int .i64 t] w fun e w' => e = .returned (.bool true) ∧ Below w.heap.size w w' := by
  have HA := Lib.hid (awake_any w)
  have HF := Lib.hid (fun w' hb => few_any b cap xs w' (InW.bel (W' := w') hi hb) hm hl ho)
  have HFY := Lib.hid (fun w' hb => few_any b2 cap2 ys w' (InW.bel (W' := w') hi2 hb) hm2 hl2 ho2)
  have hwi := i64_wf wk
  have hwo := i64_wf wok
  have hfi := i64_wf hf
  have hti := i64_wf ht
  clear wk wok hf ht
  unfold maxLen at hm hm2
  cases hfew : fewB xs with
  | false =>
    rw [hfew] at HF
    clear HFY hi2 hi ho ho2
    generalize ys.length = n2 at *
    generalize xs.length = n at *
    go_enter Try.func8, Try.ntmps8
    go_wp2_with fail
    refine HA.out.mono ?_
    rintro e w1 ⟨rfl, b1⟩
    have HF2 := Lib.hid (HF.out w1 b1)
    have HB1 := Lib.hid b1
    clear b1 HA HF
    go_wp2_with fail
    refine HF2.out.mono ?_
    rintro e wx ⟨rfl, rfl⟩
    go_wp2_with fail
    go_ret
    exact ⟨rfl, HB1.out⟩
  | true =>
    rw [hfew] at HF
    cases hfew2 : fewB ys with
    | false =>
      rw [hfew2] at HFY
      clear hi2 hi ho ho2
      generalize ys.length = n2 at *
      generalize xs.length = n at *
      go_enter Try.func8, Try.ntmps8
      go_wp2_with fail
      refine HA.out.mono ?_
      rintro e w1 ⟨rfl, b1⟩
      have HF2 := Lib.hid (HF.out w1 b1)
      have HB1 := Lib.hid b1
      clear b1 HA HF
      go_wp2_with fail
      refine HF2.out.mono ?_
      rintro e wx ⟨rfl, rfl⟩
      clear HF2
      have HF3 := Lib.hid (HFY.out w1 HB1.out)
      clear HFY
      go_wp2_with fail
      refine HF3.out.mono ?_
      rintro e wx ⟨rfl, rfl⟩
      go_wp2_with fail
      go_ret
      exact ⟨rfl, HB1.out⟩
    | true =>
      rw [hfew2] at HFY
      obtain ⟨hn101, hk100⟩ := few_of hfew
      have HIn := Lib.hid hi
      have HK := Lib.hid hk100
      have HO := Lib.hid ho
      clear hfew hi hk100 ho
      generalize hn : xs.length = n at *
      have Hn := Lib.hid hn
      clear hn
      obtain ⟨hm101, hk200⟩ := few_of hfew2
      have HIm := Lib.hid hi2
      have HKm := Lib.hid hk200
      have HOm := Lib.hid ho2
      clear hfew2 hi2 hk200 ho2
      generalize hn : ys.length = n2 at *
      have Hm := Lib.hid hn
      clear hn
      go_enter Try.func8, Try.ntmps8
      go_wp2_with fail
      refine HA.out.mono ?_
      rintro e w1 ⟨rfl, b1⟩
      have HF2 := Lib.hid (HF.out w1 b1)
      have HB1 := Lib.hid b1
      clear b1 HA HF
      go_wp2_with fail
      refine HF2.out.mono ?_
      rintro e wx ⟨rfl, rfl⟩
      clear HF2
      have HF3 := Lib.hid (HFY.out w1 HB1.out)
      clear HFY
      go_wp2_with fail
      refine HF3.out.mono ?_
      rintro e wx ⟨rfl, rfl⟩
      clear HF3
      have h0 := Here.nil (K := K9) HB1.out
      have N1 := Lib.hid (h_new h0 wi hwi)
      clear h0 HB1
      go_wp2_with fail
      refine N1.out.mono ?_
      rintro e w2 ⟨rfl, h2⟩
      have N2 := Lib.hid (h_new h2 wo hwo)
      clear N1 h2
      go_wp2_with fail
      refine N2.out.mono ?_
      rintro e w3 ⟨rfl, h3⟩
      have N3 := Lib.hid (h_rnew h3 wi hwi)
      clear N2 h3
      go_wp2_with fail
      refine N3.out.mono ?_
      rintro e w4 ⟨rfl, h4⟩
      have N4 := Lib.hid (h_rnew h4 wo hwo)
      clear N3 h4
      go_wp2_with fail
      refine N4.out.mono ?_
      rintro e w5 ⟨rfl, h5⟩
      clear N4
      have hwd := wdOf_in wi
      have hwd2 := wdOf_in wo
      generalize wdOf wi = wd at *
      generalize wdOf wo = wd2 at *
      generalize w1.heap.size + 2 = P1 at *
      generalize w2.heap.size + 2 = P2 at *
      generalize w3.heap.size = M1 at *
      generalize w4.heap.size = M2 at *
      have H5 : Hid (Here K9 w w5 (four P1 P2 M1 M2 wd wd2 (xs.take 0) (ys.take 0))) := Lib.hid h5
      clear h5
      go_wp2_with fail
      go_loopw [17] (fun c wr => ∃ (i : Nat), i ≤ n ∧ c = .int .i64 i ∧ Here K9 w wr (four P1 P2 M1 M2 wd wd2 (xs.take i) (ys.take 0))) (fun c _ => n - (intOf c).toNat)
      case atStart => exact ⟨0, by omega, rfl, H5.out⟩
      case round =>
        obtain ⟨i, hin, rfl, hh⟩ := hrel
        have HH := Lib.hid hh
        have HBL := Lib.hid hh.bel
        clear hh
        by_cases hlt : i < n
        · obtain ⟨a, ha⟩ : ∃ a, xs[i]? = some a := ⟨xs[i]'(by have := Hn.out; omega), List.getElem?_eq_getElem _⟩
          have hmem := List.mem_of_getElem? ha
          have hka := HK.out a hmem
          obtain ⟨_, _, oa1, oa2⟩ := HO.out a hmem
          have HMA := Lib.hid hmem
          have HT : Hid (xs.take (i + 1) = xs.take i ++ [a]) := Lib.hid (by rw [List.take_add_one, ha]; rfl)
          have HL : Hid ((xs.take i).length ≤ 101) := Lib.hid (by have := Hn.out; rw [List.length_take]; omega)
          obtain ⟨B, off, hbb, _, _, c1, c2, c3⟩ := acts_at (InW.bel HIn.out HBL.out) ha
          have HIA : Hid (∀ w', Below w.heap.size w w' → w'.cell? ⟨B, off + i * 4 + 1, none⟩ = some (.string a.2.1) ∧ w'.cell? ⟨B, off + i * 4 + 2, none⟩ = some (.int .i64 a.2.2.1) ∧ w'.cell? ⟨B, off + i * 4 + 3, none⟩ = some (.int .i64 a.2.2.2)) := Lib.hid (fun w' hb' => by
            obtain ⟨B', off', hbb', _, _, d1, d2, d3⟩ := acts_at (InW.bel HIn.out hb') ha
            rw [hbb] at hbb'
            cases hbb'
            exact ⟨d1, d2, d3⟩)
          subst hbb
          clear ha hmem
          have hi0 : (0 : Int) ≤ (i : Int) := by omega
          have hi1 : (i : Int) < (n : Int) := by omega
          have HLA : Hid ((adds wd (xs.take i)).length ≤ 1000) := Lib.hid (by have := adds_length wd (xs.take i); have := HL.out; omega)
          have C1 := Lib.hid (act_add HH.out.drew (i := 0) rfl a hka oa1 oa2)
          go_wp2_with fail
          go_still_tail 16, (by kernel_rfl)
          change wpList _ _ _ _ _ wr.drew
          clear c1 c2 c3
          go_wp2_with fail
          refine C1.out.mono ?_
          rintro e w6 ⟨⟨r6, rfl⟩, h6⟩
          obtain ⟨c1, c2, c3⟩ := HIA.out w6 h6.bel
          have C2 := Lib.hid (act_radd h6.drew (i := 2) rfl a hka oa1 oa2 HLA.out)
          clear h6 C1
          go_wp2_with fail
          go_still_tail 16, (by kernel_rfl)
          change wpList _ _ _ _ _ w6.drew
          clear c1 c2 c3
          go_wp2_with fail
          refine C2.out.mono ?_
          rintro e w7 ⟨⟨r7, rfl⟩, h7⟩
          rw [four_next _ _ _ _ _ _ _ _ _ HL.out, ← HT.out] at h7
          have H7 := Lib.hid h7
          clear h7 C2
          go_wp2_with fail
          go_roundw
          case rel => exact ⟨i + 1, by omega, by go_num, H7.out⟩
          case measure => simp [intOf]; omega
        · obtain rfl : i = n := by omega
          have htk : xs.take i = xs := List.take_of_length_le (by have := Hn.out; omega)
          rw [htk] at HH
          clear htk HBL
          go_wp2_with fail
          go_loopw [18] (fun c wr => ∃ (i : Nat), i ≤ n2 ∧ c = .int .i64 i ∧ Here K9 w wr (four P1 P2 M1 M2 wd wd2 xs (ys.take i))) (fun c _ => n2 - (intOf c).toNat)
          case atStart => exact ⟨0, by omega, rfl, HH.out⟩
          case round =>
            obtain ⟨i, hin, rfl, hh⟩ := hrel
            have HH := Lib.hid hh
            have HBL := Lib.hid hh.bel
            clear hh
            by_cases hlt : i < n2
            · obtain ⟨a, ha⟩ : ∃ a, ys[i]? = some a := ⟨ys[i]'(by have := Hm.out; omega), List.getElem?_eq_getElem _⟩
              have hmem := List.mem_of_getElem? ha
              have hka := HKm.out a hmem
              obtain ⟨_, _, oa1, oa2⟩ := HOm.out a hmem
              have HMA := Lib.hid hmem
              have HT : Hid (ys.take (i + 1) = ys.take i ++ [a]) := Lib.hid (by rw [List.take_add_one, ha]; rfl)
              have HL : Hid ((ys.take i).length ≤ 101) := Lib.hid (by have := Hm.out; rw [List.length_take]; omega)
              obtain ⟨B, off, hbb, _, _, c1, c2, c3⟩ := acts_at (InW.bel HIm.out HBL.out) ha
              have HIA : Hid (∀ w', Below w.heap.size w w' → w'.cell? ⟨B, off + i * 4 + 1, none⟩ = some (.string a.2.1) ∧ w'.cell? ⟨B, off + i * 4 + 2, none⟩ = some (.int .i64 a.2.2.1) ∧ w'.cell? ⟨B, off + i * 4 + 3, none⟩ = some (.int .i64 a.2.2.2)) := Lib.hid (fun w' hb' => by
                obtain ⟨B', off', hbb', _, _, d1, d2, d3⟩ := acts_at (InW.bel HIm.out hb') ha
                rw [hbb] at hbb'
                cases hbb'
                exact ⟨d1, d2, d3⟩)
              subst hbb
              clear ha hmem
              have hi0 : (0 : Int) ≤ (i : Int) := by omega
              have hi1 : (i : Int) < (n2 : Int) := by omega
              have HLA : Hid ((adds wd2 (ys.take i)).length ≤ 1000) := Lib.hid (by have := adds_length wd2 (ys.take i); have := HL.out; omega)
              have C1 := Lib.hid (act_add HH.out.drew (i := 1) rfl a hka oa1 oa2)
              go_wp2_with fail
              go_still_tail 16, (by kernel_rfl)
              change wpList _ _ _ _ _ wr.drew
              clear c1 c2 c3
              go_wp2_with fail
              refine C1.out.mono ?_
              rintro e w6 ⟨⟨r6, rfl⟩, h6⟩
              obtain ⟨c1, c2, c3⟩ := HIA.out w6 h6.bel
              have C2 := Lib.hid (act_radd h6.drew (i := 3) rfl a hka oa1 oa2 HLA.out)
              clear h6 C1
              go_wp2_with fail
              go_still_tail 16, (by kernel_rfl)
              change wpList _ _ _ _ _ w6.drew
              clear c1 c2 c3
              go_wp2_with fail
              refine C2.out.mono ?_
              rintro e w7 ⟨⟨r7, rfl⟩, h7⟩
              rw [four_next2 _ _ _ _ _ _ _ _ _ HL.out, ← HT.out] at h7
              have H7 := Lib.hid h7
              clear h7 C2
              go_wp2_with fail
              go_roundw
              case rel => exact ⟨i + 1, by omega, by go_num, H7.out⟩
              case measure => simp [intOf]; omega
            · obtain rfl : i = n2 := by omega
              have htk : ys.take i = ys := List.take_of_length_le (by have := Hm.out; omega)
              rw [htk] at HH
              clear htk HBL
              have hxl : (adds wd xs).length ≤ 101 := by have := adds_length wd xs; have := Hn.out; omega
              have hyl : (adds wd2 ys).length ≤ 101 := by have := adds_length wd2 ys; have := Hm.out; omega
              have hok1 := adds_ok wd hwd.1 xs
              have hok2 := adds_ok wd2 hwd2.1 ys
              have HOK1 := Lib.hid hok1
              have HOK2 := Lib.hid hok2
              clear hok1 hok2
              unfold four at HH
              generalize adds wd xs = A1 at *
              generalize adds wd2 ys = A2 at *
              have hd1 : (A1.length : Int) + (A2.length : Int) ≤ 1048576 := by omega
              have HM := Lib.hid (h_merge HH.out (i := 0) (j := 1) rfl rfl (by decide))
              clear HH
              go_wp2_with fail
              refine HM.out.mono ?_
              rintro e w6 ⟨rfl, h6⟩
              clear HM
              have H6 : Hid (Here K9 w w6 (if decide (wd = wd2) then merged P1 P2 M1 M2 wd wd2 ((A1.length : Int) + A2.length) A2.length (A1 ++ A2) A2 |>.set 2 (.ref M1 wd A1.length A1) else merged P1 P2 M1 M2 wd wd2 A1.length A2.length A1 A2)) := Lib.hid (by
                have e : merges wd wd2 A1.length A2.length = decide (wd = wd2) := by simp [merges, hd1]
                rw [e] at h6
                by_cases c : wd = wd2
                · simp only [c, decide_true, if_true] at h6 ⊢; exact h6
                · simp only [c, decide_false] at h6 ⊢; exact h6)
              have em : merges wd wd2 A1.length A2.length = decide (wd = wd2) := by simp [merges, hd1]
              rw [em]
              clear h6
              by_cases hww : wd = wd2
              · subst hww
                simp only [decide_true, if_true] at H6 em ⊢
                have h6 : Here K9 w w6 ((merged P1 P2 M1 M2 wd wd ((A1.length : Int) + A2.length) A2.length (A1 ++ A2) A2).set 2 (.ref M1 wd A1.length A1)) := H6.out
                clear H6
                have MN := Lib.hid (h_mergenil h6 (i := 0) rfl)
                clear h6
                go_wp2_with fail
                refine MN.out.mono ?_
                rintro e w7 ⟨rfl, h7⟩
                have RM := Lib.hid (h_rmerge h7 (i := 2) (j := 3) rfl rfl (by decide) (by omega) (by omega))
                clear h7 MN
                go_wp2_with fail
                refine RM.out.mono ?_
                rintro e w8 ⟨rfl, h8⟩
                rw [em] at h8 ⊢
                have h8' : Here K9 w w8 (merged P1 P2 M1 M2 wd wd ((A1.length : Int) + A2.length) A2.length (A1 ++ A2) A2) := h8
                clear h8
                have QK := Lib.hid (h_keys h8' (i := 1) rfl f t hfi hti)
                have H8 := Lib.hid h8'
                clear h8' RM
                go_wp2_with fail
                refine QK.out.mono ?_
                rintro e w9 ⟨v9, k9, rfl, o9, t9, b9⟩
                have h9 := H8.out.step_bel b9
                have RK := Lib.hid (h_rkeys h9 (i := 3) rfl f t hfi hti (by omega))
                have H9 := Lib.hid h9
                have O9 := Lib.hid o9
                have T9 := Lib.hid t9
                clear h9 QK H8 b9 o9 t9
                go_wp2_with fail
                refine RK.out.mono ?_
                rintro e w10 ⟨v10, k10, rfl, o10, t10, b10⟩
                have h10 := H9.out.step_bel b10
                have e10 := KeysOf.uniq O9.out o10 (fun _ => rfl)
                have hkl := (o10.mem HOK2.out).1
                have s9 : TextsAt w10 v9 k9 := (Fr.of_bel (S := none') b10).row T9.out (fun _ _ => id)
                obtain ⟨ba, ca, rfl, _, _, sa⟩ := s9.strs
                obtain ⟨bb, cb, rfl, _, _, sb⟩ := t10.strs
                have TX := Lib.hid (texts_any ba bb k9.length k10.length ca cb k9 k10 w10 sa sb rfl rfl (by rw [e10]; omega) (by omega))
                rw [decide_eq_true e10] at TX
                have H10 := Lib.hid h10
                clear h10 RK H9 O9 T9 b10 o10 t10 s9 sa sb e10 hkl
                generalize k9.length = l9 at *
                generalize k10.length = l10 at *
                go_wp2_with fail
                refine TX.out.mono ?_
                rintro e w11 ⟨rfl, q11, rfl⟩
                have h11 := H10.out.drewN q11
                generalize w10.drewN q11 = w11 at *
                have AK := Lib.hid (h_rkeys h11 (i := 2) rfl f t hfi hti (by simp; omega))
                have H11 := Lib.hid h11
                clear h11 TX H10
                go_wp2_with fail
                refine AK.out.mono ?_
                rintro e w12 ⟨v12, k12, rfl, o12, t12, b12⟩
                have h12 := H11.out.step_bel b12
                have PK := Lib.hid (h_keys h12 (i := 0) rfl f t hfi hti)
                have H12 := Lib.hid h12
                have O12 := Lib.hid o12
                have T12 := Lib.hid t12
                clear h12 AK H11 b12 o12 t12
                go_wp2_with fail
                refine PK.out.mono ?_
                rintro e w13 ⟨v13, k13, rfl, o13, t13, b13⟩
                have h13 := H12.out.step_bel b13
                have e13 := KeysOf.uniq o13 O12.out (fun _ => rfl)
                have hko : ∀ x ∈ (A1 ++ A2), AdOk x := (fun x hx => by rcases List.mem_append.1 hx with h | h; exact HOK1.out x h; exact HOK2.out x h)
                have hkl := O12.out.mem hko
                have hkl1 : k12.length ≤ 1000000 := by have := hkl.1; have h2 : (A1 ++ A2).length = A1.length + A2.length := List.length_append; omega
                have s12 : TextsAt w13 v12 k12 := (Fr.of_bel (S := none') b13).row T12.out (fun _ _ => id)
                obtain ⟨ba, ca, rfl, _, _, sa⟩ := t13.strs
                obtain ⟨bb, cb, rfl, _, _, sb⟩ := s12.strs
                have TX := Lib.hid (texts_any ba bb k13.length k12.length ca cb k13 k12 w13 sa sb rfl rfl (by rw [e13]; omega) hkl1)
                rw [decide_eq_true e13] at TX
                have H13 := Lib.hid h13
                have S12 := Lib.hid sb
                have HKS := Lib.hid hkl.2
                clear h13 PK H12 b13 o13 t13 s12 sa sb e13 hkl O12 T12 hko
                generalize k13.length = l13 at *
                generalize hk12 : k12.length = l12 at *
                have HK12 := Lib.hid hk12
                clear hk12
                go_wp2_with fail
                refine TX.out.mono ?_
                rintro e w14 ⟨rfl, q14, rfl⟩
                clear TX
                go_wp2_with fail
                go_loopw [21] (fun c wr => ∃ (i z : Nat), i ≤ l12 ∧ c = .int .i64 i ∧ wr = w13.drewN z) (fun c _ => l12 - (intOf c).toNat)
                case atStart => exact ⟨0, q14, by omega, rfl, rfl⟩
                case round =>
                  obtain ⟨i, z, hin, rfl, rfl⟩ := hrel
                  by_cases hlt : i < l12
                  · obtain ⟨k, hk⟩ : ∃ k, k12[i]? = some k := ⟨k12[i]'(by rw [HK12.out]; exact hlt), List.getElem?_eq_getElem _⟩
                    obtain ⟨Bk', ok, hbk, _, c1⟩ := S12.out.at hk
                    subst hbk
                    have hks := HKS.out k (List.mem_of_getElem? hk)
                    have g1 : (w13.drewN z).cell? ⟨Bk', ok + i, none⟩ = some (.string k) := c1
                    have hhz := H13.out.drewN z
                    have HPS : Hid (∀ (n p : Nat) (r : Int), (p = P1 ∧ r = psum (A1 ++ A2) k (f / wd) (t / wd)) ∨ (p = P2 ∧ r = psum A2 k (f / wd) (t / wd)) → Calls Try.prog 16 #[.pointer (some ⟨p, 0, none⟩), .string k, .int .i64 f, .int .i64 t] ((w13.drewN z).drewN n) fun e w' => e = .returned (.int .i64 r) ∧ ∃ m, w' = (w13.drewN z).drewN m) := Lib.hid (fun n p r hp => by
                      rcases hp with ⟨rfl, rfl⟩ | ⟨rfl, rfl⟩
                      · exact (h_sum (hhz.drewN n) (i := 0) rfl k f t (by omega) hfi hti).mono fun _ _ ⟨he, hw⟩ => ⟨he, n, hw.symm⟩
                      · exact (h_sum (hhz.drewN n) (i := 1) rfl k f t (by omega) hfi hti).mono fun _ _ ⟨he, hw⟩ => ⟨he, n, hw.symm⟩)
                    have HRS : Hid (∀ (n p : Nat) (r : Int), (p = M1 ∧ r = psum (A1 ++ A2) k (f / wd) (t / wd)) ∨ (p = M2 ∧ r = psum A2 k (f / wd) (t / wd)) → Calls Try.prog 25 #[.pointer (some ⟨p, 0, none⟩), .string k, .int .i64 f, .int .i64 t] ((w13.drewN z).drewN n) fun e w' => e = .returned (.int .i64 r) ∧ ∃ m, w' = (w13.drewN z).drewN m) := Lib.hid (fun n p r hp => by
                      rcases hp with ⟨rfl, rfl⟩ | ⟨rfl, rfl⟩
                      · exact (h_rsum (hhz.drewN n) (i := 2) rfl k f t hfi hti).mono fun _ _ ⟨he, q, hw⟩ => ⟨he, n + q, by rw [hw, World.drewN_drewN]⟩
                      · exact (h_rsum (hhz.drewN n) (i := 3) rfl k f t hfi hti).mono fun _ _ ⟨he, q, hw⟩ => ⟨he, n + q, by rw [hw, World.drewN_drewN]⟩)
                    have hi0 : (0 : Int) ≤ (i : Int) := by omega
                    have hi1 : (i : Int) < (l12 : Int) := by omega
                    clear hk c1 hhz
                    generalize psum (A1 ++ A2) k (f / wd) (t / wd) = X at *
                    generalize psum A2 k (f / wd) (t / wd) = Y at *
                    generalize hW : w13.drewN z = V at *
                    have HW := Lib.hid hW
                    clear hW
                    go_wp2_with fail
                    go_quiet (first | (go_at_call 16; exact HPS.out _ _ _ (by first | exact .inl ⟨rfl, rfl⟩ | exact .inr ⟨rfl, rfl⟩)) | (go_at_call 25; exact HRS.out _ _ _ (by first | exact .inl ⟨rfl, rfl⟩ | exact .inr ⟨rfl, rfl⟩)))
                    go_wp2_with fail
                    go_roundw
                    case rel => exact ⟨i + 1, z + nq, by omega, by go_num, by rw [← HW.out]; simp⟩
                    case measure => simp [intOf]; omega
                  · obtain rfl : i = l12 := by omega
                    go_wp2_with fail
                    go_ret
                    exact ⟨rfl, (H13.out.drewN z).bel⟩
              · simp only [hww, decide_false] at H6 em ⊢
                have h6 : Here K9 w w6 (merged P1 P2 M1 M2 wd wd2 A1.length A2.length A1 A2) := H6.out
                clear H6
                have MN := Lib.hid (h_mergenil h6 (i := 0) rfl)
                clear h6
                go_wp2_with fail
                refine MN.out.mono ?_
                rintro e w7 ⟨rfl, h7⟩
                have RM := Lib.hid (h_rmerge h7 (i := 2) (j := 3) rfl rfl (by decide) (by omega) (by omega))
                clear h7 MN
                go_wp2_with fail
                refine RM.out.mono ?_
                rintro e w8 ⟨rfl, h8⟩
                rw [em] at h8 ⊢
                have h8' : Here K9 w w8 (merged P1 P2 M1 M2 wd wd2 (A1.length : Int) A2.length A1 A2) := h8
                clear h8
                have QK := Lib.hid (h_keys h8' (i := 1) rfl f t hfi hti)
                have H8 := Lib.hid h8'
                clear h8' RM
                go_wp2_with fail
                refine QK.out.mono ?_
                rintro e w9 ⟨v9, k9, rfl, o9, t9, b9⟩
                have h9 := H8.out.step_bel b9
                have RK := Lib.hid (h_rkeys h9 (i := 3) rfl f t hfi hti (by omega))
                have H9 := Lib.hid h9
                have O9 := Lib.hid o9
                have T9 := Lib.hid t9
                clear h9 QK H8 b9 o9 t9
                go_wp2_with fail
                refine RK.out.mono ?_
                rintro e w10 ⟨v10, k10, rfl, o10, t10, b10⟩
                have h10 := H9.out.step_bel b10
                have e10 := KeysOf.uniq O9.out o10 (fun _ => rfl)
                have hkl := (o10.mem HOK2.out).1
                have s9 : TextsAt w10 v9 k9 := (Fr.of_bel (S := none') b10).row T9.out (fun _ _ => id)
                obtain ⟨ba, ca, rfl, _, _, sa⟩ := s9.strs
                obtain ⟨bb, cb, rfl, _, _, sb⟩ := t10.strs
                have TX := Lib.hid (texts_any ba bb k9.length k10.length ca cb k9 k10 w10 sa sb rfl rfl (by rw [e10]; omega) (by omega))
                rw [decide_eq_true e10] at TX
                have H10 := Lib.hid h10
                clear h10 RK H9 O9 T9 b10 o10 t10 s9 sa sb e10 hkl
                generalize k9.length = l9 at *
                generalize k10.length = l10 at *
                go_wp2_with fail
                refine TX.out.mono ?_
                rintro e w11 ⟨rfl, q11, rfl⟩
                have h11 := H10.out.drewN q11
                generalize w10.drewN q11 = w11 at *
                have AK := Lib.hid (h_rkeys h11 (i := 2) rfl f t hfi hti (by omega))
                have H11 := Lib.hid h11
                clear h11 TX H10
                go_wp2_with fail
                refine AK.out.mono ?_
                rintro e w12 ⟨v12, k12, rfl, o12, t12, b12⟩
                have h12 := H11.out.step_bel b12
                have PK := Lib.hid (h_keys h12 (i := 0) rfl f t hfi hti)
                have H12 := Lib.hid h12
                have O12 := Lib.hid o12
                have T12 := Lib.hid t12
                clear h12 AK H11 b12 o12 t12
                go_wp2_with fail
                refine PK.out.mono ?_
                rintro e w13 ⟨v13, k13, rfl, o13, t13, b13⟩
                have h13 := H12.out.step_bel b13
                have e13 := KeysOf.uniq o13 O12.out (fun _ => rfl)
                have hko : ∀ x ∈ A1, AdOk x := HOK1.out
                have hkl := O12.out.mem hko
                have hkl1 : k12.length ≤ 1000000 := by have := hkl.1; omega
                have s12 : TextsAt w13 v12 k12 := (Fr.of_bel (S := none') b13).row T12.out (fun _ _ => id)
                obtain ⟨ba, ca, rfl, _, _, sa⟩ := t13.strs
                obtain ⟨bb, cb, rfl, _, _, sb⟩ := s12.strs
                have TX := Lib.hid (texts_any ba bb k13.length k12.length ca cb k13 k12 w13 sa sb rfl rfl (by rw [e13]; omega) hkl1)
                rw [decide_eq_true e13] at TX
                have H13 := Lib.hid h13
                have S12 := Lib.hid sb
                have HKS := Lib.hid hkl.2
                clear h13 PK H12 b13 o13 t13 s12 sa sb e13 hkl O12 T12 hko
                generalize k13.length = l13 at *
                generalize hk12 : k12.length = l12 at *
                have HK12 := Lib.hid hk12
                clear hk12
                go_wp2_with fail
                refine TX.out.mono ?_
                rintro e w14 ⟨rfl, q14, rfl⟩
                clear TX
                go_wp2_with fail
                go_loopw [21] (fun c wr => ∃ (i z : Nat), i ≤ l12 ∧ c = .int .i64 i ∧ wr = w13.drewN z) (fun c _ => l12 - (intOf c).toNat)
                case atStart => exact ⟨0, q14, by omega, rfl, rfl⟩
                case round =>
                  obtain ⟨i, z, hin, rfl, rfl⟩ := hrel
                  by_cases hlt : i < l12
                  · obtain ⟨k, hk⟩ : ∃ k, k12[i]? = some k := ⟨k12[i]'(by rw [HK12.out]; exact hlt), List.getElem?_eq_getElem _⟩
                    obtain ⟨Bk', ok, hbk, _, c1⟩ := S12.out.at hk
                    subst hbk
                    have hks := HKS.out k (List.mem_of_getElem? hk)
                    have g1 : (w13.drewN z).cell? ⟨Bk', ok + i, none⟩ = some (.string k) := c1
                    have hhz := H13.out.drewN z
                    have HPS : Hid (∀ (n p : Nat) (r : Int), (p = P1 ∧ r = psum A1 k (f / wd) (t / wd)) ∨ (p = P2 ∧ r = psum A2 k (f / wd2) (t / wd2)) → Calls Try.prog 16 #[.pointer (some ⟨p, 0, none⟩), .string k, .int .i64 f, .int .i64 t] ((w13.drewN z).drewN n) fun e w' => e = .returned (.int .i64 r) ∧ ∃ m, w' = (w13.drewN z).drewN m) := Lib.hid (fun n p r hp => by
                      rcases hp with ⟨rfl, rfl⟩ | ⟨rfl, rfl⟩
                      · exact (h_sum (hhz.drewN n) (i := 0) rfl k f t (by omega) hfi hti).mono fun _ _ ⟨he, hw⟩ => ⟨he, n, hw.symm⟩
                      · exact (h_sum (hhz.drewN n) (i := 1) rfl k f t (by omega) hfi hti).mono fun _ _ ⟨he, hw⟩ => ⟨he, n, hw.symm⟩)
                    have HRS : Hid (∀ (n p : Nat) (r : Int), (p = M1 ∧ r = psum A1 k (f / wd) (t / wd)) ∨ (p = M2 ∧ r = psum A2 k (f / wd2) (t / wd2)) → Calls Try.prog 25 #[.pointer (some ⟨p, 0, none⟩), .string k, .int .i64 f, .int .i64 t] ((w13.drewN z).drewN n) fun e w' => e = .returned (.int .i64 r) ∧ ∃ m, w' = (w13.drewN z).drewN m) := Lib.hid (fun n p r hp => by
                      rcases hp with ⟨rfl, rfl⟩ | ⟨rfl, rfl⟩
                      · exact (h_rsum (hhz.drewN n) (i := 2) rfl k f t hfi hti).mono fun _ _ ⟨he, q, hw⟩ => ⟨he, n + q, by rw [hw, World.drewN_drewN]⟩
                      · exact (h_rsum (hhz.drewN n) (i := 3) rfl k f t hfi hti).mono fun _ _ ⟨he, q, hw⟩ => ⟨he, n + q, by rw [hw, World.drewN_drewN]⟩)
                    have hi0 : (0 : Int) ≤ (i : Int) := by omega
                    have hi1 : (i : Int) < (l12 : Int) := by omega
                    clear hk c1 hhz
                    generalize psum A1 k (f / wd) (t / wd) = X at *
                    generalize psum A2 k (f / wd2) (t / wd2) = Y at *
                    generalize hW : w13.drewN z = V at *
                    have HW := Lib.hid hW
                    clear hW
                    go_wp2_with fail
                    go_quiet (first | (go_at_call 16; exact HPS.out _ _ _ (by first | exact .inl ⟨rfl, rfl⟩ | exact .inr ⟨rfl, rfl⟩)) | (go_at_call 25; exact HRS.out _ _ _ (by first | exact .inl ⟨rfl, rfl⟩ | exact .inr ⟨rfl, rfl⟩)))
                    go_wp2_with fail
                    go_roundw
                    case rel => exact ⟨i + 1, z + nq, by omega, by go_num, by rw [← HW.out]; simp⟩
                    case measure => simp [intOf]; omega
                  · obtain rfl : i = l12 := by omega
                    go_wp2_with fail
                    go_ret
                    exact ⟨rfl, (H13.out.drewN z).bel⟩

theorem own : ownKnob Try.prog.godebug = none := by kernel_rfl
theorem laidOut : laidOutB Try.prog = true := by kernel_rfl

set_option maxRecDepth 100000 in
theorem lifted (os : Os) (started : os.Started) (H : Type) (enc : TypeId × Value → H) :
    ReturnsInHanded {} Try.checked os 8 .any (Rows.paneMergesSpec.pre6 enc Try.prog Try.f8 Rows.paneMergesRow.domain false) (Rows.paneMergesSpec.post enc Try.prog Try.f8 false true false false) := by
  refine returnsInHanded_of_change (C := Try.checked) own started (by kernel_rfl) Try.func8
    (ChangeSpec.witness6 (enc := enc) (C := Try.checked) false ⟨#[], #[.int .i64 0, .int .i64 0, .slice none 0 0, .slice none 0 0, .int .i64 0, .int .i64 0], []⟩ 8 (by kernel_rfl) (by kernel_rfl) (by kernel_rfl) (by kernel_rfl)) ?_
  intro W base args ds gs before hval0 hW hcnd _
  have hval : ∀ (j : Nat) t v, Try.f8.params[j]? = some t → args[j]? = some v → Value.okWide Try.prog W .any base t v := hval0
  have hW' := hW
  obtain ⟨p, q, hA0, hV, rfl, hfz, hnd⟩ := hW
  have hA : DataW.TrodAll enc Try.prog W 0 (fun _ => true) true Try.f8.params.toList args.toList ds p := hA0
  rw [Try.params8] at hA hval
  obtain ⟨v0, vs0, d0, ds0, p0, q0, hargs, rfl, rfl, h0, r0⟩ := trodAll_cons hA
  obtain ⟨v1, vs1, d1, ds1, p1, q1, rfl, rfl, rfl, h1, r1⟩ := trodAll_cons r0
  obtain ⟨v2, vs2, d2, ds2, p2, q2, rfl, rfl, rfl, h2, r2⟩ := trodAll_cons r1
  obtain ⟨v3, vs3, d3, ds3, p3, q3, rfl, rfl, rfl, h3, r3⟩ := trodAll_cons r2
  obtain ⟨v4, vs4, d4, ds4, p4, q4, rfl, rfl, rfl, h4, r4⟩ := trodAll_cons r3
  obtain ⟨v5, vs5, d5, ds5, p5, q5, rfl, rfl, rfl, h5, r5⟩ := trodAll_cons r4
  obtain ⟨rfl, rfl, rfl⟩ := trodAll_nil r5
  obtain rfl : args = #[v0, v1, v2, v3, v4, v5] := by cases args; simp_all
  obtain ⟨rfl, rfl⟩ := trodVars_none hV
  have k0 := h0
  have lt0 : ∀ x ∈ p0, x.block < W.heap.size := by obtain ⟨m, hm⟩ := k0; exact DataW.trod_lt m _ _ _ hm
  obtain ⟨a0, rfl, rfl, rfl, w0⟩ := open_int Try.underlying3 (hval 0 3 v0 rfl rfl) h0
  have k1 := h1
  have lt1 : ∀ x ∈ p1, x.block < W.heap.size := by obtain ⟨m, hm⟩ := k1; exact DataW.trod_lt m _ _ _ hm
  obtain ⟨a1, rfl, rfl, rfl, w1⟩ := open_int Try.underlying3 (hval 1 3 v1 rfl rfl) h1
  have k2 := h2
  have lt2 : ∀ x ∈ p2, x.block < W.heap.size := by obtain ⟨m, hm⟩ := k2; exact DataW.trod_lt m _ _ _ hm
  obtain ⟨b2, c2, x2, rfl, l2, m2, i2, o2⟩ := open_acts (hval 2 22 v2 rfl rfl) h2
  have k3 := h3
  have lt3 : ∀ x ∈ p3, x.block < W.heap.size := by obtain ⟨m, hm⟩ := k3; exact DataW.trod_lt m _ _ _ hm
  obtain ⟨b3, c3, x3, rfl, l3, m3, i3, o3⟩ := open_acts (hval 3 22 v3 rfl rfl) h3
  have k4 := h4
  have lt4 : ∀ x ∈ p4, x.block < W.heap.size := by obtain ⟨m, hm⟩ := k4; exact DataW.trod_lt m _ _ _ hm
  obtain ⟨a4, rfl, rfl, rfl, w4⟩ := open_int Try.underlying3 (hval 4 3 v4 rfl rfl) h4
  have k5 := h5
  have lt5 : ∀ x ∈ p5, x.block < W.heap.size := by obtain ⟨m, hm⟩ := k5; exact DataW.trod_lt m _ _ _ hm
  obtain ⟨a5, rfl, rfl, rfl, w5⟩ := open_int Try.underlying3 (hval 5 3 v5 rfl rfl) h5
  clear hA0 hval0
  refine (walk W a0 w0 a1 w1 b2 c2 x2 l2 m2 i2 o2 b3 c3 x3 l3 m3 i3 o3 a4 w4 a5 w5).mono fun e W' ⟨he, bel⟩ => ?_
  subst he
  exact ⟨_, rfl, _, _, _, [], _, [], hW', trodAll_mk1 (shut_bool Try.underlying4 _), (trodAll_cons_mk (Below.trod laidOut (by kernel_rfl) (of_decide_eq_true (by kernel_rfl)) k0 bel lt0) (trodAll_cons_mk (Below.trod laidOut (by kernel_rfl) (of_decide_eq_true (by kernel_rfl)) k1 bel lt1) (trodAll_cons_mk (Below.trod laidOut (by kernel_rfl) (of_decide_eq_true (by kernel_rfl)) k2 bel lt2) (trodAll_cons_mk (Below.trod laidOut (by kernel_rfl) (of_decide_eq_true (by kernel_rfl)) k3 bel lt3) (trodAll_cons_mk (Below.trod laidOut (by kernel_rfl) (of_decide_eq_true (by kernel_rfl)) k4 bel lt4) (trodAll_cons_mk (Below.trod laidOut (by kernel_rfl) (of_decide_eq_true (by kernel_rfl)) k5 bel lt5) trodAll_mk0)))))), rfl, bel.frame _, fun h => by cases h⟩

theorem over : Rows.paneMergesRow.holds Try.pinned (OpenSpec.ofChange Rows.paneMergesSpec) :=
  OpenClaim.holds_of_wide 8 Try.f8 rfl rfl rfl rfl rfl rfl rfl ⟨rfl, rfl, rfl, rfl, rfl⟩ rfl rfl rfl rfl rfl (by kernel_rfl) Try.func8 (by kernel_rfl)
    (of_decide_eq_true (by kernel_rfl)) (by unfold Func.isWrapper; first | (rw [if_pos (by decide +kernel)]; kernel_rfl) | (rw [if_neg (by decide +kernel)]; exact ⟨rfl, rfl⟩))
    (fun os started H enc _ => lifted os started H enc)

theorem proved : Rows.PaneMergesSaid := over
#print axioms proved
end Go.Proofs.Ytdmcbndkfnlcjaa.paneMerges

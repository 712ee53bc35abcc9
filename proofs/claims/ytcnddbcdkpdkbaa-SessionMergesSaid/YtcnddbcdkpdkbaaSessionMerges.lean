/- For every input ciceronelaw12.SessionMerges returns true, and its arguments read behind the call as before. No conditions. -/
import Derived.Test.YtcnddbcdkpdkbaaEDMerge
import Derived.Test.YtcnddbcdkpdkbaaEAwake
import Derived.Deep.DeepCutAuto
import Derived.Test.YtcnddbcdkpdkbaaRows
import Derived.ProofKit
import Derived.OpenShut
import Derived.ShutString
import Derived.ChangeOld
import Derived.Below
import Derived.Lib.SmallJoins
namespace Go.Proofs.Ytcnddbcdkpdkbaa.sessionMerges
open Go.ChangeShapes Go.WideShapes Go.ChangeAt Go.RowKit Go.Joins
open Go.ChangeMaps (open_string shut_string)
set_option linter.unusedVariables false

set_option maxRecDepth 20000 in
set_option maxHeartbeats 8000000 in
theorem walk (w : World) (x : Int) (wx : (Lit.int .i64 x).wf = true) (y : Int) (wy : (Lit.int .i64 y).wf = true) (b : Option Addr) (cap : Nat) (l : List Tri) (hlc : l.length ≤ cap) (hm : cap ≤ maxLen) (hi : InW w b 3 (l.map aC)) (ho : ∀ a ∈ l, aOk a) (b2 : Option Addr) (cap2 : Nat) (l2 : List Tri) (hlc2 : l2.length ≤ cap2) (hm2 : cap2 ≤ maxLen) (hi2 : InW w b2 3 (l2.map aC)) (ho2 : ∀ a ∈ l2, aOk a) :
    Calls Try.prog 10 #[.int .i64 x, .int .i64 y, .slice b l.length cap, .slice b2 l2.length cap2] w fun e w' => e = .returned (.bool true) ∧ Below w.heap.size w w' := by
  have HX := Lib.hid (i64_wf wx)
  have HY := Lib.hid (i64_wf wy)
  have AW := Lib.hid (awake_any w)
  have HF : Hid (∀ W, Below w.heap.size w W → Calls Try.prog 12 #[.slice b l.length cap] W fun e w' => e = .returned (.bool (fewB l)) ∧ W = w') := Lib.hid (fun W hb => few_any b cap l W (InW.bel hi hb) hm hlc ho)
  have HF2 : Hid (∀ W, Below w.heap.size w W → Calls Try.prog 12 #[.slice b2 l2.length cap2] W fun e w' => e = .returned (.bool (fewB l2)) ∧ W = w') := Lib.hid (fun W hb => few_any b2 cap2 l2 W (InW.bel hi2 hb) hm2 hlc2 ho2)
  have HIW := Lib.hid hi
  have HOK := Lib.hid ho
  have HIW2 := Lib.hid hi2
  have HOK2 := Lib.hid ho2
  unfold maxLen at hm hm2
  clear wx wy hi ho hi2 ho2
  cases hfw : fewB l with
  | false =>
    rw [hfw] at HF
    clear HF2
    generalize l.length = n at *
    generalize l2.length = n2 at *
    go_enter Try.func10, Try.ntmps10
    go_wp2_with fail
    refine AW.out.mono ?_
    rintro e w1 ⟨rfl, b1⟩
    have B1 := Lib.hid b1
    have F1 := Lib.hid (HF.out w1 b1)
    clear b1 HF AW
    go_wp2_with fail
    refine F1.out.mono ?_
    rintro e w2 ⟨rfl, rfl⟩
    clear F1
    go_wp2_with fail
    go_ret
    exact ⟨rfl, B1.out⟩
  | true =>
    rw [hfw] at HF
    obtain ⟨hn1, -⟩ := few_of hfw
    clear hfw
    obtain ⟨n, hn⟩ : ∃ n, l.length = n := ⟨_, rfl⟩
    have Hn := Lib.hid hn
    rw [hn] at hn1 hlc HF ⊢
    clear hn
    cases hfw2 : fewB l2 with
    | false =>
      rw [hfw2] at HF2
      generalize l2.length = n2 at *
      go_enter Try.func10, Try.ntmps10
      go_wp2_with fail
      refine AW.out.mono ?_
      rintro e w1 ⟨rfl, b1⟩
      have B1 := Lib.hid b1
      have F1 := Lib.hid (HF.out w1 b1)
      clear b1 HF AW
      go_wp2_with fail
      refine F1.out.mono ?_
      rintro e w2 ⟨rfl, rfl⟩
      clear F1
      have F2 := Lib.hid (HF2.out w1 B1.out)
      go_wp2_with fail
      refine F2.out.mono ?_
      rintro e w2 ⟨rfl, rfl⟩
      clear F2 HF2
      go_wp2_with fail
      go_ret
      exact ⟨rfl, B1.out⟩
    | true =>
      rw [hfw2] at HF2
      obtain ⟨hn2, -⟩ := few_of hfw2
      clear hfw2
      obtain ⟨n2, hnn2⟩ : ∃ n2, l2.length = n2 := ⟨_, rfl⟩
      have Hn2 := Lib.hid hnn2
      rw [hnn2] at hn2 hlc2 HF2 ⊢
      clear hnn2
      go_enter Try.func10, Try.ntmps10
      go_wp2_with fail
      refine AW.out.mono ?_
      rintro e w1 ⟨rfl, b1⟩
      have B1 := Lib.hid b1
      have F1 := Lib.hid (HF.out w1 b1)
      clear b1 HF AW
      go_wp2_with fail
      refine F1.out.mono ?_
      rintro e w2 ⟨rfl, rfl⟩
      clear F1
      have F2 := Lib.hid (HF2.out w1 B1.out)
      go_wp2_with fail
      refine F2.out.mono ?_
      rintro e w2 ⟨rfl, rfl⟩
      clear F2 HF2
      have HA1 : Hid (InW w1 b 3 (l.map aC)) := Lib.hid (HIW.out.bel B1.out)
      have HA2 : Hid (InW w1 b2 3 (l2.map aC)) := Lib.hid (HIW2.out.bel B1.out)
      have CC := Lib.hid (made_any x HX.out b cap l w1 HA1.out (by rw [Hn.out]; omega) HOK.out)
      rw [Hn.out] at CC
      go_wp2_with fail
      refine CC.out.mono ?_
      rintro e W3 ⟨s, rfl, h3⟩
      have H3 := Lib.hid h3
      replace CC := Lib.hid (made_any y HY.out b2 cap2 l2 W3 (HA2.out.bel h3.bel) (by rw [Hn2.out]; omega) HOK2.out)
      rw [Hn2.out] at CC
      clear h3 HIW HIW2
      go_wp2_with fail
      refine CC.out.mono ?_
      rintro e W4 ⟨o, rfl, h4⟩
      have h4' := H3.out.adopt h4
      have H4 := Lib.hid h4'
      have CN := Lib.hid (h_dnew H4.out x HX.out)
      clear CC h4 h4' H3
      go_wp2_with fail
      refine CN.out.mono ?_
      rintro e W5 ⟨rfl, h5⟩
      have H5 := Lib.hid h5
      have CM := Lib.hid (h_dnew H5.out y HY.out)
      clear CN h5 H4
      generalize W4.heap.size = m at *
      go_wp2_with fail
      refine CM.out.mono ?_
      rintro e W6 ⟨rfl, h6⟩
      have H6 : Hid (Here K12 w1 W6 [.ses s (gapOf x) (addsT [] l), .ses o (gapOf y) (addsT [] l2), .doc m (gapOf x) [], .doc W5.heap.size (gapOf y) []]) := Lib.hid h6
      clear CM h6 H5
      generalize W5.heap.size = m2 at *
      generalize gapOf x = gap at *
      generalize gapOf y = gap2 at *
      have HLN0 : Hid (∀ i, (addsT [] (l.take i)).length ≤ 101) := Lib.hid (fun i => by have := adds_len (l.take i) []; rw [List.length_take, Hn.out] at this; simp at this; omega)
      go_wp2_with fail
      go_loopw [13] (fun c wr => ∃ i : Nat, i ≤ n ∧ c = .int .i64 i ∧ Here K12 w1 wr [.ses s gap (addsT [] l), .ses o gap2 (addsT [] l2), .doc m gap (addsT [] (l.take i)), .doc m2 gap2 []]) (fun c _ => n - (intOf c).toNat)
      case atStart => exact ⟨0, by omega, rfl, H6.out⟩
      case round =>
        obtain ⟨i, hi, rfl, hh⟩ := hrel
        have HH := Lib.hid hh
        clear hh H6
        by_cases hlt : i < n
        · obtain ⟨a, ha⟩ : ∃ a, l[i]? = some a := ⟨l[i]'(by rw [Hn.out]; exact hlt), List.getElem?_eq_getElem _⟩
          obtain ⟨B, off, rfl, hB, d0, d1, d2⟩ := aAt (HA1.out.bel HH.out.bel) ha
          have HAO := Lib.hid (HOK.out a (List.mem_of_getElem? ha))
          have hi0 : (0 : Int) ≤ (i : Int) := by omega
          have hi1 : (i : Int) < (n : Int) := by omega
          have HT : Hid (addsT [] (l.take (i + 1)) = addT (addsT [] (l.take i)) a) := Lib.hid (by rw [List.take_add_one, ha]; exact addsT_snoc _ _ _)
          have HAD := Lib.hid (h_dadd HH.out (i := 2) rfl a HAO.out (by have := HLN0.out i; omega))
          clear ha
          go_wp2_with fail
          refine HAD.out.mono ?_
          rintro e W5 ⟨rfl, h5⟩
          have H5 : Hid (Here K12 w1 W5 [.ses s gap (addsT [] l), .ses o gap2 (addsT [] l2), .doc m gap (addT (addsT [] (l.take i)) a), .doc m2 gap2 []]) := Lib.hid h5
          clear h5
          go_wp2_with fail
          go_roundw
          case rel => exact ⟨i + 1, by omega, by go_num, by rw [HT.out]; exact H5.out⟩
          case measure => simp [intOf]; omega
        · obtain rfl : n = i := by omega
          have htk : l.take n = l := List.take_of_length_le (by rw [Hn.out]; exact Nat.le_refl _)
          have hA0 := HLN0.out n
          rw [htk] at HH hA0
          clear htk HLN0
          generalize addsT [] l = A at *
          have HA0 := Lib.hid hA0
          clear hA0
          have HH0 : Hid (Here K12 w1 wr [.ses s gap A, .ses o gap2 (addsT [] l2), .doc m gap A, .doc m2 gap2 []]) := HH
          clear HH
          have HLN0 : Hid (∀ i, (addsT [] (l2.take i)).length ≤ 101) := Lib.hid (fun i => by have := adds_len (l2.take i) []; rw [List.length_take, Hn2.out] at this; simp at this; omega)
          go_wp2_with fail
          go_loopw [14] (fun c wr => ∃ i : Nat, i ≤ n2 ∧ c = .int .i64 i ∧ Here K12 w1 wr [.ses s gap A, .ses o gap2 (addsT [] l2), .doc m gap A, .doc m2 gap2 (addsT [] (l2.take i))]) (fun c _ => n2 - (intOf c).toNat)
          case atStart => exact ⟨0, by omega, rfl, HH0.out⟩
          case round =>
            obtain ⟨i, hi, rfl, hh⟩ := hrel
            have HH := Lib.hid hh
            clear hh HH0
            by_cases hlt : i < n2
            · obtain ⟨a, ha⟩ : ∃ a, l2[i]? = some a := ⟨l2[i]'(by rw [Hn2.out]; exact hlt), List.getElem?_eq_getElem _⟩
              obtain ⟨B, off, rfl, hB, d0, d1, d2⟩ := aAt (HA2.out.bel HH.out.bel) ha
              have HAO := Lib.hid (HOK2.out a (List.mem_of_getElem? ha))
              have hi0 : (0 : Int) ≤ (i : Int) := by omega
              have hi1 : (i : Int) < (n2 : Int) := by omega
              have HT : Hid (addsT [] (l2.take (i + 1)) = addT (addsT [] (l2.take i)) a) := Lib.hid (by rw [List.take_add_one, ha]; exact addsT_snoc _ _ _)
              have HAD := Lib.hid (h_dadd HH.out (i := 3) rfl a HAO.out (by have := HLN0.out i; omega))
              clear ha
              go_wp2_with fail
              refine HAD.out.mono ?_
              rintro e W5 ⟨rfl, h5⟩
              have H5 : Hid (Here K12 w1 W5 [.ses s gap A, .ses o gap2 (addsT [] l2), .doc m gap A, .doc m2 gap2 (addT (addsT [] (l2.take i)) a)]) := Lib.hid h5
              clear h5
              go_wp2_with fail
              go_roundw
              case rel => exact ⟨i + 1, by omega, by go_num, by rw [HT.out]; exact H5.out⟩
              case measure => simp [intOf]; omega
            · obtain rfl : n2 = i := by omega
              have htk : l2.take n2 = l2 := List.take_of_length_le (by rw [Hn2.out]; exact Nat.le_refl _)
              have hA0 := HLN0.out n2
              rw [htk] at HH hA0
              clear htk HLN0
              generalize addsT [] l2 = A2 at *
              obtain ⟨Ba, hsa⟩ := h_ses HH.out (i := 0) rfl
              have CC := Lib.hid (smerge_nil s wr)
              have HA0' := HA0.out
              clear hsa
              go_wp2_with fail
              refine CC.out.mono ?_
              rintro e W8 ⟨rfl, q1⟩
              have H8 := Lib.hid (HH.out.step_bel q1)
              clear q1 CC HH
              by_cases hgg : gap2 = gap
              · subst hgg
                have C1 := Lib.hid (h_smerge H8.out (i := 0) (j := 1) rfl rfl (by omega) (by omega))
                go_wp2_with fail
                refine C1.out.mono ?_
                rintro e W9 ⟨rfl, h9⟩
                have H9 : Hid (Here K12 w1 W9 [.ses s gap2 (addsT A A2), .ses o gap2 A2, .doc m gap2 A, .doc m2 gap2 A2]) := Lib.hid h9
                have C2 := Lib.hid (h_dmerge H9.out (i := 2) (j := 3) rfl rfl (by omega) (by omega))
                clear h9 C1 H8
                go_wp2_with fail
                refine C2.out.mono ?_
                rintro e W10 ⟨rfl, h10⟩
                have H10 : Hid (Here K12 w1 W10 [.ses s gap2 (addsT A A2), .ses o gap2 A2, .doc m gap2 (addsT A A2), .doc m2 gap2 A2]) := Lib.hid h10
                have HLA : Hid ((allS gap2 (addsT A A2)).length ≤ 1000) := Lib.hid (Nat.le_trans (all_le _ _) (by have := adds_len A2 A; omega))
                have HLB : Hid ((allS gap2 A2).length ≤ 1000) := Lib.hid (Nat.le_trans (all_le _ _) (by omega))
                clear h10 C2 H9
                generalize addsT A A2 = A3 at *
                have CC := Lib.hid (h_sall H10.out (i := 0) rfl)
                go_wp2_with fail
                refine CC.out.mono ?_
                rintro e W20 ⟨b20, c20, S20, rfl, q1, q2, q3, q4, q5⟩
                have hs20 : S20.length ≤ 1000 := by have h1 := congrArg List.length q4; rw [List.length_map] at h1; have h2 := HLA.out; omega
                have H20 := Lib.hid (H10.out.step_bel q5)
                have HQ20 := Lib.hid q4
                have HI20 := Lib.hid q3
                obtain ⟨n20, hn20⟩ : ∃ n, S20.length = n := ⟨_, rfl⟩
                have HN20 := Lib.hid hn20
                rw [hn20] at hs20 ⊢
                clear q1 q2 q3 q4 q5 CC hn20
                have CC := Lib.hid (told_any b20 c20 S20 W20 HI20.out (by rw [HN20.out]; omega))
                rw [HN20.out] at CC
                go_wp2_with fail
                refine CC.out.mono ?_
                rintro e W21 ⟨b21, c21, rfl, q1, q2⟩
                have H21 := Lib.hid (H20.out.step_bel q2)
                have HI21 := Lib.hid q1
                clear q1 q2 CC
                have CC := Lib.hid (h_dallM H21.out (i := 2) rfl)
                go_wp2_with fail
                refine CC.out.mono ?_
                rintro e W22 ⟨b22, c22, S22, rfl, q1, q2, q3, q4, q5⟩
                have hs22 : S22.length ≤ 1000 := by have h1 := congrArg List.length q4; rw [List.length_map] at h1; have h2 := HLA.out; omega
                have H22 := Lib.hid (H21.out.step_bel q5)
                have HQ22 := Lib.hid q4
                have HI22 := Lib.hid q3
                replace HI21 := Lib.hid (HI21.out.bel q5)
                obtain ⟨n22, hn22⟩ : ∃ n, S22.length = n := ⟨_, rfl⟩
                have HN22 := Lib.hid hn22
                rw [hn22] at hs22 ⊢
                clear q1 q2 q3 q4 q5 CC hn22
                have CC := Lib.hid (same_yes b21 b22 c21 c22 S20 S22 W22 HI21.out HI22.out (HQ20.out.trans HQ22.out.symm) (by rw [HN20.out]; unfold maxLen; omega))
                rw [HN20.out, HN22.out] at CC
                go_wp2_with fail
                refine CC.out.mono ?_
                rintro e W23 ⟨rfl, q1⟩
                have H23 := Lib.hid (H22.out.step_bel q1)
                clear q1 CC
                clear HI21 HI22 HI20 H20 H21 H22 HQ20 HQ22
                have CC := Lib.hid (h_sall H23.out (i := 1) rfl)
                go_wp2_with fail
                refine CC.out.mono ?_
                rintro e W24 ⟨b24, c24, S24, rfl, q1, q2, q3, q4, q5⟩
                have hs24 : S24.length ≤ 1000 := by have h1 := congrArg List.length q4; rw [List.length_map] at h1; have h2 := HLB.out; omega
                have H24 := Lib.hid (H23.out.step_bel q5)
                have HQ24 := Lib.hid q4
                have HI24 := Lib.hid q3
                obtain ⟨n24, hn24⟩ : ∃ n, S24.length = n := ⟨_, rfl⟩
                have HN24 := Lib.hid hn24
                rw [hn24] at hs24 ⊢
                clear q1 q2 q3 q4 q5 CC hn24
                have CC := Lib.hid (told_any b24 c24 S24 W24 HI24.out (by rw [HN24.out]; omega))
                rw [HN24.out] at CC
                go_wp2_with fail
                refine CC.out.mono ?_
                rintro e W25 ⟨b25, c25, rfl, q1, q2⟩
                have H25 := Lib.hid (H24.out.step_bel q2)
                have HI25 := Lib.hid q1
                clear q1 q2 CC
                have CC := Lib.hid (h_dallM H25.out (i := 3) rfl)
                go_wp2_with fail
                refine CC.out.mono ?_
                rintro e W26 ⟨b26, c26, S26, rfl, q1, q2, q3, q4, q5⟩
                have hs26 : S26.length ≤ 1000 := by have h1 := congrArg List.length q4; rw [List.length_map] at h1; have h2 := HLB.out; omega
                have H26 := Lib.hid (H25.out.step_bel q5)
                have HQ26 := Lib.hid q4
                have HI26 := Lib.hid q3
                replace HI25 := Lib.hid (HI25.out.bel q5)
                obtain ⟨n26, hn26⟩ : ∃ n, S26.length = n := ⟨_, rfl⟩
                have HN26 := Lib.hid hn26
                rw [hn26] at hs26 ⊢
                clear q1 q2 q3 q4 q5 CC hn26
                have CC := Lib.hid (same_yes b25 b26 c25 c26 S24 S26 W26 HI25.out HI26.out (HQ24.out.trans HQ26.out.symm) (by rw [HN24.out]; unfold maxLen; omega))
                rw [HN24.out, HN26.out] at CC
                go_wp2_with fail
                refine CC.out.mono ?_
                rintro e W27 ⟨rfl, q1⟩
                have H27 := Lib.hid (H26.out.step_bel q1)
                clear q1 CC
                go_wp2_with fail
                go_ret
                exact ⟨rfl, B1.out.trans (H27.out.bel.mono B1.out.size)⟩
              · have C1 := Lib.hid (h_smerge_no H8.out (i := 0) (j := 1) rfl rfl hgg)
                have HGG := Lib.hid hgg
                clear hgg
                go_wp2_with fail
                refine C1.out.mono ?_
                rintro e W9 ⟨rfl, h9⟩
                have H9 := Lib.hid h9
                have C2 := Lib.hid (h_dmerge_no H9.out (i := 2) (j := 3) rfl rfl HGG.out)
                clear h9 C1 H8
                go_wp2_with fail
                refine C2.out.mono ?_
                rintro e W10 ⟨rfl, h10⟩
                have H10 := Lib.hid h10
                have HLA : Hid ((allS gap A).length ≤ 1000) := Lib.hid (Nat.le_trans (all_le _ _) (by omega))
                have HLB : Hid ((allS gap2 A2).length ≤ 1000) := Lib.hid (Nat.le_trans (all_le _ _) (by omega))
                clear h10 C2 H9
                have CC := Lib.hid (h_sall H10.out (i := 0) rfl)
                go_wp2_with fail
                refine CC.out.mono ?_
                rintro e W20 ⟨b20, c20, S20, rfl, q1, q2, q3, q4, q5⟩
                have hs20 : S20.length ≤ 1000 := by have h1 := congrArg List.length q4; rw [List.length_map] at h1; have h2 := HLA.out; omega
                have H20 := Lib.hid (H10.out.step_bel q5)
                have HQ20 := Lib.hid q4
                have HI20 := Lib.hid q3
                obtain ⟨n20, hn20⟩ : ∃ n, S20.length = n := ⟨_, rfl⟩
                have HN20 := Lib.hid hn20
                rw [hn20] at hs20 ⊢
                clear q1 q2 q3 q4 q5 CC hn20
                have CC := Lib.hid (told_any b20 c20 S20 W20 HI20.out (by rw [HN20.out]; omega))
                rw [HN20.out] at CC
                go_wp2_with fail
                refine CC.out.mono ?_
                rintro e W21 ⟨b21, c21, rfl, q1, q2⟩
                have H21 := Lib.hid (H20.out.step_bel q2)
                have HI21 := Lib.hid q1
                clear q1 q2 CC
                have CC := Lib.hid (h_dallM H21.out (i := 2) rfl)
                go_wp2_with fail
                refine CC.out.mono ?_
                rintro e W22 ⟨b22, c22, S22, rfl, q1, q2, q3, q4, q5⟩
                have hs22 : S22.length ≤ 1000 := by have h1 := congrArg List.length q4; rw [List.length_map] at h1; have h2 := HLA.out; omega
                have H22 := Lib.hid (H21.out.step_bel q5)
                have HQ22 := Lib.hid q4
                have HI22 := Lib.hid q3
                replace HI21 := Lib.hid (HI21.out.bel q5)
                obtain ⟨n22, hn22⟩ : ∃ n, S22.length = n := ⟨_, rfl⟩
                have HN22 := Lib.hid hn22
                rw [hn22] at hs22 ⊢
                clear q1 q2 q3 q4 q5 CC hn22
                have CC := Lib.hid (same_yes b21 b22 c21 c22 S20 S22 W22 HI21.out HI22.out (HQ20.out.trans HQ22.out.symm) (by rw [HN20.out]; unfold maxLen; omega))
                rw [HN20.out, HN22.out] at CC
                go_wp2_with fail
                refine CC.out.mono ?_
                rintro e W23 ⟨rfl, q1⟩
                have H23 := Lib.hid (H22.out.step_bel q1)
                clear q1 CC
                clear HI21 HI22 HI20 H20 H21 H22 HQ20 HQ22
                have CC := Lib.hid (h_sall H23.out (i := 1) rfl)
                go_wp2_with fail
                refine CC.out.mono ?_
                rintro e W24 ⟨b24, c24, S24, rfl, q1, q2, q3, q4, q5⟩
                have hs24 : S24.length ≤ 1000 := by have h1 := congrArg List.length q4; rw [List.length_map] at h1; have h2 := HLB.out; omega
                have H24 := Lib.hid (H23.out.step_bel q5)
                have HQ24 := Lib.hid q4
                have HI24 := Lib.hid q3
                obtain ⟨n24, hn24⟩ : ∃ n, S24.length = n := ⟨_, rfl⟩
                have HN24 := Lib.hid hn24
                rw [hn24] at hs24 ⊢
                clear q1 q2 q3 q4 q5 CC hn24
                have CC := Lib.hid (told_any b24 c24 S24 W24 HI24.out (by rw [HN24.out]; omega))
                rw [HN24.out] at CC
                go_wp2_with fail
                refine CC.out.mono ?_
                rintro e W25 ⟨b25, c25, rfl, q1, q2⟩
                have H25 := Lib.hid (H24.out.step_bel q2)
                have HI25 := Lib.hid q1
                clear q1 q2 CC
                have CC := Lib.hid (h_dallM H25.out (i := 3) rfl)
                go_wp2_with fail
                refine CC.out.mono ?_
                rintro e W26 ⟨b26, c26, S26, rfl, q1, q2, q3, q4, q5⟩
                have hs26 : S26.length ≤ 1000 := by have h1 := congrArg List.length q4; rw [List.length_map] at h1; have h2 := HLB.out; omega
                have H26 := Lib.hid (H25.out.step_bel q5)
                have HQ26 := Lib.hid q4
                have HI26 := Lib.hid q3
                replace HI25 := Lib.hid (HI25.out.bel q5)
                obtain ⟨n26, hn26⟩ : ∃ n, S26.length = n := ⟨_, rfl⟩
                have HN26 := Lib.hid hn26
                rw [hn26] at hs26 ⊢
                clear q1 q2 q3 q4 q5 CC hn26
                have CC := Lib.hid (same_yes b25 b26 c25 c26 S24 S26 W26 HI25.out HI26.out (HQ24.out.trans HQ26.out.symm) (by rw [HN24.out]; unfold maxLen; omega))
                rw [HN24.out, HN26.out] at CC
                go_wp2_with fail
                refine CC.out.mono ?_
                rintro e W27 ⟨rfl, q1⟩
                have H27 := Lib.hid (H26.out.step_bel q1)
                clear q1 CC
                go_wp2_with fail
                go_ret
                exact ⟨rfl, B1.out.trans (H27.out.bel.mono B1.out.size)⟩

theorem own : ownKnob Try.prog.godebug = none := by kernel_rfl
theorem laidOut : laidOutB Try.prog = true := by kernel_rfl

set_option maxRecDepth 100000 in
theorem lifted (os : Os) (started : os.Started) (H : Type) (enc : TypeId × Value → H) :
    ReturnsInHanded {} Try.checked os 10 .any (Rows.sessionMergesSpec.pre6 enc Try.prog Try.f10 Rows.sessionMergesRow.domain false) (Rows.sessionMergesSpec.post enc Try.prog Try.f10 false true false false) := by
  refine returnsInHanded_of_change (C := Try.checked) own started (by kernel_rfl) Try.func10
    (ChangeSpec.witness6 (enc := enc) (C := Try.checked) false ⟨#[], #[.int .i64 0, .int .i64 0, .slice none 0 0, .slice none 0 0], []⟩ 8 (by kernel_rfl) (by kernel_rfl) (by kernel_rfl) (by kernel_rfl)) ?_
  intro W base args ds gs before hval0 hW hcnd _
  have hval : ∀ (j : Nat) t v, Try.f10.params[j]? = some t → args[j]? = some v → Value.okWide Try.prog W .any base t v := hval0
  have hW' := hW
  obtain ⟨p, q, hA0, hV, rfl, hfz, hnd⟩ := hW
  have hA : DataW.TrodAll enc Try.prog W 0 (fun _ => true) true Try.f10.params.toList args.toList ds p := hA0
  rw [Try.params10] at hA hval
  obtain ⟨v0, vs0, d0, ds0, p0, q0, hargs, rfl, rfl, h0, r0⟩ := trodAll_cons hA
  obtain ⟨v1, vs1, d1, ds1, p1, q1, rfl, rfl, rfl, h1, r1⟩ := trodAll_cons r0
  obtain ⟨v2, vs2, d2, ds2, p2, q2, rfl, rfl, rfl, h2, r2⟩ := trodAll_cons r1
  obtain ⟨v3, vs3, d3, ds3, p3, q3, rfl, rfl, rfl, h3, r3⟩ := trodAll_cons r2
  obtain ⟨rfl, rfl, rfl⟩ := trodAll_nil r3
  obtain rfl : args = #[v0, v1, v2, v3] := by cases args; simp_all
  obtain ⟨rfl, rfl⟩ := trodVars_none hV
  have k0 := h0
  have lt0 : ∀ x ∈ p0, x.block < W.heap.size := by obtain ⟨m, hm⟩ := k0; exact DataW.trod_lt m _ _ _ hm
  obtain ⟨a0, rfl, rfl, rfl, w0⟩ := open_int Try.underlying3 (hval 0 3 v0 rfl rfl) h0
  have k1 := h1
  have lt1 : ∀ x ∈ p1, x.block < W.heap.size := by obtain ⟨m, hm⟩ := k1; exact DataW.trod_lt m _ _ _ hm
  obtain ⟨a1, rfl, rfl, rfl, w1⟩ := open_int Try.underlying3 (hval 1 3 v1 rfl rfl) h1
  have k2 := h2
  have lt2 : ∀ x ∈ p2, x.block < W.heap.size := by obtain ⟨m, hm⟩ := k2; exact DataW.trod_lt m _ _ _ hm
  obtain ⟨b2, c2, x2, rfl, l2, m2, i2, o2⟩ := open_adds (hval 2 22 v2 rfl rfl) h2
  have k3 := h3
  have lt3 : ∀ x ∈ p3, x.block < W.heap.size := by obtain ⟨m, hm⟩ := k3; exact DataW.trod_lt m _ _ _ hm
  obtain ⟨b3, c3, x3, rfl, l3, m3, i3, o3⟩ := open_adds (hval 3 22 v3 rfl rfl) h3
  clear hA0 hval0
  refine (walk W a0 w0 a1 w1 b2 c2 x2 l2 m2 i2 o2 b3 c3 x3 l3 m3 i3 o3).mono fun e W' ⟨he, bel⟩ => ?_
  subst he
  exact ⟨_, rfl, _, _, _, [], _, [], hW', trodAll_mk1 (shut_bool Try.underlying4 _), (trodAll_cons_mk (Below.trod laidOut (by kernel_rfl) (of_decide_eq_true (by kernel_rfl)) k0 bel lt0) (trodAll_cons_mk (Below.trod laidOut (by kernel_rfl) (of_decide_eq_true (by kernel_rfl)) k1 bel lt1) (trodAll_cons_mk (Below.trod laidOut (by kernel_rfl) (of_decide_eq_true (by kernel_rfl)) k2 bel lt2) (trodAll_cons_mk (Below.trod laidOut (by kernel_rfl) (of_decide_eq_true (by kernel_rfl)) k3 bel lt3) trodAll_mk0)))), rfl, bel.frame _, fun h => by cases h⟩

theorem over : Rows.sessionMergesRow.holds Try.pinned (OpenSpec.ofChange Rows.sessionMergesSpec) :=
  OpenClaim.holds_of_wide 10 Try.f10 rfl rfl rfl rfl rfl rfl rfl ⟨rfl, rfl, rfl, rfl, rfl⟩ rfl rfl rfl rfl rfl (by kernel_rfl) Try.func10 (by kernel_rfl)
    (of_decide_eq_true (by kernel_rfl)) (by unfold Func.isWrapper; first | (rw [if_pos (by decide +kernel)]; kernel_rfl) | (rw [if_neg (by decide +kernel)]; exact ⟨rfl, rfl⟩))
    (fun os started H enc _ => lifted os started H enc)

theorem proved : Rows.SessionMergesSaid := over
#print axioms proved
end Go.Proofs.Ytcnddbcdkpdkbaa.sessionMerges

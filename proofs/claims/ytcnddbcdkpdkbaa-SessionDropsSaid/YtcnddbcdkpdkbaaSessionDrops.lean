/- For every input ciceronelaw12.SessionDrops returns true, and its arguments read behind the call as before. No conditions. -/
import Derived.Test.YtcnddbcdkpdkbaaEDOf
import Derived.Test.YtcnddbcdkpdkbaaEAwake
import Derived.Deep.DeepCutAuto
import Derived.Test.YtcnddbcdkpdkbaaRows
import Derived.ProofKit
import Derived.OpenShut
import Derived.ShutString
import Derived.ChangeOld
import Derived.Below
import Derived.Lib.SmallJoins
namespace Go.Proofs.Ytcnddbcdkpdkbaa.sessionDrops
open Go.ChangeShapes Go.WideShapes Go.ChangeAt Go.RowKit Go.Joins
open Go.ChangeMaps (open_string shut_string)
set_option linter.unusedVariables false

def notP (L : List Tri) (p : ByteArray) : List Tri := L.filter fun a => !decide (a.1 = p)
theorem notP_idem (L : List Tri) (p : ByteArray) : (notP L p).filter (fun a => !decide (a.1 = p)) = notP L p := by unfold notP; rw [List.filter_filter]; simp
theorem ofP_not (L : List Tri) (p : ByteArray) : ofP (notP L p) p = [] := by
  unfold ofP notP
  rw [List.filter_filter]
  refine List.filter_eq_nil_iff.2 fun a _ c => ?_
  simp at c
set_option maxRecDepth 20000 in
set_option maxHeartbeats 8000000 in
theorem walk (w : World) (x : Int) (wx : (Lit.int .i64 x).wf = true) (b : Option Addr) (cap : Nat) (l : List Tri) (hlc : l.length ≤ cap) (hm : cap ≤ maxLen) (hi : InW w b 3 (l.map aC)) (ho : ∀ a ∈ l, aOk a) (p : ByteArray) (hp : p.size ≤ maxLen) (b2 : Option Addr) (cap2 : Nat) (l2 : List Tri) (hlc2 : l2.length ≤ cap2) (hm2 : cap2 ≤ maxLen) (hi2 : InW w b2 3 (l2.map aC)) (ho2 : ∀ a ∈ l2, aOk a) :
    Calls Try.prog 8 #[.int .i64 x, .slice b l.length cap, .string p, .slice b2 l2.length cap2] w fun e w' => e = .returned (.bool true) ∧ Below w.heap.size w w' := by
  have HX := Lib.hid (i64_wf wx)
  have HP := Lib.hid hp
  have AW := Lib.hid (awake_any w)
  have HF : Hid (∀ W, Below w.heap.size w W → Calls Try.prog 12 #[.slice b l.length cap] W fun e w' => e = .returned (.bool (fewB l)) ∧ W = w') := Lib.hid (fun W hb => few_any b cap l W (InW.bel hi hb) hm hlc ho)
  have HF2 : Hid (∀ W, Below w.heap.size w W → Calls Try.prog 12 #[.slice b2 l2.length cap2] W fun e w' => e = .returned (.bool (fewB l2)) ∧ W = w') := Lib.hid (fun W hb => few_any b2 cap2 l2 W (InW.bel hi2 hb) hm2 hlc2 ho2)
  have HIW := Lib.hid hi
  have HOK := Lib.hid ho
  have HIW2 := Lib.hid hi2
  have HOK2 := Lib.hid ho2
  unfold maxLen at hm hp hm2
  clear wx hi ho hi2 ho2
  cases hfw : fewB l with
  | false =>
    rw [hfw] at HF
    clear HF2
    generalize l.length = n at *
    generalize l2.length = n2 at *
    go_enter Try.func8, Try.ntmps8
    go_wp2_with fail
    refine AW.out.mono ?_
    rintro e w1 ⟨rfl, b1⟩
    have B1 := Lib.hid b1
    have F1 := Lib.hid (HF.out w1 b1)
    clear b1 HF AW
    go_wp2_with fail
    refine F1.out.mono ?_
    rintro e w2 ⟨rfl, rfl⟩
    clear F1
    go_wp2_with fail
    go_ret
    exact ⟨rfl, B1.out⟩
  | true =>
    rw [hfw] at HF
    obtain ⟨hn1, -⟩ := few_of hfw
    clear hfw
    obtain ⟨n, hn⟩ : ∃ n, l.length = n := ⟨_, rfl⟩
    have Hn := Lib.hid hn
    rw [hn] at hn1 hlc HF ⊢
    clear hn
    cases hfw2 : fewB l2 with
    | false =>
      rw [hfw2] at HF2
      generalize l2.length = n2 at *
      go_enter Try.func8, Try.ntmps8
      go_wp2_with fail
      refine AW.out.mono ?_
      rintro e w1 ⟨rfl, b1⟩
      have B1 := Lib.hid b1
      have F1 := Lib.hid (HF.out w1 b1)
      clear b1 HF AW
      go_wp2_with fail
      refine F1.out.mono ?_
      rintro e w2 ⟨rfl, rfl⟩
      clear F1
      have F2 := Lib.hid (HF2.out w1 B1.out)
      go_wp2_with fail
      refine F2.out.mono ?_
      rintro e w2 ⟨rfl, rfl⟩
      clear F2 HF2
      go_wp2_with fail
      go_ret
      exact ⟨rfl, B1.out⟩
    | true =>
      rw [hfw2] at HF2
      obtain ⟨hn2, -⟩ := few_of hfw2
      clear hfw2
      obtain ⟨n2, hnn2⟩ : ∃ n2, l2.length = n2 := ⟨_, rfl⟩
      have Hn2 := Lib.hid hnn2
      rw [hnn2] at hn2 hlc2 HF2 ⊢
      clear hnn2
      by_cases hbig : 100 < p.size
      · have t1 : decide ((100 : Int) < (p.size : Int)) = true := decide_eq_true (by omega)
        go_enter Try.func8, Try.ntmps8
        go_wp2_with fail
        refine AW.out.mono ?_
        rintro e w1 ⟨rfl, b1⟩
        have B1 := Lib.hid b1
        have F1 := Lib.hid (HF.out w1 b1)
        clear b1 HF AW
        go_wp2_with fail
        refine F1.out.mono ?_
        rintro e w2 ⟨rfl, rfl⟩
        clear F1
        have F2 := Lib.hid (HF2.out w1 B1.out)
        go_wp2_with fail
        refine F2.out.mono ?_
        rintro e w2 ⟨rfl, rfl⟩
        clear F2 HF2
        go_wp2_with fail
        go_ret
        exact ⟨rfl, B1.out⟩
      have t1 : decide ((100 : Int) < (p.size : Int)) = false := decide_eq_false (by omega)
      go_enter Try.func8, Try.ntmps8
      go_wp2_with fail
      refine AW.out.mono ?_
      rintro e w1 ⟨rfl, b1⟩
      have B1 := Lib.hid b1
      have F1 := Lib.hid (HF.out w1 b1)
      clear b1 HF AW
      go_wp2_with fail
      refine F1.out.mono ?_
      rintro e w2 ⟨rfl, rfl⟩
      clear F1
      have F2 := Lib.hid (HF2.out w1 B1.out)
      go_wp2_with fail
      refine F2.out.mono ?_
      rintro e w2 ⟨rfl, rfl⟩
      clear F2 HF2
      have HA1 : Hid (InW w1 b 3 (l.map aC)) := Lib.hid (HIW.out.bel B1.out)
      have HA2 : Hid (InW w1 b2 3 (l2.map aC)) := Lib.hid (HIW2.out.bel B1.out)
      have CC := Lib.hid (made_any x HX.out b cap l w1 HA1.out (by rw [Hn.out]; omega) HOK.out)
      rw [Hn.out] at CC
      go_wp2_with fail
      refine CC.out.mono ?_
      rintro e W3 ⟨s, rfl, h3⟩
      have H3 := Lib.hid h3
      have HND := Lib.hid (h_dnew H3.out x HX.out)
      clear CC h3 HIW HIW2
      go_wp2_with fail
      refine HND.out.mono ?_
      rintro e W4 ⟨rfl, h2⟩
      have H2 : Hid (Here K12 w1 W4 [.ses s (gapOf x) (addsT [] l), .doc W3.heap.size (gapOf x) []]) := Lib.hid h2
      clear HND h2 H3
      generalize W3.heap.size = m at *
      generalize gapOf x = gap at *
      have HLN0 : Hid (∀ i, (addsT [] (l.take i)).length ≤ 101) := Lib.hid (fun i => by have := adds_len (l.take i) []; rw [List.length_take, Hn.out] at this; simp at this; omega)
      go_wp2_with fail
      go_loopw [11] (fun c wr => ∃ i : Nat, i ≤ n ∧ c = .int .i64 i ∧ Here K12 w1 wr [.ses s gap (addsT [] l), .doc m gap (addsT [] (l.take i))]) (fun c _ => n - (intOf c).toNat)
      case atStart => exact ⟨0, by omega, rfl, H2.out⟩
      case round =>
        obtain ⟨i, hi, rfl, hh⟩ := hrel
        have HH := Lib.hid hh
        clear hh H2
        by_cases hlt : i < n
        · obtain ⟨a, ha⟩ : ∃ a, l[i]? = some a := ⟨l[i]'(by rw [Hn.out]; exact hlt), List.getElem?_eq_getElem _⟩
          obtain ⟨B, off, rfl, hB, d0, d1, d2⟩ := aAt (HA1.out.bel HH.out.bel) ha
          have HAO := Lib.hid (HOK.out a (List.mem_of_getElem? ha))
          have hi0 : (0 : Int) ≤ (i : Int) := by omega
          have hi1 : (i : Int) < (n : Int) := by omega
          have HT : Hid (addsT [] (l.take (i + 1)) = addT (addsT [] (l.take i)) a) := Lib.hid (by rw [List.take_add_one, ha]; exact addsT_snoc _ _ _)
          have HAD := Lib.hid (h_dadd HH.out (i := 1) rfl a HAO.out (by have := HLN0.out i; omega))
          clear ha
          go_wp2_with fail
          refine HAD.out.mono ?_
          rintro e W5 ⟨rfl, h5⟩
          have H5 : Hid (Here K12 w1 W5 [.ses s gap (addsT [] l), .doc m gap (addT (addsT [] (l.take i)) a)]) := Lib.hid h5
          clear h5
          go_wp2_with fail
          go_roundw
          case rel => exact ⟨i + 1, by omega, by go_num, by rw [HT.out]; exact H5.out⟩
          case measure => simp [intOf]; omega
        · obtain rfl : n = i := by omega
          have htk : l.take n = l := List.take_of_length_le (by rw [Hn.out]; exact Nat.le_refl _)
          have hA0 := HLN0.out n
          rw [htk] at HH hA0
          clear htk HLN0
          generalize addsT [] l = A at *
          obtain ⟨dd, hdd⟩ : ∃ dd, (allS gap (ofP A p)).length = dd := ⟨_, rfl⟩
          have C1 := Lib.hid (h_sdrop HH.out (i := 0) rfl p HP.out)
          rw [hdd] at C1
          have HDD := Lib.hid hdd
          clear hdd
          go_wp2_with fail
          refine C1.out.mono ?_
          rintro e W6 ⟨rfl, h6⟩
          have H6 : Hid (Here K12 w1 W6 [.ses s gap (notP A p), .doc m gap A]) := Lib.hid h6
          have C2 := Lib.hid (h_ddrop H6.out (i := 1) rfl p HP.out)
          rw [HDD.out] at C2
          clear h6 C1 HH
          go_wp2_with fail
          refine C2.out.mono ?_
          rintro e W7 ⟨rfl, h7⟩
          have H7 : Hid (Here K12 w1 W7 [.ses s gap (notP A p), .doc m gap (notP A p)]) := Lib.hid h7
          have HNI := Lib.hid (notP_idem A p)
          have HON := Lib.hid (ofP_not A p)
          have hA1 : (notP A p).length ≤ 101 := Nat.le_trans (List.length_filter_le _ _) hA0
          clear h7 C2 H6 HDD
          generalize notP A p = A1 at *
          have HL1 : Hid ((allS gap (ofP A1 p)).length ≤ 1000) := Lib.hid (by rw [HON.out]; simp [allS])
          have CC := Lib.hid (h_sof H7.out (i := 0) rfl p HP.out)
          go_wp2_with fail
          refine CC.out.mono ?_
          rintro e W9 ⟨b9, c9, S9, rfl, q1, q2, q3, q4, q5⟩
          have hs9 : S9.length ≤ 1000 := by have h1 := congrArg List.length q4; rw [List.length_map] at h1; have h2 := HL1.out; omega
          have H9 := Lib.hid (H7.out.step_bel q5)
          have HQ9 := Lib.hid q4
          have HI9 := Lib.hid q3
          obtain ⟨n9, hn9⟩ : ∃ n, S9.length = n := ⟨_, rfl⟩
          have HN9 := Lib.hid hn9
          rw [hn9] at hs9 ⊢
          clear q1 q2 q3 q4 q5 CC hn9
          obtain rfl : n9 = 0 := by rw [← HN9.out]; have := congrArg List.length HQ9.out; rw [List.length_map, HON.out] at this; exact this
          have C3 := Lib.hid (h_sdrop H9.out (i := 0) rfl p HP.out)
          have hz : ((allS gap (ofP A1 p)).length : Nat) = 0 := by rw [HON.out]; rfl
          rw [hz] at C3
          clear hz H7 HI9 HQ9
          go_wp2_with fail
          refine C3.out.mono ?_
          rintro e W10 ⟨rfl, h10⟩
          have h10b : Here K12 w1 W10 [.ses s gap (A1.filter fun a => !decide (a.1 = p)), .doc m gap A1] := h10
          rw [HNI.out] at h10b
          have H10 := Lib.hid h10b
          clear h10 h10b C3 H9 HN9
          have HLN0 : Hid (∀ i, (addsT A1 (l2.take i)).length ≤ 202) := Lib.hid (fun i => by have := adds_len (l2.take i) A1; rw [List.length_take, Hn2.out] at this; omega)
          go_wp2_with fail
          go_loopw [12] (fun c wr => ∃ i : Nat, i ≤ n2 ∧ c = .int .i64 i ∧ Here K12 w1 wr [.ses s gap (addsT A1 (l2.take i)), .doc m gap (addsT A1 (l2.take i))]) (fun c _ => n2 - (intOf c).toNat)
          case atStart => exact ⟨0, by omega, rfl, H10.out⟩
          case round =>
            clear HA1
            obtain ⟨i, hi, rfl, hh⟩ := hrel
            have HH := Lib.hid hh
            clear hh H10
            by_cases hlt : i < n2
            · obtain ⟨a, ha⟩ : ∃ a, l2[i]? = some a := ⟨l2[i]'(by rw [Hn2.out]; exact hlt), List.getElem?_eq_getElem _⟩
              obtain ⟨B, off, rfl, hB, d0, d1, d2⟩ := aAt HA2.out ha
              have HAO := Lib.hid (HOK2.out a (List.mem_of_getElem? ha))
              have HC : Hid (∀ X, Below w1.heap.size w1 X → (X.cell? ⟨B, off + i * 3, none⟩ = some (.string a.1) ∧ X.cell? ⟨B, off + i * 3 + 1, none⟩ = some (.int .i64 a.2.1) ∧ X.cell? ⟨B, off + i * 3 + 2, none⟩ = some (.string a.2.2))) := Lib.hid (fun W hW => ⟨(hW.cell (p := ⟨B, _, none⟩) hB).trans d0, (hW.cell (p := ⟨B, _, none⟩) hB).trans d1, (hW.cell (p := ⟨B, _, none⟩) hB).trans d2⟩)
              have hi0 : (0 : Int) ≤ (i : Int) := by omega
              have hi1 : (i : Int) < (n2 : Int) := by omega
              have HT : Hid (addsT A1 (l2.take (i + 1)) = addT (addsT A1 (l2.take i)) a) := Lib.hid (by rw [List.take_add_one, ha]; exact addsT_snoc _ _ _)
              have HAD := Lib.hid (h_sadd HH.out.drew (i := 0) rfl a HAO.out (by have := HLN0.out i; omega))
              have HAD2 : Hid (∀ W, Here K12 w1 W [.ses s gap (addT (addsT A1 (l2.take i)) a), .doc m gap (addsT A1 (l2.take i))] → Calls Try.prog 16 #[.pointer (some ⟨m, 0, none⟩), .agg #[.string a.1, .int .i64 a.2.1, .string a.2.2]] W fun e w' => e = .returned (.bool (okT a)) ∧ Here K12 w1 w' [.ses s gap (addT (addsT A1 (l2.take i)) a), .doc m gap (addT (addsT A1 (l2.take i)) a)]) := Lib.hid (fun W hW => h_dadd hW (i := 1) rfl a HAO.out (by have := HLN0.out i; omega))
              obtain ⟨r, hr⟩ : ∃ r, okT a = r := ⟨_, rfl⟩
              rw [hr] at HAD HAD2
              have hbne : (r != r) = false := by simp
              have cS := HC.out wr HH.out.bel
              clear ha d0 d1 d2 hr
              go_wp2_with fail
              go_region_held3 (fun X => X.cell? ⟨B, off + i * 3, none⟩ = some (.string a.1) ∧ X.cell? ⟨B, off + i * 3 + 1, none⟩ = some (.int .i64 a.2.1) ∧ X.cell? ⟨B, off + i * 3 + 2, none⟩ = some (.string a.2.2)) (first | assumption | go_keep | fail)
                (first
                  | (go_at_call 15
                     (with_reducible refine HAD.out.mono ?_)
                     rintro e w2 ⟨rfl, h2⟩
                     have H2 := Lib.hid h2
                     have hS2 := HC.out w2 h2.bel
                     clear h2)
                  | (go_at_call 16
                     (with_reducible refine (HAD2.out _ H2.out).mono ?_)
                     rintro e w3 ⟨rfl, h3⟩
                     have H3 := Lib.hid h3
                     have hS3 := HC.out w3 h3.bel
                     clear h3)
                  | fail)
              go_wp2_with fail
              go_roundw
              case rel => exact ⟨i + 1, by omega, by go_num, by rw [HT.out]; exact H3.out⟩
              case measure => simp [intOf]; omega
            · obtain rfl : n2 = i := by omega
              have htk : l2.take n2 = l2 := List.take_of_length_le (by rw [Hn2.out]; exact Nat.le_refl _)
              have hA2 := HLN0.out n2
              rw [htk] at HH hA2
              have HLA : Hid ((allS gap (addsT A1 l2)).length ≤ 1000) := Lib.hid (Nat.le_trans (all_le _ _) (by omega))
              clear htk hA2 HLN0
              generalize addsT A1 l2 = A2 at *
              have CC := Lib.hid (h_sall HH.out (i := 0) rfl)
              go_wp2_with fail
              refine CC.out.mono ?_
              rintro e W20 ⟨b20, c20, S20, rfl, q1, q2, q3, q4, q5⟩
              have hs20 : S20.length ≤ 1000 := by have h1 := congrArg List.length q4; rw [List.length_map] at h1; have h2 := HLA.out; omega
              have H20 := Lib.hid (HH.out.step_bel q5)
              have HQ20 := Lib.hid q4
              have HI20 := Lib.hid q3
              obtain ⟨n20, hn20⟩ : ∃ n, S20.length = n := ⟨_, rfl⟩
              have HN20 := Lib.hid hn20
              rw [hn20] at hs20 ⊢
              clear q1 q2 q3 q4 q5 CC hn20
              have CC := Lib.hid (told_any b20 c20 S20 W20 HI20.out (by rw [HN20.out]; omega))
              rw [HN20.out] at CC
              go_wp2_with fail
              refine CC.out.mono ?_
              rintro e W21 ⟨b21, c21, rfl, q1, q2⟩
              have H21 := Lib.hid (H20.out.step_bel q2)
              have HI21 := Lib.hid q1
              clear q1 q2 CC
              have CC := Lib.hid (h_dallM H21.out (i := 1) rfl)
              go_wp2_with fail
              refine CC.out.mono ?_
              rintro e W22 ⟨b22, c22, S22, rfl, q1, q2, q3, q4, q5⟩
              have hs22 : S22.length ≤ 1000 := by have h1 := congrArg List.length q4; rw [List.length_map] at h1; have h2 := HLA.out; omega
              have H22 := Lib.hid (H21.out.step_bel q5)
              have HQ22 := Lib.hid q4
              have HI22 := Lib.hid q3
              replace HI21 := Lib.hid (HI21.out.bel q5)
              obtain ⟨n22, hn22⟩ : ∃ n, S22.length = n := ⟨_, rfl⟩
              have HN22 := Lib.hid hn22
              rw [hn22] at hs22 ⊢
              clear q1 q2 q3 q4 q5 CC hn22
              have CC := Lib.hid (same_yes b21 b22 c21 c22 S20 S22 W22 HI21.out HI22.out (HQ20.out.trans HQ22.out.symm) (by rw [HN20.out]; unfold maxLen; omega))
              rw [HN20.out, HN22.out] at CC
              go_wp2_with fail
              refine CC.out.mono ?_
              rintro e W23 ⟨rfl, q1⟩
              have H23 := Lib.hid (H22.out.step_bel q1)
              clear q1 CC
              go_wp2_with fail
              go_ret
              exact ⟨rfl, B1.out.trans (H23.out.bel.mono B1.out.size)⟩

theorem own : ownKnob Try.prog.godebug = none := by kernel_rfl
theorem laidOut : laidOutB Try.prog = true := by kernel_rfl

set_option maxRecDepth 100000 in
theorem lifted (os : Os) (started : os.Started) (H : Type) (enc : TypeId × Value → H) :
    ReturnsInHanded {} Try.checked os 8 .any (Rows.sessionDropsSpec.pre6 enc Try.prog Try.f8 Rows.sessionDropsRow.domain false) (Rows.sessionDropsSpec.post enc Try.prog Try.f8 false true false false) := by
  refine returnsInHanded_of_change (C := Try.checked) own started (by kernel_rfl) Try.func8
    (ChangeSpec.witness6 (enc := enc) (C := Try.checked) false ⟨#[], #[.int .i64 0, .slice none 0 0, .string ⟨#[]⟩, .slice none 0 0], []⟩ 8 (by kernel_rfl) (by kernel_rfl) (by kernel_rfl) (by kernel_rfl)) ?_
  intro W base args ds gs before hval0 hW hcnd _
  have hval : ∀ (j : Nat) t v, Try.f8.params[j]? = some t → args[j]? = some v → Value.okWide Try.prog W .any base t v := hval0
  have hW' := hW
  obtain ⟨p, q, hA0, hV, rfl, hfz, hnd⟩ := hW
  have hA : DataW.TrodAll enc Try.prog W 0 (fun _ => true) true Try.f8.params.toList args.toList ds p := hA0
  rw [Try.params8] at hA hval
  obtain ⟨v0, vs0, d0, ds0, p0, q0, hargs, rfl, rfl, h0, r0⟩ := trodAll_cons hA
  obtain ⟨v1, vs1, d1, ds1, p1, q1, rfl, rfl, rfl, h1, r1⟩ := trodAll_cons r0
  obtain ⟨v2, vs2, d2, ds2, p2, q2, rfl, rfl, rfl, h2, r2⟩ := trodAll_cons r1
  obtain ⟨v3, vs3, d3, ds3, p3, q3, rfl, rfl, rfl, h3, r3⟩ := trodAll_cons r2
  obtain ⟨rfl, rfl, rfl⟩ := trodAll_nil r3
  obtain rfl : args = #[v0, v1, v2, v3] := by cases args; simp_all
  obtain ⟨rfl, rfl⟩ := trodVars_none hV
  have k0 := h0
  have lt0 : ∀ x ∈ p0, x.block < W.heap.size := by obtain ⟨m, hm⟩ := k0; exact DataW.trod_lt m _ _ _ hm
  obtain ⟨a0, rfl, rfl, rfl, w0⟩ := open_int Try.underlying3 (hval 0 3 v0 rfl rfl) h0
  have k1 := h1
  have lt1 : ∀ x ∈ p1, x.block < W.heap.size := by obtain ⟨m, hm⟩ := k1; exact DataW.trod_lt m _ _ _ hm
  obtain ⟨b1, c1, x1, rfl, l1, m1, i1, o1⟩ := open_adds (hval 1 22 v1 rfl rfl) h1
  have k2 := h2
  have lt2 : ∀ x ∈ p2, x.block < W.heap.size := by obtain ⟨m, hm⟩ := k2; exact DataW.trod_lt m _ _ _ hm
  obtain ⟨a2, rfl, rfl, rfl, w2⟩ := open_string Try.underlying9 (hval 2 9 v2 rfl rfl) h2
  have k3 := h3
  have lt3 : ∀ x ∈ p3, x.block < W.heap.size := by obtain ⟨m, hm⟩ := k3; exact DataW.trod_lt m _ _ _ hm
  obtain ⟨b3, c3, x3, rfl, l3, m3, i3, o3⟩ := open_adds (hval 3 22 v3 rfl rfl) h3
  clear hA0 hval0
  refine (walk W a0 w0 b1 c1 x1 l1 m1 i1 o1 a2 w2 b3 c3 x3 l3 m3 i3 o3).mono fun e W' ⟨he, bel⟩ => ?_
  subst he
  exact ⟨_, rfl, _, _, _, [], _, [], hW', trodAll_mk1 (shut_bool Try.underlying4 _), (trodAll_cons_mk (Below.trod laidOut (by kernel_rfl) (of_decide_eq_true (by kernel_rfl)) k0 bel lt0) (trodAll_cons_mk (Below.trod laidOut (by kernel_rfl) (of_decide_eq_true (by kernel_rfl)) k1 bel lt1) (trodAll_cons_mk (Below.trod laidOut (by kernel_rfl) (of_decide_eq_true (by kernel_rfl)) k2 bel lt2) (trodAll_cons_mk (Below.trod laidOut (by kernel_rfl) (of_decide_eq_true (by kernel_rfl)) k3 bel lt3) trodAll_mk0)))), rfl, bel.frame _, fun h => by cases h⟩

theorem over : Rows.sessionDropsRow.holds Try.pinned (OpenSpec.ofChange Rows.sessionDropsSpec) :=
  OpenClaim.holds_of_wide 8 Try.f8 rfl rfl rfl rfl rfl rfl rfl ⟨rfl, rfl, rfl, rfl, rfl⟩ rfl rfl rfl rfl rfl (by kernel_rfl) Try.func8 (by kernel_rfl)
    (of_decide_eq_true (by kernel_rfl)) (by unfold Func.isWrapper; first | (rw [if_pos (by decide +kernel)]; kernel_rfl) | (rw [if_neg (by decide +kernel)]; exact ⟨rfl, rfl⟩))
    (fun os started H enc _ => lifted os started H enc)

theorem proved : Rows.SessionDropsSaid := over
#print axioms proved
end Go.Proofs.Ytcnddbcdkpdkbaa.sessionDrops

/- For every input ciceronelaw12.SessionPlays returns true, and its arguments read behind the call as before. No conditions. -/
import Derived.Test.YtcnddbcdkpdkbaaEDOf
import Derived.Test.YtcnddbcdkpdkbaaEAwake
import Derived.Deep.DeepCutAuto
import Derived.Test.YtcnddbcdkpdkbaaRows
import Derived.ProofKit
import Derived.OpenShut
import Derived.ShutString
import Derived.ChangeOld
import Derived.Below
import Derived.Lib.SmallJoins
namespace Go.Proofs.Ytcnddbcdkpdkbaa.sessionPlays
open Go.ChangeShapes Go.WideShapes Go.ChangeAt Go.RowKit Go.Joins
open Go.ChangeMaps (open_string shut_string)
set_option linter.unusedVariables false

theorem of_none (l : List Tri) : ofP (addsT [] l) ⟨#[]⟩ = [] := by
  unfold ofP
  refine List.filter_eq_nil_iff.2 fun a ha c => ?_
  obtain ⟨h1, -⟩ := (okT_iff a).1 ((SOk.nil.adds l).ok a ha)
  have h2 : a.1 = ⟨#[]⟩ := of_decide_eq_true c
  rw [h2] at h1
  exact absurd h1 (by decide)
theorem of_none2 (S : List SV) (gap : Int) (l : List Tri) (h : S.map seOf = allS gap (ofP (addsT [] l) ⟨#[]⟩)) : S.length = 0 := by
  rw [of_none] at h
  have := congrArg List.length h
  rw [List.length_map] at this
  exact this
set_option maxRecDepth 20000 in
set_option maxHeartbeats 8000000 in
theorem walk (w : World) (x : Int) (wx : (Lit.int .i64 x).wf = true) (b : Option Addr) (cap : Nat) (l : List Tri) (hlc : l.length ≤ cap) (hm : cap ≤ maxLen) (hi : InW w b 3 (l.map aC)) (ho : ∀ a ∈ l, aOk a) :
    Calls Try.prog 3 #[.int .i64 x, .slice b l.length cap] w fun e w' => e = .returned (.bool true) ∧ Below w.heap.size w w' := by
  have HX := Lib.hid (i64_wf wx)
  have AW := Lib.hid (awake_any w)
  have HF : Hid (∀ W, Below w.heap.size w W → Calls Try.prog 12 #[.slice b l.length cap] W fun e w' => e = .returned (.bool (fewB l)) ∧ W = w') := Lib.hid (fun W hb => few_any b cap l W (InW.bel hi hb) hm hlc ho)
  have HIW := Lib.hid hi
  have HOK := Lib.hid ho
  unfold maxLen at hm
  clear wx hi ho
  cases hfw : fewB l with
  | false =>
    rw [hfw] at HF
    generalize l.length = n at *
    go_enter Try.func3, Try.ntmps3
    go_wp2_with fail
    refine AW.out.mono ?_
    rintro e w1 ⟨rfl, b1⟩
    have B1 := Lib.hid b1
    have F1 := Lib.hid (HF.out w1 b1)
    clear b1 HF AW
    go_wp2_with fail
    refine F1.out.mono ?_
    rintro e w2 ⟨rfl, rfl⟩
    clear F1
    go_wp2_with fail
    go_ret
    exact ⟨rfl, B1.out⟩
  | true =>
    rw [hfw] at HF
    obtain ⟨hn1, -⟩ := few_of hfw
    clear hfw
    obtain ⟨n, hn⟩ : ∃ n, l.length = n := ⟨_, rfl⟩
    have Hn := Lib.hid hn
    rw [hn] at hn1 hlc HF ⊢
    clear hn
    go_enter Try.func3, Try.ntmps3
    go_wp2_with fail
    refine AW.out.mono ?_
    rintro e w1 ⟨rfl, b1⟩
    have B1 := Lib.hid b1
    have F1 := Lib.hid (HF.out w1 b1)
    clear b1 HF AW
    go_wp2_with fail
    refine F1.out.mono ?_
    rintro e w2 ⟨rfl, rfl⟩
    clear F1
    have HNW := Lib.hid (h_snew (Here.nil (K := K12) B1.out) x HX.out)
    go_wp2_with fail
    refine HNW.out.mono ?_
    rintro e W3 ⟨rfl, h1⟩
    have H1 := Lib.hid h1
    have HND := Lib.hid (h_dnew H1.out x HX.out)
    clear HNW h1
    generalize w1.heap.size + 1 = s at *
    go_wp2_with fail
    refine HND.out.mono ?_
    rintro e W4 ⟨rfl, h2⟩
    have H2 : Hid (Here K12 w W4 [.ses s (gapOf x) [], .doc W3.heap.size (gapOf x) []]) := Lib.hid h2
    clear HND h2 H1
    generalize W3.heap.size = m at *
    generalize gapOf x = gap at *
    go_wp2_with fail
    go_loopw [7] (fun c wr => ∃ i : Nat, i ≤ n ∧ c = .int .i64 i ∧ Here K12 w wr [.ses s gap (addsT [] (l.take i)), .doc m gap (addsT [] (l.take i))]) (fun c _ => n - (intOf c).toNat)
    case atStart => exact ⟨0, by omega, rfl, H2.out⟩
    case round =>
      obtain ⟨i, hi, rfl, hh⟩ := hrel
      have HH := Lib.hid hh
      clear hh H2
      by_cases hlt : i < n
      · obtain ⟨a, ha⟩ : ∃ a, l[i]? = some a := ⟨l[i]'(by rw [Hn.out]; exact hlt), List.getElem?_eq_getElem _⟩
        obtain ⟨B, off, rfl, hB, d0, d1, d2⟩ := aAt HIW.out ha
        have HAO := Lib.hid (HOK.out a (List.mem_of_getElem? ha))
        have HC : Hid (∀ X, Below w.heap.size w X → (X.cell? ⟨B, off + i * 3, none⟩ = some (.string a.1) ∧ X.cell? ⟨B, off + i * 3 + 1, none⟩ = some (.int .i64 a.2.1) ∧ X.cell? ⟨B, off + i * 3 + 2, none⟩ = some (.string a.2.2))) := Lib.hid (fun W hW => ⟨(hW.cell (p := ⟨B, _, none⟩) hB).trans d0, (hW.cell (p := ⟨B, _, none⟩) hB).trans d1, (hW.cell (p := ⟨B, _, none⟩) hB).trans d2⟩)
        have hi0 : (0 : Int) ≤ (i : Int) := by omega
        have hi1 : (i : Int) < (n : Int) := by omega
        have HT : Hid (addsT [] (l.take (i + 1)) = addT (addsT [] (l.take i)) a) := Lib.hid (by rw [List.take_add_one, ha]; exact addsT_snoc _ _ _)
        have HLN : Hid ((addsT [] (l.take i)).length + 1 ≤ 1000) := Lib.hid (by have := adds_len (l.take i) []; rw [List.length_take] at this; simp at this; omega)
        have HAD := Lib.hid (h_sadd HH.out.drew (i := 0) rfl a HAO.out (by have := HLN.out; omega))
        have HAD2 : Hid (∀ W, Here K12 w W [.ses s gap (addT (addsT [] (l.take i)) a), .doc m gap (addsT [] (l.take i))] → Calls Try.prog 16 #[.pointer (some ⟨m, 0, none⟩), .agg #[.string a.1, .int .i64 a.2.1, .string a.2.2]] W fun e w' => e = .returned (.bool (okT a)) ∧ Here K12 w w' [.ses s gap (addT (addsT [] (l.take i)) a), .doc m gap (addT (addsT [] (l.take i)) a)]) := Lib.hid (fun W hW => h_dadd hW (i := 1) rfl a HAO.out (by have := HLN.out; omega))
        obtain ⟨r, hr⟩ : ∃ r, okT a = r := ⟨_, rfl⟩
        rw [hr] at HAD HAD2
        have hbne : (r != r) = false := by simp
        have HLA : Hid ((allS gap (ofP (addT (addsT [] (l.take i)) a) a.1)).length ≤ 1000) := Lib.hid (by
          have h1 := all_le gap (ofP (addT (addsT [] (l.take i)) a) a.1)
          have h2 : (ofP (addT (addsT [] (l.take i)) a) a.1).length ≤ _ := List.length_filter_le _ _
          have h3 := add_len (addsT [] (l.take i)) a
          have := HLN.out
          omega)
        have cS := HC.out wr HH.out.bel
        clear ha d0 d1 d2 hr
        go_wp2_with fail
        go_region_held3 (fun X => X.cell? ⟨B, off + i * 3, none⟩ = some (.string a.1) ∧ X.cell? ⟨B, off + i * 3 + 1, none⟩ = some (.int .i64 a.2.1) ∧ X.cell? ⟨B, off + i * 3 + 2, none⟩ = some (.string a.2.2)) (first | assumption | go_keep | fail)
          (first
            | (go_at_call 15
               (with_reducible refine HAD.out.mono ?_)
               rintro e w2 ⟨rfl, h2⟩
               have H2 := Lib.hid h2
               have hS2 := HC.out w2 h2.bel
               clear h2)
            | (go_at_call 16
               (with_reducible refine (HAD2.out _ H2.out).mono ?_)
               rintro e w3 ⟨rfl, h3⟩
               have H3 := Lib.hid h3
               have hS3 := HC.out w3 h3.bel
               clear h3)
            | (go_at_call 19
               have HOF := h_sof H3.out (i := 0) rfl a.1 HAO.out.1
               (with_reducible refine HOF.mono ?_)
               clear HOF
               rintro e w4 ⟨b4, c4, S4, rfl, q1, q2, q3, q4, q5⟩
               have H4 := Lib.hid (H3.out.step_bel q5)
               have HQ4 := Lib.hid q4
               have HI4 := Lib.hid q3
               have hs4 : S4.length ≤ 1000 := by have h1 := congrArg List.length q4; rw [List.length_map] at h1; have := HLA.out; omega
               have hS4 := HC.out w4 H4.out.bel
               have HT4 := Lib.hid (told_any b4 c4 S4 w4 q3 (by omega))
               obtain ⟨n4, hn4⟩ : ∃ n4, S4.length = n4 := ⟨_, rfl⟩
               have HN4 := Lib.hid hn4
               rw [hn4] at hs4 HT4 ⊢
               clear q1 q2 q3 q4 q5 hn4)
            | (go_at_call 18
               (with_reducible refine HT4.out.mono ?_)
               rintro e w5 ⟨b5, c5, rfl, r1, r2⟩
               have H5 := Lib.hid (H4.out.step_bel r2)
               have HI5 := Lib.hid r1
               have hS5 := HC.out w5 H5.out.bel
               clear r1 r2)
            | (go_at_call 20
               have HOF := h_dofM H5.out (i := 1) rfl a.1 HAO.out.1
               (with_reducible refine HOF.mono ?_)
               clear HOF
               rintro e w6 ⟨b6, c6, S6, rfl, q1, q2, q3, q4, q5⟩
               have H6 := Lib.hid (H5.out.step_bel q5)
               have hS6 := HC.out w6 H6.out.bel
               have HS6 := Lib.hid (same_yes b5 b6 c5 c6 S4 S6 w6 (HI5.out.bel q5) q3 (HQ4.out.trans q4.symm) (by rw [HN4.out]; unfold maxLen; omega))
               obtain ⟨n6, hn6⟩ : ∃ n6, S6.length = n6 := ⟨_, rfl⟩
               rw [HN4.out, hn6] at HS6
               rw [hn6]
               clear q1 q2 q3 q4 q5 hn6)
            | (go_at_call 17
               (with_reducible refine HS6.out.mono ?_)
               rintro e w7 ⟨rfl, q1⟩
               have H7 := Lib.hid (H6.out.step_bel q1)
               have hS7 := HC.out w7 H7.out.bel
               clear q1)
            | fail)
        go_wp2_with fail
        go_roundw
        case rel => exact ⟨i + 1, by omega, by go_num, by rw [HT.out]; exact H7.out⟩
        case measure => simp [intOf]; omega
      · obtain rfl : n = i := by omega
        have htk : l.take n = l := List.take_of_length_le (by rw [Hn.out]; exact Nat.le_refl _)
        rw [htk] at HH
        have hA : (addsT [] l).length ≤ 1000 := by have := adds_len l []; rw [Hn.out] at this; simp at this; omega
        have HLA : Hid ((allS gap (addsT [] l)).length ≤ 1000) := Lib.hid (Nat.le_trans (all_le _ _) hA)
        have HLE : Hid ((allS gap (ofP (addsT [] l) ⟨#[]⟩)).length ≤ 1000) := Lib.hid (by rw [of_none]; simp [allS])
        have HNO : Hid (∀ S : List SV, S.map seOf = allS gap (ofP (addsT [] l) ⟨#[]⟩) → S.length = 0) := Lib.hid (fun S h => of_none2 S gap l h)
        clear htk hA
        generalize addsT [] l = A at *
        have CC := Lib.hid (h_sall HH.out (i := 0) rfl)
        go_wp2_with fail
        refine CC.out.mono ?_
        rintro e W9 ⟨b9, c9, S9, rfl, q1, q2, q3, q4, q5⟩
        have hs9 : S9.length ≤ 1000 := by have h1 := congrArg List.length q4; rw [List.length_map] at h1; have h2 := HLA.out; omega
        have H9 := Lib.hid (HH.out.step_bel q5)
        have HQ9 := Lib.hid q4
        have HI9 := Lib.hid q3
        obtain ⟨n9, hn9⟩ : ∃ n, S9.length = n := ⟨_, rfl⟩
        have HN9 := Lib.hid hn9
        rw [hn9] at hs9 ⊢
        clear q1 q2 q3 q4 q5 CC hn9
        have CC := Lib.hid (told_any b9 c9 S9 W9 HI9.out (by rw [HN9.out]; omega))
        rw [HN9.out] at CC
        go_wp2_with fail
        refine CC.out.mono ?_
        rintro e W10 ⟨b10, c10, rfl, q1, q2⟩
        have H10 := Lib.hid (H9.out.step_bel q2)
        have HI10 := Lib.hid q1
        clear q1 q2 CC
        have CC := Lib.hid (h_dallM H10.out (i := 1) rfl)
        go_wp2_with fail
        refine CC.out.mono ?_
        rintro e W11 ⟨b11, c11, S11, rfl, q1, q2, q3, q4, q5⟩
        have hs11 : S11.length ≤ 1000 := by have h1 := congrArg List.length q4; rw [List.length_map] at h1; have h2 := HLA.out; omega
        have H11 := Lib.hid (H10.out.step_bel q5)
        have HQ11 := Lib.hid q4
        have HI11 := Lib.hid q3
        replace HI10 := Lib.hid (HI10.out.bel q5)
        obtain ⟨n11, hn11⟩ : ∃ n, S11.length = n := ⟨_, rfl⟩
        have HN11 := Lib.hid hn11
        rw [hn11] at hs11 ⊢
        clear q1 q2 q3 q4 q5 CC hn11
        have CC := Lib.hid (same_yes b10 b11 c10 c11 S9 S11 W11 HI10.out HI11.out (HQ9.out.trans HQ11.out.symm) (by rw [HN9.out]; unfold maxLen; omega))
        rw [HN9.out, HN11.out] at CC
        go_wp2_with fail
        refine CC.out.mono ?_
        rintro e W12 ⟨rfl, q1⟩
        have H12 := Lib.hid (H11.out.step_bel q1)
        clear q1 CC
        have CC := Lib.hid (h_sof H12.out (i := 0) rfl ⟨#[]⟩ (by decide))
        go_wp2_with fail
        refine CC.out.mono ?_
        rintro e W13 ⟨b13, c13, S13, rfl, q1, q2, q3, q4, q5⟩
        have hs13 : S13.length ≤ 1000 := by have h1 := congrArg List.length q4; rw [List.length_map] at h1; have h2 := HLE.out; omega
        have H13 := Lib.hid (H12.out.step_bel q5)
        have HQ13 := Lib.hid q4
        have HI13 := Lib.hid q3
        obtain ⟨n13, hn13⟩ : ∃ n, S13.length = n := ⟨_, rfl⟩
        have HN13 := Lib.hid hn13
        rw [hn13] at hs13 ⊢
        clear q1 q2 q3 q4 q5 CC hn13
        obtain rfl : n13 = 0 := by rw [← HN13.out]; exact HNO.out _ HQ13.out
        go_wp2_with fail
        go_ret
        exact ⟨rfl, H13.out.bel⟩

theorem own : ownKnob Try.prog.godebug = none := by kernel_rfl
theorem laidOut : laidOutB Try.prog = true := by kernel_rfl

set_option maxRecDepth 100000 in
theorem lifted (os : Os) (started : os.Started) (H : Type) (enc : TypeId × Value → H) :
    ReturnsInHanded {} Try.checked os 3 .any (Rows.sessionPlaysSpec.pre6 enc Try.prog Try.f3 Rows.sessionPlaysRow.domain false) (Rows.sessionPlaysSpec.post enc Try.prog Try.f3 false true false false) := by
  refine returnsInHanded_of_change (C := Try.checked) own started (by kernel_rfl) Try.func3
    (ChangeSpec.witness6 (enc := enc) (C := Try.checked) false ⟨#[], #[.int .i64 0, .slice none 0 0], []⟩ 8 (by kernel_rfl) (by kernel_rfl) (by kernel_rfl) (by kernel_rfl)) ?_
  intro W base args ds gs before hval0 hW hcnd _
  have hval : ∀ (j : Nat) t v, Try.f3.params[j]? = some t → args[j]? = some v → Value.okWide Try.prog W .any base t v := hval0
  have hW' := hW
  obtain ⟨p, q, hA0, hV, rfl, hfz, hnd⟩ := hW
  have hA : DataW.TrodAll enc Try.prog W 0 (fun _ => true) true Try.f3.params.toList args.toList ds p := hA0
  rw [Try.params3] at hA hval
  obtain ⟨v0, vs0, d0, ds0, p0, q0, hargs, rfl, rfl, h0, r0⟩ := trodAll_cons hA
  obtain ⟨v1, vs1, d1, ds1, p1, q1, rfl, rfl, rfl, h1, r1⟩ := trodAll_cons r0
  obtain ⟨rfl, rfl, rfl⟩ := trodAll_nil r1
  obtain rfl : args = #[v0, v1] := by cases args; simp_all
  obtain ⟨rfl, rfl⟩ := trodVars_none hV
  have k0 := h0
  have lt0 : ∀ x ∈ p0, x.block < W.heap.size := by obtain ⟨m, hm⟩ := k0; exact DataW.trod_lt m _ _ _ hm
  obtain ⟨a0, rfl, rfl, rfl, w0⟩ := open_int Try.underlying3 (hval 0 3 v0 rfl rfl) h0
  have k1 := h1
  have lt1 : ∀ x ∈ p1, x.block < W.heap.size := by obtain ⟨m, hm⟩ := k1; exact DataW.trod_lt m _ _ _ hm
  obtain ⟨b1, c1, x1, rfl, l1, m1, i1, o1⟩ := open_adds (hval 1 22 v1 rfl rfl) h1
  clear hA0 hval0
  refine (walk W a0 w0 b1 c1 x1 l1 m1 i1 o1).mono fun e W' ⟨he, bel⟩ => ?_
  subst he
  exact ⟨_, rfl, _, _, _, [], _, [], hW', trodAll_mk1 (shut_bool Try.underlying4 _), (trodAll_cons_mk (Below.trod laidOut (by kernel_rfl) (of_decide_eq_true (by kernel_rfl)) k0 bel lt0) (trodAll_cons_mk (Below.trod laidOut (by kernel_rfl) (of_decide_eq_true (by kernel_rfl)) k1 bel lt1) trodAll_mk0)), rfl, bel.frame _, fun h => by cases h⟩

theorem over : Rows.sessionPlaysRow.holds Try.pinned (OpenSpec.ofChange Rows.sessionPlaysSpec) :=
  OpenClaim.holds_of_wide 3 Try.f3 rfl rfl rfl rfl rfl rfl rfl ⟨rfl, rfl, rfl, rfl, rfl⟩ rfl rfl rfl rfl rfl (by kernel_rfl) Try.func3 (by kernel_rfl)
    (of_decide_eq_true (by kernel_rfl)) (by unfold Func.isWrapper; first | (rw [if_pos (by decide +kernel)]; kernel_rfl) | (rw [if_neg (by decide +kernel)]; exact ⟨rfl, rfl⟩))
    (fun os started H enc _ => lifted os started H enc)

theorem proved : Rows.SessionPlaysSaid := over
#print axioms proved
end Go.Proofs.Ytcnddbcdkpdkbaa.sessionPlays

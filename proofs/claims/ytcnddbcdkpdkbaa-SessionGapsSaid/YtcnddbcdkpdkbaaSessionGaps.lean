/- For every input ciceronelaw12.SessionGaps returns true, and its arguments read behind the call as before. No conditions. -/
import Derived.Test.YtcnddbcdkpdkbaaEGaps
import Derived.Deep.DeepCutAuto
import Derived.Test.YtcnddbcdkpdkbaaRows
import Derived.ProofKit
import Derived.OpenShut
import Derived.ShutString
import Derived.ChangeOld
import Derived.Below
import Derived.Lib.SmallJoins
namespace Go.Proofs.Ytcnddbcdkpdkbaa.sessionGaps
open Go.ChangeShapes Go.WideShapes Go.ChangeAt Go.RowKit Go.Joins
open Go.ChangeMaps (open_string shut_string)
set_option linter.unusedVariables false

theorem drop_cons' {α β : Type} {l : List α} {f : α → β} {i : Nat} {a : α} (h : l[i]? = some a) : (l.map f).drop i = f a :: (l.map f).drop (i + 1) := by
  obtain ⟨hi, rfl⟩ := List.getElem?_eq_some_iff.1 h
  rw [List.drop_eq_getElem_cons (by simpa using hi), List.getElem_map]
theorem gapOf_id {x : Int} (h : 0 ≤ x) (h2 : x ≤ 2147483648) : gapOf x = x := by unfold gapOf; omega
set_option maxRecDepth 20000 in
set_option maxHeartbeats 4000000 in
theorem walk (w : World) (x : Int) (wx : (Lit.int .i64 x).wf = true) (y : Int) (wy : (Lit.int .i64 y).wf = true) (b : Option Addr) (cap : Nat) (l : List Tri) (hlc : l.length ≤ cap) (hm : cap ≤ maxLen) (hi : InW w b 3 (l.map aC)) (ho : ∀ a ∈ l, aOk a) :
    Calls Try.prog 7 #[.int .i64 x, .int .i64 y, .slice b l.length cap] w fun e w' => e = .returned (.bool true) ∧ Below w.heap.size w w' := by
  have HX := Lib.hid (i64_wf wx)
  have HY := Lib.hid (i64_wf wy)
  have AW := Lib.hid (awake_any w)
  have HF : Hid (∀ W, Below w.heap.size w W → Calls Try.prog 12 #[.slice b l.length cap] W fun e w' => e = .returned (.bool (fewB l)) ∧ W = w') := Lib.hid (fun W hb => few_any b cap l W (InW.bel hi hb) hm hlc ho)
  have HIW := Lib.hid hi
  have HOK := Lib.hid ho
  unfold maxLen at hm
  clear wx wy hi ho
  cases hfw : fewB l with
  | false =>
    rw [hfw] at HF
    generalize l.length = n at *
    go_enter Try.func7, Try.ntmps7
    go_wp2_with fail
    refine AW.out.mono ?_
    rintro e w1 ⟨rfl, b1⟩
    have B1 := Lib.hid b1
    have F1 := Lib.hid (HF.out w1 b1)
    clear b1 HF AW
    go_wp2_with fail
    refine F1.out.mono ?_
    rintro e w2 ⟨rfl, rfl⟩
    clear F1
    go_wp2_with fail
    go_ret
    exact ⟨rfl, B1.out⟩
  | true =>
    rw [hfw] at HF
    obtain ⟨hn1, -⟩ := few_of hfw
    clear hfw
    obtain ⟨n, hn⟩ : ∃ n, l.length = n := ⟨_, rfl⟩
    have Hn := Lib.hid hn
    rw [hn] at hn1 hlc HF ⊢
    clear hn
    by_cases g1 : x < 0
    · have t1 : decide (x < 0) = true := decide_eq_true g1
      go_enter Try.func7, Try.ntmps7
      go_wp2_with fail
      refine AW.out.mono ?_
      rintro e w1 ⟨rfl, b1⟩
      have B1 := Lib.hid b1
      have F1 := Lib.hid (HF.out w1 b1)
      clear b1 HF AW
      go_wp2_with fail
      refine F1.out.mono ?_
      rintro e w2 ⟨rfl, rfl⟩
      clear F1
      go_wp2_with fail
      go_ret
      exact ⟨rfl, B1.out⟩
    have t1 : decide (x < 0) = false := decide_eq_false g1
    by_cases g2 : 1073741824 < x
    · have t2 : decide (1073741824 < x) = true := decide_eq_true g2
      go_enter Try.func7, Try.ntmps7
      go_wp2_with fail
      refine AW.out.mono ?_
      rintro e w1 ⟨rfl, b1⟩
      have B1 := Lib.hid b1
      have F1 := Lib.hid (HF.out w1 b1)
      clear b1 HF AW
      go_wp2_with fail
      refine F1.out.mono ?_
      rintro e w2 ⟨rfl, rfl⟩
      clear F1
      go_wp2_with fail
      go_ret
      exact ⟨rfl, B1.out⟩
    have t2 : decide (1073741824 < x) = false := decide_eq_false g2
    by_cases g3 : y < 0
    · have t3 : decide (y < 0) = true := decide_eq_true g3
      go_enter Try.func7, Try.ntmps7
      go_wp2_with fail
      refine AW.out.mono ?_
      rintro e w1 ⟨rfl, b1⟩
      have B1 := Lib.hid b1
      have F1 := Lib.hid (HF.out w1 b1)
      clear b1 HF AW
      go_wp2_with fail
      refine F1.out.mono ?_
      rintro e w2 ⟨rfl, rfl⟩
      clear F1
      go_wp2_with fail
      go_ret
      exact ⟨rfl, B1.out⟩
    have t3 : decide (y < 0) = false := decide_eq_false g3
    by_cases g4 : 1073741824 < y
    · have t4 : decide (1073741824 < y) = true := decide_eq_true g4
      go_enter Try.func7, Try.ntmps7
      go_wp2_with fail
      refine AW.out.mono ?_
      rintro e w1 ⟨rfl, b1⟩
      have B1 := Lib.hid b1
      have F1 := Lib.hid (HF.out w1 b1)
      clear b1 HF AW
      go_wp2_with fail
      refine F1.out.mono ?_
      rintro e w2 ⟨rfl, rfl⟩
      clear F1
      go_wp2_with fail
      go_ret
      exact ⟨rfl, B1.out⟩
    have t4 : decide (1073741824 < y) = false := decide_eq_false g4
    have qy : IntKind.i64.wrap (x + y) = x + y := IntWalk.i64_in _ (by omega)
    have HXY : Hid (I64 (x + y)) := Lib.hid (by unfold I64; omega)
    have HGX : Hid (gapOf x = x ∧ gapOf (x + y) = x + y ∧ 0 ≤ x ∧ x ≤ x + y) := Lib.hid ⟨gapOf_id (by omega) (by omega), gapOf_id (by omega) (by omega), by omega, by omega⟩
    have CC := Lib.hid (fun W (hb : Below w.heap.size w W) => made_any x HX.out b cap l W (HIW.out.bel hb) (by rw [Hn.out]; omega) HOK.out)
    have CD := Lib.hid (fun W (hb : Below w.heap.size w W) => made_any (x + y) HXY.out b cap l W (HIW.out.bel hb) (by rw [Hn.out]; omega) HOK.out)
    rw [Hn.out] at CC CD
    go_enter Try.func7, Try.ntmps7
    go_wp2_with fail
    refine AW.out.mono ?_
    rintro e w1 ⟨rfl, b1⟩
    have B1 := Lib.hid b1
    have F1 := Lib.hid (HF.out w1 b1)
    clear b1 HF AW
    go_wp2_with fail
    refine F1.out.mono ?_
    rintro e w2 ⟨rfl, rfl⟩
    clear F1
    have C1 := Lib.hid (CC.out _ B1.out)
    clear CC g1 g2 g3 g4 HX HY
    generalize hxy : x + y = xy at *
    go_wp2_with fail
    refine C1.out.mono ?_
    rintro e W7 ⟨s, rfl, h7⟩
    have H7 := Lib.hid h7
    have C2 := Lib.hid (CD.out _ (B1.out.trans (h7.bel.mono B1.out.size)))
    clear h7 C1 CD
    go_wp2_with fail
    refine C2.out.mono ?_
    rintro e W8 ⟨o, rfl, h8⟩
    have h8' := H7.out.adopt h8
    rw [HGX.out.1, HGX.out.2.1] at h8'
    have H8 := Lib.hid h8'
    have hA : (addsT [] l).length ≤ 1000 := by have := adds_len l []; rw [Hn.out] at this; simp at this; omega
    have HLA : Hid ((allS x (addsT [] l)).length ≤ 1000 ∧ (allS xy (addsT [] l)).length ≤ 1000) := Lib.hid ⟨Nat.le_trans (all_le _ _) hA, Nat.le_trans (all_le _ _) hA⟩
    have HOW := Lib.hid (okW_all HGX.out.2.2.1 HGX.out.2.2.2 (SOk.nil.adds l).rise)
    clear h8 h8' H7 C2 hA HGX
    generalize addsT [] l = A at *
    have CC := Lib.hid (h_sall H8.out (i := 0) rfl)
    go_wp2_with fail
    refine CC.out.mono ?_
    rintro e W9 ⟨b9, c9, S9, rfl, q1, q2, q3, q4, q5⟩
    have hs9 : S9.length ≤ 1000 := by have h1 := congrArg List.length q4; rw [List.length_map] at h1; have h2 := HLA.out.1; omega
    have H9 := Lib.hid (H8.out.step_bel q5)
    have HQ9 := Lib.hid q4
    have HI9 := Lib.hid q3
    obtain ⟨n9, hn9⟩ : ∃ n, S9.length = n := ⟨_, rfl⟩
    have HN9 := Lib.hid hn9
    rw [hn9] at hs9 ⊢
    clear q1 q2 q3 q4 q5 CC hn9
    have CC := Lib.hid (h_sall H9.out (i := 1) rfl)
    go_wp2_with fail
    refine CC.out.mono ?_
    rintro e W10 ⟨b10, c10, S10, rfl, q1, q2, q3, q4, q5⟩
    have hs10 : S10.length ≤ 1000 := by have h1 := congrArg List.length q4; rw [List.length_map] at h1; have h2 := HLA.out.2; omega
    have H10 := Lib.hid (H9.out.step_bel q5)
    have HQ10 := Lib.hid q4
    have HI10 := Lib.hid q3
    replace HI9 := Lib.hid (HI9.out.bel q5)
    obtain ⟨n10, hn10⟩ : ∃ n, S10.length = n := ⟨_, rfl⟩
    have HN10 := Lib.hid hn10
    rw [hn10] at hs10 ⊢
    clear q1 q2 q3 q4 q5 CC hn10
    rw [← HQ9.out, ← HQ10.out] at HOW
    have HIJ : Hid (SvIn W10 b9 S9 ∧ SvIn W10 b10 S10 ∧ Below w.heap.size w W10) := Lib.hid ⟨HI9.out, HI10.out, B1.out.trans (H10.out.bel.mono B1.out.size)⟩
    have HNN : Hid (n10 ≤ n9 ∧ (n10 = 0 ↔ n9 = 0)) := Lib.hid (by
      have h1 := HOW.out.2.1
      have h2 := HOW.out.2.2
      rw [List.length_map, List.length_map, HN9.out, HN10.out] at h1 h2
      exact ⟨h1, h2⟩)
    have HOK2 := Lib.hid HOW.out.1
    clear HOW HI9 HI10 H9 H10 HQ9 HQ10 H8 HLA HIW HOK
    generalize W10 = w10 at *
    go_wp2_with fail
    go_loopw [11, 12] (fun c d wr => ∃ i k : Nat, i ≤ n9 ∧ k ≤ n10 ∧ d = .int .i64 i ∧ c = .int .i64 k ∧ Hid (okW ((S9.map seOf).drop i) ((S10.map seOf).drop k)) ∧ Hid (SvIn wr b9 S9 ∧ SvIn wr b10 S10 ∧ Below w.heap.size w wr)) (fun _ d _ => n9 - (intOf d).toNat)
    case atStart => exact ⟨0, 0, Nat.zero_le _, Nat.zero_le _, rfl, rfl, HOK2, HIJ⟩
    case round =>
      obtain ⟨i, k, hin, hkn, rfl, rfl, HO, HW⟩ := hrel
      clear HOK2 HIJ
      by_cases hlt : i < n9
      · obtain ⟨a, ha⟩ : ∃ a, S9[i]? = some a := ⟨S9[i]'(by rw [HN9.out]; exact hlt), List.getElem?_eq_getElem _⟩
        have HAI := Lib.hid ha
        have HD := Lib.hid (drop_cons' (f := seOf) ha)
        rw [HD.out] at HO
        clear ha
        have hi0 : (0 : Int) ≤ (i : Int) := by omega
        have hi1 : (i : Int) < (n9 : Int) := by omega
        go_wp2_with fail
        go_loopw [11] (fun c wr => ∃ k : Nat, k ≤ n10 ∧ c = .int .i64 k ∧ Hid (okW (seOf a :: (S9.map seOf).drop (i + 1)) ((S10.map seOf).drop k)) ∧ Hid (SvIn wr b9 S9 ∧ SvIn wr b10 S10 ∧ Below w.heap.size w wr)) (fun c _ => n10 - (intOf c).toNat)
        case atStart => exact ⟨k, hkn, rfl, HO, HW⟩
        case round =>
          clear HO HW
          obtain ⟨k, hkn, rfl, HO, HW⟩ := hrel
          by_cases hkm : k < n10
          · obtain ⟨z, hz⟩ : ∃ z, S10[k]? = some z := ⟨S10[k]'(by rw [HN10.out]; exact hkm), List.getElem?_eq_getElem _⟩
            have HDz := Lib.hid (drop_cons' (f := seOf) hz)
            rw [HDz.out] at HO
            obtain ⟨Ba, oa, rfl, _, c0, c1, c2, -⟩ := svAt HW.out.1.i HAI.out
            obtain ⟨Bz, oz, rfl, _, d0, d1, d2, -⟩ := svAt HW.out.2.1.i hz
            have HZ := Lib.hid hz
            clear hz
            have hk0 : (0 : Int) ≤ (k : Int) := by omega
            have hk1 : (k : Int) < (n10 : Int) := by omega
            have kne : ((k : Int) == (n10 : Int)) = false := by simp; omega
            by_cases hp : z.p = a.p
            · have u1 : (z.p.toList == a.p.toList) = true := by rw [bytesEq]; exact decide_eq_true hp
              by_cases ht : z.t < a.f
              · have u2 : decide (z.t < a.f) = true := decide_eq_true ht
                have HO2 := Lib.hid (okW_skip HO.out (by show (decide (z.p ≠ a.p) || decide (z.t < a.f)) = true; rw [u2, Bool.or_true]))
                clear hp
                go_wp2_with fail
                go_quiet (fail)
                have HW2 : Hid (SvIn (wr.drewN nq) (some ⟨Ba, oa, none⟩) S9 ∧ SvIn (wr.drewN nq) (some ⟨Bz, oz, none⟩) S10 ∧ Below w.heap.size w (wr.drewN nq)) := Lib.hid ⟨HW.out.1.bel (bdrewN (Below.refl _ _) nq), HW.out.2.1.bel (bdrewN (Below.refl _ _) nq), bdrewN HW.out.2.2 nq⟩
                go_wp2_with fail
                go_roundw
                case rel => exact ⟨k + 1, by omega, by go_num, HO2, HW2⟩
                case measure => simp [intOf]; omega
              · have u2 : decide (z.t < a.f) = false := decide_eq_false ht
                have HS := okW_stop HO.out (by show (decide (z.p ≠ a.p) || decide (z.t < a.f)) = false; rw [u2, Bool.or_false]; exact decide_eq_false (fun h => h hp))
                obtain ⟨s1, s2, s3⟩ := HS
                replace s1 : z.f ≤ a.f := s1
                replace s2 : a.t ≤ z.t := s2
                rw [← HDz.out] at s3
                have HO2 := Lib.hid s3
                have u3 : decide (a.f < z.f) = false := decide_eq_false (by omega)
                have u4 : decide (z.t < a.t) = false := decide_eq_false (by omega)
                clear s3 hp ht s1 s2
                go_wp2_with fail
                go_quiet (fail)
                have HW2 : Hid (SvIn (wr.drewN nq) (some ⟨Ba, oa, none⟩) S9 ∧ SvIn (wr.drewN nq) (some ⟨Bz, oz, none⟩) S10 ∧ Below w.heap.size w (wr.drewN nq)) := Lib.hid ⟨HW.out.1.bel (bdrewN (Below.refl _ _) nq), HW.out.2.1.bel (bdrewN (Below.refl _ _) nq), bdrewN HW.out.2.2 nq⟩
                obtain ⟨Ba', oa', hba, _, c0', c1', c2', -⟩ := svAt HW2.out.1.i HAI.out
                cases hba
                obtain ⟨z', hz'⟩ : ∃ z', S10[k]? = some z' := ⟨S10[k]'(by rw [HN10.out]; exact hkm), List.getElem?_eq_getElem _⟩
                have hzz : z' = z := by rw [HZ.out] at hz'; exact (Option.some.inj hz').symm
                subst hzz
                obtain ⟨Bz', oz', hbz, _, d0', d1', d2', -⟩ := svAt HW2.out.2.1.i hz'
                cases hbz
                clear hz'
                clear c0 c1 c2 d0 d1 d2 HW
                generalize wr.drewN nq = V at *
                go_wp2_with fail
                go_quiet (fail)
                have HW3 : Hid (SvIn (V.drewN nq) (some ⟨Ba, oa, none⟩) S9 ∧ SvIn (V.drewN nq) (some ⟨Bz, oz, none⟩) S10 ∧ Below w.heap.size w (V.drewN nq)) := Lib.hid ⟨HW2.out.1.bel (bdrewN (Below.refl _ _) nq), HW2.out.2.1.bel (bdrewN (Below.refl _ _) nq), bdrewN HW2.out.2.2 nq⟩
                go_wp2_with fail
                exact ⟨⟨i + 1, k, by omega, hkn, rfl, rfl, HO2, HW3⟩, by simp [intOf]; omega⟩
            · have u1 : (z.p.toList == a.p.toList) = false := by rw [bytesEq]; exact decide_eq_false hp
              have HO2 := Lib.hid (okW_skip HO.out (by show (decide (z.p ≠ a.p) || decide (z.t < a.f)) = true; rw [decide_eq_true (show z.p ≠ a.p from hp), Bool.true_or]))
              clear hp
              go_wp2_with fail
              go_quiet (fail)
              have HW2 : Hid (SvIn (wr.drewN nq) (some ⟨Ba, oa, none⟩) S9 ∧ SvIn (wr.drewN nq) (some ⟨Bz, oz, none⟩) S10 ∧ Below w.heap.size w (wr.drewN nq)) := Lib.hid ⟨HW.out.1.bel (bdrewN (Below.refl _ _) nq), HW.out.2.1.bel (bdrewN (Below.refl _ _) nq), bdrewN HW.out.2.2 nq⟩
              go_wp2_with fail
              go_roundw
              case rel => exact ⟨k + 1, by omega, by go_num, HO2, HW2⟩
              case measure => simp [intOf]; omega
          · obtain rfl : k = n10 := by omega
            have h0 := HO.out
            rw [show (S10.map seOf).drop k = [] from List.drop_eq_nil_of_le (by rw [List.length_map, HN10.out]; exact Nat.le_refl _)] at h0
            exact (okW_nil h0).elim
      · obtain rfl : i = n9 := by omega
        obtain ⟨hle, hiff⟩ := HNN.out
        have hle' : decide ((n10 : Int) ≤ (i : Int)) = true := decide_eq_true (by omega)
        have hv : (((n10 : Int) == 0) == ((i : Int) == 0)) = true := by
          by_cases h0 : n10 = 0
          · have h1 := hiff.1 h0
            subst h0 h1
            rfl
          · have h1 : i ≠ 0 := fun c => h0 (hiff.2 c)
            have q1 : ((n10 : Int) == 0) = false := by simp; exact h0
            have q2 : ((i : Int) == 0) = false := by simp; exact h1
            rw [q1, q2]
            rfl
        go_wp2_with fail
        go_ret
        first
          | exact ⟨rfl, HW.out.2.2⟩
          | exact ⟨by show Ending.returned (.bool (((n10 : Int) == 0) == ((i : Int) == 0))) = _; rw [hv], HW.out.2.2⟩

theorem own : ownKnob Try.prog.godebug = none := by kernel_rfl
theorem laidOut : laidOutB Try.prog = true := by kernel_rfl

set_option maxRecDepth 100000 in
theorem lifted (os : Os) (started : os.Started) (H : Type) (enc : TypeId × Value → H) :
    ReturnsInHanded {} Try.checked os 7 .any (Rows.sessionGapsSpec.pre6 enc Try.prog Try.f7 Rows.sessionGapsRow.domain false) (Rows.sessionGapsSpec.post enc Try.prog Try.f7 false true false false) := by
  refine returnsInHanded_of_change (C := Try.checked) own started (by kernel_rfl) Try.func7
    (ChangeSpec.witness6 (enc := enc) (C := Try.checked) false ⟨#[], #[.int .i64 0, .int .i64 0, .slice none 0 0], []⟩ 8 (by kernel_rfl) (by kernel_rfl) (by kernel_rfl) (by kernel_rfl)) ?_
  intro W base args ds gs before hval0 hW hcnd _
  have hval : ∀ (j : Nat) t v, Try.f7.params[j]? = some t → args[j]? = some v → Value.okWide Try.prog W .any base t v := hval0
  have hW' := hW
  obtain ⟨p, q, hA0, hV, rfl, hfz, hnd⟩ := hW
  have hA : DataW.TrodAll enc Try.prog W 0 (fun _ => true) true Try.f7.params.toList args.toList ds p := hA0
  rw [Try.params7] at hA hval
  obtain ⟨v0, vs0, d0, ds0, p0, q0, hargs, rfl, rfl, h0, r0⟩ := trodAll_cons hA
  obtain ⟨v1, vs1, d1, ds1, p1, q1, rfl, rfl, rfl, h1, r1⟩ := trodAll_cons r0
  obtain ⟨v2, vs2, d2, ds2, p2, q2, rfl, rfl, rfl, h2, r2⟩ := trodAll_cons r1
  obtain ⟨rfl, rfl, rfl⟩ := trodAll_nil r2
  obtain rfl : args = #[v0, v1, v2] := by cases args; simp_all
  obtain ⟨rfl, rfl⟩ := trodVars_none hV
  have k0 := h0
  have lt0 : ∀ x ∈ p0, x.block < W.heap.size := by obtain ⟨m, hm⟩ := k0; exact DataW.trod_lt m _ _ _ hm
  obtain ⟨a0, rfl, rfl, rfl, w0⟩ := open_int Try.underlying3 (hval 0 3 v0 rfl rfl) h0
  have k1 := h1
  have lt1 : ∀ x ∈ p1, x.block < W.heap.size := by obtain ⟨m, hm⟩ := k1; exact DataW.trod_lt m _ _ _ hm
  obtain ⟨a1, rfl, rfl, rfl, w1⟩ := open_int Try.underlying3 (hval 1 3 v1 rfl rfl) h1
  have k2 := h2
  have lt2 : ∀ x ∈ p2, x.block < W.heap.size := by obtain ⟨m, hm⟩ := k2; exact DataW.trod_lt m _ _ _ hm
  obtain ⟨b2, c2, x2, rfl, l2, m2, i2, o2⟩ := open_adds (hval 2 22 v2 rfl rfl) h2
  clear hA0 hval0
  refine (walk W a0 w0 a1 w1 b2 c2 x2 l2 m2 i2 o2).mono fun e W' ⟨he, bel⟩ => ?_
  subst he
  exact ⟨_, rfl, _, _, _, [], _, [], hW', trodAll_mk1 (shut_bool Try.underlying4 _), (trodAll_cons_mk (Below.trod laidOut (by kernel_rfl) (of_decide_eq_true (by kernel_rfl)) k0 bel lt0) (trodAll_cons_mk (Below.trod laidOut (by kernel_rfl) (of_decide_eq_true (by kernel_rfl)) k1 bel lt1) (trodAll_cons_mk (Below.trod laidOut (by kernel_rfl) (of_decide_eq_true (by kernel_rfl)) k2 bel lt2) trodAll_mk0))), rfl, bel.frame _, fun h => by cases h⟩

theorem over : Rows.sessionGapsRow.holds Try.pinned (OpenSpec.ofChange Rows.sessionGapsSpec) :=
  OpenClaim.holds_of_wide 7 Try.f7 rfl rfl rfl rfl rfl rfl rfl ⟨rfl, rfl, rfl, rfl, rfl⟩ rfl rfl rfl rfl rfl (by kernel_rfl) Try.func7 (by kernel_rfl)
    (of_decide_eq_true (by kernel_rfl)) (by unfold Func.isWrapper; first | (rw [if_pos (by decide +kernel)]; kernel_rfl) | (rw [if_neg (by decide +kernel)]; exact ⟨rfl, rfl⟩))
    (fun os started H enc _ => lifted os started H enc)

theorem proved : Rows.SessionGapsSaid := over
#print axioms proved
end Go.Proofs.Ytcnddbcdkpdkbaa.sessionGaps

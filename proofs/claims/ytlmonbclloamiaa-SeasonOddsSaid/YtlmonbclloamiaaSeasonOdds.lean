/- For every input ciceronelaw44.SeasonOdds returns true, and its arguments read behind the call as before. No conditions. -/
import Derived.Test.YtlmonbclloamiaaSOpen
import Derived.Test.YtlmonbclloamiaaRows
import Derived.ProofKit
import Derived.OpenShut
import Derived.ShutString
import Derived.ChangeOld
import Derived.Below
import Derived.Lib.SmallJoins
namespace Go.Proofs.Ytlmonbclloamiaa.seasonOdds
open Go.ChangeShapes Go.WideShapes Go.ChangeAt Go.RowKit Go.Joins
open Go.ChangeMaps (open_string shut_string)
set_option linter.unusedVariables false

set_option maxRecDepth 100000 in
set_option maxHeartbeats 8000000 in
theorem walk (w : World) (x : Int) (wx : (Lit.int .i64 x).wf = true) (b : Option Addr) (cap : Nat) (l : List Add10) (hlc : l.length ≤ cap) (hm : cap ≤ maxLen) (hi : InW w b 3 (l.map a10C)) (ho : ∀ a ∈ l, a10Ok a)
    (pe bk : Int) (wpe : (Lit.int .i64 pe).wf = true) (wbk : (Lit.int .i64 bk).wf = true) (now : Int) (wnow : (Lit.int .i64 now).wf = true) (fl : Int) (wfl : (Lit.int .i64 fl).wf = true) :
    Calls Try.prog 5 #[.int .i64 x, .slice b l.length cap, .agg #[.int .i64 pe, .int .i64 bk], .int .i64 now, .int .i64 fl] w fun e w' => e = .returned (.bool true) ∧ Below w.heap.size w w' := by
  have hx := i64_wf wx
  have h1 := i64_wf wpe
  have h2 := i64_wf wbk
  have h4 := i64_wf wnow
  have h5 := i64_wf wfl
  clear wx wpe wbk wnow wfl
  obtain ⟨W1, hW1, hh1⟩ := begin44 pe bk w
  obtain ⟨N, hN⟩ : ∃ N, w.heap.size = N := ⟨_, rfl⟩
  rw [hN] at hh1
  have HN := Lib.hid hN
  have HW1 := Lib.hid hW1
  have H1 := Lib.hid hh1
  have HS : Hid (∀ (W : World) (os : List Ob), Here K44 w W os → os[0]? = some (.box N [.int .i64 pe, .int .i64 bk] 23) → W.cell? ⟨N, 0, none⟩ = some (.int .i64 pe) ∧ W.cell? ⟨N, 1, none⟩ = some (.int .i64 bk)) := Lib.hid (fun W os h hi => ⟨(h_boxAt h hi).cell 0, (h_boxAt h hi).cell 1⟩)
  have HLO : Hid (∀ W, Below w.heap.size w W → Calls Try.prog 15 #[.slice b l.length cap, .agg #[.int .i64 pe, .int .i64 bk]] W fun e w' => e = .returned (.bool (longB l bk)) ∧ Below W.heap.size W w') := Lib.hid (fun W hb => long_any b cap l pe bk W (InW.bel hi hb) hm hlc ho)
  have LO := Lib.hid (HLO.out W1 hh1.bel)
  have HAW : Hid (∀ W, Calls Try.prog 9 #[] W fun e w' => e = .returned (.bool true) ∧ Below W.heap.size W w') := Lib.hid (fun W => awake_any W)
  have s1 := HS.out _ _ hh1 rfl
  obtain ⟨s10, s11⟩ := s1
  unfold maxLen at hm
  clear hW1 hN hh1 HLO
  cases hlong : longB l bk with
  | true =>
    rw [hlong] at LO
    clear hlong hi ho
    generalize l.length = n at *
    go_enter Try.func5, Try.ntmps5
    go_wp2_with fail
    rw [HN.out, HW1.out]
    refine LO.out.mono ?_
    rintro e w2 ⟨rfl, b2⟩
    have H2 := Lib.hid (H1.out.step_bel b2)
    clear b2 LO
    go_wp2_with fail
    refine (HAW.out _).mono ?_
    rintro e w9 ⟨rfl, b9⟩
    have HB9 := Lib.hid (H2.out.step_bel b9).bel
    clear b9
    go_wp2_with fail
    go_ret
    exact ⟨rfl, HB9.out⟩
  | false =>
    rw [hlong] at LO
    obtain ⟨hl40, hk60⟩ := long_of hlong
    have HFI : Hid (∀ W, Below w.heap.size w W → Calls Try.prog 16 #[.int .i64 x, .slice b l.length cap] W fun e w' => ∃ p, e = .returned (.pointer (some ⟨p, 0, none⟩)) ∧ Here K44 W w' [.pane p (wdOf x) (addsS (wdOf x) l).length (addsS (wdOf x) l)]) := Lib.hid (fun W hb => fill_any x hx b cap l W (InW.bel hi hb) hl40 hk60 ho)
    have hAl := addsS_length (wdOf x) l
    have hwd := wdOf_in x
    have HAO := Lib.hid (addsS_ok (wdOf x) hwd.1 l)
    have HIW := Lib.hid hi
    have HO := Lib.hid ho
    have HK6 := Lib.hid hk60
    clear hlong hi ho hk60
    have HRO : Hid (∀ (W : World) (os : List Ob), Here K44 w W os → Calls Try.prog 22 #[.slice b l.length cap, .agg #[.int .i64 pe, .int .i64 bk], .int .i64 (wdOf x), .int .i64 now, .int .i64 fl] W fun e w' => ∃ v ks, e = .returned v ∧ OddsV (addsS (wdOf x) l) pe bk (wdOf x) now fl ks ∧ TextsAt w' v ks ∧ Below W.heap.size W w') := Lib.hid (fun W os h => h_rodd h b cap l HIW.out hl40 HO.out pe bk (wdOf x) now fl hwd h1 h2 h4 h5)
    generalize addsS (wdOf x) l = A at *
    generalize wdOf x = wd at *
    generalize l.length = n at *
    go_enter Try.func5, Try.ntmps5
    go_wp2_with fail
    rw [HN.out, HW1.out]
    refine LO.out.mono ?_
    rintro e w2 ⟨rfl, b2⟩
    have H2 := Lib.hid (H1.out.step_bel b2)
    have hs2 := HS.out _ _ H2.out rfl
    obtain ⟨s20, s21⟩ := hs2
    clear b2 LO s10 s11 H1
    have FI := Lib.hid (HFI.out w2 H2.out.bel)
    go_wp2_with fail
    refine FI.out.mono ?_
    rintro e w3 ⟨p, rfl, h3⟩
    have H3 := Lib.hid (H2.out.adopt h3)
    have hs3 := HS.out _ _ H3.out rfl
    obtain ⟨s30, s31⟩ := hs3
    clear h3 FI s20 s21 HFI H2
    have OD := Lib.hid (h_odd H3.out.drew (i := 1) rfl (by omega) pe bk now fl h1 h2 h4 h5)
    have s3d := HS.out _ _ H3.out.drew rfl
    go_wp2_with fail
    go_region_held3 (fun X => X.cell? ⟨N, 0, none⟩ = some (.int .i64 pe) ∧ X.cell? ⟨N, 1, none⟩ = some (.int .i64 bk)) (first | assumption | go_keep)
      (first
        | (go_at_call 14
           (with_reducible refine OD.out.mono ?_)
           rintro e w4 ⟨v4, k4, rfl, o4, t4, b4⟩
           have h4' := H3.out.drew.step_bel b4
           have H4 := Lib.hid h4'
           have hS4 := HS.out _ _ h4' rfl
           have O4 := Lib.hid o4
           have T4 := Lib.hid t4
           have WI := Lib.hid (h_width h4' (i := 1) rfl)
           clear h4' o4 t4 b4)
        | (go_at_call 18
           (with_reducible refine WI.out.mono ?_)
           rintro e wx' ⟨rfl, rfl⟩
           have RO := Lib.hid (HRO.out _ _ H4.out))
        | (go_at_call 22
           (with_reducible refine RO.out.mono ?_)
           rintro e w5 ⟨v5, k5, rfl, o5, t5, b5⟩
           have h5' := H4.out.step_bel b5
           have H5 := Lib.hid h5'
           have hS5 := HS.out _ _ h5' rfl
           have e5 := OddsV.uniq O4.out o5 (fun _ => ⟨rfl, rfl⟩)
           have hkl := OddsV.len HAO.out o5
           have t4' : TextsAt w5 v4 k4 := (Fr.of_bel (S := none') b5).row T4.out (fun _ _ => id)
           subst e5
           have q4 := t4'.strs
           obtain ⟨ba, ca, hv4, _, _, sa⟩ := q4
           have q5 := t5.strs
           obtain ⟨bb, cb, hv5, _, _, sb⟩ := q5
           have htx := same16_any ba bb k4.length k4.length ca cb k4 k4 w5 sa sb rfl rfl (by omega) (by omega)
           rw [decide_eq_true rfl, ← hv4, ← hv5] at htx
           have TX := Lib.hid htx
           clear h5' o5 t5 b5 t4' sa sb hv4 hv5 htx)
        | (go_at_call 21
           (with_reducible refine TX.out.mono ?_)
           rintro e w6 ⟨rfl, q6, hw6⟩
           have h6 := H5.out.drewN q6
           rw [← hw6] at h6
           have H6 := Lib.hid h6
           have hS6 := HS.out _ _ h6 rfl
           clear h6 hw6)
        | (go_at_call 9
           (with_reducible refine (HAW.out _).mono ?_)
           rintro e w7 ⟨rfl, b7⟩
           have h7 := H6.out.step_bel b7
           have H7 := Lib.hid h7
           have hS7 := HS.out _ _ h7 rfl
           clear h7 b7)
        | fail)
    go_wp2_with fail
    go_ret
    exact ⟨rfl, H7.out.bel⟩

theorem own : ownKnob Try.prog.godebug = none := by kernel_rfl
theorem laidOut : laidOutB Try.prog = true := by kernel_rfl

set_option maxRecDepth 100000 in
theorem lifted (os : Os) (started : os.Started) (H : Type) (enc : TypeId × Value → H) :
    ReturnsInHanded {} Try.checked os 5 .any (Rows.seasonOddsSpec.pre6 enc Try.prog Try.f5 Rows.seasonOddsRow.domain false) (Rows.seasonOddsSpec.post enc Try.prog Try.f5 false true false false) := by
  refine returnsInHanded_of_change (C := Try.checked) own started (by kernel_rfl) Try.func5
    (ChangeSpec.witness6 (enc := enc) (C := Try.checked) false ⟨#[], #[.int .i64 0, .slice none 0 0, .agg #[.int .i64 0, .int .i64 0], .int .i64 0, .int .i64 0], []⟩ 8 (by kernel_rfl) (by kernel_rfl) (by kernel_rfl) (by kernel_rfl)) ?_
  intro W base args ds gs before hval0 hW hcnd _
  have hval : ∀ (j : Nat) t v, Try.f5.params[j]? = some t → args[j]? = some v → Value.okWide Try.prog W .any base t v := hval0
  have hW' := hW
  obtain ⟨p, q, hA0, hV, rfl, hfz, hnd⟩ := hW
  have hA : DataW.TrodAll enc Try.prog W 0 (fun _ => true) true Try.f5.params.toList args.toList ds p := hA0
  rw [Try.params5] at hA hval
  obtain ⟨v0, vs0, d0, ds0, p0, q0, hargs, rfl, rfl, h0, r0⟩ := trodAll_cons hA
  obtain ⟨v1, vs1, d1, ds1, p1, q1, rfl, rfl, rfl, h1, r1⟩ := trodAll_cons r0
  obtain ⟨v2, vs2, d2, ds2, p2, q2, rfl, rfl, rfl, h2, r2⟩ := trodAll_cons r1
  obtain ⟨v3, vs3, d3, ds3, p3, q3, rfl, rfl, rfl, h3, r3⟩ := trodAll_cons r2
  obtain ⟨v4, vs4, d4, ds4, p4, q4, rfl, rfl, rfl, h4, r4⟩ := trodAll_cons r3
  obtain ⟨rfl, rfl, rfl⟩ := trodAll_nil r4
  obtain rfl : args = #[v0, v1, v2, v3, v4] := by cases args; simp_all
  obtain ⟨rfl, rfl⟩ := trodVars_none hV
  have k0 := h0
  have lt0 : ∀ x ∈ p0, x.block < W.heap.size := by obtain ⟨m, hm⟩ := k0; exact DataW.trod_lt m _ _ _ hm
  obtain ⟨a0, rfl, rfl, rfl, w0⟩ := open_int Try.underlying3 (hval 0 3 v0 rfl rfl) h0
  have k1 := h1
  have lt1 : ∀ x ∈ p1, x.block < W.heap.size := by obtain ⟨m, hm⟩ := k1; exact DataW.trod_lt m _ _ _ hm
  obtain ⟨b1, c1, x1, rfl, l1, m1, i1, o1⟩ := open_adds (hval 1 33 v1 rfl rfl) h1
  have k2 := h2
  have lt2 : ∀ x ∈ p2, x.block < W.heap.size := by obtain ⟨m, hm⟩ := k2; exact DataW.trod_lt m _ _ _ hm
  obtain ⟨c20, c21, y20, y21, m2, rfl, hd2, hp2, hy20, hy21⟩ := open_agg2 Try.underlying23 (by kernel_rfl) (by kernel_rfl) (hval 2 23 v2 rfl rfl) h2
  obtain ⟨a2, e20, _, w20⟩ := DataW.trod_int Try.underlying3 hy20
  obtain ⟨b2, e21, _, w21⟩ := DataW.trod_int Try.underlying3 hy21
  simp at e20 e21
  subst e20 e21
  have k3 := h3
  have lt3 : ∀ x ∈ p3, x.block < W.heap.size := by obtain ⟨m, hm⟩ := k3; exact DataW.trod_lt m _ _ _ hm
  obtain ⟨a3, rfl, rfl, rfl, w3⟩ := open_int Try.underlying3 (hval 3 3 v3 rfl rfl) h3
  have k4 := h4
  have lt4 : ∀ x ∈ p4, x.block < W.heap.size := by obtain ⟨m, hm⟩ := k4; exact DataW.trod_lt m _ _ _ hm
  obtain ⟨a4, rfl, rfl, rfl, w4⟩ := open_int Try.underlying2 (hval 4 2 v4 rfl rfl) h4
  clear hA0 hval0
  refine (walk W a0 w0 b1 c1 x1 l1 m1 i1 o1 a2 b2 w20 w21 a3 w3 a4 w4).mono fun e W' ⟨he, bel⟩ => ?_
  subst he
  exact ⟨_, rfl, _, _, _, [], _, [], hW', trodAll_mk1 (shut_bool Try.underlying4 _), (trodAll_cons_mk (Below.trod laidOut (by kernel_rfl) (of_decide_eq_true (by kernel_rfl)) k0 bel lt0) (trodAll_cons_mk (Below.trod laidOut (by kernel_rfl) (of_decide_eq_true (by kernel_rfl)) k1 bel lt1) (trodAll_cons_mk (Below.trod laidOut (by kernel_rfl) (of_decide_eq_true (by kernel_rfl)) k2 bel lt2) (trodAll_cons_mk (Below.trod laidOut (by kernel_rfl) (of_decide_eq_true (by kernel_rfl)) k3 bel lt3) (trodAll_cons_mk (Below.trod laidOut (by kernel_rfl) (of_decide_eq_true (by kernel_rfl)) k4 bel lt4) trodAll_mk0))))), rfl, bel.frame _, fun h => by cases h⟩

theorem over : Rows.seasonOddsRow.holds Try.pinned (OpenSpec.ofChange Rows.seasonOddsSpec) :=
  OpenClaim.holds_of_wide 5 Try.f5 rfl rfl rfl rfl rfl rfl rfl ⟨rfl, rfl, rfl, rfl, rfl⟩ rfl rfl rfl rfl rfl (by kernel_rfl) Try.func5 (by kernel_rfl)
    (of_decide_eq_true (by kernel_rfl)) (by unfold Func.isWrapper; first | (rw [if_pos (by decide +kernel)]; kernel_rfl) | (rw [if_neg (by decide +kernel)]; exact ⟨rfl, rfl⟩))
    (fun os started H enc _ => lifted os started H enc)

theorem proved : Rows.SeasonOddsSaid := over
#print axioms proved
end Go.Proofs.Ytlmonbclloamiaa.seasonOdds

/- For every input ciceronelaw09.PanePlays returns true, and its arguments read behind the call as before. No conditions. -/
import Derived.Test.YtdmcbndkfnlcjaaPDo
import Derived.Test.YtdmcbndkfnlcjaaRows
import Derived.ProofKit
import Derived.OpenShut
import Derived.ShutString
import Derived.ChangeOld
import Derived.Below
import Derived.Lib.SmallJoins
namespace Go.Proofs.Ytdmcbndkfnlcjaa.panePlays
open Go.ChangeShapes Go.WideShapes Go.ChangeAt Go.RowKit Go.Joins
open Go.ChangeMaps (open_string shut_string)
set_option linter.unusedVariables false

set_option maxHeartbeats 16000000 in
set_option maxRecDepth 100000 in
theorem walk (w : World) (wi : Int) (wk : (Lit.int .i64 wi).wf = true) (b : Option Addr) (cap : Nat) (xs : List Act9) (hl : xs.length ≤ cap) (hm : cap ≤ maxLen) (hi : InW w b 4 (xs.map actC)) (ho : ∀ a ∈ xs, actOk a)
    (key : ByteArray) (hk : key.size ≤ maxLen) (f : Int) (hf : (Lit.int .i64 f).wf = true) (t : Int) (ht : (Lit.int .i64 t).wf = true) :
    Calls Try.prog 9 #[.int .i64 wi, .slice b xs.length cap, .string key, .int .i64 f, .int .i64 t] w fun e w' => e = .returned (.bool true) ∧ Below w.heap.size w w' := by
  have HA := Lib.hid (awake_any w)
  have HF := Lib.hid (fun w' hb => few_any b cap xs w' (InW.bel (W' := w') hi hb) hm hl ho)
  have hwi := i64_wf wk
  have hfi := i64_wf hf
  have hti := i64_wf ht
  clear wk hf ht
  unfold maxLen at hm hk
  cases hfew : fewB xs with
  | false =>
    rw [hfew] at HF
    generalize xs.length = n at *
    go_enter Try.func9, Try.ntmps9
    go_wp2_with fail
    refine HA.out.mono ?_
    rintro e w1 ⟨rfl, b1⟩
    have HF2 := Lib.hid (HF.out w1 b1)
    have HB1 := Lib.hid b1
    clear b1 HA HF
    go_wp2_with fail
    refine HF2.out.mono ?_
    rintro e wx ⟨rfl, rfl⟩
    go_wp2_with fail
    go_ret
    exact ⟨rfl, HB1.out⟩
  | true =>
    rw [hfew] at HF
    obtain ⟨hn101, hk100⟩ := few_of hfew
    have HIn := Lib.hid hi
    have HK := Lib.hid hk100
    have HO := Lib.hid ho
    clear hfew hi hk100 ho
    generalize hn : xs.length = n at *
    have Hn := Lib.hid hn
    clear hn
    by_cases hkey : key.size ≤ 100
    · have tf5 : decide ((100 : Int) < (key.size : Int)) = false := by simp; omega
      go_enter Try.func9, Try.ntmps9
      go_wp2_with fail
      refine HA.out.mono ?_
      rintro e w1 ⟨rfl, b1⟩
      have HF2 := Lib.hid (HF.out w1 b1)
      have HB1 := Lib.hid b1
      clear b1 HA HF
      go_wp2_with fail
      refine HF2.out.mono ?_
      rintro e wx ⟨rfl, rfl⟩
      clear HF2
      have h0 := Here.nil (K := K9) HB1.out
      have N1 := Lib.hid (h_new h0 wi hwi)
      clear h0 HB1
      go_wp2_with fail
      refine N1.out.mono ?_
      rintro e w2 ⟨rfl, h2⟩
      have N2 := Lib.hid (h_rnew h2 wi hwi)
      clear N1 h2
      go_wp2_with fail
      refine N2.out.mono ?_
      rintro e w3 ⟨rfl, h3⟩
      clear N2
      have hwd := wdOf_in wi
      generalize wdOf wi = wd at *
      generalize w1.heap.size + 2 = P at *
      generalize w2.heap.size = M at *
      have H3 : Hid (Here K9 w w3 (two P M wd 0 [])) := Lib.hid h3
      clear h3
      have hc0 := h_rwd H3.out (i := 1) rfl
      have HWD : Hid (∀ n, Calls Try.prog 15 #[.pointer (some ⟨P, 0, none⟩)] (w3.drewN n) fun e w' => e = .returned (.int .i64 wd) ∧ w3.drewN n = w') := Lib.hid (fun n => width_any P wd (w3.drewN n) (h_wd (H3.out.drewN n) (i := 0) rfl))
      go_wp2_with fail
      go_quiet ((go_at_call 15; exact quiet_same (HWD.out _)))
      have H4 := Lib.hid (H3.out.drewN nq)
      generalize w3.drewN nq = w4 at *
      clear H3 HWD hc0
      go_wp2_with fail
      go_loopw [13] (fun c wr => ∃ (i : Nat) (ad : Int) (A : List Ad), i ≤ n ∧ c = .int .i64 i ∧ A.length ≤ i ∧ Here K9 w wr (two P M wd ad A)) (fun c _ => n - (intOf c).toNat)
      case atStart => exact ⟨0, 0, [], by omega, rfl, by simp, H4.out⟩
      case round =>
        obtain ⟨i, ad, A, hin, rfl, hal, hh⟩ := hrel
        have HBL := Lib.hid hh.bel
        by_cases hlt : i < n
        · obtain ⟨a, ha⟩ : ∃ a, xs[i]? = some a := ⟨xs[i]'(by have := Hn.out; omega), List.getElem?_eq_getElem _⟩
          have hmem := List.mem_of_getElem? ha
          have hka := HK.out a hmem
          obtain ⟨_, oa0, oa1, oa2⟩ := HO.out a hmem
          obtain ⟨B, off, hbb, _, _⟩ := acts_at (InW.bel HIn.out HBL.out) ha
          have HIA : Hid (∀ X, Below w.heap.size w X → X.cell? ⟨B, off + i * 4, none⟩ = some (.int .i64 a.1) ∧ X.cell? ⟨B, off + i * 4 + 1, none⟩ = some (.string a.2.1) ∧ X.cell? ⟨B, off + i * 4 + 2, none⟩ = some (.int .i64 a.2.2.1) ∧ X.cell? ⟨B, off + i * 4 + 3, none⟩ = some (.int .i64 a.2.2.2)) := Lib.hid (fun w' hb' => by
            obtain ⟨B', off', hbb', _, d0, d1, d2, d3⟩ := acts_at (InW.bel HIn.out hb') ha
            rw [hbb] at hbb'
            cases hbb'
            exact ⟨d0, d1, d2, d3⟩)
          subst hbb
          clear ha hmem
          have hi0 : (0 : Int) ≤ (i : Int) := by omega
          have hi1 : (i : Int) < (n : Int) := by omega
          have DO := Lib.hid (do_any w wr.drew P M wd ad A a hh.drew (by omega) hka oa1 oa2)
          have c0 := HIA.out wr.drew hh.drew.bel
          have hlen' := acted_len wd ad A a
          generalize (acted wd ad A a).1 = ad' at *
          generalize (acted wd ad A a).2 = A' at *
          clear hh HBL
          go_wp2_with fail
          go_region_held3 (fun X => X.cell? ⟨B, off + i * 4, none⟩ = some (.int .i64 a.1) ∧ X.cell? ⟨B, off + i * 4 + 1, none⟩ = some (.string a.2.1) ∧ X.cell? ⟨B, off + i * 4 + 2, none⟩ = some (.int .i64 a.2.2.1) ∧ X.cell? ⟨B, off + i * 4 + 3, none⟩ = some (.int .i64 a.2.2.2)) (first | assumption | go_keep)
            (first
              | (go_at_call 26
                 (with_reducible refine DO.out.mono ?_)
                 rintro e v2 ⟨rfl, g2⟩
                 have G2 := Lib.hid g2
                 have hS2 := HIA.out v2 g2.bel
                 clear g2)
              | (go_at_call 16
                 (with_reducible refine (h_sum G2.out (i := 0) rfl key f t hkey hfi hti).mono ?_)
                 rintro e vx ⟨rfl, rfl⟩
                 have tok1 := trivial)
              | (go_at_call 25
                 have _t := tok1
                 (with_reducible refine (h_rsum G2.out (i := 1) rfl key f t hfi hti).mono ?_)
                 rintro e vx ⟨rfl, q3, hvx⟩
                 have g3 := G2.out.drewN q3
                 rw [← hvx] at g3
                 have G3 := Lib.hid g3
                 have hS3 := HIA.out _ g3.bel
                 clear g3 hvx tok1)
              | (go_at_call 16
                 (with_reducible refine (h_sum G3.out (i := 0) rfl a.2.1 f t hka hfi hti).mono ?_)
                 rintro e vy ⟨rfl, rfl⟩
                 have tok2 := trivial)
              | (go_at_call 25
                 have _t := tok2
                 (with_reducible refine (h_rsum G3.out (i := 1) rfl a.2.1 f t hfi hti).mono ?_)
                 rintro e vy ⟨rfl, q4, hvy⟩
                 have g4 := G3.out.drewN q4
                 rw [← hvy] at g4
                 have G4 := Lib.hid g4
                 have hS4 := HIA.out _ g4.bel
                 clear g4 hvy tok2)
              | (go_at_call 18
                 (with_reducible refine (h_keys G4.out (i := 0) rfl f t hfi hti).mono ?_)
                 rintro e v5 ⟨u5, k5, rfl, o5, t5, b5⟩
                 have g5 := G4.out.step_bel b5
                 have G5 := Lib.hid g5
                 have O5 := Lib.hid o5
                 have T5 := Lib.hid t5
                 have hS5 := HIA.out _ g5.bel
                 clear g5 o5 t5 b5)
              | (go_at_call 24
                 (with_reducible refine (h_rkeys G5.out (i := 1) rfl f t hfi hti (by omega)).mono ?_)
                 rintro e v6 ⟨u6, k6, rfl, o6, t6, b6⟩
                 have g6 := G5.out.step_bel b6
                 have hS6 := HIA.out _ g6.bel
                 have G6 := Lib.hid g6
                 have e6 := KeysOf.uniq O5.out o6 (fun _ => rfl)
                 have s5 : TextsAt v6 u5 k5 := (Fr.of_bel (S := none') b6).row T5.out (fun _ _ => id)
                 have hkl : k6.length ≤ 1000000 := by
                   obtain ⟨Bx, hx, _⟩ := g6.use (i := 0) rfl
                   have := (o6.mem hx.ok).1
                   omega
                 subst e6
                 have hs5 := s5.strs
                 obtain ⟨ba, ca, hu5, _, _, sa⟩ := hs5
                 have hs6 := t6.strs
                 obtain ⟨bb, cb, hu6, _, _, sb⟩ := hs6
                 have htx := texts_any ba bb k5.length k5.length ca cb k5 k5 v6 sa sb rfl rfl hkl hkl
                 rw [decide_eq_true rfl, ← hu5, ← hu6] at htx
                 have TX := Lib.hid htx
                 clear g6 o6 t6 b6 s5 sa sb hu5 hu6 htx)
              | (go_at_call 19
                 (with_reducible refine TX.out.mono ?_)
                 rintro e v7 ⟨rfl, q7, hv7⟩
                 have g7 := G6.out.drewN q7
                 rw [← hv7] at g7
                 have G7 := Lib.hid g7
                 have hS7 := HIA.out _ g7.bel
                 clear g7 hv7)
              | fail)
          go_wp2_with fail
          go_roundw
          case rel => exact ⟨i + 1, ad', A', by omega, by go_num, by omega, G7.out⟩
          case measure => simp [intOf]; omega
        · obtain rfl : i = n := by omega
          go_wp2_with fail
          go_ret
          exact ⟨rfl, HBL.out⟩
    · have tf5 : decide ((100 : Int) < (key.size : Int)) = true := by simp; omega
      go_enter Try.func9, Try.ntmps9
      go_wp2_with fail
      refine HA.out.mono ?_
      rintro e w1 ⟨rfl, b1⟩
      have HF2 := Lib.hid (HF.out w1 b1)
      have HB1 := Lib.hid b1
      clear b1 HA HF
      go_wp2_with fail
      refine HF2.out.mono ?_
      rintro e wx ⟨rfl, rfl⟩
      clear HF2
      go_wp2_with fail
      go_ret
      exact ⟨rfl, HB1.out⟩

theorem own : ownKnob Try.prog.godebug = none := by kernel_rfl
theorem laidOut : laidOutB Try.prog = true := by kernel_rfl

set_option maxRecDepth 100000 in
theorem lifted (os : Os) (started : os.Started) (H : Type) (enc : TypeId × Value → H) :
    ReturnsInHanded {} Try.checked os 9 .any (Rows.panePlaysSpec.pre6 enc Try.prog Try.f9 Rows.panePlaysRow.domain false) (Rows.panePlaysSpec.post enc Try.prog Try.f9 false true false false) := by
  refine returnsInHanded_of_change (C := Try.checked) own started (by kernel_rfl) Try.func9
    (ChangeSpec.witness6 (enc := enc) (C := Try.checked) false ⟨#[], #[.int .i64 0, .slice none 0 0, .string ⟨#[]⟩, .int .i64 0, .int .i64 0], []⟩ 8 (by kernel_rfl) (by kernel_rfl) (by kernel_rfl) (by kernel_rfl)) ?_
  intro W base args ds gs before hval0 hW hcnd _
  have hval : ∀ (j : Nat) t v, Try.f9.params[j]? = some t → args[j]? = some v → Value.okWide Try.prog W .any base t v := hval0
  have hW' := hW
  obtain ⟨p, q, hA0, hV, rfl, hfz, hnd⟩ := hW
  have hA : DataW.TrodAll enc Try.prog W 0 (fun _ => true) true Try.f9.params.toList args.toList ds p := hA0
  rw [Try.params9] at hA hval
  obtain ⟨v0, vs0, d0, ds0, p0, q0, hargs, rfl, rfl, h0, r0⟩ := trodAll_cons hA
  obtain ⟨v1, vs1, d1, ds1, p1, q1, rfl, rfl, rfl, h1, r1⟩ := trodAll_cons r0
  obtain ⟨v2, vs2, d2, ds2, p2, q2, rfl, rfl, rfl, h2, r2⟩ := trodAll_cons r1
  obtain ⟨v3, vs3, d3, ds3, p3, q3, rfl, rfl, rfl, h3, r3⟩ := trodAll_cons r2
  obtain ⟨v4, vs4, d4, ds4, p4, q4, rfl, rfl, rfl, h4, r4⟩ := trodAll_cons r3
  obtain ⟨rfl, rfl, rfl⟩ := trodAll_nil r4
  obtain rfl : args = #[v0, v1, v2, v3, v4] := by cases args; simp_all
  obtain ⟨rfl, rfl⟩ := trodVars_none hV
  have k0 := h0
  have lt0 : ∀ x ∈ p0, x.block < W.heap.size := by obtain ⟨m, hm⟩ := k0; exact DataW.trod_lt m _ _ _ hm
  obtain ⟨a0, rfl, rfl, rfl, w0⟩ := open_int Try.underlying3 (hval 0 3 v0 rfl rfl) h0
  have k1 := h1
  have lt1 : ∀ x ∈ p1, x.block < W.heap.size := by obtain ⟨m, hm⟩ := k1; exact DataW.trod_lt m _ _ _ hm
  obtain ⟨b1, c1, x1, rfl, l1, m1, i1, o1⟩ := open_acts (hval 1 22 v1 rfl rfl) h1
  have k2 := h2
  have lt2 : ∀ x ∈ p2, x.block < W.heap.size := by obtain ⟨m, hm⟩ := k2; exact DataW.trod_lt m _ _ _ hm
  obtain ⟨a2, rfl, rfl, rfl, w2⟩ := open_string Try.underlying9 (hval 2 9 v2 rfl rfl) h2
  have k3 := h3
  have lt3 : ∀ x ∈ p3, x.block < W.heap.size := by obtain ⟨m, hm⟩ := k3; exact DataW.trod_lt m _ _ _ hm
  obtain ⟨a3, rfl, rfl, rfl, w3⟩ := open_int Try.underlying3 (hval 3 3 v3 rfl rfl) h3
  have k4 := h4
  have lt4 : ∀ x ∈ p4, x.block < W.heap.size := by obtain ⟨m, hm⟩ := k4; exact DataW.trod_lt m _ _ _ hm
  obtain ⟨a4, rfl, rfl, rfl, w4⟩ := open_int Try.underlying3 (hval 4 3 v4 rfl rfl) h4
  clear hA0 hval0
  refine (walk W a0 w0 b1 c1 x1 l1 m1 i1 o1 a2 w2 a3 w3 a4 w4).mono fun e W' ⟨he, bel⟩ => ?_
  subst he
  exact ⟨_, rfl, _, _, _, [], _, [], hW', trodAll_mk1 (shut_bool Try.underlying4 _), (trodAll_cons_mk (Below.trod laidOut (by kernel_rfl) (of_decide_eq_true (by kernel_rfl)) k0 bel lt0) (trodAll_cons_mk (Below.trod laidOut (by kernel_rfl) (of_decide_eq_true (by kernel_rfl)) k1 bel lt1) (trodAll_cons_mk (Below.trod laidOut (by kernel_rfl) (of_decide_eq_true (by kernel_rfl)) k2 bel lt2) (trodAll_cons_mk (Below.trod laidOut (by kernel_rfl) (of_decide_eq_true (by kernel_rfl)) k3 bel lt3) (trodAll_cons_mk (Below.trod laidOut (by kernel_rfl) (of_decide_eq_true (by kernel_rfl)) k4 bel lt4) trodAll_mk0))))), rfl, bel.frame _, fun h => by cases h⟩

theorem over : Rows.panePlaysRow.holds Try.pinned (OpenSpec.ofChange Rows.panePlaysSpec) :=
  OpenClaim.holds_of_wide 9 Try.f9 rfl rfl rfl rfl rfl rfl rfl ⟨rfl, rfl, rfl, rfl, rfl⟩ rfl rfl rfl rfl rfl (by kernel_rfl) Try.func9 (by kernel_rfl)
    (of_decide_eq_true (by kernel_rfl)) (by unfold Func.isWrapper; first | (rw [if_pos (by decide +kernel)]; kernel_rfl) | (rw [if_neg (by decide +kernel)]; exact ⟨rfl, rfl⟩))
    (fun os started H enc _ => lifted os started H enc)

theorem proved : Rows.PanePlaysSaid := over
#print axioms proved
end Go.Proofs.Ytdmcbndkfnlcjaa.panePlays

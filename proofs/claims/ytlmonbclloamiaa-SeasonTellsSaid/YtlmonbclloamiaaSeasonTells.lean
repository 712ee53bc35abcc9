/- For every input ciceronelaw44.SeasonTells returns true, and its arguments read behind the call as before. No conditions. -/
import Derived.Test.YtlmonbclloamiaaSOpen
import Derived.Test.YtlmonbclloamiaaRows
import Derived.ProofKit
import Derived.OpenShut
import Derived.ShutString
import Derived.ChangeOld
import Derived.Below
import Derived.Lib.SmallJoins
namespace Go.Proofs.Ytlmonbclloamiaa.seasonTells
open Go.ChangeShapes Go.WideShapes Go.ChangeAt Go.RowKit Go.Joins
open Go.ChangeMaps (open_string shut_string)
set_option linter.unusedVariables false

theorem h_store2 {w0 w : World} {os : List Ob} (h : Here K44 w0 w os) {i b : Nat} {c0 c1 : Value} {t : TypeId} (hi : os[i]? = some (.box b [c0, c1] t)) (u v : Value) : Here K44 w0 ((w.setCell ⟨b, 0, none⟩ u).setCell ⟨b, 1, none⟩ v) (os.set i (.box b [u, v] t)) := by
  obtain ⟨B, ⟨h1, rfl⟩, _, h3, _⟩ := h.use hi
  refine h3 _ (.box b [u, v] t) [b] ⟨(h1.set 0 u).set 1 v, rfl⟩ (((Fr.refl _ w).setCell b 0 u (.inr (by simp))).setCell b 1 v (.inr (by simp))) (fun b hb => .inl hb)
set_option maxRecDepth 100000 in
set_option maxHeartbeats 8000000 in
theorem walk (w : World) (x : Int) (wx : (Lit.int .i64 x).wf = true) (b : Option Addr) (cap : Nat) (l : List Add10) (hlc : l.length ≤ cap) (hm : cap ≤ maxLen) (hi : InW w b 3 (l.map a10C)) (ho : ∀ a ∈ l, a10Ok a)
    (pe bk : Int) (wpe : (Lit.int .i64 pe).wf = true) (wbk : (Lit.int .i64 bk).wf = true) (key : ByteArray) (hkey : key.size ≤ maxLen) (now : Int) (wnow : (Lit.int .i64 now).wf = true) :
    Calls Try.prog 4 #[.int .i64 x, .slice b l.length cap, .agg #[.int .i64 pe, .int .i64 bk], .string key, .int .i64 now] w fun e w' => e = .returned (.bool true) ∧ Below w.heap.size w w' := by
  have hx := i64_wf wx
  have h1 := i64_wf wpe
  have h2 := i64_wf wbk
  have h4 := i64_wf wnow
  clear wx wpe wbk wnow
  unfold maxLen at hkey
  obtain ⟨W1, hW1, hh1⟩ := begin44 pe bk w
  obtain ⟨N, hN⟩ : ∃ N, w.heap.size = N := ⟨_, rfl⟩
  rw [hN] at hh1
  have HN := Lib.hid hN
  have HW1 := Lib.hid hW1
  have H1 := Lib.hid hh1
  have HS : Hid (∀ (W : World) (os : List Ob), Here K44 w W os → os[0]? = some (.box N [.int .i64 pe, .int .i64 bk] 23) → W.cell? ⟨N, 0, none⟩ = some (.int .i64 pe) ∧ W.cell? ⟨N, 1, none⟩ = some (.int .i64 bk)) := Lib.hid (fun W os h hi => ⟨(h_boxAt h hi).cell 0, (h_boxAt h hi).cell 1⟩)
  have HLO : Hid (∀ W, Below w.heap.size w W → Calls Try.prog 15 #[.slice b l.length cap, .agg #[.int .i64 pe, .int .i64 bk]] W fun e w' => e = .returned (.bool (longB l bk)) ∧ Below W.heap.size W w') := Lib.hid (fun W hb => long_any b cap l pe bk W (InW.bel hi hb) hm hlc ho)
  have LO := Lib.hid (HLO.out W1 hh1.bel)
  have HAW : Hid (∀ W, Calls Try.prog 9 #[] W fun e w' => e = .returned (.bool true) ∧ Below W.heap.size W w') := Lib.hid (fun W => awake_any W)
  have s1 := HS.out _ _ hh1 rfl
  obtain ⟨s10, s11⟩ := s1
  unfold maxLen at hm
  clear hW1 hN hh1 HLO
  cases hlong : longB l bk with
  | true =>
    rw [hlong] at LO
    clear hlong hi ho
    generalize l.length = n at *
    go_enter Try.func4, Try.ntmps4
    go_wp2_with fail
    rw [HN.out, HW1.out]
    refine LO.out.mono ?_
    rintro e w2 ⟨rfl, b2⟩
    have H2 := Lib.hid (H1.out.step_bel b2)
    clear b2 LO
    go_wp2_with fail
    refine (HAW.out _).mono ?_
    rintro e w9 ⟨rfl, b9⟩
    have HB9 := Lib.hid (H2.out.step_bel b9).bel
    clear b9
    go_wp2_with fail
    go_ret
    exact ⟨rfl, HB9.out⟩
  | false =>
    rw [hlong] at LO
    obtain ⟨hl40, hk60⟩ := long_of hlong
    have HFI : Hid (∀ W, Below w.heap.size w W → Calls Try.prog 16 #[.int .i64 x, .slice b l.length cap] W fun e w' => ∃ p, e = .returned (.pointer (some ⟨p, 0, none⟩)) ∧ Here K44 W w' [.pane p (wdOf x) (addsS (wdOf x) l).length (addsS (wdOf x) l)]) := Lib.hid (fun W hb => fill_any x hx b cap l W (InW.bel hi hb) hl40 hk60 ho)
    have hAl := addsS_length (wdOf x) l
    have hwd := wdOf_in x
    have HAO := Lib.hid (addsS_ok (wdOf x) hwd.1 l)
    have HIW := Lib.hid hi
    have HO := Lib.hid ho
    have HK6 := Lib.hid hk60
    clear hlong hi ho hk60
    by_cases hk60 : key.size ≤ 60
    · have tf5 : decide ((60 : Int) < (key.size : Int)) = false := by simp; omega
      have HNO : Hid (∀ W, Below w.heap.size w W → rightS pe bk (wdOf x) now = true → Calls Try.prog 19 #[.slice b l.length cap, .int .i64 (wdOf x), .string key, .int .i64 now] W fun e w' => e = .returned (.int .i64 (nowS (addsS (wdOf x) l) key (wdOf x) now)) ∧ Below W.heap.size W w') := Lib.hid (fun W hb hr => by
        obtain ⟨_, r7, r8⟩ := (rightS_iff _ _ _ _).1 hr
        exact rnow_any b cap l key (wdOf x) now W (InW.bel HIW.out hb) (by omega) HO.out hwd ⟨r7, r8⟩)
      have HTH : Hid (∀ W, Below w.heap.size w W → rightS pe bk (wdOf x) now = true → Calls Try.prog 20 #[.slice b l.length cap, .agg #[.int .i64 pe, .int .i64 bk], .int .i64 (wdOf x), .string key, .int .i64 now] W fun e w' => e = .returned (.int .i64 (thenS (addsS (wdOf x) l) key pe (wdOf x) now bk.toNat)) ∧ Below W.heap.size W w') := Lib.hid (fun W hb hr => rthen_any b cap l key pe bk (wdOf x) now W (InW.bel HIW.out hb) (by omega) HO.out hwd.2 hr)
      have HRI : Hid (∀ W, Calls Try.prog 17 #[.agg #[.int .i64 pe, .int .i64 bk], .int .i64 (wdOf x), .int .i64 now] W fun e w' => e = .returned (.bool (rightS pe bk (wdOf x) now)) ∧ Below W.heap.size W w') := Lib.hid (fun W => rright_any pe bk (wdOf x) now W h1 h2 (by unfold I64; omega) h4)
      generalize addsS (wdOf x) l = A at *
      generalize wdOf x = wd at *
      generalize l.length = n at *
      go_enter Try.func4, Try.ntmps4
      go_wp2_with fail
      rw [HN.out, HW1.out]
      refine LO.out.mono ?_
      rintro e w2 ⟨rfl, b2⟩
      have H2 := Lib.hid (H1.out.step_bel b2)
      have hs2 := HS.out _ _ H2.out rfl
      obtain ⟨s20, s21⟩ := hs2
      clear b2 LO s10 s11 H1
      have FI := Lib.hid (HFI.out w2 H2.out.bel)
      go_wp2_with fail
      refine FI.out.mono ?_
      rintro e w3 ⟨p, rfl, h3⟩
      have H3 := Lib.hid (H2.out.adopt h3)
      have hs3 := HS.out _ _ H3.out rfl
      obtain ⟨s30, s31⟩ := hs3
      clear h3 FI s20 s21 HFI H2
      obtain ⟨M, hM⟩ : ∃ M, w3.heap.size = M := ⟨_, rfl⟩
      obtain ⟨W4, hW4⟩ : ∃ W4, w3.alloc (.cells #[.int .i64 0, .int .i64 1] 28) = W4 := ⟨_, rfl⟩
      have hh4 := h_box H3.out [.int .i64 0, .int .i64 1] 28
      rw [hM] at hh4
      have hh4' : Here K44 w W4 [.box N [.int .i64 pe, .int .i64 bk] 23, .pane p wd (A.length : Int) A, .box M [.int .i64 0, .int .i64 1] 28] := by rw [← hW4]; exact hh4
      have H4 := Lib.hid hh4'
      have HMM := Lib.hid hM
      have HW4 := Lib.hid hW4
      have HS2 : Hid (∀ (W : World) (os : List Ob) {u v : Value}, Here K44 w W os → os[0]? = some (.box N [.int .i64 pe, .int .i64 bk] 23) → os[2]? = some (.box M [u, v] 28) → W.cell? ⟨N, 0, none⟩ = some (.int .i64 pe) ∧ W.cell? ⟨N, 1, none⟩ = some (.int .i64 bk) ∧ W.cell? ⟨M, 0, none⟩ = some u ∧ W.cell? ⟨M, 1, none⟩ = some v) := Lib.hid (fun W os u v h hi hj => ⟨(h_boxAt h hi).cell 0, (h_boxAt h hi).cell 1, (h_boxAt h hj).cell 0, (h_boxAt h hj).cell 1⟩)
      have WI := Lib.hid (h_width hh4'.drew (i := 1) rfl)
      have s4 := HS.out _ _ hh4'.drew rfl
      clear hM hW4 hh4 hh4' s30 s31
      go_wp2_with fail
      rw [HMM.out, HW4.out]
      cases hright : rightS pe bk wd now with
      | false =>
        rw [hright] at HRI
        clear HNO HTH
        first
          | (go_region_held3 (fun X => X.cell? ⟨N, 0, none⟩ = some (.int .i64 pe) ∧ X.cell? ⟨N, 1, none⟩ = some (.int .i64 bk)) (first | assumption | go_keep)
              (first
                | (go_at_call 18
                   (with_reducible refine WI.out.mono ?_)
                   rintro e wx' ⟨rfl, rfl⟩)
                | (go_at_call 17
                   (with_reducible refine (HRI.out _).mono ?_)
                   rintro e w5 ⟨rfl, b5⟩
                   have h5 := H4.out.drew.step_bel b5
                   have H5 := Lib.hid h5
                   have hS5 := HS.out _ _ h5 rfl
                   clear h5 b5)
                | fail))
          | fail
        have eN : nowV A pe bk wd now key = 0 := by unfold nowV; rw [hright]; rfl
        have eU : usuN A pe bk wd now key = 0 ∧ usuD pe bk wd now = 1 := by unfold usuN usuD; rw [hright]; exact ⟨rfl, rfl⟩
        have EN := Lib.hid eN
        have EU := Lib.hid eU
        clear hright eN eU
        go_wp2_with fail
        have NW := Lib.hid (h_now H5.out.drew (i := 1) rfl pe bk now key (by omega) h1 h2 h4)
        rw [EN.out] at NW
        have s4d := HS2.out _ _ H5.out.drew rfl rfl
        go_wp2_with fail
        go_region_held3 (fun X => X.cell? ⟨N, 0, none⟩ = some (.int .i64 pe) ∧ X.cell? ⟨N, 1, none⟩ = some (.int .i64 bk) ∧ X.cell? ⟨M, 0, none⟩ = some (.int .i64 0) ∧ X.cell? ⟨M, 1, none⟩ = some (.int .i64 1)) (first | assumption | go_keep)
          (first
            | (go_at_call 12
               (with_reducible refine NW.out.mono ?_)
               rintro e w6 ⟨rfl, b6⟩
               have h6 := H5.out.drew.step_bel b6
               have H6 := Lib.hid h6
               have hS6 := HS2.out _ _ h6 rfl rfl
               have US := Lib.hid (h_usual h6 (i := 1) rfl (by omega) pe bk now key (by omega) h1 h2 h4)
               rw [EU.out.1, EU.out.2] at US
               clear h6 b6)
            | (go_at_call 13
               (with_reducible refine US.out.mono ?_)
               rintro e w7 ⟨rfl, b7⟩
               have h7 := H6.out.step_bel b7
               have H7 := Lib.hid h7
               have hS7 := HS2.out _ _ h7 rfl rfl
               clear h7 b7)
            | (go_at_call 9
               (with_reducible refine (HAW.out _).mono ?_)
               rintro e w8 ⟨rfl, b8⟩
               have h8 := H7.out.step_bel b8
               have H8 := Lib.hid h8
               have hS8 := HS2.out _ _ h8 rfl rfl
               clear h8 b8)
            | fail)
        go_wp2_with fail
        go_ret
        exact ⟨rfl, H8.out.bel⟩
      | true =>
        rw [hright] at HRI
        have HRT := Lib.hid hright
        go_region_held3 (fun X => X.cell? ⟨N, 0, none⟩ = some (.int .i64 pe) ∧ X.cell? ⟨N, 1, none⟩ = some (.int .i64 bk)) (first | assumption | go_keep)
          (first
            | (go_at_call 18
               (with_reducible refine WI.out.mono ?_)
               rintro e wx' ⟨rfl, rfl⟩)
            | (go_at_call 17
               (with_reducible refine (HRI.out _).mono ?_)
               rintro e w5 ⟨rfl, b5⟩
               have h5 := H4.out.drew.step_bel b5
               have H5 := Lib.hid h5
               have hS5 := HS.out _ _ h5 rfl
               clear h5 b5)
            | fail)
        have eN : nowV A pe bk wd now key = nowS A key wd now := by unfold nowV; rw [hright]; rfl
        have eU : usuN A pe bk wd now key = thenS A key pe wd now bk.toNat ∧ usuD pe bk wd now = bk := by unfold usuN usuD; rw [hright]; exact ⟨rfl, rfl⟩
        have EN := Lib.hid eN
        have EU := Lib.hid eU
        clear hright eN eU s4
        have WI5 := Lib.hid (h_width H5.out (i := 1) rfl)
        have NO := Lib.hid (HNO.out w5 H5.out.bel HRT.out)
        generalize hX : nowS A key wd now = X at *
        generalize hT : thenS A key pe wd now bk.toNat = T at *
        clear hX hT
        go_wp2_with fail
        refine WI5.out.mono ?_
        rintro e wx' ⟨rfl, rfl⟩
        go_wp2_with fail
        refine NO.out.mono ?_
        rintro e wa ⟨rfl, ba⟩
        have HA := Lib.hid (H5.out.step_bel ba)
        clear ba NO WI5 hS5
        have WIa := Lib.hid (h_width HA.out.drew (i := 1) rfl)
        have TH := Lib.hid (HTH.out wa.drew HA.out.drew.bel HRT.out)
        have sa := HS.out _ _ HA.out.drew rfl
        go_wp2_with fail
        go_region_held3 (fun X => X.cell? ⟨N, 0, none⟩ = some (.int .i64 pe) ∧ X.cell? ⟨N, 1, none⟩ = some (.int .i64 bk)) (first | assumption | go_keep)
          (first
            | (go_at_call 18
               (with_reducible refine WIa.out.mono ?_)
               rintro e wx' ⟨rfl, rfl⟩)
            | (go_at_call 20
               (with_reducible refine TH.out.mono ?_)
               rintro e wb ⟨rfl, bb⟩
               have hb := HA.out.drew.step_bel bb
               have HB := Lib.hid hb
               have hSb := HS.out _ _ hb rfl
               have hkM := h_boxAt hb (i := 2) rfl
               have m0 := hkM.cell 0
               have m1 := hkM.cell 1
               have f0 := hkM.free 0
               have f1 := hkM.free 1
               have hc := h_store2 hb (i := 2) rfl (.int .i64 T) (.int .i64 bk)
               have HC := Lib.hid hc
               have hSc := HS.out _ _ hc rfl
               clear hb bb hkM hc)
            | fail)
        clear m0 m1 f0 f1 sa hSb
        obtain ⟨V, hV⟩ : ∃ V, (wb.setCell ⟨M, 0, none⟩ (.int .i64 T)).setCell ⟨M, 1, none⟩ (.int .i64 bk) = V := ⟨_, rfl⟩
        rw [hV] at HC hSc ⊢
        have HD : Hid (Here K44 w V [.box N [.int .i64 pe, .int .i64 bk] 23, .pane p wd (A.length : Int) A, .box M [.int .i64 T, .int .i64 bk] 28]) := Lib.hid HC.out
        clear hV HC
        have NW := Lib.hid (h_now HD.out.drew (i := 1) rfl pe bk now key (by omega) h1 h2 h4)
        rw [EN.out] at NW
        have s4d := HS2.out _ _ HD.out.drew rfl rfl
        go_wp2_with fail
        go_region_held3 (fun X => X.cell? ⟨N, 0, none⟩ = some (.int .i64 pe) ∧ X.cell? ⟨N, 1, none⟩ = some (.int .i64 bk) ∧ X.cell? ⟨M, 0, none⟩ = some (.int .i64 T) ∧ X.cell? ⟨M, 1, none⟩ = some (.int .i64 bk)) (first | assumption | go_keep)
          (first
            | (go_at_call 12
               (with_reducible refine NW.out.mono ?_)
               rintro e w6 ⟨rfl, b6⟩
               have h6 := HD.out.drew.step_bel b6
               have H6 := Lib.hid h6
               have hS6 := HS2.out _ _ h6 rfl rfl
               have US := Lib.hid (h_usual h6 (i := 1) rfl (by omega) pe bk now key (by omega) h1 h2 h4)
               rw [EU.out.1, EU.out.2] at US
               clear h6 b6)
            | (go_at_call 13
               (with_reducible refine US.out.mono ?_)
               rintro e w7 ⟨rfl, b7⟩
               have h7 := H6.out.step_bel b7
               have H7 := Lib.hid h7
               have hS7 := HS2.out _ _ h7 rfl rfl
               clear h7 b7)
            | (go_at_call 9
               (with_reducible refine (HAW.out _).mono ?_)
               rintro e w8 ⟨rfl, b8⟩
               have h8 := H7.out.step_bel b8
               have H8 := Lib.hid h8
               have hS8 := HS2.out _ _ h8 rfl rfl
               clear h8 b8)
            | fail)
        go_wp2_with fail
        go_ret
        exact ⟨rfl, H8.out.bel⟩
    · have tf5 : decide ((60 : Int) < (key.size : Int)) = true := by simp; omega
      clear HFI HAO HIW HO HK6 hAl
      generalize l.length = n at *
      go_enter Try.func4, Try.ntmps4
      go_wp2_with fail
      rw [HN.out, HW1.out]
      refine LO.out.mono ?_
      rintro e w2 ⟨rfl, b2⟩
      have H2 := Lib.hid (H1.out.step_bel b2)
      have hs2 := HS.out _ _ H2.out rfl
      obtain ⟨s20, s21⟩ := hs2
      clear b2 LO s10 s11 H1
      go_wp2_with fail
      refine (HAW.out _).mono ?_
      rintro e w9 ⟨rfl, b9⟩
      have HB9 := Lib.hid (H2.out.step_bel b9).bel
      clear b9
      go_wp2_with fail
      go_ret
      exact ⟨rfl, HB9.out⟩

theorem own : ownKnob Try.prog.godebug = none := by kernel_rfl
theorem laidOut : laidOutB Try.prog = true := by kernel_rfl

set_option maxRecDepth 100000 in
theorem lifted (os : Os) (started : os.Started) (H : Type) (enc : TypeId × Value → H) :
    ReturnsInHanded {} Try.checked os 4 .any (Rows.seasonTellsSpec.pre6 enc Try.prog Try.f4 Rows.seasonTellsRow.domain false) (Rows.seasonTellsSpec.post enc Try.prog Try.f4 false true false false) := by
  refine returnsInHanded_of_change (C := Try.checked) own started (by kernel_rfl) Try.func4
    (ChangeSpec.witness6 (enc := enc) (C := Try.checked) false ⟨#[], #[.int .i64 0, .slice none 0 0, .agg #[.int .i64 0, .int .i64 0], .string ⟨#[]⟩, .int .i64 0], []⟩ 8 (by kernel_rfl) (by kernel_rfl) (by kernel_rfl) (by kernel_rfl)) ?_
  intro W base args ds gs before hval0 hW hcnd _
  have hval : ∀ (j : Nat) t v, Try.f4.params[j]? = some t → args[j]? = some v → Value.okWide Try.prog W .any base t v := hval0
  have hW' := hW
  obtain ⟨p, q, hA0, hV, rfl, hfz, hnd⟩ := hW
  have hA : DataW.TrodAll enc Try.prog W 0 (fun _ => true) true Try.f4.params.toList args.toList ds p := hA0
  rw [Try.params4] at hA hval
  obtain ⟨v0, vs0, d0, ds0, p0, q0, hargs, rfl, rfl, h0, r0⟩ := trodAll_cons hA
  obtain ⟨v1, vs1, d1, ds1, p1, q1, rfl, rfl, rfl, h1, r1⟩ := trodAll_cons r0
  obtain ⟨v2, vs2, d2, ds2, p2, q2, rfl, rfl, rfl, h2, r2⟩ := trodAll_cons r1
  obtain ⟨v3, vs3, d3, ds3, p3, q3, rfl, rfl, rfl, h3, r3⟩ := trodAll_cons r2
  obtain ⟨v4, vs4, d4, ds4, p4, q4, rfl, rfl, rfl, h4, r4⟩ := trodAll_cons r3
  obtain ⟨rfl, rfl, rfl⟩ := trodAll_nil r4
  obtain rfl : args = #[v0, v1, v2, v3, v4] := by cases args; simp_all
  obtain ⟨rfl, rfl⟩ := trodVars_none hV
  have k0 := h0
  have lt0 : ∀ x ∈ p0, x.block < W.heap.size := by obtain ⟨m, hm⟩ := k0; exact DataW.trod_lt m _ _ _ hm
  obtain ⟨a0, rfl, rfl, rfl, w0⟩ := open_int Try.underlying3 (hval 0 3 v0 rfl rfl) h0
  have k1 := h1
  have lt1 : ∀ x ∈ p1, x.block < W.heap.size := by obtain ⟨m, hm⟩ := k1; exact DataW.trod_lt m _ _ _ hm
  obtain ⟨b1, c1, x1, rfl, l1, m1, i1, o1⟩ := open_adds (hval 1 33 v1 rfl rfl) h1
  have k2 := h2
  have lt2 : ∀ x ∈ p2, x.block < W.heap.size := by obtain ⟨m, hm⟩ := k2; exact DataW.trod_lt m _ _ _ hm
  obtain ⟨c20, c21, y20, y21, m2, rfl, hd2, hp2, hy20, hy21⟩ := open_agg2 Try.underlying23 (by kernel_rfl) (by kernel_rfl) (hval 2 23 v2 rfl rfl) h2
  obtain ⟨a2, e20, _, w20⟩ := DataW.trod_int Try.underlying3 hy20
  obtain ⟨b2, e21, _, w21⟩ := DataW.trod_int Try.underlying3 hy21
  simp at e20 e21
  subst e20 e21
  have k3 := h3
  have lt3 : ∀ x ∈ p3, x.block < W.heap.size := by obtain ⟨m, hm⟩ := k3; exact DataW.trod_lt m _ _ _ hm
  obtain ⟨a3, rfl, rfl, rfl, w3⟩ := open_string Try.underlying9 (hval 3 9 v3 rfl rfl) h3
  have k4 := h4
  have lt4 : ∀ x ∈ p4, x.block < W.heap.size := by obtain ⟨m, hm⟩ := k4; exact DataW.trod_lt m _ _ _ hm
  obtain ⟨a4, rfl, rfl, rfl, w4⟩ := open_int Try.underlying3 (hval 4 3 v4 rfl rfl) h4
  clear hA0 hval0
  refine (walk W a0 w0 b1 c1 x1 l1 m1 i1 o1 a2 b2 w20 w21 a3 w3 a4 w4).mono fun e W' ⟨he, bel⟩ => ?_
  subst he
  exact ⟨_, rfl, _, _, _, [], _, [], hW', trodAll_mk1 (shut_bool Try.underlying4 _), (trodAll_cons_mk (Below.trod laidOut (by kernel_rfl) (of_decide_eq_true (by kernel_rfl)) k0 bel lt0) (trodAll_cons_mk (Below.trod laidOut (by kernel_rfl) (of_decide_eq_true (by kernel_rfl)) k1 bel lt1) (trodAll_cons_mk (Below.trod laidOut (by kernel_rfl) (of_decide_eq_true (by kernel_rfl)) k2 bel lt2) (trodAll_cons_mk (Below.trod laidOut (by kernel_rfl) (of_decide_eq_true (by kernel_rfl)) k3 bel lt3) (trodAll_cons_mk (Below.trod laidOut (by kernel_rfl) (of_decide_eq_true (by kernel_rfl)) k4 bel lt4) trodAll_mk0))))), rfl, bel.frame _, fun h => by cases h⟩

theorem over : Rows.seasonTellsRow.holds Try.pinned (OpenSpec.ofChange Rows.seasonTellsSpec) :=
  OpenClaim.holds_of_wide 4 Try.f4 rfl rfl rfl rfl rfl rfl rfl ⟨rfl, rfl, rfl, rfl, rfl⟩ rfl rfl rfl rfl rfl (by kernel_rfl) Try.func4 (by kernel_rfl)
    (of_decide_eq_true (by kernel_rfl)) (by unfold Func.isWrapper; first | (rw [if_pos (by decide +kernel)]; kernel_rfl) | (rw [if_neg (by decide +kernel)]; exact ⟨rfl, rfl⟩))
    (fun os started H enc _ => lifted os started H enc)

theorem proved : Rows.SeasonTellsSaid := over
#print axioms proved
end Go.Proofs.Ytlmonbclloamiaa.seasonTells

/- For every input ciceronelaw44.SeasonFirst returns true, and its arguments read behind the call as before. No conditions. -/
import Derived.Test.YtlmonbclloamiaaSOpen
import Derived.Test.YtlmonbclloamiaaHeld
import Derived.Test.YtlmonbclloamiaaRows
import Derived.ProofKit
import Derived.OpenShut
import Derived.ShutString
import Derived.ChangeOld
import Derived.Below
import Derived.Lib.SmallJoins
namespace Go.Proofs.Ytlmonbclloamiaa.seasonFirst
open Go.ChangeShapes Go.WideShapes Go.ChangeAt Go.RowKit Go.Joins
open Go.ChangeMaps (open_string shut_string)
set_option linter.unusedVariables false

set_option linter.unusedSimpArgs false
abbrev tnew : ByteArray := ⟨#[110, 101, 119]⟩
theorem first_none {wd : Int} {l : List Add10} (h : ∀ a ∈ l, a.1 ≠ tnew) (q : Int) : sget (addsS wd l) tnew q = 0 := by
  refine Classical.byContradiction fun c => ?_
  obtain ⟨x, hx, e, _⟩ := mem_of_sget c
  unfold addsS at hx
  obtain ⟨a, ha, rfl⟩ := List.mem_map.1 hx
  exact h a (List.mem_filter.1 ha).1 e
theorem first_then {A : List Ad} {pe bk wd now n : Int} (hr : rightS pe bk wd now = true) (h0 : ∀ q, sget A tnew q = 0) : ∀ j : Nat, thenS (A ++ [(tnew, now / wd, n)]) tnew pe wd now j = 0
  | 0 => rfl
  | j + 1 => by
    obtain ⟨⟨h1, h2, h3, h4, h5, h6⟩, h7, h8⟩ := (rightS_iff _ _ _ _).1 hr
    have e2 : pe = wd * (pe / wd) := by have := Int.mul_ediv_add_emod pe wd; omega
    have hq : 1 ≤ pe / wd := by
      have h9 : 0 ≤ pe / wd := Int.ediv_nonneg (by omega) (by omega)
      have h10 : pe / wd ≠ 0 := fun c => by rw [c] at e2; simp at e2; omega
      omega
    rw [thenS, first_then hr h0 j, sget_snoc, h0, if_neg (fun c => ?_)]
    · rfl
    · have h11 := c.2
      unfold agoQ at h11
      have h12 : 1 ≤ ((j : Int) + 1) * (pe / wd) := by have := Int.mul_le_mul (show (1 : Int) ≤ (j : Int) + 1 by omega) hq (by omega) (by omega); omega
      omega
theorem first_odd {A : List Ad} {pe bk wd now n fl : Int} (hr : rightS pe bk wd now = true) (h0 : ∀ q, sget A tnew q = 0) (hn : 1 ≤ n) {ks : List ByteArray} (h : OddsV (A ++ [(tnew, now / wd, n)]) pe bk wd now fl ks) : memB ks tnew = decide (fl ≤ n) := by
  obtain ⟨⟨h1, h2, h3, h4, h5, h6⟩, h7, h8⟩ := (rightS_iff _ _ _ _).1 hr
  unfold OddsV at h
  rw [if_pos hr] at h
  have e1 : nowS (A ++ [(tnew, now / wd, n)]) tnew wd now = n := by unfold nowS; rw [sget_snoc, h0, if_pos ⟨rfl, rfl⟩]; omega
  have e2 : tnew ∈ ks ↔ fl ≤ n := by
    rw [h.2]
    unfold oddB
    rw [e1, first_then hr h0]
    have h9 : 1 ≤ n * bk := by have := Int.mul_le_mul hn h5 (by omega) (by omega); omega
    simp only [Bool.and_eq_true, decide_eq_true_eq]
    constructor
    · exact fun c => c.2.1
    · exact fun c => ⟨by omega, c, by omega⟩
  by_cases c : fl ≤ n
  · rw [decide_eq_true c]; exact (memB_iff _ _).2 (e2.2 c)
  · rw [decide_eq_false c]; exact memB_no (fun m => c (e2.1 m))
theorem newEq (x : ByteArray) : (x.toList == [110, 101, 119]) = decide (x = tnew) := by
  have h := bytesEq x tnew
  have e : tnew.toList = [110, 101, 119] := by rw [Go.ByteArray.toList_eq]
  rw [e] at h
  exact h
theorem u8_wf {q : Int} (h : (Lit.int .u8 q).wf = true) : 0 ≤ q ∧ q ≤ 255 := by
  simp only [Lit.wf, Bool.and_eq_true, decide_eq_true_eq] at h
  exact h
set_option maxHeartbeats 2000000 in
theorem found_any {w0 w : World} {os : List Ob} (h : Here K44 w0 w os) {i : Nat} {wd ad : Int} {A : List Ad} (p M N N1 : Nat) (pe bk now n fl : Int) (hi : os[i]? = some (.pane p wd ad (A ++ [(tnew, now / wd, n)]))) (hr : rightS pe bk wd now = true) (h0 : ∀ q, sget A tnew q = 0) (hn : 1 ≤ n) (hA : A.length ≤ 900) (hf : I64 fl) (h1 : I64 pe) (h2 : I64 bk) (h4 : I64 now)
    (c0 : w.cell? ⟨M, 0, none⟩ = some (.pointer (some ⟨p, 0, none⟩))) (c1 : w.cell? ⟨N, 0, none⟩ = some (.int .i64 pe)) (c2 : w.cell? ⟨N, 1, none⟩ = some (.int .i64 bk)) (c3 : w.cell? ⟨N1, 0, none⟩ = some (.int .i64 now)) :
    Calls Try.prog 25 #[.int .i64 fl, .pointer (some ⟨M, 0, none⟩), .pointer (some ⟨N, 0, none⟩), .pointer (some ⟨N1, 0, none⟩)] w fun e w' => e = .returned (.bool (decide (fl ≤ n))) ∧ Below w.heap.size w w' := by
  have OD := Lib.hid (h_odd h hi (by rw [List.length_append]; simp; omega) pe bk now fl h1 h2 h4 hf)
  have HFO : Hid (∀ ks, OddsV (A ++ [(tnew, now / wd, n)]) pe bk wd now fl ks → memB ks tnew = decide (fl ≤ n) ∧ ks.length ≤ 1000) := Lib.hid (fun ks ho => ⟨first_odd hr h0 hn ho, by
    obtain ⟨B, g1, _⟩ := h.use hi
    have := OddsV.len (PaneAt.ok g1) ho
    rw [List.length_append] at this
    simp at this; omega⟩)
  generalize A ++ [(tnew, now / wd, n)] = A' at *
  generalize decide (fl ≤ n) = r at *
  clear h hi hr h0 hn hA
  go_enter Try.func25, Try.ntmps25
  go_wp2_with fail
  refine OD.out.mono ?_
  rintro e w1 ⟨v, ks, rfl, o1, t1, b1⟩
  obtain ⟨hmb, hkl⟩ := HFO.out ks o1
  obtain ⟨b, cap, rfl, _, _, hs⟩ := t1.strs
  have HS := Lib.hid hs
  have HB := Lib.hid b1
  have HR := Lib.hid hmb
  clear OD HFO o1 t1 hs b1 hmb c0 c1 c2 c3
  generalize hnn : ks.length = nn at *
  have Hn := Lib.hid hnn
  clear hnn
  go_wp2_with fail
  go_loop [14] (fun c => ∃ i : Nat, i ≤ nn ∧ c = .int .i64 i ∧ Hid (tnew ∉ ks.take i)) (fun c => nn - (intOf c).toNat)
  case atStart => exact ⟨0, by omega, rfl, Lib.hid (by simp)⟩
  case round =>
    obtain ⟨i, hi, rfl, HA⟩ := hrel
    by_cases hlt : i < nn
    · obtain ⟨x, hx⟩ : ∃ x, ks[i]? = some x := ⟨ks[i]'(by rw [Hn.out]; exact hlt), List.getElem?_eq_getElem _⟩
      obtain ⟨B, off, rfl, _, c0⟩ := HS.out.at hx
      have hi0 : (0 : Int) ≤ (i : Int) := by omega
      have hi1 : (i : Int) < (nn : Int) := by omega
      have HX := Lib.hid hx
      clear hx
      by_cases he : x = tnew
      · have t1 : (x.toList == [110, 101, 119]) = true := by rw [newEq]; exact decide_eq_true he
        have e : r = true := by rw [← HR.out]; exact (memB_iff ks tnew).2 (he ▸ List.mem_of_getElem? HX.out)
        subst e
        clear he
        go_wp2_with fail
        go_ret
        exact ⟨rfl, HB.out⟩
      · have t1 : (x.toList == [110, 101, 119]) = false := by rw [newEq]; exact decide_eq_false he
        have HA' : Hid (tnew ∉ ks.take (i + 1)) := Lib.hid (by
          rw [List.take_add_one, HX.out]
          intro c
          rcases List.mem_append.1 c with c | c
          · exact HA.out c
          · simp at c; exact he c.symm)
        clear he
        go_wp2_with fail
        go_round
        case rel => exact ⟨i + 1, by omega, by go_num, HA'⟩
        case measure => simp [intOf]; omega
    · have e : r = false := by
        rw [← HR.out]
        have h := HA.out
        rw [List.take_of_length_le (by rw [Hn.out]; omega)] at h
        exact memB_no h
      subst e
      go_wp2_with fail
      go_ret
      exact ⟨rfl, HB.out⟩
set_option maxRecDepth 100000 in
set_option maxHeartbeats 8000000 in
theorem walk (w : World) (x : Int) (wx : (Lit.int .i64 x).wf = true) (b : Option Addr) (cap : Nat) (l : List Add10) (hlc : l.length ≤ cap) (hm : cap ≤ maxLen) (hi : InW w b 3 (l.map a10C)) (ho : ∀ a ∈ l, a10Ok a)
    (pe bk : Int) (wpe : (Lit.int .i64 pe).wf = true) (wbk : (Lit.int .i64 bk).wf = true) (now : Int) (wnow : (Lit.int .i64 now).wf = true) (n : Int) (wn : (Lit.int .u8 n).wf = true) :
    Calls Try.prog 8 #[.int .i64 x, .slice b l.length cap, .agg #[.int .i64 pe, .int .i64 bk], .int .i64 now, .int .u8 n] w fun e w' => e = .returned (.bool true) ∧ Below w.heap.size w w' := by
  have hx := i64_wf wx
  have h1 := i64_wf wpe
  have h2 := i64_wf wbk
  have h4 := i64_wf wnow
  have hn8 := u8_wf wn
  clear wx wpe wbk wnow wn
  obtain ⟨N, hN⟩ : ∃ N, w.heap.size = N := ⟨_, rfl⟩
  obtain ⟨N1, hN1⟩ : ∃ N1, N + 1 = N1 := ⟨_, rfl⟩
  obtain ⟨W1, hW1⟩ : ∃ W1, (w.alloc (.cells #[.int .i64 pe, .int .i64 bk] 23)).alloc (.cells #[.int .i64 now] 3) = W1 := ⟨_, rfl⟩
  have hh1 : Here K44 w W1 [.box N [.int .i64 pe, .int .i64 bk] 23, .box N1 [.int .i64 now] 3] := by
    have g1 := h_box (Here.nil (K := K44) (Below.refl w.heap.size w)) [.int .i64 pe, .int .i64 bk] 23
    have g2 := h_box g1 [.int .i64 now] 3
    rw [← hW1, ← hN1, ← hN]
    have e : (w.alloc (.cells #[.int .i64 pe, .int .i64 bk] 23)).heap.size = w.heap.size + 1 := by simp
    rw [← e]
    exact g2
  have HN := Lib.hid hN
  have HN1 := Lib.hid hN1
  have HW1 := Lib.hid hW1
  have H1 := Lib.hid hh1
  have HS : Hid (∀ (W : World) (os : List Ob), Here K44 w W os → os[0]? = some (.box N [.int .i64 pe, .int .i64 bk] 23) → os[1]? = some (.box N1 [.int .i64 now] 3) → W.cell? ⟨N, 0, none⟩ = some (.int .i64 pe) ∧ W.cell? ⟨N, 1, none⟩ = some (.int .i64 bk) ∧ W.cell? ⟨N1, 0, none⟩ = some (.int .i64 now)) := Lib.hid (fun W os h hi hj => ⟨(h_boxAt h hi).cell 0, (h_boxAt h hi).cell 1, (h_boxAt h hj).cell 0⟩)
  have HLO : Hid (∀ W, Below w.heap.size w W → Calls Try.prog 15 #[.slice b l.length cap, .agg #[.int .i64 pe, .int .i64 bk]] W fun e w' => e = .returned (.bool (longB l bk)) ∧ Below W.heap.size W w') := Lib.hid (fun W hb => long_any b cap l pe bk W (InW.bel hi hb) hm hlc ho)
  have LO := Lib.hid (HLO.out W1 hh1.bel)
  have HAW : Hid (∀ W, Calls Try.prog 9 #[] W fun e w' => e = .returned (.bool true) ∧ Below W.heap.size W w') := Lib.hid (fun W => awake_any W)
  obtain ⟨s10, s11, s12⟩ := HS.out _ _ hh1 rfl rfl
  unfold maxLen at hm
  clear hW1 hN hN1 hh1 HLO
  have AFT : True := trivial
  cases hlong : longB l bk with
  | true =>
    rw [hlong] at LO
    clear hlong hi ho
    generalize l.length = ln at *
    go_enter Try.func8, Try.ntmps8
    go_wp2_with fail
    rw [HN.out, HN1.out, HW1.out]
    refine LO.out.mono ?_
    rintro e w2 ⟨rfl, b2⟩
    have H2 := Lib.hid (H1.out.step_bel b2)
    clear b2 LO
    go_wp2_with fail
    refine (HAW.out _).mono ?_
    rintro e w9 ⟨rfl, b9⟩
    have HB9 := Lib.hid (H2.out.step_bel b9).bel
    clear b9
    go_wp2_with fail
    go_ret
    exact ⟨rfl, HB9.out⟩
  | false =>
    rw [hlong] at LO
    obtain ⟨hl40, hk60⟩ := long_of hlong
    have HFI : Hid (∀ W, Below w.heap.size w W → Calls Try.prog 16 #[.int .i64 x, .slice b l.length cap] W fun e w' => ∃ p, e = .returned (.pointer (some ⟨p, 0, none⟩)) ∧ Here K44 W w' [.pane p (wdOf x) (addsS (wdOf x) l).length (addsS (wdOf x) l)]) := Lib.hid (fun W hb => fill_any x hx b cap l W (InW.bel hi hb) hl40 hk60 ho)
    have hAl := addsS_length (wdOf x) l
    have hwd := wdOf_in x
    have HAO := Lib.hid (addsS_ok (wdOf x) hwd.1 l)
    have HIW := Lib.hid hi
    have HO := Lib.hid ho
    have HK6 := Lib.hid hk60
    clear hlong hi ho hk60
    by_cases hn0 : n = 0
    · subst hn0
      clear HFI HAO HIW HO HK6 hAl
      generalize l.length = ln at *
      go_enter Try.func8, Try.ntmps8
      go_wp2_with fail
      rw [HN.out, HN1.out, HW1.out]
      refine LO.out.mono ?_
      rintro e w2 ⟨rfl, b2⟩
      have H2 := Lib.hid (H1.out.step_bel b2)
      clear b2 LO
      go_wp2_with fail
      refine (HAW.out _).mono ?_
      rintro e w9 ⟨rfl, b9⟩
      have HB9 := Lib.hid (H2.out.step_bel b9).bel
      clear b9
      go_wp2_with fail
      go_ret
      exact ⟨rfl, HB9.out⟩
    · have tn0 : (n == 0) = false := by simp [hn0]
      have hn1 : 1 ≤ n := by omega
      have qn : IntKind.i64.wrap n = n := IntWalk.i64_in _ (by omega)
      have qn1 : IntKind.i64.wrap (n + 1) = n + 1 := IntWalk.i64_in _ (by omega)
      have HNO : Hid ((∀ a ∈ l, a.1 ≠ tnew) → ∀ q, sget (addsS (wdOf x) l) tnew q = 0) := Lib.hid (fun h q => first_none h q)
      have HRI : Hid (∀ W, Calls Try.prog 17 #[.agg #[.int .i64 pe, .int .i64 bk], .int .i64 (wdOf x), .int .i64 now] W fun e w' => e = .returned (.bool (rightS pe bk (wdOf x) now)) ∧ Below W.heap.size W w') := Lib.hid (fun W => rright_any pe bk (wdOf x) now W h1 h2 (by unfold I64; omega) h4)
      have HEND : Hid (l.take l.length = l) := Lib.hid (List.take_length)
      generalize addsS (wdOf x) l = A at *
      generalize wdOf x = wd at *
      have hA1 : A.length ≤ 900 := by omega
      generalize hln : l.length = ln at *
      have Hln := Lib.hid hln
      clear hln hn0
      go_enter Try.func8, Try.ntmps8
      go_wp2_with fail
      rw [HN.out, HN1.out, HW1.out]
      refine LO.out.mono ?_
      rintro e w2 ⟨rfl, b2⟩
      have H2 := Lib.hid (H1.out.step_bel b2)
      have FI := Lib.hid (HFI.out w2 H2.out.bel)
      clear b2 LO s10 s11 s12 H1
      go_wp2_with fail
      refine FI.out.mono ?_
      rintro e w3 ⟨p, rfl, h3⟩
      have h3' := H2.out.adopt h3
      obtain ⟨M, hM⟩ : ∃ M, w3.heap.size = M := ⟨_, rfl⟩
      obtain ⟨W4, hW4⟩ : ∃ W4, w3.alloc (.cells #[.pointer (some ⟨p, 0, none⟩)] 35) = W4 := ⟨_, rfl⟩
      have h4' : Here K44 w W4 [.box N [.int .i64 pe, .int .i64 bk] 23, .box N1 [.int .i64 now] 3, .pane p wd A.length (A), .box M [.pointer (some ⟨p, 0, none⟩)] 35] := by
        have g := h_box h3' [.pointer (some ⟨p, 0, none⟩)] 35
        rw [hW4, hM] at g
        exact g
      have H4 := Lib.hid h4'
      have HMM := Lib.hid hM
      have HW4 := Lib.hid hW4
      have HSC : Hid (∀ (W : World) (os : List Ob), Here K44 w W os → os[0]? = some (.box N [.int .i64 pe, .int .i64 bk] 23) → os[1]? = some (.box N1 [.int .i64 now] 3) → os[3]? = some (.box M [.pointer (some ⟨p, 0, none⟩)] 35) → W.cell? ⟨N, 0, none⟩ = some (.int .i64 pe) ∧ W.cell? ⟨N, 1, none⟩ = some (.int .i64 bk) ∧ W.cell? ⟨N1, 0, none⟩ = some (.int .i64 now) ∧ W.cell? ⟨M, 0, none⟩ = some (.pointer (some ⟨p, 0, none⟩))) := Lib.hid (fun W os h hi hj hk => ⟨(h_boxAt h hi).cell 0, (h_boxAt h hi).cell 1, (h_boxAt h hj).cell 0, (h_boxAt h hk).cell 0⟩)
      obtain ⟨s40, s41, s42, s43⟩ := HSC.out _ _ h4' rfl rfl rfl
      clear h3 h3' h4' FI HFI H2 hM hW4
      go_wp2_with fail
      rw [HMM.out, HW4.out]
      clear s40 s41 s42 s43
      go_loopw [30] (fun c wr => ∃ i : Nat, i ≤ ln ∧ c = .int .i64 i ∧ Hid (∀ a ∈ l.take i, a.1 ≠ tnew) ∧ Here K44 w wr [.box N [.int .i64 pe, .int .i64 bk] 23, .box N1 [.int .i64 now] 3, .pane p wd A.length (A), .box M [.pointer (some ⟨p, 0, none⟩)] 35]) (fun c _ => ln - (intOf c).toNat)
      case atStart => exact ⟨0, by omega, rfl, Lib.hid (by simp), H4.out⟩
      case round =>
        obtain ⟨i, hi, rfl, HA, hh⟩ := hrel
        have HH := Lib.hid hh
        clear hh
        by_cases hlt : i < ln
        · obtain ⟨a, ha⟩ : ∃ a, l[i]? = some a := ⟨l[i]'(by rw [Hln.out]; exact hlt), List.getElem?_eq_getElem _⟩
          have hmem := List.mem_of_getElem? ha
          obtain ⟨B, off, hbb, hB, c0, c1, c2⟩ := adds10_at (InW.bel HIW.out HH.out.bel) ha
          subst hbb
          have hi0 : (0 : Int) ≤ (i : Int) := by omega
          have hi1 : (i : Int) < (ln : Int) := by omega
          have HB2 := Lib.hid (HH.out.step_bel ((Below.refl wr.heap.size wr).alloc (Nat.le_refl _) (.cells #[.string a.1, .int .i64 a.2.1, .int .i64 a.2.2] 51)))
          have HT : Hid (l.take (i + 1) = l.take i ++ [a]) := Lib.hid (by rw [List.take_add_one, ha]; rfl)
          clear ha hmem
          by_cases he : a.1 = tnew
          · have t1 : (a.1.toList == [110, 101, 119]) = true := by rw [newEq]; exact decide_eq_true he
            clear he
            go_wp2_with fail
            refine (HAW.out _).mono ?_
            rintro e w9 ⟨rfl, b9⟩
            have HB9 := Lib.hid (HB2.out.step_bel b9).bel
            clear b9
            go_wp2_with fail
            go_ret
            exact ⟨rfl, HB9.out⟩
          · have t1 : (a.1.toList == [110, 101, 119]) = false := by rw [newEq]; exact decide_eq_false he
            have HA2 : Hid (∀ a ∈ l.take (i + 1), a.1 ≠ tnew) := Lib.hid (fun a' ha' => by
              rw [HT.out] at ha'
              rcases List.mem_append.1 ha' with h | h
              · exact HA.out a' h
              · simp at h; subst h; exact he)
            clear he
            go_wp2_with fail
            go_roundw
            case rel => exact ⟨i + 1, by omega, by go_num, HA2, HB2.out⟩
            case measure => simp [intOf]; omega
        · obtain rfl : i = ln := by omega
          have hno := HA.out
          rw [HEND.out] at hno
          have HN0 := Lib.hid (HNO.out hno)
          clear hno HA HNO
          have WI := Lib.hid (h_width HH.out.drew (i := 2) rfl)
          have sd := HSC.out _ _ HH.out.drew rfl rfl rfl
          cases hright : rightS pe bk wd now with
          | false =>
            rw [hright] at HRI
            go_wp2_with fail
            refine wp_region_held_drew (S := fun X => X.cell? ⟨N, 0, none⟩ = some (.int .i64 pe) ∧ X.cell? ⟨N, 1, none⟩ = some (.int .i64 bk) ∧ X.cell? ⟨N1, 0, none⟩ = some (.int .i64 now) ∧ X.cell? ⟨M, 0, none⟩ = some (.pointer (some ⟨p, 0, none⟩))) (by kernel_rfl) sd (fun hHeld => ?_)
            refine take_at (i := 0) (v := ?_) (some 39) rfl rfl (by kernel_rfl) (by kernel_rfl) (by kernel_rfl) (fun _ _ _ h => h) (by rfl) ?_ (by assumption) ?_
            rotate_left
            · intro w hSw
              (try dsimp only at hSw)
              go_simp
              try (with_reducible rfl)
            (try simp only [Act.put, List.setIfInBounds_toArray, List.set_cons_zero, List.set_cons_succ])
            refine take_at (i := 1) (v := ?_) (some 40) rfl rfl (by kernel_rfl) (by kernel_rfl) (by kernel_rfl) (fun _ _ _ h => h) (by rfl) ?_ (by assumption) ?_
            rotate_left
            · intro w hSw
              (try dsimp only at hSw)
              go_simp
              try (with_reducible rfl)
            (try simp only [Act.put, List.setIfInBounds_toArray, List.set_cons_zero, List.set_cons_succ])
            refine take_at (i := 3) (v := ?_) (some 42) rfl rfl (by kernel_rfl) (by kernel_rfl) (by kernel_rfl) (fun _ _ _ h => h) (by rfl) ?_ (by assumption) ?_
            rotate_left
            · intro w hSw
              (try dsimp only at hSw)
              go_simp
              try (with_reducible rfl)
            (try simp only [Act.put, List.setIfInBounds_toArray, List.set_cons_zero, List.set_cons_succ])
            refine call_at (i := 2) (by kernel_rfl) rfl (fun K hK => ?_)
            go_simp
            refine WI.out.mono ?_
            rintro e wx' ⟨rfl, rfl⟩
            (try go_wp2_with fail)
            refine hK.out _ _ sd (fun hHeld => ?_)
            clear hK K
            (try simp only [Act.put, List.setIfInBounds_toArray, List.set_cons_zero, List.set_cons_succ])
            refine call_at (i := 4) (by kernel_rfl) rfl (fun K hK => ?_)
            go_simp
            refine (HRI.out _).mono ?_
            rintro e w5 ⟨rfl, b5⟩
            have h5 := HH.out.drew.step_bel b5
            have H5 := Lib.hid h5
            have hS5 := HSC.out _ _ h5 rfl rfl rfl
            clear h5 b5
            (try go_wp2_with fail)
            refine hK.out _ _ hS5 (fun hHeld => ?_)
            clear hK K
            (try simp only [Act.put, List.setIfInBounds_toArray, List.set_cons_zero, List.set_cons_succ])
            refine take_at (i := 5) (v := ?_) (some 44) rfl rfl (by kernel_rfl) (by kernel_rfl) (by kernel_rfl) (fun _ _ _ h => h) (by rfl) ?_ (by assumption) ?_
            rotate_left
            · intro w hSw
              (try dsimp only at hSw)
              go_simp
              try (with_reducible rfl)
            (try simp only [Act.put, List.setIfInBounds_toArray, List.set_cons_zero, List.set_cons_succ])
            refine take_at (i := 6) (v := ?_) (some 45) rfl rfl (by kernel_rfl) (by kernel_rfl) (by kernel_rfl) (fun _ _ _ h => h) (by rfl) ?_ (by assumption) ?_
            rotate_left
            · intro w hSw
              (try dsimp only at hSw)
              go_simp
              try (with_reducible rfl)
            (try simp only [Act.put, List.setIfInBounds_toArray, List.set_cons_zero, List.set_cons_succ])
            refine skip_at (i := 7) (some 46) rfl rfl (by kernel_rfl) (by kernel_rfl) (by kernel_rfl) (fun _ _ _ h => h) (by rfl) (by assumption) ?_
            (try simp only [Act.put, List.setIfInBounds_toArray, List.set_cons_zero, List.set_cons_succ])
            refine skip_at (i := 8) (some 47) rfl rfl (by kernel_rfl) (by kernel_rfl) (by kernel_rfl) (fun _ _ _ h => h) (by rfl) (by assumption) ?_
            (try simp only [Act.put, List.setIfInBounds_toArray, List.set_cons_zero, List.set_cons_succ])
            refine skip_at (i := 9) (some 48) rfl rfl (by kernel_rfl) (by kernel_rfl) (by kernel_rfl) (fun _ _ _ h => h) (by rfl) (by assumption) ?_
            (try simp only [Act.put, List.setIfInBounds_toArray, List.set_cons_zero, List.set_cons_succ])
            refine skip_at (i := 10) (some 49) rfl rfl (by kernel_rfl) (by kernel_rfl) (by kernel_rfl) (fun _ _ _ h => h) (by rfl) (by assumption) ?_
            (try simp only [Act.put, List.setIfInBounds_toArray, List.set_cons_zero, List.set_cons_succ])
            refine pass_at (i := 11) (some 50) (by kernel_rfl) rfl rfl (by rfl) hS5 ?_
            (try simp only [Act.put, List.setIfInBounds_toArray, List.set_cons_zero, List.set_cons_succ])
            refine skip_at (i := 12) (some 51) rfl rfl (by kernel_rfl) (by kernel_rfl) (by kernel_rfl) (fun _ _ _ h => h) (by rfl) (by assumption) ?_
            (try simp only [Act.put, List.setIfInBounds_toArray, List.set_cons_zero, List.set_cons_succ])
            refine take_at (i := 13) (v := ?_) (some 52) rfl rfl (by kernel_rfl) (by kernel_rfl) (by kernel_rfl) (fun _ _ _ h => h) (by rfl) ?_ (by assumption) ?_
            rotate_left
            · intro w hSw
              (try dsimp only at hSw)
              go_simp
              try (with_reducible rfl)
            (try simp only [Act.put, List.setIfInBounds_toArray, List.set_cons_zero, List.set_cons_succ])
            refine wpAnyH_done (by kernel_rfl) ?_ _
            all_goals
              have WI5 := Lib.hid (h_width H5.out.drew (i := 2) rfl)
              have sd5 := HSC.out _ _ H5.out.drew rfl rfl rfl
              clear hS5 sd WI
              go_wp2_with fail
              go_region_held3 (fun X => X.cell? ⟨N, 0, none⟩ = some (.int .i64 pe) ∧ X.cell? ⟨N, 1, none⟩ = some (.int .i64 bk) ∧ X.cell? ⟨N1, 0, none⟩ = some (.int .i64 now) ∧ X.cell? ⟨M, 0, none⟩ = some (.pointer (some ⟨p, 0, none⟩))) (first | assumption | go_keep)
                (first
                  | (go_at_call 18
                     (with_reducible refine WI5.out.mono ?_)
                     rintro e wx' ⟨rfl, rfl⟩)
                  | (go_at_call 17
                     (with_reducible refine (HRI.out _).mono ?_)
                     rintro e w6 ⟨rfl, b6⟩
                     have h6 := H5.out.drew.step_bel b6
                     have H6 := Lib.hid h6
                     have hS6 := HSC.out _ _ h6 rfl rfl rfl
                     clear h6 b6)
                  | (go_at_call 9
                     (with_reducible refine (HAW.out _).mono ?_)
                     rintro e w7 ⟨rfl, b7⟩
                     have h7 := H6.out.step_bel b7
                     have H7 := Lib.hid h7
                     have hS7 := HSC.out _ _ h7 rfl rfl rfl
                     clear h7 b7)
                  | fail)
              go_wp2_with fail
              go_ret
              exact ⟨rfl, H7.out.bel⟩
          | true =>
            rw [hright] at HRI
            have HRT := Lib.hid hright
            obtain ⟨_, r7, r8⟩ := (rightS_iff _ _ _ _).1 hright
            have hmay : mayAdd tnew now n A.length = true := by
              simp only [mayAdd, Bool.and_eq_true, decide_eq_true_eq]
              exact ⟨⟨⟨⟨⟨⟨by decide, by decide⟩, r7⟩, r8⟩, by omega⟩, by omega⟩, by omega⟩
            have HMAY := Lib.hid hmay
            clear hright hmay
            go_wp2_with fail
            go_region_held3 (fun X => X.cell? ⟨N, 0, none⟩ = some (.int .i64 pe) ∧ X.cell? ⟨N, 1, none⟩ = some (.int .i64 bk) ∧ X.cell? ⟨N1, 0, none⟩ = some (.int .i64 now) ∧ X.cell? ⟨M, 0, none⟩ = some (.pointer (some ⟨p, 0, none⟩))) (first | assumption | go_keep)
              (first
                | (go_at_call 18
                   (with_reducible refine WI.out.mono ?_)
                   rintro e wx' ⟨rfl, rfl⟩)
                | (go_at_call 17
                   (with_reducible refine (HRI.out _).mono ?_)
                   rintro e w5 ⟨rfl, b5⟩
                   have h5 := HH.out.drew.step_bel b5
                   have hS5 := HSC.out _ _ h5 rfl rfl rfl
                   have had := h_add h5 (i := 2) rfl tnew now n (by decide) h4 (by unfold I64; omega)
                   rw [HMAY.out] at had
                   have AD := Lib.hid had
                   clear h5 b5 had)
                | (go_at_call 24
                   (with_reducible refine AD.out.mono ?_)
                   rintro e w6 ⟨rfl, h6⟩
                   have hto : addTo wd A.length A tnew now n = ((A.length : Int) + 1, A ++ [(tnew, now / wd, n)]) := by unfold addTo; rw [HMAY.out]; rfl
                   rw [hto] at h6
                   have h6' : Here K44 w w6 [.box N [.int .i64 pe, .int .i64 bk] 23, .box N1 [.int .i64 now] 3, .pane p wd ((A.length : Int) + 1) (A ++ [(tnew, now / wd, n)]), .box M [.pointer (some ⟨p, 0, none⟩)] 35] := h6
                   have H6 := Lib.hid h6'
                   have hS6 := HSC.out _ _ h6' rfl rfl rfl
                   clear h6 h6' hto)
                | fail)
            clear sd WI AD hS5
            have s6 := HSC.out _ _ H6.out rfl rfl rfl
            clear hS6
            have hn2 : n ≤ n := Int.le_refl n
            have FO := Lib.hid (found_any H6.out (i := 2) p M N N1 pe bk now n 0 rfl HRT.out HN0.out hn1 hA1 (by unfold I64; omega) h1 h2 h4 s6.2.2.2 s6.1 s6.2.1 s6.2.2.1)
            rw [decide_eq_true (show (0 : Int) ≤ n by omega)] at FO
            go_wp2_with fail
            refine FO.out.mono ?_
            rintro e w7 ⟨rfl, bw7⟩
            have Hw7 := Lib.hid (H6.out.step_bel bw7)
            have sw7 := HSC.out _ _ Hw7.out rfl rfl rfl
            clear bw7 FO s6 H6
            have FO := Lib.hid (found_any Hw7.out (i := 2) p M N N1 pe bk now n n rfl HRT.out HN0.out hn1 hA1 (by unfold I64; omega) h1 h2 h4 sw7.2.2.2 sw7.1 sw7.2.1 sw7.2.2.1)
            rw [decide_eq_true hn2] at FO
            go_wp2_with fail
            refine FO.out.mono ?_
            rintro e w8 ⟨rfl, bw8⟩
            have Hw8 := Lib.hid (Hw7.out.step_bel bw8)
            have sw8 := HSC.out _ _ Hw8.out rfl rfl rfl
            clear bw8 FO sw7 Hw7
            have FO := Lib.hid (found_any Hw8.out (i := 2) p M N N1 pe bk now n (n + 1) rfl HRT.out HN0.out hn1 hA1 (by unfold I64; omega) h1 h2 h4 sw8.2.2.2 sw8.1 sw8.2.1 sw8.2.2.1)
            rw [decide_eq_false (show ¬ n + 1 ≤ n by omega)] at FO
            go_wp2_with fail
            refine FO.out.mono ?_
            rintro e w9 ⟨rfl, bw9⟩
            have Hw9 := Lib.hid (Hw8.out.step_bel bw9)
            have sw9 := HSC.out _ _ Hw9.out rfl rfl rfl
            clear bw9 FO sw8 Hw8
            go_wp2_with fail
            refine (HAW.out _).mono ?_
            rintro e wz ⟨rfl, b9⟩
            have HB9 := Lib.hid (Hw9.out.step_bel b9).bel
            clear b9
            go_wp2_with fail
            go_ret
            exact ⟨rfl, HB9.out⟩

theorem own : ownKnob Try.prog.godebug = none := by kernel_rfl
theorem laidOut : laidOutB Try.prog = true := by kernel_rfl

set_option maxRecDepth 100000 in
theorem lifted (os : Os) (started : os.Started) (H : Type) (enc : TypeId × Value → H) :
    ReturnsInHanded {} Try.checked os 8 .any (Rows.seasonFirstSpec.pre6 enc Try.prog Try.f8 Rows.seasonFirstRow.domain false) (Rows.seasonFirstSpec.post enc Try.prog Try.f8 false true false false) := by
  refine returnsInHanded_of_change (C := Try.checked) own started (by kernel_rfl) Try.func8
    (ChangeSpec.witness6 (enc := enc) (C := Try.checked) false ⟨#[], #[.int .i64 0, .slice none 0 0, .agg #[.int .i64 0, .int .i64 0], .int .i64 0, .int .u8 0], []⟩ 8 (by kernel_rfl) (by kernel_rfl) (by kernel_rfl) (by kernel_rfl)) ?_
  intro W base args ds gs before hval0 hW hcnd _
  have hval : ∀ (j : Nat) t v, Try.f8.params[j]? = some t → args[j]? = some v → Value.okWide Try.prog W .any base t v := hval0
  have hW' := hW
  obtain ⟨p, q, hA0, hV, rfl, hfz, hnd⟩ := hW
  have hA : DataW.TrodAll enc Try.prog W 0 (fun _ => true) true Try.f8.params.toList args.toList ds p := hA0
  rw [Try.params8] at hA hval
  obtain ⟨v0, vs0, d0, ds0, p0, q0, hargs, rfl, rfl, h0, r0⟩ := trodAll_cons hA
  obtain ⟨v1, vs1, d1, ds1, p1, q1, rfl, rfl, rfl, h1, r1⟩ := trodAll_cons r0
  obtain ⟨v2, vs2, d2, ds2, p2, q2, rfl, rfl, rfl, h2, r2⟩ := trodAll_cons r1
  obtain ⟨v3, vs3, d3, ds3, p3, q3, rfl, rfl, rfl, h3, r3⟩ := trodAll_cons r2
  obtain ⟨v4, vs4, d4, ds4, p4, q4, rfl, rfl, rfl, h4, r4⟩ := trodAll_cons r3
  obtain ⟨rfl, rfl, rfl⟩ := trodAll_nil r4
  obtain rfl : args = #[v0, v1, v2, v3, v4] := by cases args; simp_all
  obtain ⟨rfl, rfl⟩ := trodVars_none hV
  have k0 := h0
  have lt0 : ∀ x ∈ p0, x.block < W.heap.size := by obtain ⟨m, hm⟩ := k0; exact DataW.trod_lt m _ _ _ hm
  obtain ⟨a0, rfl, rfl, rfl, w0⟩ := open_int Try.underlying3 (hval 0 3 v0 rfl rfl) h0
  have k1 := h1
  have lt1 : ∀ x ∈ p1, x.block < W.heap.size := by obtain ⟨m, hm⟩ := k1; exact DataW.trod_lt m _ _ _ hm
  obtain ⟨b1, c1, x1, rfl, l1, m1, i1, o1⟩ := open_adds (hval 1 33 v1 rfl rfl) h1
  have k2 := h2
  have lt2 : ∀ x ∈ p2, x.block < W.heap.size := by obtain ⟨m, hm⟩ := k2; exact DataW.trod_lt m _ _ _ hm
  obtain ⟨c20, c21, y20, y21, m2, rfl, hd2, hp2, hy20, hy21⟩ := open_agg2 Try.underlying23 (by kernel_rfl) (by kernel_rfl) (hval 2 23 v2 rfl rfl) h2
  obtain ⟨a2, e20, _, w20⟩ := DataW.trod_int Try.underlying3 hy20
  obtain ⟨b2, e21, _, w21⟩ := DataW.trod_int Try.underlying3 hy21
  simp at e20 e21
  subst e20 e21
  have k3 := h3
  have lt3 : ∀ x ∈ p3, x.block < W.heap.size := by obtain ⟨m, hm⟩ := k3; exact DataW.trod_lt m _ _ _ hm
  obtain ⟨a3, rfl, rfl, rfl, w3⟩ := open_int Try.underlying3 (hval 3 3 v3 rfl rfl) h3
  have k4 := h4
  have lt4 : ∀ x ∈ p4, x.block < W.heap.size := by obtain ⟨m, hm⟩ := k4; exact DataW.trod_lt m _ _ _ hm
  obtain ⟨a4, rfl, rfl, rfl, w4⟩ := open_int Try.underlying5 (hval 4 5 v4 rfl rfl) h4
  clear hA0 hval0
  refine (walk W a0 w0 b1 c1 x1 l1 m1 i1 o1 a2 b2 w20 w21 a3 w3 a4 w4).mono fun e W' ⟨he, bel⟩ => ?_
  subst he
  exact ⟨_, rfl, _, _, _, [], _, [], hW', trodAll_mk1 (shut_bool Try.underlying4 _), (trodAll_cons_mk (Below.trod laidOut (by kernel_rfl) (of_decide_eq_true (by kernel_rfl)) k0 bel lt0) (trodAll_cons_mk (Below.trod laidOut (by kernel_rfl) (of_decide_eq_true (by kernel_rfl)) k1 bel lt1) (trodAll_cons_mk (Below.trod laidOut (by kernel_rfl) (of_decide_eq_true (by kernel_rfl)) k2 bel lt2) (trodAll_cons_mk (Below.trod laidOut (by kernel_rfl) (of_decide_eq_true (by kernel_rfl)) k3 bel lt3) (trodAll_cons_mk (Below.trod laidOut (by kernel_rfl) (of_decide_eq_true (by kernel_rfl)) k4 bel lt4) trodAll_mk0))))), rfl, bel.frame _, fun h => by cases h⟩

theorem over : Rows.seasonFirstRow.holds Try.pinned (OpenSpec.ofChange Rows.seasonFirstSpec) :=
  OpenClaim.holds_of_wide 8 Try.f8 rfl rfl rfl rfl rfl rfl rfl ⟨rfl, rfl, rfl, rfl, rfl⟩ rfl rfl rfl rfl rfl (by kernel_rfl) Try.func8 (by kernel_rfl)
    (of_decide_eq_true (by kernel_rfl)) (by unfold Func.isWrapper; first | (rw [if_pos (by decide +kernel)]; kernel_rfl) | (rw [if_neg (by decide +kernel)]; exact ⟨rfl, rfl⟩))
    (fun os started H enc _ => lifted os started H enc)

theorem proved : Rows.SeasonFirstSaid := over
#print axioms proved
end Go.Proofs.Ytlmonbclloamiaa.seasonFirst

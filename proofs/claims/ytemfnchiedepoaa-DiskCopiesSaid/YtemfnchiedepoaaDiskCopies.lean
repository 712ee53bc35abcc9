/- For every input ciceronelaw04.DiskCopies returns true, and its arguments read behind the call as before. No conditions. -/
import Derived.Test.YtemfnchiedepoaaRfPlay
import Derived.Test.YtemfnchiedepoaaRows
import Derived.ProofKit
import Derived.OpenShut
import Derived.ShutString
import Derived.ChangeOld
import Derived.Below
import Derived.Lib.SmallJoins
namespace Go.Proofs.Ytemfnchiedepoaa.diskCopies
open Go.ChangeShapes Go.WideShapes Go.ChangeAt Go.RowKit Go.Joins
open Go.ChangeMaps (open_string shut_string)
set_option linter.unusedVariables false

theorem ok_bel {w w' : World} {a : OpD} (h : OpOk w a) (hb : Below w.heap.size w w') : OpOk w' a := ⟨h.kind, h.n, h.name, h.s, h.kl, h.kc, InW.bel h.kin hb, h.kx⟩
abbrev cpOs (a : Ob) (x : Nat) (u : Value) (fu : Int) (dn : Bool) (d : Nat) (L : Fs) : List Ob :=
  [a, .box x [u, .int .i64 fu, .bool dn] 48, .disk d ⟨L, fu, dn⟩, .row u 80 4 L.length (L.flatMap flC)]
theorem h_step2 {w0 w w' : World} {a : Ob} {x : Nat} {u u' : Value} {fu : Int} {dn : Bool} {d : Nat} {L L' : Fs} {o : Ob} (h : Here K04 w0 w (cpOs a x u fu dn d L ++ [o])) (hb : Below w.heap.size w w') (hs : (u' = u ∧ L' = L) ∨ MkG 80 4 flC w w' u' L') :
    Here K04 w0 w' [a, .box x [u, .int .i64 fu, .bool dn] 48, .disk d ⟨L, fu, dn⟩, .row u' 80 4 L'.length (L'.flatMap flC), o] := by
  rcases hs with ⟨rfl, rfl⟩ | hm
  · exact h.step_bel hb
  · have h2 := h_row h hm.bl hm.tx hm.nw
    refine h2.pick (fun i => if i = 3 then 5 else i) (fun i j hi hj e => ?_) (fun i o' hi => ?_)
    · simp at hi hj e
      split at e <;> split at e <;> omega
    · match i, hi with
      | 0, hi => exact hi
      | 1, hi => exact hi
      | 2, hi => exact hi
      | 3, hi => exact hi
      | 4, hi => exact hi
set_option maxRecDepth 100000 in
set_option maxHeartbeats 8000000 in
theorem walk (w : World) (b : Option Addr) (cap : Nat) (l : List OpD) (hlc : l.length ≤ cap) (hm : cap ≤ maxLen) (hi : InW w b 5 (l.map opC)) (ho : ∀ a ∈ l, OpOk w a)
    (bb : Option Addr) (cap2 : Nat) (more : List OpD) (hlc2 : more.length ≤ cap2) (hm2 : cap2 ≤ maxLen) (hi2 : InW w bb 5 (more.map opC)) (ho2 : ∀ a ∈ more, OpOk w a) :
    Calls Try.prog 9 #[.slice b l.length cap, .slice bb more.length cap2] w fun e w' => e = .returned (.bool true) ∧ Below w.heap.size w w' := by
  have AW := Lib.hid (fun W => awake_any W)
  have HL := Lib.hid (long_any b cap l w hi hm hlc ho)
  have HL2 : Hid (∀ W, Below w.heap.size w W → Calls Try.prog 21 #[.slice bb more.length cap2] W fun e w' => e = .returned (.bool (longB more)) ∧ Below W.heap.size W w') := Lib.hid (fun W hb => long_any bb cap2 more W (InW.bel hi2 hb) hm2 hlc2 (fun a ha => ok_bel (ho2 a ha) hb))
  obtain ⟨X, hX⟩ : ∃ X, playL l = X := ⟨_, rfl⟩
  have HPL : Hid (longB l = false → ∀ W, Below w.heap.size w W → Calls Try.prog 23 #[.slice b l.length cap] W fun e w' => ∃ d u, e = .returned (.tuple #[.pointer (some ⟨d, 0, none⟩), .agg #[u, .int .i64 X.fuse, .bool X.down]]) ∧ Here K04 W w' [.disk d X, .row u 80 4 X.L.length (X.L.flatMap flC)]) := Lib.hid (fun hlo W hb => play_any b cap l W (InW.bel hi hb) hm hlc (fun a ha => ok_bel (ho a ha) hb) hlo X hX _ rfl)
  have HLG : Hid (longB more = false → more.length ≤ 60 ∧ ∀ o ∈ more, o.name.size ≤ 100 ∧ o.s.size ≤ 200 ∧ o.keep.length ≤ 20) := Lib.hid (fun h => long_of h)
  have HIW := Lib.hid hi2
  have HO := Lib.hid ho2
  unfold maxLen at hm hm2
  clear hi ho hX hi2 ho2
  generalize l.length = n at *
  generalize hmn : more.length = ln at *
  have Hn := Lib.hid hmn
  clear hmn
  cases hlong : longB l with
  | true =>
    rw [hlong] at HL
    clear hlong HPL HL2 HLG
    go_enter Try.func9, Try.ntmps9
    go_wp2_with fail
    refine HL.out.mono ?_
    rintro e w1 ⟨rfl, b1⟩
    have B1 := Lib.hid b1
    clear b1 HL
    go_wp2_with fail
    refine (AW.out _).mono ?_
    rintro e w7 ⟨rfl, b7⟩
    have HB := Lib.hid (B1.out.trans (b7.mono B1.out.size))
    clear b7
    go_wp2_with fail
    go_ret
    exact ⟨rfl, HB.out⟩
  | false =>
    rw [hlong] at HL
    cases hlong2 : longB more with
    | true =>
      rw [hlong2] at HL2
      clear hlong HPL hlong2 HLG
      go_enter Try.func9, Try.ntmps9
      go_wp2_with fail
      refine HL.out.mono ?_
      rintro e w1 ⟨rfl, b1⟩
      have HL3 := Lib.hid (HL2.out w1 b1)
      have B1 := Lib.hid b1
      clear b1 HL HL2
      go_wp2_with fail
      refine HL3.out.mono ?_
      rintro e w2 ⟨rfl, b2⟩
      have B2 := Lib.hid (B1.out.trans (b2.mono B1.out.size))
      clear b2 HL3
      go_wp2_with fail
      refine (AW.out _).mono ?_
      rintro e w7 ⟨rfl, b7⟩
      have HB := Lib.hid (B2.out.trans (b7.mono B2.out.size))
      clear b7
      go_wp2_with fail
      go_ret
      exact ⟨rfl, HB.out⟩
    | false =>
      rw [hlong2] at HL2
      obtain ⟨hl60, hlg⟩ := HLG.out hlong2
      have HLO := Lib.hid hlg
      clear hlg HLG hlong2
      go_enter Try.func9, Try.ntmps9
      go_wp2_with fail
      refine HL.out.mono ?_
      rintro e w1 ⟨rfl, b1⟩
      have HL3 := Lib.hid (HL2.out w1 b1)
      have B1 := Lib.hid b1
      clear b1 HL HL2
      go_wp2_with fail
      refine HL3.out.mono ?_
      rintro e w2 ⟨rfl, b2⟩
      have B2 := Lib.hid (B1.out.trans (b2.mono B1.out.size))
      have HP := Lib.hid (HPL.out hlong w2 B2.out)
      clear b2 HL3 HPL hlong B1
      go_wp2_with fail
      refine HP.out.mono ?_
      rintro e w3 ⟨d, u, rfl, h3⟩
      obtain ⟨ub, uc, hu, huc, _, _⟩ := h_rowIn h3 (i := 1) rfl
      obtain ⟨L0, fu0, dn0⟩ := X
      obtain ⟨al, hal⟩ : ∃ al, al = L0.length := ⟨_, rfl⟩
      simp only at hu
      rw [← hal] at hu
      subst hu
      have H3 := Lib.hid (h_box h3 [.slice ub al uc, .int .i64 fu0, .bool dn0] 48)
      have HAL := Lib.hid hal
      have HCP := Lib.hid (h_copy H3.out (i := 0) rfl)
      clear h3 hal huc HP
      go_wp2_with fail
      refine HCP.out.mono ?_
      rintro e w4 ⟨c, rfl, h4⟩
      have H4 : Hid (Here K04 w2 w4 (cpOs (.disk d ⟨L0, fu0, dn0⟩) w3.heap.size (.slice ub al uc) fu0 dn0 c L0)) := Lib.hid (by
        refine h4.pick (fun i => if i = 1 then 2 else if i = 2 then 3 else if i = 3 then 1 else i) (fun i j hi hj e => ?_) (fun i o' hi => ?_)
        · simp at hi hj e
          have hi' : i = 0 ∨ i = 1 ∨ i = 2 ∨ i = 3 := by omega
          have hj' : j = 0 ∨ j = 1 ∨ j = 2 ∨ j = 3 := by omega
          rcases hi' with rfl | rfl | rfl | rfl <;> rcases hj' with rfl | rfl | rfl | rfl <;> simp at e ⊢
        · match i, hi with
          | 0, hi => exact hi
          | 1, hi => exact hi
          | 2, hi => exact hi
          | 3, hi => exact hi)
      clear h4 HCP H3
      go_wp2_with fail
      go_loopw [34] (fun c0 wr => ∃ (i : Nat) (Y : Dk), i ≤ ln ∧ c0 = .int .i64 i ∧ Here K04 w2 wr (cpOs (.disk d Y) w3.heap.size (.slice ub al uc) fu0 dn0 c L0)) (fun c0 _ => ln - (intOf c0).toNat)
      case atStart => exact ⟨0, _, by omega, rfl, H4.out⟩
      case round =>
        obtain ⟨i, Y, hi, rfl, hH⟩ := hrel
        have HH := Lib.hid hH
        clear H4
        by_cases hlt : i < ln
        · clear hH
          obtain ⟨q, hq⟩ : ∃ p, more[i]? = some p := ⟨more[i]'(by rw [Hn.out]; exact hlt), List.getElem?_eq_getElem _⟩
          have hmem := List.mem_of_getElem? hq
          have hoq := HO.out q hmem
          obtain ⟨o1, o2, o3⟩ := HLO.out q hmem
          obtain ⟨B, off, rfl, hB, d0', d1', d2', d3', d4'⟩ := ops_at HIW.out hq
          have hBB : Below w.heap.size w wr := B2.out.trans (HH.out.bel.mono B2.out.size)
          have c0 := (hBB.cell (p := ⟨B, off + i * 5, none⟩) hB).trans d0'
          have c1 := (hBB.cell (p := ⟨B, off + i * 5 + 1, none⟩) hB).trans d1'
          have c2 := (hBB.cell (p := ⟨B, off + i * 5 + 2, none⟩) hB).trans d2'
          have c3 := (hBB.cell (p := ⟨B, off + i * 5 + 3, none⟩) hB).trans d3'
          have c4 := (hBB.cell (p := ⟨B, off + i * 5 + 4, none⟩) hB).trans d4'
          have hi0 : (0 : Int) ≤ (i : Int) := by omega
          have hi1 : (i : Int) < (ln : Int) := by omega
          have HKX := Lib.hid hoq.kx
          have HKI := Lib.hid (InW.bel hoq.kin B2.out)
          have hqn := hoq.n
          have hqk := hoq.kind
          unfold I64 at hqk
          have H1 := Lib.hid (h_box HH.out [.int .i64 q.kind, .int .i64 q.n, .string q.name, .string q.s, .slice q.kb q.keep.length q.kc] 43)
          clear hq d0' d1' d2' d3' d4' hoq hBB hmem
          obtain ⟨qk, qn, qm, qs, qe, qb, qc⟩ := q
          simp only at o1 o2 o3 c0 c1 c2 c3 c4 hqn HKX HKI H1 hqk
          obtain ⟨kl, hkl⟩ : ∃ kl, kl = qe.length := ⟨_, rfl⟩
          rw [← hkl] at c4 H1 o3
          have HKL := Lib.hid hkl
          clear hkl
          by_cases k1 : qk = 1
          · subst k1
            have HDO := Lib.hid (h_do H1.out (i := 0) rfl ⟨1, qn, qm, qs, qe, qb, qc⟩ (by simp only; omega) (by simp only; omega) kl)
            go_wp2_with fail
            refine HDO.out.mono ?_
            rintro e w5 ⟨rfl, h5⟩
            have H5 : Hid (Here K04 w2 w5 (cpOs (.disk d (doD Y ⟨1, qn, qm, qs, qe, qb, qc⟩).1) w3.heap.size (.slice ub al uc) fu0 dn0 c L0)) := Lib.hid (h_five h5)
            clear HDO h5 H1 HH
            go_wp2_with fail
            go_roundw
            case rel => exact ⟨i + 1, _, by omega, by go_num, H5.out⟩
            case measure => simp [intOf]; omega
          have t1 : (qk == 1) = false := by simpa using k1
          by_cases k2 : qk = 2
          · subst k2
            have HDO := Lib.hid (h_do H1.out (i := 0) rfl ⟨2, qn, qm, qs, qe, qb, qc⟩ (by simp only; omega) (by simp only; omega) kl)
            go_wp2_with fail
            refine HDO.out.mono ?_
            rintro e w5 ⟨rfl, h5⟩
            have H5 : Hid (Here K04 w2 w5 (cpOs (.disk d (doD Y ⟨2, qn, qm, qs, qe, qb, qc⟩).1) w3.heap.size (.slice ub al uc) fu0 dn0 c L0)) := Lib.hid (h_five h5)
            clear HDO h5 H1 HH
            go_wp2_with fail
            go_roundw
            case rel => exact ⟨i + 1, _, by omega, by go_num, H5.out⟩
            case measure => simp [intOf]; omega
          have t2 : (qk == 2) = false := by simpa using k2
          by_cases k3 : qk = 3
          · subst k3
            have HDO := Lib.hid (h_do H1.out (i := 0) rfl ⟨3, qn, qm, qs, qe, qb, qc⟩ (by simp only; omega) (by simp only; omega) kl)
            go_wp2_with fail
            refine HDO.out.mono ?_
            rintro e w5 ⟨rfl, h5⟩
            have H5 : Hid (Here K04 w2 w5 (cpOs (.disk d (doD Y ⟨3, qn, qm, qs, qe, qb, qc⟩).1) w3.heap.size (.slice ub al uc) fu0 dn0 c L0)) := Lib.hid (h_five h5)
            clear HDO h5 H1 HH
            go_wp2_with fail
            go_roundw
            case rel => exact ⟨i + 1, _, by omega, by go_num, H5.out⟩
            case measure => simp [intOf]; omega
          have t3 : (qk == 3) = false := by simpa using k3
          by_cases k4 : qk = 4
          · subst k4
            have HDO := Lib.hid (h_do H1.out (i := 0) rfl ⟨4, qn, qm, qs, qe, qb, qc⟩ (by simp only; omega) (by simp only; omega) kl)
            go_wp2_with fail
            refine HDO.out.mono ?_
            rintro e w5 ⟨rfl, h5⟩
            have H5 : Hid (Here K04 w2 w5 (cpOs (.disk d (doD Y ⟨4, qn, qm, qs, qe, qb, qc⟩).1) w3.heap.size (.slice ub al uc) fu0 dn0 c L0)) := Lib.hid (h_five h5)
            clear HDO h5 H1 HH
            go_wp2_with fail
            go_roundw
            case rel => exact ⟨i + 1, _, by omega, by go_num, H5.out⟩
            case measure => simp [intOf]; omega
          have t4 : (qk == 4) = false := by simpa using k4
          by_cases k5 : qk = 5
          · subst k5
            have HCR := Lib.hid (h_crash H1.out (i := 0) rfl (Below.refl _ _) qe HKX.out (by have := HKL.out; omega) qb qc (InW.bel HKI.out H1.out.bel) (IntIn.old HKI.out _) kl HKL.out)
            go_wp2_with fail
            refine HCR.out.mono ?_
            rintro e w5 ⟨rfl, h5⟩
            have H5 : Hid (Here K04 w2 w5 (cpOs (.disk d (crashD Y qe)) w3.heap.size (.slice ub al uc) fu0 dn0 c L0)) := Lib.hid (h_five h5)
            clear HCR h5 H1 HH
            go_wp2_with fail
            go_roundw
            case rel => exact ⟨i + 1, _, by omega, by go_num, H5.out⟩
            case measure => simp [intOf]; omega
          have t5 : (qk == 5) = false := by simpa using k5
          by_cases k6 : qk = 6
          · subst k6
            have HCR := Lib.hid (h_arm H1.out (i := 0) rfl qn hqn)
            go_wp2_with fail
            refine HCR.out.mono ?_
            rintro e w5 ⟨rfl, h5⟩
            have H5 : Hid (Here K04 w2 w5 (cpOs (.disk d (armD Y qn)) w3.heap.size (.slice ub al uc) fu0 dn0 c L0)) := Lib.hid (h_five h5)
            clear HCR h5 H1 HH
            go_wp2_with fail
            go_roundw
            case rel => exact ⟨i + 1, _, by omega, by go_num, H5.out⟩
            case measure => simp [intOf]; omega
          have t6 : (qk == 6) = false := by simpa using k6
          have H5 : Hid (Here K04 w2 (wr.alloc (.cells #[.int .i64 qk, .int .i64 qn, .string qm, .string qs, .slice qb kl qc] 43)) (cpOs (.disk d Y) w3.heap.size (.slice ub al uc) fu0 dn0 c L0)) := Lib.hid (h_five H1.out)
          clear H1 HH k1 k2 k3 k4 k5 k6
          go_wp2_with fail
          go_roundw
          case rel => exact ⟨i + 1, _, by omega, by go_num, H5.out⟩
          case measure => simp [intOf]; omega
        · obtain rfl : i = ln := by omega
          obtain ⟨vb, vc, hvv, hvc, _, hvin⟩ := h_rowIn hH (i := 3) rfl
          have hvb : vb = ub ∧ vc = uc := by
            simp only [Value.slice.injEq] at hvv
            exact ⟨hvv.1.symm, hvv.2.2.symm⟩
          have HUN := Lib.hid (unlike_same hH (i0 := 2) rfl vb vc al hvin hvc HAL.out)
          rw [hvb.1, hvb.2] at HUN
          clear hvv hvc hvin hvb
          obtain ⟨x0, x1, x2, xf0, xf1, xf2, xl⟩ := box3 hH (i := 1) rfl
          clear hH
          go_wp2_with fail
          refine HUN.out.mono ?_
          rintro e w6 ⟨rfl, h6⟩
          have H6 := Lib.hid h6
          clear h6 HUN HH x0 x1 x2 xf0 xf1 xf2 xl
          go_wp2_with fail
          go_loopw [67] (fun c0 wr => ∃ (j : Nat) (u : Value) (L : Fs) (fu : Int) (dn : Bool), j ≤ i ∧ c0 = .int .i64 j ∧ Here K04 w2 wr (cpOs (.disk d Y) w3.heap.size u fu dn c L)) (fun c0 _ => i - (intOf c0).toNat)
          case atStart => exact ⟨0, _, _, _, _, by omega, rfl, H6.out⟩
          case round =>
            generalize hlni : i = ln at *
            clear hlni
            obtain ⟨i, u, L, fu, dn, hi, rfl, hH⟩ := hrel
            have HH := Lib.hid hH
            clear H6
            obtain ⟨ub2, uc2, hu, huc, hum, hin0⟩ := h_rowIn hH (i := 3) rfl
            have hok := h_ok hH (i := 2) rfl
            obtain ⟨al2, hal2⟩ : ∃ al2, al2 = L.length := ⟨_, rfl⟩
            rw [← hal2] at hu
            subst hu
            obtain ⟨x0, x1, x2, xf0, xf1, xf2, xl⟩ := box3 hH (i := 1) rfl
            have HAL2 := Lib.hid hal2
            have HOK := Lib.hid hok
            have HUC := Lib.hid huc
            clear hin0 hok hum hal2 huc
            by_cases hlt : i < ln
            · clear hH
              obtain ⟨q, hq⟩ : ∃ p, more[i]? = some p := ⟨more[i]'(by rw [Hn.out]; exact hlt), List.getElem?_eq_getElem _⟩
              have hmem := List.mem_of_getElem? hq
              have hoq := HO.out q hmem
              obtain ⟨o1, o2, o3⟩ := HLO.out q hmem
              obtain ⟨B, off, rfl, hB, d0', d1', d2', d3', d4'⟩ := ops_at HIW.out hq
              have hBB : Below w.heap.size w wr := B2.out.trans (HH.out.bel.mono B2.out.size)
              have c0 := (hBB.cell (p := ⟨B, off + i * 5, none⟩) hB).trans d0'
              have c1 := (hBB.cell (p := ⟨B, off + i * 5 + 1, none⟩) hB).trans d1'
              have c2 := (hBB.cell (p := ⟨B, off + i * 5 + 2, none⟩) hB).trans d2'
              have c3 := (hBB.cell (p := ⟨B, off + i * 5 + 3, none⟩) hB).trans d3'
              have c4 := (hBB.cell (p := ⟨B, off + i * 5 + 4, none⟩) hB).trans d4'
              have hi0 : (0 : Int) ≤ (i : Int) := by omega
              have hi1 : (i : Int) < (ln : Int) := by omega
              have HKX := Lib.hid hoq.kx
              have HKI := Lib.hid (InW.bel hoq.kin B2.out)
              have hqn := hoq.n
              have hqk := hoq.kind
              unfold I64 at hqk
              have H1 := Lib.hid (h_box HH.out [.int .i64 q.kind, .int .i64 q.n, .string q.name, .string q.s, .slice q.kb q.keep.length q.kc] 43)
              clear hq d0' d1' d2' d3' d4' hoq hBB hmem
              obtain ⟨qk, qn, qm, qs, qe, qb, qc⟩ := q
              simp only at o1 o2 o3 c0 c1 c2 c3 c4 hqn HKX HKI H1 hqk
              obtain ⟨kl, hkl⟩ : ∃ kl, kl = qe.length := ⟨_, rfl⟩
              rw [← hkl] at c4 H1 o3
              have HKL := Lib.hid hkl
              clear hkl
              by_cases g1 : qk < 1
              · have t3 : decide (qk < 1) = true := decide_eq_true g1
                have H5 : Hid (Here K04 w2 (wr.alloc (.cells #[.int .i64 qk, .int .i64 qn, .string qm, .string qs, .slice qb kl qc] 43)) (cpOs (.disk d Y) w3.heap.size (.slice ub2 al2 uc2) fu dn c L)) := Lib.hid (h_five H1.out)
                clear H1 HH
                go_wp2_with fail
                go_roundw
                case rel => exact ⟨i + 1, _, _, _, _, by omega, by go_num, H5.out⟩
                case measure => simp [intOf]; omega
              have t3 : decide (qk < 1) = false := decide_eq_false g1
              by_cases g2 : 4 < qk
              · have t4 : decide (4 < qk) = true := decide_eq_true g2
                have H5 : Hid (Here K04 w2 (wr.alloc (.cells #[.int .i64 qk, .int .i64 qn, .string qm, .string qs, .slice qb kl qc] 43)) (cpOs (.disk d Y) w3.heap.size (.slice ub2 al2 uc2) fu dn c L)) := Lib.hid (h_five H1.out)
                clear H1 HH
                go_wp2_with fail
                go_roundw
                case rel => exact ⟨i + 1, _, _, _, _, by omega, by go_num, H5.out⟩
                case measure => simp [intOf]; omega
              have t4 : decide (4 < qk) = false := decide_eq_false g2
              have hk4 : qk = 1 ∨ qk = 2 ∨ qk = 3 ∨ qk = 4 := by omega
              have n1 : ¬ w3.heap.size = wr.heap.size := by omega
              have n2 : ¬ wr.heap.size = w3.heap.size := by omega
              obtain ⟨ub', uc', hu', _, _, hin1⟩ := h_rowIn H1.out (i := 3) rfl
              have hub : ub' = ub2 := by
                simp only [Value.slice.injEq] at hu'
                exact hu'.1.symm
              subst hub
              have HST := Lib.hid (rstep_any L fu dn HOK.out qk hk4 qm qs (by omega) (by omega) ub' uc2 al2 _ hin1 HUC.out HAL2.out)
              clear hu' hin1
              go_wp2_with fail
              refine HST.out.mono ?_
              rintro e w5 ⟨u3, rfl, hs3, b3⟩
              have H2 := Lib.hid (h_step2 H1.out b3 hs3)
              have HDE : Hid (doD ⟨L, fu, dn⟩ ⟨qk, qn, qm, qs, qe, qb, qc⟩ = ((stepK ⟨L, fu, dn⟩ qk qm qs).1, (stepK ⟨L, fu, dn⟩ qk qm qs).2)) := Lib.hid rfl
              clear HST hs3 b3 x0 x1 x2 xf0 xf1 xf2 xl c0 c1 c2 c3 c4 H1 HH
              generalize (stepK ⟨L, fu, dn⟩ qk qm qs).2 = kk at *
              generalize (stepK ⟨L, fu, dn⟩ qk qm qs).1 = X2 at *
              obtain ⟨L2, fu2, dn2⟩ := X2
              obtain ⟨b3, c3', hu3, hc3, _, _⟩ := h_rowIn H2.out (i := 3) rfl
              obtain ⟨al3, hal3⟩ : ∃ al3, al3 = L2.length := ⟨_, rfl⟩
              simp only at hu3
              rw [← hal3] at hu3
              subst hu3
              have HAL3 := Lib.hid hal3
              clear hal3 hc3
              obtain ⟨x0, x1, x2, xf0, xf1, xf2, xl⟩ := box3 H2.out (i := 1) rfl
              have H4 := Lib.hid (h_box (h_set3 H2.out (i := 1) rfl (.slice b3 al3 c3') (.int .i64 fu2) (.bool dn2)) [.slice b3 al3 c3', .int .i64 fu2, .bool dn2] 48)
              have HDO := Lib.hid (h_do H4.out (i := 2) rfl ⟨qk, qn, qm, qs, qe, qb, qc⟩ (by simp only; omega) (by simp only; omega) kl)
              rw [HDE.out] at HDO
              have ho := h_boxAt H2.out (i := 4) rfl
              have g0 := ho.cell 0
              have g1' := ho.cell 1
              have g2' := ho.cell 2
              have g3 := ho.cell 3
              have g4 := ho.cell 4
              have gl := ho.lt
              clear ho
              go_wp2_with fail
              refine HDO.out.mono ?_
              rintro e w7 ⟨rfl, h7⟩
              have H7 : Hid (Here K04 w2 w7 (cpOs (.disk d Y) w3.heap.size (.slice b3 al3 c3') fu2 dn2 c L2)) := Lib.hid (h_six h7)
              clear HDO h7 x0 x1 x2 xf0 xf1 xf2 xl g0 g1' g2' g3 g4 gl H4 H2
              go_wp2_with fail
              go_roundw
              case rel => exact ⟨i + 1, _, _, _, _, by omega, by go_num, H7.out⟩
              case measure => simp [intOf]; omega
            · obtain rfl : i = ln := by omega
              obtain ⟨vb, vc, hvv, hvc, _, hvin⟩ := h_rowIn hH (i := 3) rfl
              have hvb : vb = ub2 ∧ vc = uc2 := by
                simp only [Value.slice.injEq] at hvv
                exact ⟨hvv.1.symm, hvv.2.2.symm⟩
              have HUN := Lib.hid (unlike_same hH (i0 := 2) rfl vb vc al2 hvin hvc HAL2.out)
              rw [hvb.1, hvb.2] at HUN
              clear hvv hvc hvin hvb hH
              go_wp2_with fail
              refine HUN.out.mono ?_
              rintro e w8 ⟨rfl, h8⟩
              have H8 := Lib.hid h8
              clear h8 HUN HH x0 x1 x2 xf0 xf1 xf2 xl
              go_wp2_with fail
              refine (AW.out _).mono ?_
              rintro e w9 ⟨rfl, b9⟩
              have HB := Lib.hid (B2.out.trans ((H8.out.step_bel b9).bel.mono B2.out.size))
              clear b9
              go_wp2_with fail
              go_ret
              exact ⟨rfl, HB.out⟩

theorem own : ownKnob Try.prog.godebug = none := by kernel_rfl
theorem laidOut : laidOutB Try.prog = true := by kernel_rfl

set_option maxRecDepth 100000 in
theorem lifted (os : Os) (started : os.Started) (H : Type) (enc : TypeId × Value → H) :
    ReturnsInHanded {} Try.checked os 9 .any (Rows.diskCopiesSpec.pre6 enc Try.prog Try.f9 Rows.diskCopiesRow.domain false) (Rows.diskCopiesSpec.post enc Try.prog Try.f9 false true false false) := by
  refine returnsInHanded_of_change (C := Try.checked) own started (by kernel_rfl) Try.func9
    (ChangeSpec.witness6 (enc := enc) (C := Try.checked) false ⟨#[], #[.slice none 0 0, .slice none 0 0], []⟩ 8 (by kernel_rfl) (by kernel_rfl) (by kernel_rfl) (by kernel_rfl)) ?_
  intro W base args ds gs before hval0 hW hcnd _
  have hval : ∀ (j : Nat) t v, Try.f9.params[j]? = some t → args[j]? = some v → Value.okWide Try.prog W .any base t v := hval0
  have hW' := hW
  obtain ⟨p, q, hA0, hV, rfl, hfz, hnd⟩ := hW
  have hA : DataW.TrodAll enc Try.prog W 0 (fun _ => true) true Try.f9.params.toList args.toList ds p := hA0
  rw [Try.params9] at hA hval
  obtain ⟨v0, vs0, d0, ds0, p0, q0, hargs, rfl, rfl, h0, r0⟩ := trodAll_cons hA
  obtain ⟨v1, vs1, d1, ds1, p1, q1, rfl, rfl, rfl, h1, r1⟩ := trodAll_cons r0
  obtain ⟨rfl, rfl, rfl⟩ := trodAll_nil r1
  obtain rfl : args = #[v0, v1] := by cases args; simp_all
  obtain ⟨rfl, rfl⟩ := trodVars_none hV
  have k0 := h0
  have lt0 : ∀ x ∈ p0, x.block < W.heap.size := by obtain ⟨m, hm⟩ := k0; exact DataW.trod_lt m _ _ _ hm
  obtain ⟨b0, c0, x0, rfl, l0, m0, i0, o0⟩ := open_ops (hval 0 40 v0 rfl rfl) h0
  have k1 := h1
  have lt1 : ∀ x ∈ p1, x.block < W.heap.size := by obtain ⟨m, hm⟩ := k1; exact DataW.trod_lt m _ _ _ hm
  obtain ⟨b1, c1, x1, rfl, l1, m1, i1, o1⟩ := open_ops (hval 1 40 v1 rfl rfl) h1
  clear hA0 hval0
  refine (walk W b0 c0 x0 l0 m0 i0 o0 b1 c1 x1 l1 m1 i1 o1).mono fun e W' ⟨he, bel⟩ => ?_
  subst he
  exact ⟨_, rfl, _, _, _, [], _, [], hW', trodAll_mk1 (shut_bool Try.underlying4 _), (trodAll_cons_mk (Below.trod laidOut (by kernel_rfl) (of_decide_eq_true (by kernel_rfl)) k0 bel lt0) (trodAll_cons_mk (Below.trod laidOut (by kernel_rfl) (of_decide_eq_true (by kernel_rfl)) k1 bel lt1) trodAll_mk0)), rfl, bel.frame _, fun h => by cases h⟩

theorem over : Rows.diskCopiesRow.holds Try.pinned (OpenSpec.ofChange Rows.diskCopiesSpec) :=
  OpenClaim.holds_of_wide 9 Try.f9 rfl rfl rfl rfl rfl rfl rfl ⟨rfl, rfl, rfl, rfl, rfl⟩ rfl rfl rfl rfl rfl (by kernel_rfl) Try.func9 (by kernel_rfl)
    (of_decide_eq_true (by kernel_rfl)) (by unfold Func.isWrapper; first | (rw [if_pos (by decide +kernel)]; kernel_rfl) | (rw [if_neg (by decide +kernel)]; exact ⟨rfl, rfl⟩))
    (fun os started H enc _ => lifted os started H enc)

theorem proved : Rows.DiskCopiesSaid := over
#print axioms proved
end Go.Proofs.Ytemfnchiedepoaa.diskCopies

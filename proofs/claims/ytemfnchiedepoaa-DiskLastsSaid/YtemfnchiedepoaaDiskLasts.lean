/- For every input ciceronelaw04.DiskLasts returns true, and its arguments read behind the call as before. No conditions. -/
import Derived.Test.YtemfnchiedepoaaDkLast
import Derived.Test.YtemfnchiedepoaaDkLong
import Derived.Test.YtemfnchiedepoaaDkHere
import Derived.Test.YtemfnchiedepoaaRows
import Derived.ProofKit
import Derived.OpenShut
import Derived.ShutString
import Derived.ChangeOld
import Derived.Below
import Derived.Lib.SmallJoins
namespace Go.Proofs.Ytemfnchiedepoaa.diskLasts
open Go.ChangeShapes Go.WideShapes Go.ChangeAt Go.RowKit Go.Joins
open Go.ChangeMaps (open_string shut_string)
set_option linter.unusedVariables false

set_option maxRecDepth 100000 in
set_option maxHeartbeats 1000000 in
theorem walk (w : World) (b : Option Addr) (cap : Nat) (l : List OpD) (hlc : l.length ≤ cap) (hm : cap ≤ maxLen) (hi : InW w b 5 (l.map opC)) (ho : ∀ a ∈ l, OpOk w a)
    (name : ByteArray) (hname : name.size ≤ maxLen)
    (kb : Option Addr) (kc : Nat) (keep : List Int) (hlk : keep.length ≤ kc) (hkm : kc ≤ maxLen) (hik : IntIn w kb keep) (hok : ∀ a ∈ keep, I64 a) :
    Calls Try.prog 6 #[.slice b l.length cap, .string name, .slice kb keep.length kc] w fun e w' => e = .returned (.bool true) ∧ Below w.heap.size w w' := by
  have AW := Lib.hid (fun W => awake_any W)
  have HL := Lib.hid (long_any b cap l w hi hm hlc ho)
  unfold maxLen at hname hm hkm
  cases hlong : longB l with
  | true =>
    rw [hlong] at HL
    clear hi ho hik hok hlong
    generalize keep.length = kl at *
    generalize l.length = n at *
    go_enter Try.func6, Try.ntmps6
    go_wp2_with fail
    refine HL.out.mono ?_
    rintro e w1 ⟨rfl, b1⟩
    have B1 := Lib.hid b1
    clear b1 HL
    go_wp2_with fail
    refine (AW.out _).mono ?_
    rintro e w7 ⟨rfl, b7⟩
    have HB := Lib.hid (B1.out.trans (b7.mono B1.out.size))
    clear b7
    go_wp2_with fail
    go_ret
    exact ⟨rfl, HB.out⟩
  | false =>
    rw [hlong] at HL
    obtain ⟨hl60, hlo⟩ := long_of hlong
    by_cases q1 : name.size ≤ 100
    · have t1 : decide ((100 : Int) < (name.size : Int)) = false := decide_eq_false (by omega)
      by_cases q2 : keep.length ≤ 20
      · have t2 : decide ((20 : Int) < (keep.length : Int)) = false := decide_eq_false (by omega)
        have HCR : Hid (∀ (W : World) (d : Nat) (X : Dk), Here K04 w W [.disk d X] → Calls Try.prog 16 #[.pointer (some ⟨d, 0, none⟩), .slice kb keep.length kc] W fun e w'' => e = .returned (.tuple #[]) ∧ Here K04 w w'' [.disk d (crashD X keep)]) := Lib.hid (fun W d X h => h_crash h (i := 0) rfl (Below.refl _ _) keep hok (by omega) kb kc (InW.bel hik h.bel) (hik.old W) _ rfl)
        have HIW := Lib.hid hi
        have HO := Lib.hid ho
        have HLO := Lib.hid hlo
        clear hi ho hik hok hlong hlo
        generalize keep.length = kl at *
        generalize hn : l.length = n at *
        have Hn := Lib.hid hn
        clear hn
        obtain ⟨i0, hi0T, hz0, hz1, hz2⟩ := info_parts infoByte
        go_enter Try.func6, Try.ntmps6
        go_wp2_with fail
        refine HL.out.mono ?_
        rintro e w1 ⟨rfl, b1⟩
        have HN := Lib.hid (h_new (Here.nil b1))
        clear b1 HL
        go_wp2_with fail
        refine HN.out.mono ?_
        rintro e w2 ⟨d, rfl, hd2⟩
        have H2 := Lib.hid hd2
        clear hd2 HN
        go_wp2_with fail
        go_loopw [8, 9, 35] (fun s8 s9 c wr => ∃ (i : Nat) (sure : ByteArray) (there : Bool) (X : Dk), i ≤ n ∧ c = .int .i64 i ∧ s8 = .string sure ∧ s9 = .bool there ∧ Here K04 w wr [.disk d X] ∧ Hid (LastI name sure there X)) (fun _ _ c _ => n - (intOf c).toNat)
        case atStart => exact ⟨0, ⟨#[]⟩, false, newD, by omega, rfl, rfl, rfl, H2.out, Lib.hid (last_first name)⟩
        case round =>
          obtain ⟨i, sure, there, X, hin, rfl, rfl, rfl, hd, HI⟩ := hrel
          clear H2
          by_cases hlt : i < n
          · obtain ⟨q, hq⟩ : ∃ p, l[i]? = some p := ⟨l[i]'(by rw [Hn.out]; exact hlt), List.getElem?_eq_getElem _⟩
            have hmem := List.mem_of_getElem? hq
            have hok := HO.out q hmem
            obtain ⟨o1, o2, o3⟩ := HLO.out q hmem
            obtain ⟨B, off, rfl, hB, d0, d1, d2, d3, d4⟩ := ops_at HIW.out hq
            have hB' := hd.bel
            have c0 := (hB'.cell (p := ⟨B, off + i * 5, none⟩) hB).trans d0
            have c1 := (hB'.cell (p := ⟨B, off + i * 5 + 1, none⟩) hB).trans d1
            have c2 := (hB'.cell (p := ⟨B, off + i * 5 + 2, none⟩) hB).trans d2
            have c3 := (hB'.cell (p := ⟨B, off + i * 5 + 3, none⟩) hB).trans d3
            have c4 := (hB'.cell (p := ⟨B, off + i * 5 + 4, none⟩) hB).trans d4
            have hi0 : (0 : Int) ≤ (i : Int) := by omega
            have hi1 : (i : Int) < (n : Int) := by omega
            have hdA := h_box hd [.int .i64 q.kind, .int .i64 q.n, .string q.name, .string q.s, .slice q.kb q.keep.length q.kc] 43
            have HD := Lib.hid (Here.init (us := [_]) hdA)
            have HA := Lib.hid (h_do hdA (i := 0) rfl q (by omega) (by omega) q.keep.length)
            have HQ := Lib.hid (rfl : q = q)
            have HKi : Hid (I64 q.kind) := Lib.hid hok.kind
            have hkk := hok.kind
            unfold I64 at hkk
            have F1 : Hid ((q.name ≠ name ∨ (doD X q).2 ≠ 0) → LastI name sure there (doD X q).1) := Lib.hid (last_no HI.out q)
            have F2 : Hid (q.kind = 1 → q.name = name → (doD X q).2 = 0 → LastI name sure there (doD X q).1) := Lib.hid (last_add HI.out q)
            have F3 : Hid (q.kind = 2 ∨ q.kind = 3 → q.name = name → (doD X q).2 = 0 → LastI name (readD (doD X q).1 name).1 true (doD X q).1) := Lib.hid (last_sure HI.out q)
            have F4 : Hid (q.kind = 4 → q.name = name → (doD X q).2 = 0 → LastI name ⟨#[]⟩ false (doD X q).1 ∧ (readD (doD X q).1 name).2 = 6) := Lib.hid (last_gone HI.out q)
            clear hq d0 d1 d2 d3 d4 hok hd hdA hB' hmem o1 o2 o3 HQ HKi
            generalize (doD X q).1 = Y at *
            generalize (doD X q).2 = r at *
            generalize q.keep.length = kq at *
            generalize q.kind = qk at *
            generalize q.n = qn at *
            generalize q.name = qm at *
            generalize q.s = qs at *
            generalize q.kb = qb at *
            generalize q.kc = qc at *
            by_cases g1 : qk < 1
            · have t3 : decide (qk < 1) = true := decide_eq_true g1
              clear HA
              go_wp2_with fail
              go_roundw
              case rel => exact ⟨i + 1, sure, there, X, by omega, by go_num, rfl, rfl, HD.out, HI⟩
              case measure => simp [intOf]; omega
            have t3 : decide (qk < 1) = false := decide_eq_false g1
            by_cases g2 : 4 < qk
            · have t4 : decide (4 < qk) = true := decide_eq_true g2
              clear HA
              go_wp2_with fail
              go_roundw
              case rel => exact ⟨i + 1, sure, there, X, by omega, by go_num, rfl, rfl, HD.out, HI⟩
              case measure => simp [intOf]; omega
            have t4 : decide (4 < qk) = false := decide_eq_false g2
            clear HD
            by_cases g3 : qm = name
            · have t5 : (qm.toList == name.toList) = true := by rw [bytesEq]; exact decide_eq_true g3
              by_cases g4 : r = 0
              · subst g4
                have hk4 : qk = 1 ∨ qk = 2 ∨ qk = 3 ∨ qk = 4 := by omega
                have G2 := Lib.hid fun h => F2.out h g3 rfl
                have G3 := Lib.hid fun h => F3.out h g3 rfl
                have G4 := Lib.hid fun h => F4.out h g3 rfl
                clear F1 F2 F3 F4 g1 g2 t3 t4 HI g3 hkk
                rcases hk4 with rfl | rfl | rfl | rfl
                · have HI2 := Lib.hid (G2.out rfl)
                  clear G2 G3 G4
                  go_wp2_with fail
                  refine HA.out.mono ?_
                  rintro e w3 ⟨rfl, hd3⟩
                  have HR := Lib.hid (h_read hd3 (i := 0) rfl name (by omega))
                  have hbk := h_boxAt hd3 (i := 1) rfl
                  have e0 := hbk.cell 0
                  have e2 := hbk.cell 2
                  clear hbk hd3 HA c0 c1 c2 c3 c4
                  go_wp2_with fail
                  refine HR.out.mono ?_
                  rintro e w4 ⟨u, rfl, m4, hd4⟩
                  obtain ⟨ub, uc, rfl, _, _, _⟩ := m4.sl
                  have H4 := Lib.hid (Here.init (os := [Ob.disk d Y]) (us := [_]) hd4)
                  have hbk := h_boxAt hd4 (i := 1) rfl
                  have e0 := hbk.cell 0
                  clear hbk hd4 m4 HR
                  generalize (readD Y name).2 = rr at *
                  go_wp2_with fail
                  go_roundw
                  case rel => exact ⟨i + 1, sure, there, Y, by omega, by go_num, rfl, rfl, H4.out, HI2⟩
                  case measure => simp [intOf]; omega
                · have HI3 := Lib.hid (G3.out (.inl rfl))
                  clear G2 G3 G4
                  go_wp2_with fail
                  refine HA.out.mono ?_
                  rintro e w3 ⟨rfl, hd3⟩
                  have HR := Lib.hid (h_read hd3 (i := 0) rfl name (by omega))
                  have hbk := h_boxAt hd3 (i := 1) rfl
                  have e0 := hbk.cell 0
                  have e2 := hbk.cell 2
                  clear hbk hd3 HA c0 c1 c2 c3 c4
                  go_wp2_with fail
                  refine HR.out.mono ?_
                  rintro e w4 ⟨u, rfl, m4, hd4⟩
                  obtain ⟨ub, uc, rfl, _, _, hinu⟩ := m4.sl
                  have hcv := text_of hinu uc
                  have H4 := Lib.hid (Here.init (os := [Ob.disk d Y]) (us := [_]) hd4)
                  have hbk := h_boxAt hd4 (i := 1) rfl
                  have e0 := hbk.cell 0
                  clear hbk hd4 m4 HR hinu
                  generalize (readD Y name).2 = rr at *
                  generalize (readD Y name).1 = rs at *
                  go_wp2_with fail
                  go_roundw
                  case rel => exact ⟨i + 1, rs, true, Y, by omega, by go_num, rfl, rfl, H4.out, HI3⟩
                  case measure => simp [intOf]; omega
                · have HI3 := Lib.hid (G3.out (.inr rfl))
                  clear G2 G3 G4
                  go_wp2_with fail
                  refine HA.out.mono ?_
                  rintro e w3 ⟨rfl, hd3⟩
                  have HR := Lib.hid (h_read hd3 (i := 0) rfl name (by omega))
                  have hbk := h_boxAt hd3 (i := 1) rfl
                  have e0 := hbk.cell 0
                  have e2 := hbk.cell 2
                  clear hbk hd3 HA c0 c1 c2 c3 c4
                  go_wp2_with fail
                  refine HR.out.mono ?_
                  rintro e w4 ⟨u, rfl, m4, hd4⟩
                  obtain ⟨ub, uc, rfl, _, _, hinu⟩ := m4.sl
                  have hcv := text_of hinu uc
                  have H4 := Lib.hid (Here.init (os := [Ob.disk d Y]) (us := [_]) hd4)
                  have hbk := h_boxAt hd4 (i := 1) rfl
                  have e0 := hbk.cell 0
                  clear hbk hd4 m4 HR hinu
                  generalize (readD Y name).2 = rr at *
                  generalize (readD Y name).1 = rs at *
                  go_wp2_with fail
                  go_roundw
                  case rel => exact ⟨i + 1, rs, true, Y, by omega, by go_num, rfl, rfl, H4.out, HI3⟩
                  case measure => simp [intOf]; omega
                · have HI4 := Lib.hid (G4.out rfl).1
                  have h6 := (G4.out rfl).2
                  clear G2 G3 G4
                  go_wp2_with fail
                  refine HA.out.mono ?_
                  rintro e w3 ⟨rfl, hd3⟩
                  have hR := h_read hd3 (i := 0) rfl name (by omega)
                  rw [h6] at hR
                  have HR := Lib.hid hR
                  have hbk := h_boxAt hd3 (i := 1) rfl
                  have e0 := hbk.cell 0
                  have e2 := hbk.cell 2
                  clear hbk hR hd3 HA c0 c1 c2 c3 c4 h6
                  go_wp2_with fail
                  refine HR.out.mono ?_
                  rintro e w4 ⟨u, rfl, m4, hd4⟩
                  obtain ⟨ub, uc, rfl, _, _, _⟩ := m4.sl
                  have H4 := Lib.hid (Here.init (os := [Ob.disk d Y]) (us := [_]) hd4)
                  have hbk := h_boxAt hd4 (i := 1) rfl
                  have e0 := hbk.cell 0
                  clear hbk hd4 m4 HR
                  go_wp2_with fail
                  go_roundw
                  case rel => exact ⟨i + 1, ⟨#[]⟩, false, Y, by omega, by go_num, rfl, rfl, H4.out, HI4⟩
                  case measure => simp [intOf]; omega
              · have t6 : (r != 0) = true := by simpa using g4
                have HI1 := Lib.hid (F1.out (.inr g4))
                clear F1 F2 F3 F4 HI g3
                go_wp2_with fail
                refine HA.out.mono ?_
                rintro e w3 ⟨rfl, hd3⟩
                have H3 := Lib.hid (Here.init (os := [Ob.disk d Y]) (us := [_]) hd3)
                have hbk := h_boxAt hd3 (i := 1) rfl
                have e2 := hbk.cell 2
                clear hbk hd3 HA c0 c1 c2 c3 c4
                go_wp2_with fail
                go_roundw
                case rel => exact ⟨i + 1, sure, there, Y, by omega, by go_num, rfl, rfl, H3.out, HI1⟩
                case measure => simp [intOf]; omega
            · have t5 : (qm.toList == name.toList) = false := by rw [bytesEq]; exact decide_eq_false g3
              have HI1 := Lib.hid (F1.out (.inl g3))
              clear F1 F2 F3 F4 HI g3
              go_wp2_with fail
              refine HA.out.mono ?_
              rintro e w3 ⟨rfl, hd3⟩
              have H3 := Lib.hid (Here.init (os := [Ob.disk d Y]) (us := [_]) hd3)
              have hbk := h_boxAt hd3 (i := 1) rfl
              have e2 := hbk.cell 2
              clear hbk hd3 HA c0 c1 c2 c3 c4
              go_wp2_with fail
              go_roundw
              case rel => exact ⟨i + 1, sure, there, Y, by omega, by go_num, rfl, rfl, H3.out, HI1⟩
              case measure => simp [intOf]; omega
          · obtain rfl : i = n := by omega
            have HC := Lib.hid (HCR.out _ _ _ hd)
            obtain ⟨s, ee, hr, hr1, hr2, hr3⟩ := last_end HI.out keep
            have HRE := Lib.hid hr
            have hs3 := Lib.hid hr3
            have htr := Lib.hid hr1
            clear hd HI hr hr3 hr1
            go_wp2_with fail
            refine HC.out.mono ?_
            rintro e w5 ⟨rfl, hd5⟩
            have hR := h_read hd5 (i := 0) rfl name (by omega)
            rw [HRE.out] at hR
            have HR := Lib.hid hR
            clear hd5 HC hR
            go_wp2_with fail
            refine HR.out.mono ?_
            rintro e w6 ⟨u, rfl, m6, hd6⟩
            obtain ⟨ub, uc, rfl, z1, z2, hinu⟩ := m6.sl
            unfold maxLen at z2
            have hcut := by_cut hinu sure.size
            have hcv := text_of hcut uc
            rw [size_cut _ _ hr2, hs3.out] at hcv
            have hsl : ∀ W, (Instr.slice 28 (.slice ub s.size uc) none (some (.int .i64 (sure.size : Int))) none).run Try.prog W = .ok (.slice ub sure.size uc) W := fun W => run_slice_to (P := Try.prog) W 28 5 ub s.size uc sure.size 1 Try.underlying28 ⟨i0, hi0T, hz1⟩ (by omega)
            have t7 : decide ((s.size : Int) < (sure.size : Int)) = false := decide_eq_false (by omega)
            have H6 := Lib.hid hd6
            clear hd6 m6 HR hinu hcut
            cases there with
            | true =>
              have he := htr.out rfl
              subst he
              go_wp2_with fail
              refine (AW.out _).mono ?_
              rintro e w7 ⟨rfl, b7⟩
              have HB := Lib.hid (H6.out.step_bel b7).bel
              clear b7
              go_wp2_with fail
              go_ret
              exact ⟨rfl, HB.out⟩
            | false =>
              go_wp2_with fail
              refine (AW.out _).mono ?_
              rintro e w7 ⟨rfl, b7⟩
              have HB := Lib.hid (H6.out.step_bel b7).bel
              clear b7
              go_wp2_with fail
              go_ret
              exact ⟨rfl, HB.out⟩
      · have t2 : decide ((20 : Int) < (keep.length : Int)) = true := decide_eq_true (by omega)
        clear hi ho hik hok hlong hlo
        generalize keep.length = kl at *
        generalize l.length = n at *
        go_enter Try.func6, Try.ntmps6
        go_wp2_with fail
        refine HL.out.mono ?_
        rintro e w1 ⟨rfl, b1⟩
        have B1 := Lib.hid b1
        clear b1 HL
        go_wp2_with fail
        refine (AW.out _).mono ?_
        rintro e w7 ⟨rfl, b7⟩
        have HB := Lib.hid (B1.out.trans (b7.mono B1.out.size))
        clear b7
        go_wp2_with fail
        go_ret
        exact ⟨rfl, HB.out⟩
    · have t1 : decide ((100 : Int) < (name.size : Int)) = true := decide_eq_true (by omega)
      clear hi ho hik hok hlong hlo
      generalize keep.length = kl at *
      generalize l.length = n at *
      go_enter Try.func6, Try.ntmps6
      go_wp2_with fail
      refine HL.out.mono ?_
      rintro e w1 ⟨rfl, b1⟩
      have B1 := Lib.hid b1
      clear b1 HL
      go_wp2_with fail
      refine (AW.out _).mono ?_
      rintro e w7 ⟨rfl, b7⟩
      have HB := Lib.hid (B1.out.trans (b7.mono B1.out.size))
      clear b7
      go_wp2_with fail
      go_ret
      exact ⟨rfl, HB.out⟩

theorem own : ownKnob Try.prog.godebug = none := by kernel_rfl
theorem laidOut : laidOutB Try.prog = true := by kernel_rfl

set_option maxRecDepth 100000 in
theorem lifted (os : Os) (started : os.Started) (H : Type) (enc : TypeId × Value → H) :
    ReturnsInHanded {} Try.checked os 6 .any (Rows.diskLastsSpec.pre6 enc Try.prog Try.f6 Rows.diskLastsRow.domain false) (Rows.diskLastsSpec.post enc Try.prog Try.f6 false true false false) := by
  refine returnsInHanded_of_change (C := Try.checked) own started (by kernel_rfl) Try.func6
    (ChangeSpec.witness6 (enc := enc) (C := Try.checked) false ⟨#[], #[.slice none 0 0, .string ⟨#[]⟩, .slice none 0 0], []⟩ 8 (by kernel_rfl) (by kernel_rfl) (by kernel_rfl) (by kernel_rfl)) ?_
  intro W base args ds gs before hval0 hW hcnd _
  have hval : ∀ (j : Nat) t v, Try.f6.params[j]? = some t → args[j]? = some v → Value.okWide Try.prog W .any base t v := hval0
  have hW' := hW
  obtain ⟨p, q, hA0, hV, rfl, hfz, hnd⟩ := hW
  have hA : DataW.TrodAll enc Try.prog W 0 (fun _ => true) true Try.f6.params.toList args.toList ds p := hA0
  rw [Try.params6] at hA hval
  obtain ⟨v0, vs0, d0, ds0, p0, q0, hargs, rfl, rfl, h0, r0⟩ := trodAll_cons hA
  obtain ⟨v1, vs1, d1, ds1, p1, q1, rfl, rfl, rfl, h1, r1⟩ := trodAll_cons r0
  obtain ⟨v2, vs2, d2, ds2, p2, q2, rfl, rfl, rfl, h2, r2⟩ := trodAll_cons r1
  obtain ⟨rfl, rfl, rfl⟩ := trodAll_nil r2
  obtain rfl : args = #[v0, v1, v2] := by cases args; simp_all
  obtain ⟨rfl, rfl⟩ := trodVars_none hV
  have k0 := h0
  have lt0 : ∀ x ∈ p0, x.block < W.heap.size := by obtain ⟨m, hm⟩ := k0; exact DataW.trod_lt m _ _ _ hm
  obtain ⟨b0, c0, x0, rfl, l0, m0, i0, o0⟩ := open_ops (hval 0 40 v0 rfl rfl) h0
  have k1 := h1
  have lt1 : ∀ x ∈ p1, x.block < W.heap.size := by obtain ⟨m, hm⟩ := k1; exact DataW.trod_lt m _ _ _ hm
  obtain ⟨a1, rfl, rfl, rfl, w1⟩ := open_string Try.underlying9 (hval 1 9 v1 rfl rfl) h1
  have k2 := h2
  have lt2 : ∀ x ∈ p2, x.block < W.heap.size := by obtain ⟨m, hm⟩ := k2; exact DataW.trod_lt m _ _ _ hm
  obtain ⟨b2, c2, x2, rfl, l2, m2, i2, o2⟩ := open_keep (hval 2 38 v2 rfl rfl) h2
  clear hA0 hval0
  refine (walk W b0 c0 x0 l0 m0 i0 o0 a1 w1 b2 c2 x2 l2 m2 i2 o2).mono fun e W' ⟨he, bel⟩ => ?_
  subst he
  exact ⟨_, rfl, _, _, _, [], _, [], hW', trodAll_mk1 (shut_bool Try.underlying4 _), (trodAll_cons_mk (Below.trod laidOut (by kernel_rfl) (of_decide_eq_true (by kernel_rfl)) k0 bel lt0) (trodAll_cons_mk (Below.trod laidOut (by kernel_rfl) (of_decide_eq_true (by kernel_rfl)) k1 bel lt1) (trodAll_cons_mk (Below.trod laidOut (by kernel_rfl) (of_decide_eq_true (by kernel_rfl)) k2 bel lt2) trodAll_mk0))), rfl, bel.frame _, fun h => by cases h⟩

theorem over : Rows.diskLastsRow.holds Try.pinned (OpenSpec.ofChange Rows.diskLastsSpec) :=
  OpenClaim.holds_of_wide 6 Try.f6 rfl rfl rfl rfl rfl rfl rfl ⟨rfl, rfl, rfl, rfl, rfl⟩ rfl rfl rfl rfl rfl (by kernel_rfl) Try.func6 (by kernel_rfl)
    (of_decide_eq_true (by kernel_rfl)) (by unfold Func.isWrapper; first | (rw [if_pos (by decide +kernel)]; kernel_rfl) | (rw [if_neg (by decide +kernel)]; exact ⟨rfl, rfl⟩))
    (fun os started H enc _ => lifted os started H enc)

theorem proved : Rows.DiskLastsSaid := over
#print axioms proved
end Go.Proofs.Ytemfnchiedepoaa.diskLasts

/- For every input ciceronelaw04.DiskReplaces returns true, and its arguments read behind the call as before. No conditions. -/
import Derived.Test.YtemfnchiedepoaaDkRep
import Derived.Test.YtemfnchiedepoaaRows
import Derived.ProofKit
import Derived.OpenShut
import Derived.ShutString
import Derived.ChangeOld
import Derived.Below
import Derived.Lib.SmallJoins
namespace Go.Proofs.Ytemfnchiedepoaa.diskReplaces
open Go.ChangeShapes Go.WideShapes Go.ChangeAt Go.RowKit Go.Joins
open Go.ChangeMaps (open_string shut_string)
set_option linter.unusedVariables false

set_option maxRecDepth 100000 in
set_option maxHeartbeats 1000000 in
theorem walk (w : World) (name : ByteArray) (hname : name.size ≤ maxLen) (old : ByteArray) (hold : old.size ≤ maxLen) (now : ByteArray) (hnow : now.size ≤ maxLen) (fuse : Int) (wf : (Lit.int .i64 fuse).wf = true)
    (kb : Option Addr) (kc : Nat) (keep : List Int) (hlc : keep.length ≤ kc) (hm : kc ≤ maxLen) (hi : IntIn w kb keep) (ho : ∀ a ∈ keep, I64 a) :
    Calls Try.prog 5 #[.string name, .string old, .string now, .int .i64 fuse, .slice kb keep.length kc] w fun e w' => e = .returned (.bool true) ∧ Below w.heap.size w w' := by
  have hf := i64_wf wf
  have AW := Lib.hid (fun W => awake_any W)
  clear wf
  unfold maxLen at hname hold hnow hm
  by_cases q : name.size ≤ 100 ∧ old.size ≤ 200 ∧ now.size ≤ 200 ∧ keep.length ≤ 20
  · obtain ⟨q1, q2, q3, q4⟩ := q
    have t1 : decide ((100 : Int) < (name.size : Int)) = false := decide_eq_false (by omega)
    have t2 : decide ((200 : Int) < (old.size : Int)) = false := decide_eq_false (by omega)
    have t3 : decide ((200 : Int) < (now.size : Int)) = false := decide_eq_false (by omega)
    have t4 : decide ((20 : Int) < (keep.length : Int)) = false := decide_eq_false (by omega)
    have HN := Lib.hid (new_own w w (Below.refl _ _))
    have HCR : Hid (∀ (W : World) (d : Nat) (X : Dk), DkOwn w W d X → Calls Try.prog 16 #[.pointer (some ⟨d, 0, none⟩), .slice kb keep.length kc] W fun e w'' => e = .returned (.tuple #[]) ∧ DkOwn w w'' d (crashD X keep)) := Lib.hid (fun W d X h => crash_own h (Below.refl _ _) keep ho (by omega) kb kc (InW.bel hi h.bl) (hi.old W) _ rfl)
    clear hi ho
    generalize keep.length = kl at *
    cases hnm : nameD name with
    | false =>
      have HR0 := Lib.hid (rep0 old hnm)
      have hsz : ¬ (1 ≤ name.size ∧ name.size ≤ 64) := by
        intro c
        unfold nameD at hnm
        simp [c.1, c.2] at hnm
      have hsz' : name.size < 1 ∨ 64 < name.size := by omega
      clear hnm hsz
      rcases hsz' with hsz | hsz
      · have u1 : decide ((name.size : Int) < 1) = true := decide_eq_true (by omega)
        go_enter Try.func5, Try.ntmps5
        go_wp2_with fail
        refine HN.out.mono ?_
        rintro e w1 ⟨d, rfl, hd1⟩
        obtain ⟨c, g, W2, hcv, hA⟩ := replace_conv hd1 name old (by omega) (by omega)
        rw [HR0.out] at hA
        have HA := Lib.hid hA
        clear hA hd1 HN
        go_wp2_with fail
        refine HA.out.mono ?_
        rintro e w2 ⟨rfl, hd2⟩
        have HNM := Lib.hid (names_own hd2)
        clear hd2 HA hcv
        go_wp2_with fail
        refine HNM.out.mono ?_
        rintro e w3 ⟨v, rfl, m3, hd3⟩
        obtain ⟨vb, vc, rfl⟩ := MkT.none m3
        have HD3 := Lib.hid hd3
        clear hd3 HNM m3
        go_wp2_with fail
        refine (AW.out _).mono ?_
        rintro e w4 ⟨rfl, b4⟩
        have HB := Lib.hid (HD3.out.bel b4).bl
        clear b4
        go_wp2_with fail
        go_ret
        exact ⟨rfl, HB.out⟩
      · have u1 : decide ((name.size : Int) < 1) = false := decide_eq_false (by omega)
        have u2 : decide ((64 : Int) < (name.size : Int)) = true := decide_eq_true (by omega)
        go_enter Try.func5, Try.ntmps5
        go_wp2_with fail
        refine HN.out.mono ?_
        rintro e w1 ⟨d, rfl, hd1⟩
        obtain ⟨c, g, W2, hcv, hA⟩ := replace_conv hd1 name old (by omega) (by omega)
        rw [HR0.out] at hA
        have HA := Lib.hid hA
        clear hA hd1 HN
        go_wp2_with fail
        refine HA.out.mono ?_
        rintro e w2 ⟨rfl, hd2⟩
        have HNM := Lib.hid (names_own hd2)
        clear hd2 HA hcv
        go_wp2_with fail
        refine HNM.out.mono ?_
        rintro e w3 ⟨v, rfl, m3, hd3⟩
        obtain ⟨vb, vc, rfl⟩ := MkT.none m3
        have HD3 := Lib.hid hd3
        clear hd3 HNM m3
        go_wp2_with fail
        refine (AW.out _).mono ?_
        rintro e w4 ⟨rfl, b4⟩
        have HB := Lib.hid (HD3.out.bel b4).bl
        clear b4
        go_wp2_with fail
        go_ret
        exact ⟨rfl, HB.out⟩
    | true =>
      have HR1 := Lib.hid (rep1 (s := old) hnm (by omega))
      have HNMD := Lib.hid hnm
      clear hnm
      by_cases h0 : fuse = 0
      · subst h0
        have HR2 := Lib.hid (rep2 (s := old) now HNMD.out (by omega))
        have HX4 := Lib.hid (crash_one name old 0 true keep)
        have HRD := Lib.hid (read_one (s := old) (-1) HNMD.out)
        go_enter Try.func5, Try.ntmps5
        go_wp2_with fail
        refine HN.out.mono ?_
        rintro e w1 ⟨d, rfl, hd1⟩
        obtain ⟨c, g, W2, hcv, hA⟩ := replace_conv hd1 name old (by omega) (by omega)
        rw [HR1.out] at hA
        have HA := Lib.hid hA
        clear hA hd1 HN
        go_wp2_with fail
        refine HA.out.mono ?_
        rintro e w2 ⟨rfl, hd2⟩
        have HAR := Lib.hid (arm_own hd2 0 hf)
        clear hd2 HA hcv
        go_wp2_with fail
        refine HAR.out.mono ?_
        rintro e w3 ⟨rfl, hd3⟩
        have hd3' : DkOwn w w3 d (oneD name old 0 false) := hd3
        obtain ⟨c3, g3, W3, hcv3, hA3⟩ := replace_conv hd3' name now (by omega) (by omega)
        rw [HR2.out] at hA3
        have HA3 := Lib.hid hA3
        clear hA3 hd3 hd3' HAR
        go_wp2_with fail
        refine HA3.out.mono ?_
        rintro e w4 ⟨rfl, hd4⟩
        have HDW : Hid (Calls Try.prog 14 #[.pointer (some ⟨d, 0, none⟩)] w4 fun e w' => e = .returned (.bool true) ∧ w4 = w') := Lib.hid (down_own hd4)
        have HC := Lib.hid (HCR.out _ _ _ hd4)
        clear hd4 HA3 hcv3
        go_wp2_with fail
        refine HDW.out.mono ?_
        rintro e wx ⟨rfl, rfl⟩
        clear HDW
        go_wp2_with fail
        refine HC.out.mono ?_
        rintro e w5 ⟨rfl, hd5⟩
        rw [HX4.out] at hd5
        have HRX := Lib.hid (read_own hd5 name (by omega))
        rw [HRD.out] at HRX
        clear hd5 HC
        go_wp2_with fail
        refine HRX.out.mono ?_
        rintro e w6 ⟨u, rfl, m6, hd6⟩
        obtain ⟨b6, c6, rfl, _, _, hin6⟩ := m6.sl
        have hcv6 := text_of hin6 c6
        have HD6 := Lib.hid hd6
        clear hin6 m6 hd6 HRX
        go_wp2_with fail
        refine (AW.out _).mono ?_
        rintro e w7 ⟨rfl, b7⟩
        have HB := Lib.hid (HD6.out.bel b7).bl
        clear b7
        go_wp2_with fail
        go_ret
        exact ⟨rfl, HB.out⟩
      · have hfu : (if fuse < 0 then -1 else fuse) ≠ 0 := by split <;> omega
        obtain ⟨fu', hr3⟩ := rep3 (s := old) now hfu HNMD.out (by omega)
        have HR3 := Lib.hid hr3
        have HX4 := Lib.hid (crash_one name now fu' false keep)
        have HRD := Lib.hid (read_one (s := now) (-1) HNMD.out)
        have v1 : (fuse == 0) = false := by simpa using h0
        have v2 : (fuse != 0) = true := by simpa using h0
        clear hr3 hfu
        go_enter Try.func5, Try.ntmps5
        go_wp2_with fail
        refine HN.out.mono ?_
        rintro e w1 ⟨d, rfl, hd1⟩
        obtain ⟨c, g, W2, hcv, hA⟩ := replace_conv hd1 name old (by omega) (by omega)
        rw [HR1.out] at hA
        have HA := Lib.hid hA
        clear hA hd1 HN
        go_wp2_with fail
        refine HA.out.mono ?_
        rintro e w2 ⟨rfl, hd2⟩
        have HAR := Lib.hid (arm_own hd2 fuse hf)
        clear hd2 HA hcv
        go_wp2_with fail
        refine HAR.out.mono ?_
        rintro e w3 ⟨rfl, hd3⟩
        have hd3' : DkOwn w w3 d (oneD name old (if fuse < 0 then -1 else fuse) false) := hd3
        obtain ⟨c3, g3, W3, hcv3, hA3⟩ := replace_conv hd3' name now (by omega) (by omega)
        rw [HR3.out] at hA3
        have HA3 := Lib.hid hA3
        clear hA3 hd3 hd3' HAR
        go_wp2_with fail
        refine HA3.out.mono ?_
        rintro e w4 ⟨rfl, hd4⟩
        have HDW : Hid (Calls Try.prog 14 #[.pointer (some ⟨d, 0, none⟩)] w4 fun e w' => e = .returned (.bool false) ∧ w4 = w') := Lib.hid (down_own hd4)
        have HC := Lib.hid (HCR.out _ _ _ hd4)
        clear hd4 HA3 hcv3
        go_wp2_with fail
        refine HDW.out.mono ?_
        rintro e wx ⟨rfl, rfl⟩
        clear HDW
        go_wp2_with fail
        refine HC.out.mono ?_
        rintro e w5 ⟨rfl, hd5⟩
        rw [HX4.out] at hd5
        have HRX := Lib.hid (read_own hd5 name (by omega))
        rw [HRD.out] at HRX
        clear hd5 HC
        go_wp2_with fail
        refine HRX.out.mono ?_
        rintro e w6 ⟨u, rfl, m6, hd6⟩
        obtain ⟨b6, c6, rfl, _, _, hin6⟩ := m6.sl
        have hcv6 := text_of hin6 c6
        have HD6 := Lib.hid hd6
        clear hin6 m6 hd6 HRX
        go_wp2_with fail
        refine (AW.out _).mono ?_
        rintro e w7 ⟨rfl, b7⟩
        have HB := Lib.hid (HD6.out.bel b7).bl
        clear b7
        go_wp2_with fail
        go_ret
        exact ⟨rfl, HB.out⟩
  · clear hi ho
    generalize keep.length = kl at *
    by_cases q1 : name.size ≤ 100
    · have t1 : decide ((100 : Int) < (name.size : Int)) = false := decide_eq_false (by omega)
      by_cases q2 : old.size ≤ 200
      · have t2 : decide ((200 : Int) < (old.size : Int)) = false := decide_eq_false (by omega)
        by_cases q3 : now.size ≤ 200
        · have t3 : decide ((200 : Int) < (now.size : Int)) = false := decide_eq_false (by omega)
          have t4 : decide ((20 : Int) < (kl : Int)) = true := decide_eq_true (by omega)
          go_enter Try.func5, Try.ntmps5
          go_wp2_with fail
          refine (AW.out _).mono ?_
          rintro e w7 ⟨rfl, b7⟩
          have HB := Lib.hid b7
          clear b7
          go_wp2_with fail
          go_ret
          exact ⟨rfl, HB.out⟩
        · have t3 : decide ((200 : Int) < (now.size : Int)) = true := decide_eq_true (by omega)
          go_enter Try.func5, Try.ntmps5
          go_wp2_with fail
          refine (AW.out _).mono ?_
          rintro e w7 ⟨rfl, b7⟩
          have HB := Lib.hid b7
          clear b7
          go_wp2_with fail
          go_ret
          exact ⟨rfl, HB.out⟩
      · have t2 : decide ((200 : Int) < (old.size : Int)) = true := decide_eq_true (by omega)
        go_enter Try.func5, Try.ntmps5
        go_wp2_with fail
        refine (AW.out _).mono ?_
        rintro e w7 ⟨rfl, b7⟩
        have HB := Lib.hid b7
        clear b7
        go_wp2_with fail
        go_ret
        exact ⟨rfl, HB.out⟩
    · have t1 : decide ((100 : Int) < (name.size : Int)) = true := decide_eq_true (by omega)
      go_enter Try.func5, Try.ntmps5
      go_wp2_with fail
      refine (AW.out _).mono ?_
      rintro e w7 ⟨rfl, b7⟩
      have HB := Lib.hid b7
      clear b7
      go_wp2_with fail
      go_ret
      exact ⟨rfl, HB.out⟩

theorem own : ownKnob Try.prog.godebug = none := by kernel_rfl
theorem laidOut : laidOutB Try.prog = true := by kernel_rfl

set_option maxRecDepth 100000 in
theorem lifted (os : Os) (started : os.Started) (H : Type) (enc : TypeId × Value → H) :
    ReturnsInHanded {} Try.checked os 5 .any (Rows.diskReplacesSpec.pre6 enc Try.prog Try.f5 Rows.diskReplacesRow.domain false) (Rows.diskReplacesSpec.post enc Try.prog Try.f5 false true false false) := by
  refine returnsInHanded_of_change (C := Try.checked) own started (by kernel_rfl) Try.func5
    (ChangeSpec.witness6 (enc := enc) (C := Try.checked) false ⟨#[], #[.string ⟨#[]⟩, .string ⟨#[]⟩, .string ⟨#[]⟩, .int .i64 0, .slice none 0 0], []⟩ 8 (by kernel_rfl) (by kernel_rfl) (by kernel_rfl) (by kernel_rfl)) ?_
  intro W base args ds gs before hval0 hW hcnd _
  have hval : ∀ (j : Nat) t v, Try.f5.params[j]? = some t → args[j]? = some v → Value.okWide Try.prog W .any base t v := hval0
  have hW' := hW
  obtain ⟨p, q, hA0, hV, rfl, hfz, hnd⟩ := hW
  have hA : DataW.TrodAll enc Try.prog W 0 (fun _ => true) true Try.f5.params.toList args.toList ds p := hA0
  rw [Try.params5] at hA hval
  obtain ⟨v0, vs0, d0, ds0, p0, q0, hargs, rfl, rfl, h0, r0⟩ := trodAll_cons hA
  obtain ⟨v1, vs1, d1, ds1, p1, q1, rfl, rfl, rfl, h1, r1⟩ := trodAll_cons r0
  obtain ⟨v2, vs2, d2, ds2, p2, q2, rfl, rfl, rfl, h2, r2⟩ := trodAll_cons r1
  obtain ⟨v3, vs3, d3, ds3, p3, q3, rfl, rfl, rfl, h3, r3⟩ := trodAll_cons r2
  obtain ⟨v4, vs4, d4, ds4, p4, q4, rfl, rfl, rfl, h4, r4⟩ := trodAll_cons r3
  obtain ⟨rfl, rfl, rfl⟩ := trodAll_nil r4
  obtain rfl : args = #[v0, v1, v2, v3, v4] := by cases args; simp_all
  obtain ⟨rfl, rfl⟩ := trodVars_none hV
  have k0 := h0
  have lt0 : ∀ x ∈ p0, x.block < W.heap.size := by obtain ⟨m, hm⟩ := k0; exact DataW.trod_lt m _ _ _ hm
  obtain ⟨a0, rfl, rfl, rfl, w0⟩ := open_string Try.underlying9 (hval 0 9 v0 rfl rfl) h0
  have k1 := h1
  have lt1 : ∀ x ∈ p1, x.block < W.heap.size := by obtain ⟨m, hm⟩ := k1; exact DataW.trod_lt m _ _ _ hm
  obtain ⟨a1, rfl, rfl, rfl, w1⟩ := open_string Try.underlying9 (hval 1 9 v1 rfl rfl) h1
  have k2 := h2
  have lt2 : ∀ x ∈ p2, x.block < W.heap.size := by obtain ⟨m, hm⟩ := k2; exact DataW.trod_lt m _ _ _ hm
  obtain ⟨a2, rfl, rfl, rfl, w2⟩ := open_string Try.underlying9 (hval 2 9 v2 rfl rfl) h2
  have k3 := h3
  have lt3 : ∀ x ∈ p3, x.block < W.heap.size := by obtain ⟨m, hm⟩ := k3; exact DataW.trod_lt m _ _ _ hm
  obtain ⟨a3, rfl, rfl, rfl, w3⟩ := open_int Try.underlying3 (hval 3 3 v3 rfl rfl) h3
  have k4 := h4
  have lt4 : ∀ x ∈ p4, x.block < W.heap.size := by obtain ⟨m, hm⟩ := k4; exact DataW.trod_lt m _ _ _ hm
  obtain ⟨b4, c4, x4, rfl, l4, m4, i4, o4⟩ := open_keep (hval 4 38 v4 rfl rfl) h4
  clear hA0 hval0
  refine (walk W a0 w0 a1 w1 a2 w2 a3 w3 b4 c4 x4 l4 m4 i4 o4).mono fun e W' ⟨he, bel⟩ => ?_
  subst he
  exact ⟨_, rfl, _, _, _, [], _, [], hW', trodAll_mk1 (shut_bool Try.underlying4 _), (trodAll_cons_mk (Below.trod laidOut (by kernel_rfl) (of_decide_eq_true (by kernel_rfl)) k0 bel lt0) (trodAll_cons_mk (Below.trod laidOut (by kernel_rfl) (of_decide_eq_true (by kernel_rfl)) k1 bel lt1) (trodAll_cons_mk (Below.trod laidOut (by kernel_rfl) (of_decide_eq_true (by kernel_rfl)) k2 bel lt2) (trodAll_cons_mk (Below.trod laidOut (by kernel_rfl) (of_decide_eq_true (by kernel_rfl)) k3 bel lt3) (trodAll_cons_mk (Below.trod laidOut (by kernel_rfl) (of_decide_eq_true (by kernel_rfl)) k4 bel lt4) trodAll_mk0))))), rfl, bel.frame _, fun h => by cases h⟩

theorem over : Rows.diskReplacesRow.holds Try.pinned (OpenSpec.ofChange Rows.diskReplacesSpec) :=
  OpenClaim.holds_of_wide 5 Try.f5 rfl rfl rfl rfl rfl rfl rfl ⟨rfl, rfl, rfl, rfl, rfl⟩ rfl rfl rfl rfl rfl (by kernel_rfl) Try.func5 (by kernel_rfl)
    (of_decide_eq_true (by kernel_rfl)) (by unfold Func.isWrapper; first | (rw [if_pos (by decide +kernel)]; kernel_rfl) | (rw [if_neg (by decide +kernel)]; exact ⟨rfl, rfl⟩))
    (fun os started H enc _ => lifted os started H enc)

theorem proved : Rows.DiskReplacesSaid := over
#print axioms proved
end Go.Proofs.Ytemfnchiedepoaa.diskReplaces

/- For every input ciceronelaw04.DiskPlays returns true, and its arguments read behind the call as before. No conditions. -/
import Derived.Test.YtemfnchiedepoaaRfPlay
import Derived.Test.YtemfnchiedepoaaRows
import Derived.ProofKit
import Derived.OpenShut
import Derived.ShutString
import Derived.ChangeOld
import Derived.Below
import Derived.Lib.SmallJoins
namespace Go.Proofs.Ytemfnchiedepoaa.diskPlays
open Go.ChangeShapes Go.WideShapes Go.ChangeAt Go.RowKit Go.Joins
open Go.ChangeMaps (open_string shut_string)
set_option linter.unusedVariables false

theorem ok_bel {w w' : World} {a : OpD} (h : OpOk w a) (hb : Below w.heap.size w w') : OpOk w' a := ⟨h.kind, h.n, h.name, h.s, h.kl, h.kc, InW.bel h.kin hb, h.kx⟩
set_option maxRecDepth 100000 in
set_option maxHeartbeats 1000000 in
theorem walk (w : World) (b : Option Addr) (cap : Nat) (l : List OpD) (hlc : l.length ≤ cap) (hm : cap ≤ maxLen) (hi : InW w b 5 (l.map opC)) (ho : ∀ a ∈ l, OpOk w a)
    (name : ByteArray) (hname : name.size ≤ maxLen) :
    Calls Try.prog 7 #[.slice b l.length cap, .string name] w fun e w' => e = .returned (.bool true) ∧ Below w.heap.size w w' := by
  have AW := Lib.hid (fun W => awake_any W)
  have HL := Lib.hid (long_any b cap l w hi hm hlc ho)
  obtain ⟨X, hX⟩ : ∃ X, playL l = X := ⟨_, rfl⟩
  have HPL : Hid (longB l = false → ∀ W, Below w.heap.size w W → Calls Try.prog 23 #[.slice b l.length cap] W fun e w' => ∃ d u, e = .returned (.tuple #[.pointer (some ⟨d, 0, none⟩), .agg #[u, .int .i64 X.fuse, .bool X.down]]) ∧ Here K04 W w' [.disk d X, .row u 80 4 X.L.length (X.L.flatMap flC)]) := Lib.hid (fun hlo W hb => play_any b cap l W (InW.bel hi hb) hm hlc (fun a ha => ok_bel (ho a ha) hb) hlo X hX _ rfl)
  unfold maxLen at hname hm
  clear hi ho hX
  generalize l.length = n at *
  cases hlong : longB l with
  | true =>
    rw [hlong] at HL
    clear hlong HPL
    go_enter Try.func7, Try.ntmps7
    go_wp2_with fail
    refine HL.out.mono ?_
    rintro e w1 ⟨rfl, b1⟩
    have B1 := Lib.hid b1
    clear b1 HL
    go_wp2_with fail
    refine (AW.out _).mono ?_
    rintro e w7 ⟨rfl, b7⟩
    have HB := Lib.hid (B1.out.trans (b7.mono B1.out.size))
    clear b7
    go_wp2_with fail
    go_ret
    exact ⟨rfl, HB.out⟩
  | false =>
    rw [hlong] at HL
    by_cases q1 : name.size ≤ 100
    · have t1 : decide ((100 : Int) < (name.size : Int)) = false := decide_eq_false (by omega)
      go_enter Try.func7, Try.ntmps7
      go_wp2_with fail
      refine HL.out.mono ?_
      rintro e w1 ⟨rfl, b1⟩
      have HP := Lib.hid (HPL.out hlong w1 b1)
      have B1 := Lib.hid b1
      clear b1 HL HPL hlong
      go_wp2_with fail
      refine HP.out.mono ?_
      rintro e w2 ⟨d, u, rfl, h2⟩
      obtain ⟨ub, uc, hu, huc, _, _⟩ := h_rowIn h2 (i := 1) rfl
      obtain ⟨al, hal⟩ : ∃ al, al = X.L.length := ⟨_, rfl⟩
      rw [← hal] at hu
      subst hu
      have H3 := Lib.hid (h_box h2 [.slice ub al uc, .int .i64 X.fuse, .bool X.down] 48)
      have hok := h_ok h2 (i := 0) rfl
      have HR := Lib.hid (h_read H3.out (i := 0) rfl name (by omega))
      have HRX : Hid (∀ W, Here K04 w1 W [.disk d X, .row (.slice ub al uc) 80 4 X.L.length (X.L.flatMap flC), .box w2.heap.size [.slice ub al uc, .int .i64 X.fuse, .bool X.down] 48] → Calls Try.prog 24 #[.agg #[.slice ub al uc, .int .i64 X.fuse, .bool X.down], .string name] W fun e w' => e = .returned (.tuple #[.string (readD X name).1, .int .i64 (readD X name).2]) ∧ Below W.heap.size W w') := Lib.hid (fun W hW => by
        obtain ⟨vb, vc, hv, hvc, _, hvin⟩ := h_rowIn hW (i := 1) rfl
        simp only [Value.slice.injEq] at hv
        obtain ⟨rfl, _, rfl⟩ := hv
        exact rread_any _ _ X.L X.fuse X.down name W hvin (by have := hok.len; omega) hvc (by omega) al hal (readD X name) rfl)
      clear h2 hok hal huc HP
      generalize readD X name = rd at *
      obtain ⟨rs, rr⟩ := rd
      go_wp2_with fail
      refine HR.out.mono ?_
      rintro e w4 ⟨v4, rfl, m4, h4⟩
      obtain ⟨b4, c4, rfl, _, _, hin4⟩ := m4.sl
      have HI4 := Lib.hid hin4
      have H4 := Lib.hid h4
      have HRR := Lib.hid (HRX.out w4 h4)
      obtain ⟨x0, x1, x2, _, _, _, _⟩ := box3 h4 (i := 2) rfl
      clear h4 hin4 m4 HR HRX H3
      go_wp2_with fail
      refine HRR.out.mono ?_
      rintro e w5 ⟨rfl, b5⟩
      have hcv := text_of (InW.bel HI4.out b5) c4
      have H5 := Lib.hid (H4.out.step_bel b5)
      clear b5 HRR x0 x1 x2
      go_wp2_with fail
      refine (AW.out _).mono ?_
      rintro e w7 ⟨rfl, b7⟩
      have HB := Lib.hid (B1.out.trans ((H5.out.step_bel b7).bel.mono B1.out.size))
      clear b7
      go_wp2_with fail
      go_ret
      exact ⟨rfl, HB.out⟩
    · have t1 : decide ((100 : Int) < (name.size : Int)) = true := decide_eq_true (by omega)
      clear HPL hlong
      go_enter Try.func7, Try.ntmps7
      go_wp2_with fail
      refine HL.out.mono ?_
      rintro e w1 ⟨rfl, b1⟩
      have B1 := Lib.hid b1
      clear b1 HL
      go_wp2_with fail
      refine (AW.out _).mono ?_
      rintro e w7 ⟨rfl, b7⟩
      have HB := Lib.hid (B1.out.trans (b7.mono B1.out.size))
      clear b7
      go_wp2_with fail
      go_ret
      exact ⟨rfl, HB.out⟩

theorem own : ownKnob Try.prog.godebug = none := by kernel_rfl
theorem laidOut : laidOutB Try.prog = true := by kernel_rfl

set_option maxRecDepth 100000 in
theorem lifted (os : Os) (started : os.Started) (H : Type) (enc : TypeId × Value → H) :
    ReturnsInHanded {} Try.checked os 7 .any (Rows.diskPlaysSpec.pre6 enc Try.prog Try.f7 Rows.diskPlaysRow.domain false) (Rows.diskPlaysSpec.post enc Try.prog Try.f7 false true false false) := by
  refine returnsInHanded_of_change (C := Try.checked) own started (by kernel_rfl) Try.func7
    (ChangeSpec.witness6 (enc := enc) (C := Try.checked) false ⟨#[], #[.slice none 0 0, .string ⟨#[]⟩], []⟩ 8 (by kernel_rfl) (by kernel_rfl) (by kernel_rfl) (by kernel_rfl)) ?_
  intro W base args ds gs before hval0 hW hcnd _
  have hval : ∀ (j : Nat) t v, Try.f7.params[j]? = some t → args[j]? = some v → Value.okWide Try.prog W .any base t v := hval0
  have hW' := hW
  obtain ⟨p, q, hA0, hV, rfl, hfz, hnd⟩ := hW
  have hA : DataW.TrodAll enc Try.prog W 0 (fun _ => true) true Try.f7.params.toList args.toList ds p := hA0
  rw [Try.params7] at hA hval
  obtain ⟨v0, vs0, d0, ds0, p0, q0, hargs, rfl, rfl, h0, r0⟩ := trodAll_cons hA
  obtain ⟨v1, vs1, d1, ds1, p1, q1, rfl, rfl, rfl, h1, r1⟩ := trodAll_cons r0
  obtain ⟨rfl, rfl, rfl⟩ := trodAll_nil r1
  obtain rfl : args = #[v0, v1] := by cases args; simp_all
  obtain ⟨rfl, rfl⟩ := trodVars_none hV
  have k0 := h0
  have lt0 : ∀ x ∈ p0, x.block < W.heap.size := by obtain ⟨m, hm⟩ := k0; exact DataW.trod_lt m _ _ _ hm
  obtain ⟨b0, c0, x0, rfl, l0, m0, i0, o0⟩ := open_ops (hval 0 40 v0 rfl rfl) h0
  have k1 := h1
  have lt1 : ∀ x ∈ p1, x.block < W.heap.size := by obtain ⟨m, hm⟩ := k1; exact DataW.trod_lt m _ _ _ hm
  obtain ⟨a1, rfl, rfl, rfl, w1⟩ := open_string Try.underlying9 (hval 1 9 v1 rfl rfl) h1
  clear hA0 hval0
  refine (walk W b0 c0 x0 l0 m0 i0 o0 a1 w1).mono fun e W' ⟨he, bel⟩ => ?_
  subst he
  exact ⟨_, rfl, _, _, _, [], _, [], hW', trodAll_mk1 (shut_bool Try.underlying4 _), (trodAll_cons_mk (Below.trod laidOut (by kernel_rfl) (of_decide_eq_true (by kernel_rfl)) k0 bel lt0) (trodAll_cons_mk (Below.trod laidOut (by kernel_rfl) (of_decide_eq_true (by kernel_rfl)) k1 bel lt1) trodAll_mk0)), rfl, bel.frame _, fun h => by cases h⟩

theorem over : Rows.diskPlaysRow.holds Try.pinned (OpenSpec.ofChange Rows.diskPlaysSpec) :=
  OpenClaim.holds_of_wide 7 Try.f7 rfl rfl rfl rfl rfl rfl rfl ⟨rfl, rfl, rfl, rfl, rfl⟩ rfl rfl rfl rfl rfl (by kernel_rfl) Try.func7 (by kernel_rfl)
    (of_decide_eq_true (by kernel_rfl)) (by unfold Func.isWrapper; first | (rw [if_pos (by decide +kernel)]; kernel_rfl) | (rw [if_neg (by decide +kernel)]; exact ⟨rfl, rfl⟩))
    (fun os started H enc _ => lifted os started H enc)

theorem proved : Rows.DiskPlaysSaid := over
#print axioms proved
end Go.Proofs.Ytemfnchiedepoaa.diskPlays

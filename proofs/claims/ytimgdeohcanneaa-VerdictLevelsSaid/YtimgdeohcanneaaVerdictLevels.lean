/- For every input ciceronelaw47.VerdictLevels returns true, and its arguments read behind the call as before. No conditions. -/
import Derived.Test.YtimgdeohcanneaaAwake
import Derived.Test.YtimgdeohcanneaaCmp
import Derived.Deep.RegionHeld3
import Derived.Test.YtimgdeohcanneaaRows
import Derived.ProofKit
import Derived.OpenShut
import Derived.ShutString
import Derived.ChangeOld
import Derived.Below
import Derived.Lib.SmallJoins
namespace Go.Proofs.Ytimgdeohcanneaa.verdictLevels
open Go.ChangeShapes Go.WideShapes Go.ChangeAt Go.RowKit Go.Joins
open Go.ChangeMaps (open_string shut_string)
set_option linter.unusedVariables false

open Pasc Wide
/-- what is called at a level is called so at each greater one -/
theorem call_more (pa ba pb bb n d n2 d2 : Int) (h : cmpR n d n2 d2 ≤ 0) : callV pa ba pb bb n d = 0 ∨ callV pa ba pb bb n d = callV pa ba pb bb n2 d2 := by
  unfold callV
  by_cases h1 : pa ≠ pb ∨ pa < 1
  · rw [if_pos h1]; exact .inl rfl
  · rw [if_neg h1, if_neg h1]
    by_cases h2 : ¬ (0 ≤ ba ∧ 0 ≤ bb ∧ ba + bb ≤ 62)
    · rw [if_pos h2]; exact .inl rfl
    · rw [if_neg h2, if_neg h2]
      by_cases h3 : 0 < cmpR (sgn ba bb) (pw (ba + bb).toNat) n d
      · rw [if_pos h3]; exact .inl rfl
      · have h4 := cmpR_trans _ _ _ _ n2 d2 (show cmpR (sgn ba bb) (pw (ba + bb).toNat) n d ≤ 0 by omega) h
        rw [if_neg h3, if_neg (show ¬ 0 < cmpR (sgn ba bb) (pw (ba + bb).toNat) n2 d2 by omega)]
        exact .inr rfl
def Four (N : Nat) (s0 : ByteArray) (a0 b0 g0 : Int) (s1 : ByteArray) (a1 b1 g1 n d n2 d2 : Int) (w' : World) : Prop :=
  w'.cell? ⟨N, 0, none⟩ = some (.string s0) ∧ w'.cell? ⟨N, 1, none⟩ = some (.int .i64 a0) ∧ w'.cell? ⟨N, 2, none⟩ = some (.int .i64 b0) ∧ w'.cell? ⟨N, 3, none⟩ = some (.int .i64 g0) ∧
  w'.cell? ⟨N + 1, 0, none⟩ = some (.string s1) ∧ w'.cell? ⟨N + 1, 1, none⟩ = some (.int .i64 a1) ∧ w'.cell? ⟨N + 1, 2, none⟩ = some (.int .i64 b1) ∧ w'.cell? ⟨N + 1, 3, none⟩ = some (.int .i64 g1) ∧
  w'.cell? ⟨N + 1 + 1, 0, none⟩ = some (.int .i64 n) ∧ w'.cell? ⟨N + 1 + 1, 1, none⟩ = some (.int .i64 d) ∧
  w'.cell? ⟨N + 1 + 1 + 1, 0, none⟩ = some (.int .i64 n2) ∧ w'.cell? ⟨N + 1 + 1 + 1, 1, none⟩ = some (.int .i64 d2)
theorem Four.keep {N : Nat} {s0 : ByteArray} {a0 b0 g0 : Int} {s1 : ByteArray} {a1 b1 g1 n d n2 d2 : Int} {w w' : World} (h : Four N s0 a0 b0 g0 s1 a1 b1 g1 n d n2 d2 w) (hb : Below w.heap.size w w') (hN : N + 3 < w.heap.size) :
    Four N s0 a0 b0 g0 s1 a1 b1 g1 n d n2 d2 w' := by
  obtain ⟨h1, h2, h3, h4, h5, h6, h7, h8, h9, h10, h11, h12⟩ := h
  have c : ∀ b o, b < w.heap.size → w'.cell? ⟨b, o, none⟩ = w.cell? ⟨b, o, none⟩ := fun b o h => hb.cell (p := ⟨b, o, none⟩) h
  refine ⟨?_, ?_, ?_, ?_, ?_, ?_, ?_, ?_, ?_, ?_, ?_, ?_⟩ <;> (rw [c _ _ (by omega)]; assumption)

theorem eq_or {x y : Int} (h : x = 0 ∨ x = y) : ((x == 0) = true) ∨ ((x == 0) = false ∧ x = y) := by
  by_cases e : x = 0
  · exact .inl (by simpa using e)
  · exact .inr ⟨by simpa using e, by omega⟩

set_option maxHeartbeats 1000000 in
set_option maxRecDepth 100000 in
theorem walk (s0 : ByteArray) (a0 b0 g0 : Int) (w00 : s0.size ≤ maxLen) (w01 : (Lit.int .i64 a0).wf = true) (w02 : (Lit.int .i64 b0).wf = true) (w03 : (Lit.int .i64 g0).wf = true)
    (s1 : ByteArray) (a1 b1 g1 : Int) (w10 : s1.size ≤ maxLen) (w11 : (Lit.int .i64 a1).wf = true) (w12 : (Lit.int .i64 b1).wf = true) (w13 : (Lit.int .i64 g1).wf = true)
    (n d : Int) (w20 : (Lit.int .i64 n).wf = true) (w21 : (Lit.int .i64 d).wf = true) (n2 d2 : Int) (w30 : (Lit.int .i64 n2).wf = true) (w31 : (Lit.int .i64 d2).wf = true) (w : World) :
    Calls Try.prog 8 #[.agg #[.string s0, .int .i64 a0, .int .i64 b0, .int .i64 g0], .agg #[.string s1, .int .i64 a1, .int .i64 b1, .int .i64 g1], .agg #[.int .i64 n, .int .i64 d], .agg #[.int .i64 n2, .int .i64 d2]] w fun e w' => e = .returned (.bool true) ∧ Below w.heap.size w w' := by
  have x1 := (bounds_i64 w02).2
  have x2 := (bounds_i64 w12).2
  have x3 := (bounds_i64 w20).2
  have x4 := (bounds_i64 w21).2
  have x5 := (bounds_i64 w30).2
  have x6 := (bounds_i64 w31).2
  clear w00 w01 w02 w03 w10 w11 w12 w13 w20 w21 w30 w31
  go_enter Try.func8, Try.ntmps8
  go_wp2_with fail
  refine (compare_any _ _ _ _ _ x3 x4 x5 x6).mono ?_
  rintro e wa ⟨rfl, ba⟩
  generalize hC : cmpR n d n2 d2 = c
  have HC := Lib.hid hC
  clear hC
  have F : Four w.heap.size s0 a0 b0 g0 s1 a1 b1 g1 n d n2 d2 wa := by
    refine Four.keep ?_ ba (by simp)
    refine ⟨?_, ?_, ?_, ?_, ?_, ?_, ?_, ?_, ?_, ?_, ?_, ?_⟩ <;> simp [go_sem]
  have z : w.heap.size + 3 < wa.heap.size := by have := ba.size; simp at this; omega
  have f0 : wa.frozen? ⟨w.heap.size + 1 + 1, 0, none⟩ = false := by rw [ba.frozen (p := ⟨w.heap.size + 1 + 1, 0, none⟩) (by simp)]; simp [go_sem]
  have f1 : wa.frozen? ⟨w.heap.size + 1 + 1, 1, none⟩ = false := by rw [ba.frozen (p := ⟨w.heap.size + 1 + 1, 1, none⟩) (by simp)]; simp [go_sem]
  have f2 : wa.frozen? ⟨w.heap.size + 1 + 1 + 1, 0, none⟩ = false := by rw [ba.frozen (p := ⟨w.heap.size + 1 + 1 + 1, 0, none⟩) (by simp)]; simp [go_sem]
  have f3 : wa.frozen? ⟨w.heap.size + 1 + 1 + 1, 1, none⟩ = false := by rw [ba.frozen (p := ⟨w.heap.size + 1 + 1 + 1, 1, none⟩) (by simp)]; simp [go_sem]
  have bA := (bel4 w _ _ _ _).trans (ba.mono (by simp; omega))
  clear ba
  by_cases hp : 0 < c
  · have hp' : decide (0 < c) = true := by simpa using hp
    have hq : Hid (cmpR n2 d2 n d ≤ 0) := by have h1 := HC.out; have h2 := cmpR_turn n d n2 d2; show cmpR n2 d2 n d ≤ 0; omega
    obtain ⟨h1, h2, h3, h4, h5, h6, h7, h8, h9, h10, h11, h12⟩ := F
    go_wp2_with fail
    have F2 : Four w.heap.size s0 a0 b0 g0 s1 a1 b1 g1 n2 d2 n d ((((wa.setCell ⟨w.heap.size + 1 + 1, 0, none⟩ (.int .i64 n2)).setCell ⟨w.heap.size + 1 + 1, 1, none⟩ (.int .i64 d2)).setCell ⟨w.heap.size + 1 + 1 + 1, 0, none⟩ (.int .i64 n)).setCell ⟨w.heap.size + 1 + 1 + 1, 1, none⟩ (.int .i64 d)) := by
      refine ⟨?_, ?_, ?_, ?_, ?_, ?_, ?_, ?_, ?_, ?_, ?_, ?_⟩ <;> simp [go_sem, h1, h2, h3, h4, h5, h6, h7, h8, h9, h10, h11, h12]
    have bB := (((bA.setCell (p := ⟨w.heap.size + 1 + 1, 0, none⟩) (by simp; omega) (.int .i64 n2)).setCell (p := ⟨w.heap.size + 1 + 1, 1, none⟩) (by simp; omega) (.int .i64 d2)).setCell (p := ⟨w.heap.size + 1 + 1 + 1, 0, none⟩) (by simp; omega) (.int .i64 n)).setCell (p := ⟨w.heap.size + 1 + 1 + 1, 1, none⟩) (by simp; omega) (.int .i64 d)
    have zB : w.heap.size + 3 < ((((wa.setCell ⟨w.heap.size + 1 + 1, 0, none⟩ (.int .i64 n2)).setCell ⟨w.heap.size + 1 + 1, 1, none⟩ (.int .i64 d2)).setCell ⟨w.heap.size + 1 + 1 + 1, 0, none⟩ (.int .i64 n)).setCell ⟨w.heap.size + 1 + 1 + 1, 1, none⟩ (.int .i64 d)).heap.size := by simpa [World.setCell] using z
    clear h1 h2 h3 h4 h5 h6 h7 h8 h9 h10 h11 h12 f0 f1 f2 f3 bA z hp hp'
    generalize ((((wa.setCell ⟨w.heap.size + 1 + 1, 0, none⟩ (.int .i64 n2)).setCell ⟨w.heap.size + 1 + 1, 1, none⟩ (.int .i64 d2)).setCell ⟨w.heap.size + 1 + 1 + 1, 0, none⟩ (.int .i64 n)).setCell ⟨w.heap.size + 1 + 1 + 1, 1, none⟩ (.int .i64 d)) = W at *
    have F3 := F2
    obtain ⟨h1, h2, h3, h4, h5, h6, h7, h8, h9, h10, h11, h12⟩ := F2
    go_region_held3 (fun w' => w'.cell? ⟨w.heap.size, 0, none⟩ = some (.string s0) ∧ w'.cell? ⟨w.heap.size, 1, none⟩ = some (.int .i64 a0) ∧ w'.cell? ⟨w.heap.size, 2, none⟩ = some (.int .i64 b0) ∧ w'.cell? ⟨w.heap.size, 3, none⟩ = some (.int .i64 g0) ∧
        w'.cell? ⟨w.heap.size + 1, 0, none⟩ = some (.string s1) ∧ w'.cell? ⟨w.heap.size + 1, 1, none⟩ = some (.int .i64 a1) ∧ w'.cell? ⟨w.heap.size + 1, 2, none⟩ = some (.int .i64 b1) ∧ w'.cell? ⟨w.heap.size + 1, 3, none⟩ = some (.int .i64 g1) ∧
        w'.cell? ⟨w.heap.size + 1 + 1, 0, none⟩ = some (.int .i64 n2) ∧ w'.cell? ⟨w.heap.size + 1 + 1, 1, none⟩ = some (.int .i64 d2) ∧
        w'.cell? ⟨w.heap.size + 1 + 1 + 1, 0, none⟩ = some (.int .i64 n) ∧ w'.cell? ⟨w.heap.size + 1 + 1 + 1, 1, none⟩ = some (.int .i64 d))
      (first | exact F3 | exact F3.keep bw2 zB | exact F3.keep bw1 zB | fail)
      (first | (go_at_call 18; refine (of_any _ _ _ _ _ _ _ _ _ _ _ ?_ ?_ ?_ ?_).mono ?_; (first | exact x1 | exact x2 | exact x3 | exact x4 | exact x5 | exact x6); (first | exact x1 | exact x2 | exact x3 | exact x4 | exact x5 | exact x6); (first | exact x1 | exact x2 | exact x3 | exact x4 | exact x5 | exact x6); (first | exact x1 | exact x2 | exact x3 | exact x4 | exact x5 | exact x6); rintro e wx ⟨rfl, bx⟩; (first | (have bw2 : Below W.heap.size W wx := bw1.trans (bx.mono bw1.size)) | (have bw1 : Below W.heap.size W wx := (Below.refl W.heap.size W).drew.trans bx) | fail); clear bx))
    have hcm := call_more a0 b0 a1 b1 n2 d2 n d hq.out
    generalize callV a0 b0 a1 b1 n2 d2 = X at *
    generalize callV a0 b0 a1 b1 n d = Y at *
    rcases eq_or hcm with t1 | ⟨t1, rfl⟩
    · clear hcm
      go_wp2_with fail
      refine (awake_any _).mono ?_
      rintro e wd ⟨rfl, bd⟩
      go_wp2_with fail
      go_ret
      have bE := bB.trans (bw2.mono bB.size)
      exact ⟨rfl, bE.trans (bd.mono bE.size)⟩
    · clear hcm
      go_wp2_with fail
      refine (awake_any _).mono ?_
      rintro e wd ⟨rfl, bd⟩
      go_wp2_with fail
      go_ret
      have bE := bB.trans (bw2.mono bB.size)
      exact ⟨rfl, bE.trans (bd.mono bE.size)⟩
  · have hp' : decide (0 < c) = false := by simpa using hp
    have hq : Hid (cmpR n d n2 d2 ≤ 0) := by have h1 := HC.out; show cmpR n d n2 d2 ≤ 0; omega
    have F3 := F
    obtain ⟨h1, h2, h3, h4, h5, h6, h7, h8, h9, h10, h11, h12⟩ := F
    clear f0 f1 f2 f3
    go_wp2_with fail
    obtain ⟨W, rfl⟩ : ∃ W, W = wa := ⟨wa, rfl⟩
    have bB := bA
    have zB := z
    go_region_held3 (fun w' => w'.cell? ⟨w.heap.size, 0, none⟩ = some (.string s0) ∧ w'.cell? ⟨w.heap.size, 1, none⟩ = some (.int .i64 a0) ∧ w'.cell? ⟨w.heap.size, 2, none⟩ = some (.int .i64 b0) ∧ w'.cell? ⟨w.heap.size, 3, none⟩ = some (.int .i64 g0) ∧
        w'.cell? ⟨w.heap.size + 1, 0, none⟩ = some (.string s1) ∧ w'.cell? ⟨w.heap.size + 1, 1, none⟩ = some (.int .i64 a1) ∧ w'.cell? ⟨w.heap.size + 1, 2, none⟩ = some (.int .i64 b1) ∧ w'.cell? ⟨w.heap.size + 1, 3, none⟩ = some (.int .i64 g1) ∧
        w'.cell? ⟨w.heap.size + 1 + 1, 0, none⟩ = some (.int .i64 n) ∧ w'.cell? ⟨w.heap.size + 1 + 1, 1, none⟩ = some (.int .i64 d) ∧
        w'.cell? ⟨w.heap.size + 1 + 1 + 1, 0, none⟩ = some (.int .i64 n2) ∧ w'.cell? ⟨w.heap.size + 1 + 1 + 1, 1, none⟩ = some (.int .i64 d2))
      (first | exact F3 | exact F3.keep bw2 zB | exact F3.keep bw1 zB | fail)
      (first | (go_at_call 18; refine (of_any _ _ _ _ _ _ _ _ _ _ _ ?_ ?_ ?_ ?_).mono ?_; (first | exact x1 | exact x2 | exact x3 | exact x4 | exact x5 | exact x6); (first | exact x1 | exact x2 | exact x3 | exact x4 | exact x5 | exact x6); (first | exact x1 | exact x2 | exact x3 | exact x4 | exact x5 | exact x6); (first | exact x1 | exact x2 | exact x3 | exact x4 | exact x5 | exact x6); rintro e wx ⟨rfl, bx⟩; (first | (have bw2 : Below W.heap.size W wx := bw1.trans (bx.mono bw1.size)) | (have bw1 : Below W.heap.size W wx := (Below.refl W.heap.size W).drew.trans bx) | fail); clear bx))
    have hcm := call_more a0 b0 a1 b1 n d n2 d2 hq.out
    generalize callV a0 b0 a1 b1 n d = X at *
    generalize callV a0 b0 a1 b1 n2 d2 = Y at *
    rcases eq_or hcm with t1 | ⟨t1, rfl⟩
    · clear hcm
      go_wp2_with fail
      refine (awake_any _).mono ?_
      rintro e wd ⟨rfl, bd⟩
      go_wp2_with fail
      go_ret
      have bE := bB.trans (bw2.mono bB.size)
      exact ⟨rfl, bE.trans (bd.mono bE.size)⟩
    · clear hcm
      go_wp2_with fail
      refine (awake_any _).mono ?_
      rintro e wd ⟨rfl, bd⟩
      go_wp2_with fail
      go_ret
      have bE := bB.trans (bw2.mono bB.size)
      exact ⟨rfl, bE.trans (bd.mono bE.size)⟩

theorem own : ownKnob Try.prog.godebug = none := by kernel_rfl
theorem laidOut : laidOutB Try.prog = true := by kernel_rfl

set_option maxRecDepth 100000 in
theorem lifted (os : Os) (started : os.Started) (H : Type) (enc : TypeId × Value → H) :
    ReturnsInHanded {} Try.checked os 8 .any (Rows.verdictLevelsSpec.pre6 enc Try.prog Try.f8 Rows.verdictLevelsRow.domain false) (Rows.verdictLevelsSpec.post enc Try.prog Try.f8 false true false false) := by
  refine returnsInHanded_of_change (C := Try.checked) own started (by kernel_rfl) Try.func8
    (ChangeSpec.witness6 (enc := enc) (C := Try.checked) false ⟨#[], #[.agg #[.string ⟨#[]⟩, .int .i64 0, .int .i64 0, .int .i64 0], .agg #[.string ⟨#[]⟩, .int .i64 0, .int .i64 0, .int .i64 0], .agg #[.int .i64 0, .int .i64 0], .agg #[.int .i64 0, .int .i64 0]], []⟩ 8 (by kernel_rfl) (by kernel_rfl) (by kernel_rfl) (by kernel_rfl)) ?_
  intro W base args ds gs before hval0 hW hcnd _
  have hval : ∀ (j : Nat) t v, Try.f8.params[j]? = some t → args[j]? = some v → Value.okWide Try.prog W .any base t v := hval0
  have hW' := hW
  obtain ⟨p, q, hA0, hV, rfl, hfz, hnd⟩ := hW
  have hA : DataW.TrodAll enc Try.prog W 0 (fun _ => true) true Try.f8.params.toList args.toList ds p := hA0
  rw [Try.params8] at hA hval
  obtain ⟨v0, vs0, d0, ds0, p0, q0, hargs, rfl, rfl, h0, r0⟩ := trodAll_cons hA
  obtain ⟨v1, vs1, d1, ds1, p1, q1, rfl, rfl, rfl, h1, r1⟩ := trodAll_cons r0
  obtain ⟨v2, vs2, d2, ds2, p2, q2, rfl, rfl, rfl, h2, r2⟩ := trodAll_cons r1
  obtain ⟨v3, vs3, d3, ds3, p3, q3, rfl, rfl, rfl, h3, r3⟩ := trodAll_cons r2
  obtain ⟨rfl, rfl, rfl⟩ := trodAll_nil r3
  obtain rfl : args = #[v0, v1, v2, v3] := by cases args; simp_all
  obtain ⟨rfl, rfl⟩ := trodVars_none hV
  have k0 := h0
  have lt0 : ∀ x ∈ p0, x.block < W.heap.size := by obtain ⟨m, hm⟩ := k0; exact DataW.trod_lt m _ _ _ hm
  obtain ⟨c00, c01, c02, c03, y00, y01, y02, y03, m0, rfl, hd0, hp0, hy00, hy01, hy02, hy03⟩ := open_agg4 Try.underlying36 (by kernel_rfl) (by kernel_rfl) (hval 0 36 v0 rfl rfl) h0
  obtain ⟨s0, e00, _, w00⟩ := DataW.trod_string Try.underlying9 hy00
  obtain ⟨a0, e01, _, w01⟩ := DataW.trod_int Try.underlying3 hy01
  obtain ⟨b0, e02, _, w02⟩ := DataW.trod_int Try.underlying3 hy02
  obtain ⟨g0, e03, _, w03⟩ := DataW.trod_int Try.underlying2 hy03
  simp at e00 e01 e02 e03
  subst e00 e01 e02 e03
  have k1 := h1
  have lt1 : ∀ x ∈ p1, x.block < W.heap.size := by obtain ⟨m, hm⟩ := k1; exact DataW.trod_lt m _ _ _ hm
  obtain ⟨c10, c11, c12, c13, y10, y11, y12, y13, m1, rfl, hd1, hp1, hy10, hy11, hy12, hy13⟩ := open_agg4 Try.underlying36 (by kernel_rfl) (by kernel_rfl) (hval 1 36 v1 rfl rfl) h1
  obtain ⟨s1, e10, _, w10⟩ := DataW.trod_string Try.underlying9 hy10
  obtain ⟨a1, e11, _, w11⟩ := DataW.trod_int Try.underlying3 hy11
  obtain ⟨b1, e12, _, w12⟩ := DataW.trod_int Try.underlying3 hy12
  obtain ⟨g1, e13, _, w13⟩ := DataW.trod_int Try.underlying2 hy13
  simp at e10 e11 e12 e13
  subst e10 e11 e12 e13
  have k2 := h2
  have lt2 : ∀ x ∈ p2, x.block < W.heap.size := by obtain ⟨m, hm⟩ := k2; exact DataW.trod_lt m _ _ _ hm
  obtain ⟨c20, c21, y20, y21, m2, rfl, hd2, hp2, hy20, hy21⟩ := open_agg2 Try.underlying29 (by kernel_rfl) (by kernel_rfl) (hval 2 29 v2 rfl rfl) h2
  obtain ⟨a2, e20, _, w20⟩ := DataW.trod_int Try.underlying2 hy20
  obtain ⟨b2, e21, _, w21⟩ := DataW.trod_int Try.underlying2 hy21
  simp at e20 e21
  subst e20 e21
  have k3 := h3
  have lt3 : ∀ x ∈ p3, x.block < W.heap.size := by obtain ⟨m, hm⟩ := k3; exact DataW.trod_lt m _ _ _ hm
  obtain ⟨c30, c31, y30, y31, m3, rfl, hd3, hp3, hy30, hy31⟩ := open_agg2 Try.underlying29 (by kernel_rfl) (by kernel_rfl) (hval 3 29 v3 rfl rfl) h3
  obtain ⟨a3, e30, _, w30⟩ := DataW.trod_int Try.underlying2 hy30
  obtain ⟨b3, e31, _, w31⟩ := DataW.trod_int Try.underlying2 hy31
  simp at e30 e31
  subst e30 e31
  clear hA0 hval0
  refine (walk s0 a0 b0 g0 w00 w01 w02 w03 s1 a1 b1 g1 w10 w11 w12 w13 a2 b2 w20 w21 a3 b3 w30 w31 W).mono fun e W' ⟨he, bel⟩ => ?_
  subst he
  exact ⟨_, rfl, _, _, _, [], _, [], hW', trodAll_mk1 (shut_bool Try.underlying4 _), (trodAll_cons_mk (Below.trod laidOut (by kernel_rfl) (of_decide_eq_true (by kernel_rfl)) k0 bel lt0) (trodAll_cons_mk (Below.trod laidOut (by kernel_rfl) (of_decide_eq_true (by kernel_rfl)) k1 bel lt1) (trodAll_cons_mk (Below.trod laidOut (by kernel_rfl) (of_decide_eq_true (by kernel_rfl)) k2 bel lt2) (trodAll_cons_mk (Below.trod laidOut (by kernel_rfl) (of_decide_eq_true (by kernel_rfl)) k3 bel lt3) trodAll_mk0)))), rfl, bel.frame _, fun h => by cases h⟩

theorem over : Rows.verdictLevelsRow.holds Try.pinned (OpenSpec.ofChange Rows.verdictLevelsSpec) :=
  OpenClaim.holds_of_wide 8 Try.f8 rfl rfl rfl rfl rfl rfl rfl ⟨rfl, rfl, rfl, rfl, rfl⟩ rfl rfl rfl rfl rfl (by kernel_rfl) Try.func8 (by kernel_rfl)
    (of_decide_eq_true (by kernel_rfl)) (by unfold Func.isWrapper; first | (rw [if_pos (by decide +kernel)]; kernel_rfl) | (rw [if_neg (by decide +kernel)]; exact ⟨rfl, rfl⟩))
    (fun os started H enc _ => lifted os started H enc)

theorem proved : Rows.VerdictLevelsSaid := over
#print axioms proved
end Go.Proofs.Ytimgdeohcanneaa.verdictLevels

/- For every input ciceronelaw47.VerdictTails returns true, and its arguments read behind the call as before. No conditions. -/
import Derived.Test.YtimgdeohcanneaaAwake
import Derived.Test.YtimgdeohcanneaaRefSign
import Derived.Test.YtimgdeohcanneaaTwo
import Derived.Test.YtimgdeohcanneaaRows
import Derived.ProofKit
import Derived.OpenShut
import Derived.ShutString
import Derived.ChangeOld
import Derived.Below
import Derived.Lib.SmallJoins
namespace Go.Proofs.Ytimgdeohcanneaa.verdictTails
open Go.ChangeShapes Go.WideShapes Go.ChangeAt Go.RowKit Go.Joins
open Go.ChangeMaps (open_string shut_string)
set_option linter.unusedVariables false

open Pasc
abbrev ratioT : TypeId := 29
/-- what Tail and its reference tell, of any arguments -/
def TailPair (n k T P r : Int) (b : Bool) : Prop :=
  (∀ w, Calls Try.prog 13 #[.int .i64 n, .int .i64 k] w fun e w' => e = .returned (.tuple #[.agg #[.int .i64 T, .int .i64 P], .bool b]) ∧ Below w.heap.size w w') ∧
  (∀ w, Calls Try.prog 14 #[.int .i64 n, .int .i64 k] w fun e w' => e = .returned (.int .i64 r) ∧ Below w.heap.size w w')
def PowerIs (n P : Int) : Prop := ∀ w, Calls Try.prog 15 #[.int .i64 n] w fun e w' => e = .returned (.int .i64 P) ∧ w = w'
def SignPair (a c T P r : Int) (b : Bool) : Prop :=
  (∀ w, Calls Try.prog 16 #[.int .i64 a, .int .i64 c] w fun e w' => e = .returned (.tuple #[.agg #[.int .i64 T, .int .i64 P], .bool b]) ∧ Below w.heap.size w w') ∧
  (∀ w, Calls Try.prog 17 #[.int .i64 a, .int .i64 c] w fun e w' => e = .returned (.int .i64 r) ∧ Below w.heap.size w w')
theorem tail_pair (n k : Int) (hk2 : k ≤ 9223372036854775807) :
    (∃ T P, 0 ≤ T ∧ TailPair n k T P T true ∧ PowerIs n P) ∨ TailPair n k 0 1 (-1) false := by
  by_cases h : 0 ≤ n ∧ n ≤ 62
  · exact .inl ⟨_, _, by omega, ⟨fun w => tail_int n k w h.1 h.2, fun w => rtail_int n k w h.1 h.2 hk2⟩, fun w => rpower_int n w h.1 h.2⟩
  · refine .inr ⟨fun w => tail_no n k w (by omega), fun w => (rtail_no n k w (by omega)).mono ?_⟩
    rintro e w' ⟨rfl, rfl⟩; exact ⟨rfl, Below.refl _ _⟩
theorem sgn_nn (a b : Int) : 0 ≤ sgn a b := by
  have h2 : 0 ≤ pw (a + b).toNat := by rw [pw_nat]; exact Int.natCast_nonneg _
  unfold sgn; split <;> omega
theorem sign_pair (a c : Int) (ha2 : a ≤ 9223372036854775807) (hc2 : c ≤ 9223372036854775807) :
    (∃ T P, 0 ≤ T ∧ -9223372036854775808 ≤ a + c ∧ a + c ≤ 62 ∧ SignPair a c T P T true ∧ PowerIs (a + c) P) ∨ SignPair a c 0 1 (-1) false := by
  by_cases h : 0 ≤ a ∧ 0 ≤ c ∧ a + c ≤ 62
  · exact .inl ⟨_, _, sgn_nn a c, by omega, h.2.2, ⟨fun w => sign_yes a c w h.1 h.2.1 h.2.2, fun w => rsign_yes a c w h.1 h.2.1 h.2.2⟩, fun w => rpower_int (a + c) w (by omega) h.2.2⟩
  · refine .inr ⟨fun w => sign_no a c w h ha2 hc2, fun w => (rsign_no a c w h ha2 hc2).mono ?_⟩
    rintro e w' ⟨rfl, rfl⟩; exact ⟨rfl, Below.refl _ _⟩

set_option maxHeartbeats 4000000 in
theorem walk (n : Int) (w0 : (Lit.int .i64 n).wf = true) (k : Int) (w1 : (Lit.int .i64 k).wf = true) (a : Int) (w2 : (Lit.int .i64 a).wf = true) (c : Int) (w3 : (Lit.int .i64 c).wf = true) (w : World) :
    Calls Try.prog 4 #[.int .i64 n, .int .i64 k, .int .i64 a, .int .i64 c] w fun e w' => e = .returned (.bool true) ∧ Below w.heap.size w w' := by
  have h1 := tail_pair n k (bounds_i64 w1).2
  have h2 := sign_pair a c (bounds_i64 w2).2 (bounds_i64 w3).2
  clear w0 w1 w2 w3
  rcases h1 with ⟨T, P, T0, K1, K3⟩ | K1
  · rcases h2 with ⟨U, Q, U0, s0, s1, K2, K4⟩ | K2
    · go_enter Try.func4, Try.ntmps4
      go_wp2_with fail
      refine (K1.1 _).mono ?_
      rintro e wa ⟨rfl, ba⟩
      go_wp2_with fail
      refine (K1.2 _).mono ?_
      rintro e wb ⟨rfl, bb⟩
      have t1 := ((Two.new wa _ _ _).old _).bel bb
      have t2 := (Two.news _ _ _ _ _ _).bel bb
      have bB := bel_trans (bel_alloc (bel_alloc ba _) _) bb
      clear bb
      obtain ⟨c0, c1, f0, f1, l0⟩ := two_facts t2
      have z1 := t1.lt
      go_wp2_with fail
      refine (K3 _).mono ?_
      rintro e wz ⟨rfl, rfl⟩
      go_wp2_with fail
      have t1b := t1.other (wa.heap.size + 1) (by omega) (.int .i64 T) (.int .i64 P)
      have t2b := t2.set (.int .i64 T) (.int .i64 P)
      have bC := bel_set (bel_set bB (wa.heap.size + 1) 0 (.int .i64 T) (by have := ba.size; omega)) (wa.heap.size + 1) 1 (.int .i64 P) (by have := ba.size; omega)
      clear c0 c1 f0 f1 l0 z1 t1 t2 bB
      generalize (wb.setCell ⟨wa.heap.size + 1, 0, none⟩ (.int .i64 T)).setCell ⟨wa.heap.size + 1, 1, none⟩ (.int .i64 P) = V at *
      refine (K2.1 _).mono ?_
      rintro e wc ⟨rfl, bc⟩
      have bD := bel_trans bC bc
      have t1c := t1b.bel bc
      have t2c := t2b.bel bc
      clear bc t1b t2b bC
      go_wp2_with fail
      refine (K2.2 _).mono ?_
      rintro e wd ⟨rfl, bd⟩
      have t3 := ((Two.new wc _ _ _).old _).bel bd
      have t4 := (Two.news _ _ _ _ _ _).bel bd
      have t1d := ((t1c.old _).old _).bel bd
      have t2d := ((t2c.old _).old _).bel bd
      have bE := bel_trans (bel_alloc (bel_alloc bD _) _) bd
      have l1 := t1c.lt
      have l2 := t2c.lt
      clear bd t1c t2c
      obtain ⟨c0, c1, f0, f1, l0⟩ := two_facts t4
      have z1 := t3.lt
      obtain ⟨q0, q1, _, _, _⟩ := two_facts t1d
      obtain ⟨q2, q3, _, _, _⟩ := two_facts t2d
      go_wp2_with fail
      refine (K4 _).mono ?_
      rintro e wz ⟨rfl, rfl⟩
      go_wp2_with fail
      have t3b := t3.other (wc.heap.size + 1) (by omega) (.int .i64 U) (.int .i64 Q)
      have t4b := t4.set (.int .i64 U) (.int .i64 Q)
      have t1e := t1d.other (wc.heap.size + 1) (by omega) (.int .i64 U) (.int .i64 Q)
      have t2e := t2d.other (wc.heap.size + 1) (by omega) (.int .i64 U) (.int .i64 Q)
      have bF := bel_set (bel_set bE (wc.heap.size + 1) 0 (.int .i64 U) (by have := bD.size; omega)) (wc.heap.size + 1) 1 (.int .i64 Q) (by have := bD.size; omega)
      clear c0 c1 f0 f1 l0 z1 q0 q1 q2 q3 t1d t2d t3 t4 bE
      generalize (wd.setCell ⟨wc.heap.size + 1, 0, none⟩ (.int .i64 U)).setCell ⟨wc.heap.size + 1, 1, none⟩ (.int .i64 Q) = X at *
      obtain ⟨e0, e1, _, _, _⟩ := two_facts t1e
      obtain ⟨e2, e3, _, _, _⟩ := two_facts t2e
      refine (K1.2 _).mono ?_
      rintro e we ⟨rfl, be⟩
      have bG := bel_trans bF be
      have t3c := t3b.bel be
      have t4c := t4b.bel be
      clear be t1e t2e t3b t4b bF
      obtain ⟨g0, g1, _, _, _⟩ := two_facts t3c
      obtain ⟨g2, g3, _, _, _⟩ := two_facts t4c
      go_wp2_with fail
      refine (K2.2 _).mono ?_
      rintro e wf ⟨rfl, bf⟩
      have bH := bel_trans bG bf
      clear bf bG g0 g1 g2 g3 t3c t4c
      go_wp2_with fail
      refine (awake_any _).mono ?_
      rintro e wg ⟨rfl, bg⟩
      go_wp2_with fail
      go_ret
      exact ⟨rfl, bel_trans bH bg⟩
    · go_enter Try.func4, Try.ntmps4
      go_wp2_with fail
      refine (K1.1 _).mono ?_
      rintro e wa ⟨rfl, ba⟩
      go_wp2_with fail
      refine (K1.2 _).mono ?_
      rintro e wb ⟨rfl, bb⟩
      have t1 := ((Two.new wa _ _ _).old _).bel bb
      have t2 := (Two.news _ _ _ _ _ _).bel bb
      have bB := bel_trans (bel_alloc (bel_alloc ba _) _) bb
      clear bb
      obtain ⟨c0, c1, f0, f1, l0⟩ := two_facts t2
      have z1 := t1.lt
      go_wp2_with fail
      refine (K3 _).mono ?_
      rintro e wz ⟨rfl, rfl⟩
      go_wp2_with fail
      have t1b := t1.other (wa.heap.size + 1) (by omega) (.int .i64 T) (.int .i64 P)
      have t2b := t2.set (.int .i64 T) (.int .i64 P)
      have bC := bel_set (bel_set bB (wa.heap.size + 1) 0 (.int .i64 T) (by have := ba.size; omega)) (wa.heap.size + 1) 1 (.int .i64 P) (by have := ba.size; omega)
      clear c0 c1 f0 f1 l0 z1 t1 t2 bB
      generalize (wb.setCell ⟨wa.heap.size + 1, 0, none⟩ (.int .i64 T)).setCell ⟨wa.heap.size + 1, 1, none⟩ (.int .i64 P) = V at *
      refine (K2.1 _).mono ?_
      rintro e wc ⟨rfl, bc⟩
      have bD := bel_trans bC bc
      have t1c := t1b.bel bc
      have t2c := t2b.bel bc
      clear bc t1b t2b bC
      go_wp2_with fail
      refine (K2.2 _).mono ?_
      rintro e wd ⟨rfl, bd⟩
      have t3 := ((Two.new wc _ _ _).old _).bel bd
      have t4 := (Two.news _ _ _ _ _ _).bel bd
      have t1d := ((t1c.old _).old _).bel bd
      have t2d := ((t2c.old _).old _).bel bd
      have bE := bel_trans (bel_alloc (bel_alloc bD _) _) bd
      have l1 := t1c.lt
      have l2 := t2c.lt
      clear bd t1c t2c
      obtain ⟨c0, c1, f0, f1, l0⟩ := two_facts t4
      have z1 := t3.lt
      obtain ⟨q0, q1, _, _, _⟩ := two_facts t1d
      obtain ⟨q2, q3, _, _, _⟩ := two_facts t2d
      go_wp2_with fail
      have t3b := t3
      have t4b := t4
      have t1e := t1d
      have t2e := t2d
      have bF := bE
      clear c0 c1 f0 f1 l0 z1 q0 q1 q2 q3 t1d t2d t3 t4 bE
      obtain ⟨X, rfl⟩ : ∃ X, X = wd := ⟨wd, rfl⟩
      obtain ⟨e0, e1, _, _, _⟩ := two_facts t1e
      obtain ⟨e2, e3, _, _, _⟩ := two_facts t2e
      refine (K1.2 _).mono ?_
      rintro e we ⟨rfl, be⟩
      have bG := bel_trans bF be
      have t3c := t3b.bel be
      have t4c := t4b.bel be
      clear be t1e t2e t3b t4b bF
      obtain ⟨g0, g1, _, _, _⟩ := two_facts t3c
      obtain ⟨g2, g3, _, _, _⟩ := two_facts t4c
      go_wp2_with fail
      refine (K2.2 _).mono ?_
      rintro e wf ⟨rfl, bf⟩
      have bH := bel_trans bG bf
      clear bf bG g0 g1 g2 g3 t3c t4c
      go_wp2_with fail
      refine (awake_any _).mono ?_
      rintro e wg ⟨rfl, bg⟩
      go_wp2_with fail
      go_ret
      exact ⟨rfl, bel_trans bH bg⟩
  · rcases h2 with ⟨U, Q, U0, s0, s1, K2, K4⟩ | K2
    · go_enter Try.func4, Try.ntmps4
      go_wp2_with fail
      refine (K1.1 _).mono ?_
      rintro e wa ⟨rfl, ba⟩
      go_wp2_with fail
      refine (K1.2 _).mono ?_
      rintro e wb ⟨rfl, bb⟩
      have t1 := ((Two.new wa _ _ _).old _).bel bb
      have t2 := (Two.news _ _ _ _ _ _).bel bb
      have bB := bel_trans (bel_alloc (bel_alloc ba _) _) bb
      clear bb
      obtain ⟨c0, c1, f0, f1, l0⟩ := two_facts t2
      have z1 := t1.lt
      go_wp2_with fail
      have t1b := t1
      have t2b := t2
      have bC := bB
      clear c0 c1 f0 f1 l0 z1 t1 t2 bB
      obtain ⟨V, rfl⟩ : ∃ V, V = wb := ⟨wb, rfl⟩
      refine (K2.1 _).mono ?_
      rintro e wc ⟨rfl, bc⟩
      have bD := bel_trans bC bc
      have t1c := t1b.bel bc
      have t2c := t2b.bel bc
      clear bc t1b t2b bC
      go_wp2_with fail
      refine (K2.2 _).mono ?_
      rintro e wd ⟨rfl, bd⟩
      have t3 := ((Two.new wc _ _ _).old _).bel bd
      have t4 := (Two.news _ _ _ _ _ _).bel bd
      have t1d := ((t1c.old _).old _).bel bd
      have t2d := ((t2c.old _).old _).bel bd
      have bE := bel_trans (bel_alloc (bel_alloc bD _) _) bd
      have l1 := t1c.lt
      have l2 := t2c.lt
      clear bd t1c t2c
      obtain ⟨c0, c1, f0, f1, l0⟩ := two_facts t4
      have z1 := t3.lt
      obtain ⟨q0, q1, _, _, _⟩ := two_facts t1d
      obtain ⟨q2, q3, _, _, _⟩ := two_facts t2d
      go_wp2_with fail
      refine (K4 _).mono ?_
      rintro e wz ⟨rfl, rfl⟩
      go_wp2_with fail
      have t3b := t3.other (wc.heap.size + 1) (by omega) (.int .i64 U) (.int .i64 Q)
      have t4b := t4.set (.int .i64 U) (.int .i64 Q)
      have t1e := t1d.other (wc.heap.size + 1) (by omega) (.int .i64 U) (.int .i64 Q)
      have t2e := t2d.other (wc.heap.size + 1) (by omega) (.int .i64 U) (.int .i64 Q)
      have bF := bel_set (bel_set bE (wc.heap.size + 1) 0 (.int .i64 U) (by have := bD.size; omega)) (wc.heap.size + 1) 1 (.int .i64 Q) (by have := bD.size; omega)
      clear c0 c1 f0 f1 l0 z1 q0 q1 q2 q3 t1d t2d t3 t4 bE
      generalize (wd.setCell ⟨wc.heap.size + 1, 0, none⟩ (.int .i64 U)).setCell ⟨wc.heap.size + 1, 1, none⟩ (.int .i64 Q) = X at *
      obtain ⟨e0, e1, _, _, _⟩ := two_facts t1e
      obtain ⟨e2, e3, _, _, _⟩ := two_facts t2e
      refine (K1.2 _).mono ?_
      rintro e we ⟨rfl, be⟩
      have bG := bel_trans bF be
      have t3c := t3b.bel be
      have t4c := t4b.bel be
      clear be t1e t2e t3b t4b bF
      obtain ⟨g0, g1, _, _, _⟩ := two_facts t3c
      obtain ⟨g2, g3, _, _, _⟩ := two_facts t4c
      go_wp2_with fail
      refine (K2.2 _).mono ?_
      rintro e wf ⟨rfl, bf⟩
      have bH := bel_trans bG bf
      clear bf bG g0 g1 g2 g3 t3c t4c
      go_wp2_with fail
      refine (awake_any _).mono ?_
      rintro e wg ⟨rfl, bg⟩
      go_wp2_with fail
      go_ret
      exact ⟨rfl, bel_trans bH bg⟩
    · go_enter Try.func4, Try.ntmps4
      go_wp2_with fail
      refine (K1.1 _).mono ?_
      rintro e wa ⟨rfl, ba⟩
      go_wp2_with fail
      refine (K1.2 _).mono ?_
      rintro e wb ⟨rfl, bb⟩
      have t1 := ((Two.new wa _ _ _).old _).bel bb
      have t2 := (Two.news _ _ _ _ _ _).bel bb
      have bB := bel_trans (bel_alloc (bel_alloc ba _) _) bb
      clear bb
      obtain ⟨c0, c1, f0, f1, l0⟩ := two_facts t2
      have z1 := t1.lt
      go_wp2_with fail
      have t1b := t1
      have t2b := t2
      have bC := bB
      clear c0 c1 f0 f1 l0 z1 t1 t2 bB
      obtain ⟨V, rfl⟩ : ∃ V, V = wb := ⟨wb, rfl⟩
      refine (K2.1 _).mono ?_
      rintro e wc ⟨rfl, bc⟩
      have bD := bel_trans bC bc
      have t1c := t1b.bel bc
      have t2c := t2b.bel bc
      clear bc t1b t2b bC
      go_wp2_with fail
      refine (K2.2 _).mono ?_
      rintro e wd ⟨rfl, bd⟩
      have t3 := ((Two.new wc _ _ _).old _).bel bd
      have t4 := (Two.news _ _ _ _ _ _).bel bd
      have t1d := ((t1c.old _).old _).bel bd
      have t2d := ((t2c.old _).old _).bel bd
      have bE := bel_trans (bel_alloc (bel_alloc bD _) _) bd
      have l1 := t1c.lt
      have l2 := t2c.lt
      clear bd t1c t2c
      obtain ⟨c0, c1, f0, f1, l0⟩ := two_facts t4
      have z1 := t3.lt
      obtain ⟨q0, q1, _, _, _⟩ := two_facts t1d
      obtain ⟨q2, q3, _, _, _⟩ := two_facts t2d
      go_wp2_with fail
      have t3b := t3
      have t4b := t4
      have t1e := t1d
      have t2e := t2d
      have bF := bE
      clear c0 c1 f0 f1 l0 z1 q0 q1 q2 q3 t1d t2d t3 t4 bE
      obtain ⟨X, rfl⟩ : ∃ X, X = wd := ⟨wd, rfl⟩
      obtain ⟨e0, e1, _, _, _⟩ := two_facts t1e
      obtain ⟨e2, e3, _, _, _⟩ := two_facts t2e
      refine (K1.2 _).mono ?_
      rintro e we ⟨rfl, be⟩
      have bG := bel_trans bF be
      have t3c := t3b.bel be
      have t4c := t4b.bel be
      clear be t1e t2e t3b t4b bF
      obtain ⟨g0, g1, _, _, _⟩ := two_facts t3c
      obtain ⟨g2, g3, _, _, _⟩ := two_facts t4c
      go_wp2_with fail
      refine (K2.2 _).mono ?_
      rintro e wf ⟨rfl, bf⟩
      have bH := bel_trans bG bf
      clear bf bG g0 g1 g2 g3 t3c t4c
      go_wp2_with fail
      refine (awake_any _).mono ?_
      rintro e wg ⟨rfl, bg⟩
      go_wp2_with fail
      go_ret
      exact ⟨rfl, bel_trans bH bg⟩

theorem own : ownKnob Try.prog.godebug = none := by kernel_rfl
theorem laidOut : laidOutB Try.prog = true := by kernel_rfl

set_option maxRecDepth 100000 in
theorem lifted (os : Os) (started : os.Started) (H : Type) (enc : TypeId × Value → H) :
    ReturnsInHanded {} Try.checked os 4 .any (Rows.verdictTailsSpec.pre6 enc Try.prog Try.f4 Rows.verdictTailsRow.domain false) (Rows.verdictTailsSpec.post enc Try.prog Try.f4 false true false false) := by
  refine returnsInHanded_of_change (C := Try.checked) own started (by kernel_rfl) Try.func4
    (ChangeSpec.witness6 (enc := enc) (C := Try.checked) false ⟨#[], #[.int .i64 0, .int .i64 0, .int .i64 0, .int .i64 0], []⟩ 8 (by kernel_rfl) (by kernel_rfl) (by kernel_rfl) (by kernel_rfl)) ?_
  intro W base args ds gs before hval0 hW hcnd _
  have hval : ∀ (j : Nat) t v, Try.f4.params[j]? = some t → args[j]? = some v → Value.okWide Try.prog W .any base t v := hval0
  have hW' := hW
  obtain ⟨p, q, hA0, hV, rfl, hfz, hnd⟩ := hW
  have hA : DataW.TrodAll enc Try.prog W 0 (fun _ => true) true Try.f4.params.toList args.toList ds p := hA0
  rw [Try.params4] at hA hval
  obtain ⟨v0, vs0, d0, ds0, p0, q0, hargs, rfl, rfl, h0, r0⟩ := trodAll_cons hA
  obtain ⟨v1, vs1, d1, ds1, p1, q1, rfl, rfl, rfl, h1, r1⟩ := trodAll_cons r0
  obtain ⟨v2, vs2, d2, ds2, p2, q2, rfl, rfl, rfl, h2, r2⟩ := trodAll_cons r1
  obtain ⟨v3, vs3, d3, ds3, p3, q3, rfl, rfl, rfl, h3, r3⟩ := trodAll_cons r2
  obtain ⟨rfl, rfl, rfl⟩ := trodAll_nil r3
  obtain rfl : args = #[v0, v1, v2, v3] := by cases args; simp_all
  obtain ⟨rfl, rfl⟩ := trodVars_none hV
  have k0 := h0
  have lt0 : ∀ x ∈ p0, x.block < W.heap.size := by obtain ⟨m, hm⟩ := k0; exact DataW.trod_lt m _ _ _ hm
  obtain ⟨a0, rfl, rfl, rfl, w0⟩ := open_int Try.underlying3 (hval 0 3 v0 rfl rfl) h0
  have k1 := h1
  have lt1 : ∀ x ∈ p1, x.block < W.heap.size := by obtain ⟨m, hm⟩ := k1; exact DataW.trod_lt m _ _ _ hm
  obtain ⟨a1, rfl, rfl, rfl, w1⟩ := open_int Try.underlying3 (hval 1 3 v1 rfl rfl) h1
  have k2 := h2
  have lt2 : ∀ x ∈ p2, x.block < W.heap.size := by obtain ⟨m, hm⟩ := k2; exact DataW.trod_lt m _ _ _ hm
  obtain ⟨a2, rfl, rfl, rfl, w2⟩ := open_int Try.underlying3 (hval 2 3 v2 rfl rfl) h2
  have k3 := h3
  have lt3 : ∀ x ∈ p3, x.block < W.heap.size := by obtain ⟨m, hm⟩ := k3; exact DataW.trod_lt m _ _ _ hm
  obtain ⟨a3, rfl, rfl, rfl, w3⟩ := open_int Try.underlying3 (hval 3 3 v3 rfl rfl) h3
  clear hA0 hval0
  refine (walk a0 w0 a1 w1 a2 w2 a3 w3 W).mono fun e W' ⟨he, bel⟩ => ?_
  subst he
  exact ⟨_, rfl, _, _, _, [], _, [], hW', trodAll_mk1 (shut_bool Try.underlying4 _), (trodAll_cons_mk (Below.trod laidOut (by kernel_rfl) (of_decide_eq_true (by kernel_rfl)) k0 bel lt0) (trodAll_cons_mk (Below.trod laidOut (by kernel_rfl) (of_decide_eq_true (by kernel_rfl)) k1 bel lt1) (trodAll_cons_mk (Below.trod laidOut (by kernel_rfl) (of_decide_eq_true (by kernel_rfl)) k2 bel lt2) (trodAll_cons_mk (Below.trod laidOut (by kernel_rfl) (of_decide_eq_true (by kernel_rfl)) k3 bel lt3) trodAll_mk0)))), rfl, bel.frame _, fun h => by cases h⟩

theorem over : Rows.verdictTailsRow.holds Try.pinned (OpenSpec.ofChange Rows.verdictTailsSpec) :=
  OpenClaim.holds_of_wide 4 Try.f4 rfl rfl rfl rfl rfl rfl rfl ⟨rfl, rfl, rfl, rfl, rfl⟩ rfl rfl rfl rfl rfl (by kernel_rfl) Try.func4 (by kernel_rfl)
    (of_decide_eq_true (by kernel_rfl)) (by unfold Func.isWrapper; first | (rw [if_pos (by decide +kernel)]; kernel_rfl) | (rw [if_neg (by decide +kernel)]; exact ⟨rfl, rfl⟩))
    (fun os started H enc _ => lifted os started H enc)

theorem proved : Rows.VerdictTailsSaid := over
#print axioms proved
end Go.Proofs.Ytimgdeohcanneaa.verdictTails

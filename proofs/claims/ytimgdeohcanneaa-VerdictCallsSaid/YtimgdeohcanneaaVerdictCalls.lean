/- For every input ciceronelaw47.VerdictCalls returns true, and its arguments read behind the call as before. No conditions. -/
import Derived.Test.YtimgdeohcanneaaAwake
import Derived.Test.YtimgdeohcanneaaRefOf
import Derived.Test.YtimgdeohcanneaaInsert
import Derived.Test.YtimgdeohcanneaaRows
import Derived.ProofKit
import Derived.OpenShut
import Derived.ShutString
import Derived.ChangeOld
import Derived.Below
import Derived.Lib.SmallJoins
namespace Go.Proofs.Ytimgdeohcanneaa.verdictCalls
open Go.ChangeShapes Go.WideShapes Go.ChangeAt Go.RowKit Go.Joins
open Go.ChangeMaps (open_string shut_string)
set_option linter.unusedVariables false

open Pasc Wide Go.Maps
def turnV (x : Int) : Int := if x = 1 then 2 else if x = 2 then 1 else 0
theorem sgn_comm (a b : Int) : sgn b a = sgn a b := by unfold sgn; rw [Int.add_comm b a, Int.max_comm b a]
theorem call_turn (pa ba pb bb n d : Int) : callV pb bb pa ba n d = turnV (callV pa ba pb bb n d) := by
  unfold callV
  by_cases h1 : pa ≠ pb ∨ pa < 1
  · rw [if_pos h1, if_pos (by omega)]; rfl
  · rw [if_neg h1, if_neg (by omega)]
    by_cases h2 : ¬ (0 ≤ ba ∧ 0 ≤ bb ∧ ba + bb ≤ 62)
    · rw [if_pos h2, if_pos (by omega)]; rfl
    · rw [if_neg h2, if_neg (by omega), sgn_comm ba bb, Int.add_comm bb ba]
      split
      · rfl
      · by_cases h3 : bb < ba
        · rw [if_pos h3, if_neg (by omega), if_pos h3]; rfl
        · by_cases h4 : ba < bb
          · rw [if_pos h4, if_neg h3, if_pos h4]; rfl
          · rw [if_neg h4, if_neg h3, if_neg h3, if_neg h4]; rfl
theorem call_three (pa ba pb bb n d : Int) : callV pa ba pb bb n d = 0 ∨ callV pa ba pb bb n d = 1 ∨ callV pa ba pb bb n d = 2 := by
  unfold callV; repeat (first | split | simp)
def Three (N : Nat) (s0 : ByteArray) (a0 b0 g0 : Int) (s1 : ByteArray) (a1 b1 g1 n d : Int) (w' : World) : Prop :=
  w'.cell? ⟨N, 0, none⟩ = some (.string s0) ∧ w'.cell? ⟨N, 1, none⟩ = some (.int .i64 a0) ∧ w'.cell? ⟨N, 2, none⟩ = some (.int .i64 b0) ∧ w'.cell? ⟨N, 3, none⟩ = some (.int .i64 g0) ∧
  w'.cell? ⟨N + 1, 0, none⟩ = some (.string s1) ∧ w'.cell? ⟨N + 1, 1, none⟩ = some (.int .i64 a1) ∧ w'.cell? ⟨N + 1, 2, none⟩ = some (.int .i64 b1) ∧ w'.cell? ⟨N + 1, 3, none⟩ = some (.int .i64 g1) ∧
  w'.cell? ⟨N + 1 + 1, 0, none⟩ = some (.int .i64 n) ∧ w'.cell? ⟨N + 1 + 1, 1, none⟩ = some (.int .i64 d)
theorem Three.bel {N : Nat} {s0 : ByteArray} {a0 b0 g0 : Int} {s1 : ByteArray} {a1 b1 g1 n d : Int} {w w' : World} (h : Three N s0 a0 b0 g0 s1 a1 b1 g1 n d w) (hb : Below w.heap.size w w') : Three N s0 a0 b0 g0 s1 a1 b1 g1 n d w' := by
  obtain ⟨h1, h2, h3, h4, h5, h6, h7, h8, h9, h10⟩ := h
  exact ⟨cell_keep hb h1, cell_keep hb h2, cell_keep hb h3, cell_keep hb h4, cell_keep hb h5, cell_keep hb h6, cell_keep hb h7, cell_keep hb h8, cell_keep hb h9, cell_keep hb h10⟩
theorem law : Keyed Try.prog 37 := int_keyed Try.underlying37
theorem zeroE (w : World) : (zeroValue 37).run Try.prog w = .ok (.int .i64 0) w := by kernel_rfl
/-- the map that turns a call -/
def turned : DataW Unit := (((DataW.map []).put (.int .i64 0) (.lit (.int .i64 0))).put (.int .i64 1) (.lit (.int .i64 2))).put (.int .i64 2) (.lit (.int .i64 1))
theorem at0 : turned.atKey (.int .i64 0) (.lit (.int .i64 0)) = .lit (.int .i64 0) := by rfl
theorem at1 : turned.atKey (.int .i64 1) (.lit (.int .i64 0)) = .lit (.int .i64 2) := by rfl
theorem at2 : turned.atKey (.int .i64 2) (.lit (.int .i64 0)) = .lit (.int .i64 1) := by rfl
/-- a look-up in that map -/
theorem look (w : World) (b n : Nat) (x : Int) (hx : x = 0 ∨ x = 1 ∨ x = 2) (h : w.ownsMap Try.prog 37 (plainElem Try.prog 37) b n turned) :
    (Instr.lookup 39 (.map (some b)) (.int .i64 x) false).run Try.prog w = .ok (.int .i64 (turnV x)) w := by
  have hw : (Lit.int .i64 x).wf = true := by rcases hx with rfl | rfl | rfl <;> decide
  obtain ⟨c, hrun, hat, _⟩ := h.lookup_int law Try.underlying39 Try.underlying37 (zeroE w) (keyOf_int_mk Try.underlying37 hw)
  have e : c = turnV x := by
    rcases hx with rfl | rfl | rfl
    · rw [at0] at hat; simp at hat; exact hat.symm
    · rw [at1] at hat; simp at hat; exact hat.symm
    · rw [at2] at hat; simp at hat; exact hat.symm
  rw [hrun, e]

theorem mapped3 {wx m1 m2 m3 : World} {o : Obj} (r1 : (wx.alloc o).grownBy m1 (some wx.heap.size)) (r2 : m1.grownBy m2 (some wx.heap.size)) (r3 : m2.grownBy m3 (some wx.heap.size)) : Below wx.heap.size wx m3 := by
  have h0 : Below wx.heap.size wx (wx.alloc o) := (Below.refl _ _).alloc (Nat.le_refl _) _
  have h1 := h0.grown r1 (by simp) (fun k hk => by cases hk; exact Nat.le_refl _)
  have h2 := h1.grown r2 h1.size (fun k hk => by cases hk; exact Nat.le_refl _)
  exact h2.grown r3 h2.size (fun k hk => by cases hk; exact Nat.le_refl _)

set_option maxHeartbeats 2000000 in
set_option maxRecDepth 100000 in
theorem walk (s0 : ByteArray) (a0 b0 g0 : Int) (w00 : s0.size ≤ maxLen) (w01 : (Lit.int .i64 a0).wf = true) (w02 : (Lit.int .i64 b0).wf = true) (w03 : (Lit.int .i64 g0).wf = true)
    (s1 : ByteArray) (a1 b1 g1 : Int) (w10 : s1.size ≤ maxLen) (w11 : (Lit.int .i64 a1).wf = true) (w12 : (Lit.int .i64 b1).wf = true) (w13 : (Lit.int .i64 g1).wf = true)
    (n d : Int) (w20 : (Lit.int .i64 n).wf = true) (w21 : (Lit.int .i64 d).wf = true) (w : World) :
    Calls Try.prog 7 #[.agg #[.string s0, .int .i64 a0, .int .i64 b0, .int .i64 g0], .agg #[.string s1, .int .i64 a1, .int .i64 b1, .int .i64 g1], .agg #[.int .i64 n, .int .i64 d]] w fun e w' => e = .returned (.bool true) ∧ Below w.heap.size w w' := by
  have x1 := (bounds_i64 w02).2
  have x2 := (bounds_i64 w12).2
  have x3 := (bounds_i64 w20).2
  have x4 := (bounds_i64 w21).2
  clear w00 w01 w02 w03 w10 w11 w12 w13 w20 w21
  have h3 := call_three a0 b0 a1 b1 n d
  have hT := call_turn a0 b0 a1 b1 n d
  generalize hX : callV a0 b0 a1 b1 n d = X at *
  have HX := Lib.hid hX
  have HT := Lib.hid hT
  have H3 := Lib.hid h3
  clear hX hT h3
  have hmm := @run_makeMap Try.prog
  go_enter Try.func7, Try.ntmps7
  go_wp2_with fail
  have F3 : Three w.heap.size s0 a0 b0 g0 s1 a1 b1 g1 n d (((w.alloc (.cells #[.string s0, .int .i64 a0, .int .i64 b0, .int .i64 g0] 36)).alloc (.cells #[.string s1, .int .i64 a1, .int .i64 b1, .int .i64 g1] 36)).alloc (.cells #[.int .i64 n, .int .i64 d] 29)) := by
    refine ⟨?_, ?_, ?_, ?_, ?_, ?_, ?_, ?_, ?_, ?_⟩ <;> simp [go_sem]
  have bB := bel3 w (.cells #[.string s0, .int .i64 a0, .int .i64 b0, .int .i64 g0] 36) (.cells #[.string s1, .int .i64 a1, .int .i64 b1, .int .i64 g1] 36) (.cells #[.int .i64 n, .int .i64 d] 29)
  generalize ((w.alloc (.cells #[.string s0, .int .i64 a0, .int .i64 b0, .int .i64 g0] 36)).alloc (.cells #[.string s1, .int .i64 a1, .int .i64 b1, .int .i64 g1] 36)).alloc (.cells #[.int .i64 n, .int .i64 d] 29) = W at *
  have F2 := F3
  obtain ⟨h1, h2, h3, h4, h5, h6, h7, h8, h9, h10⟩ := F2
  go_region_held3 (fun w' => w'.cell? ⟨w.heap.size, 0, none⟩ = some (.string s0) ∧ w'.cell? ⟨w.heap.size, 1, none⟩ = some (.int .i64 a0) ∧ w'.cell? ⟨w.heap.size, 2, none⟩ = some (.int .i64 b0) ∧ w'.cell? ⟨w.heap.size, 3, none⟩ = some (.int .i64 g0) ∧
      w'.cell? ⟨w.heap.size + 1, 0, none⟩ = some (.string s1) ∧ w'.cell? ⟨w.heap.size + 1, 1, none⟩ = some (.int .i64 a1) ∧ w'.cell? ⟨w.heap.size + 1, 2, none⟩ = some (.int .i64 b1) ∧ w'.cell? ⟨w.heap.size + 1, 3, none⟩ = some (.int .i64 g1) ∧
      w'.cell? ⟨w.heap.size + 1 + 1, 0, none⟩ = some (.int .i64 n) ∧ w'.cell? ⟨w.heap.size + 1 + 1, 1, none⟩ = some (.int .i64 d))
    (first | exact F3 | exact F3.bel bw2 | exact F3.bel bw1 | fail)
    (first | (go_at_call 18; refine (of_any _ _ _ _ _ _ _ _ _ _ _ ?_ ?_ ?_ ?_).mono ?_; (first | exact x1 | exact x2 | exact x3 | exact x4); (first | exact x1 | exact x2 | exact x3 | exact x4); (first | exact x1 | exact x2 | exact x3 | exact x4); (first | exact x1 | exact x2 | exact x3 | exact x4); rintro e wx ⟨rfl, bx⟩; (first | (have bw2 : Below W.heap.size W wx := bw1.trans (bx.mono bw1.size)) | (have bw1 : Below W.heap.size W wx := (Below.refl W.heap.size W).drew.trans bx) | fail); clear bx))
  rw [HX.out, HT.out]
  clear h1 h2 h3 h4 h5 h6 h7 h8 h9 h10
  have F4 := F3.bel bw2
  have bC := bel_trans bB bw2
  go_wp2_with (first
    | (refine wpList_insert_own (H := Unit) _ rfl _ _ _ 39 rfl 37 37 law Try.underlying39 (plainElem Try.prog 37) wx.heap.size 0 (.map []) rfl (World.ownsMap_made _ _ _ _) (by decide) (.int .i64 0) (.int .i64 0) (.int .i64 0) rfl rfl (keyOf_int_mk Try.underlying37 (by decide)) _ [] (plainElem_int Try.underlying37 (by decide)) ?_; intro m1 o1 r1)
    | (refine wpList_insert_own (H := Unit) _ rfl _ _ _ 39 rfl 37 37 law Try.underlying39 (plainElem Try.prog 37) wx.heap.size 1 _ rfl o1 (by decide) (.int .i64 1) (.int .i64 2) (.int .i64 1) rfl rfl (keyOf_int_mk Try.underlying37 (by decide)) _ [] (plainElem_int Try.underlying37 (by decide)) ?_; intro m2 o2 r2)
    | (refine wpList_insert_own (H := Unit) _ rfl _ _ _ 39 rfl 37 37 law Try.underlying39 (plainElem Try.prog 37) wx.heap.size 2 _ rfl o2 (by decide) (.int .i64 2) (.int .i64 1) (.int .i64 2) rfl rfl (keyOf_int_mk Try.underlying37 (by decide)) _ [] (plainElem_int Try.underlying37 (by decide)) ?_; intro m3 o3 r3; have bM := mapped3 r1 r2 r3; have F5 := F4.bel bM; obtain ⟨k1, k2, k3, k4, k5, k6, k7, k8, k9, k10⟩ := F5))
  refine (rof_any _ _ _ _ _ _ _ _ _ _ _ x1 x2 x3 x4).mono ?_
  rintro e wy ⟨rfl, by1⟩
  rw [HX.out]
  have o4 := ownsMap_bel o3 by1
  have L := look wy wx.heap.size _ X H3.out o4
  have bD := bel_trans (bel_trans bC bM) by1
  clear o1 o2 o3 o4 k1 k2 k3 k4 k5 k6 k7 k8 k9 k10
  go_wp2_with fail
  refine (awake_any _).mono ?_
  rintro e wz ⟨rfl, bz⟩
  go_wp2_with fail
  go_ret
  exact ⟨rfl, bel_trans bD bz⟩

theorem own : ownKnob Try.prog.godebug = none := by kernel_rfl
theorem laidOut : laidOutB Try.prog = true := by kernel_rfl

set_option maxRecDepth 100000 in
theorem lifted (os : Os) (started : os.Started) (H : Type) (enc : TypeId × Value → H) :
    ReturnsInHanded {} Try.checked os 7 .any (Rows.verdictCallsSpec.pre6 enc Try.prog Try.f7 Rows.verdictCallsRow.domain false) (Rows.verdictCallsSpec.post enc Try.prog Try.f7 false true false false) := by
  refine returnsInHanded_of_change (C := Try.checked) own started (by kernel_rfl) Try.func7
    (ChangeSpec.witness6 (enc := enc) (C := Try.checked) false ⟨#[], #[.agg #[.string ⟨#[]⟩, .int .i64 0, .int .i64 0, .int .i64 0], .agg #[.string ⟨#[]⟩, .int .i64 0, .int .i64 0, .int .i64 0], .agg #[.int .i64 0, .int .i64 0]], []⟩ 8 (by kernel_rfl) (by kernel_rfl) (by kernel_rfl) (by kernel_rfl)) ?_
  intro W base args ds gs before hval0 hW hcnd _
  have hval : ∀ (j : Nat) t v, Try.f7.params[j]? = some t → args[j]? = some v → Value.okWide Try.prog W .any base t v := hval0
  have hW' := hW
  obtain ⟨p, q, hA0, hV, rfl, hfz, hnd⟩ := hW
  have hA : DataW.TrodAll enc Try.prog W 0 (fun _ => true) true Try.f7.params.toList args.toList ds p := hA0
  rw [Try.params7] at hA hval
  obtain ⟨v0, vs0, d0, ds0, p0, q0, hargs, rfl, rfl, h0, r0⟩ := trodAll_cons hA
  obtain ⟨v1, vs1, d1, ds1, p1, q1, rfl, rfl, rfl, h1, r1⟩ := trodAll_cons r0
  obtain ⟨v2, vs2, d2, ds2, p2, q2, rfl, rfl, rfl, h2, r2⟩ := trodAll_cons r1
  obtain ⟨rfl, rfl, rfl⟩ := trodAll_nil r2
  obtain rfl : args = #[v0, v1, v2] := by cases args; simp_all
  obtain ⟨rfl, rfl⟩ := trodVars_none hV
  have k0 := h0
  have lt0 : ∀ x ∈ p0, x.block < W.heap.size := by obtain ⟨m, hm⟩ := k0; exact DataW.trod_lt m _ _ _ hm
  obtain ⟨c00, c01, c02, c03, y00, y01, y02, y03, m0, rfl, hd0, hp0, hy00, hy01, hy02, hy03⟩ := open_agg4 Try.underlying36 (by kernel_rfl) (by kernel_rfl) (hval 0 36 v0 rfl rfl) h0
  obtain ⟨s0, e00, _, w00⟩ := DataW.trod_string Try.underlying9 hy00
  obtain ⟨a0, e01, _, w01⟩ := DataW.trod_int Try.underlying3 hy01
  obtain ⟨b0, e02, _, w02⟩ := DataW.trod_int Try.underlying3 hy02
  obtain ⟨g0, e03, _, w03⟩ := DataW.trod_int Try.underlying2 hy03
  simp at e00 e01 e02 e03
  subst e00 e01 e02 e03
  have k1 := h1
  have lt1 : ∀ x ∈ p1, x.block < W.heap.size := by obtain ⟨m, hm⟩ := k1; exact DataW.trod_lt m _ _ _ hm
  obtain ⟨c10, c11, c12, c13, y10, y11, y12, y13, m1, rfl, hd1, hp1, hy10, hy11, hy12, hy13⟩ := open_agg4 Try.underlying36 (by kernel_rfl) (by kernel_rfl) (hval 1 36 v1 rfl rfl) h1
  obtain ⟨s1, e10, _, w10⟩ := DataW.trod_string Try.underlying9 hy10
  obtain ⟨a1, e11, _, w11⟩ := DataW.trod_int Try.underlying3 hy11
  obtain ⟨b1, e12, _, w12⟩ := DataW.trod_int Try.underlying3 hy12
  obtain ⟨g1, e13, _, w13⟩ := DataW.trod_int Try.underlying2 hy13
  simp at e10 e11 e12 e13
  subst e10 e11 e12 e13
  have k2 := h2
  have lt2 : ∀ x ∈ p2, x.block < W.heap.size := by obtain ⟨m, hm⟩ := k2; exact DataW.trod_lt m _ _ _ hm
  obtain ⟨c20, c21, y20, y21, m2, rfl, hd2, hp2, hy20, hy21⟩ := open_agg2 Try.underlying29 (by kernel_rfl) (by kernel_rfl) (hval 2 29 v2 rfl rfl) h2
  obtain ⟨a2, e20, _, w20⟩ := DataW.trod_int Try.underlying2 hy20
  obtain ⟨b2, e21, _, w21⟩ := DataW.trod_int Try.underlying2 hy21
  simp at e20 e21
  subst e20 e21
  clear hA0 hval0
  refine (walk s0 a0 b0 g0 w00 w01 w02 w03 s1 a1 b1 g1 w10 w11 w12 w13 a2 b2 w20 w21 W).mono fun e W' ⟨he, bel⟩ => ?_
  subst he
  exact ⟨_, rfl, _, _, _, [], _, [], hW', trodAll_mk1 (shut_bool Try.underlying4 _), (trodAll_cons_mk (Below.trod laidOut (by kernel_rfl) (of_decide_eq_true (by kernel_rfl)) k0 bel lt0) (trodAll_cons_mk (Below.trod laidOut (by kernel_rfl) (of_decide_eq_true (by kernel_rfl)) k1 bel lt1) (trodAll_cons_mk (Below.trod laidOut (by kernel_rfl) (of_decide_eq_true (by kernel_rfl)) k2 bel lt2) trodAll_mk0))), rfl, bel.frame _, fun h => by cases h⟩

theorem over : Rows.verdictCallsRow.holds Try.pinned (OpenSpec.ofChange Rows.verdictCallsSpec) :=
  OpenClaim.holds_of_wide 7 Try.f7 rfl rfl rfl rfl rfl rfl rfl ⟨rfl, rfl, rfl, rfl, rfl⟩ rfl rfl rfl rfl rfl (by kernel_rfl) Try.func7 (by kernel_rfl)
    (of_decide_eq_true (by kernel_rfl)) (by unfold Func.isWrapper; first | (rw [if_pos (by decide +kernel)]; kernel_rfl) | (rw [if_neg (by decide +kernel)]; exact ⟨rfl, rfl⟩))
    (fun os started H enc _ => lifted os started H enc)

theorem proved : Rows.VerdictCallsSaid := over
#print axioms proved
end Go.Proofs.Ytimgdeohcanneaa.verdictCalls

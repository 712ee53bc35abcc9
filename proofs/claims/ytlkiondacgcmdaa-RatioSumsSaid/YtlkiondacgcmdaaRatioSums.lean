/- For every input ciceronelaw01.RatioSums returns true, and its argument reads behind the call as before. No conditions. -/
import Derived.Test.YtlkiondacgcmdaaAwake01
import Derived.Test.YtlkiondacgcmdaaRSum
import Derived.Test.YtlkiondacgcmdaaSlice
import Derived.Test.YtlkiondacgcmdaaRows
import Derived.ProofKit
import Derived.OpenShut
import Derived.ShutString
import Derived.ChangeOld
import Derived.Below
import Derived.Lib.SmallJoins
namespace Go.Proofs.Ytlkiondacgcmdaa.ratioSums
open Go.ChangeShapes Go.WideShapes Go.ChangeAt Go.RowKit Go.Joins
open Go.ChangeMaps (open_string shut_string)
set_option linter.unusedVariables false

open Wide
section
variable {H : Type} {enc : TypeId × Value → H} {W : World}
theorem open_ratios {r : Reach} {b0 : Nat} {v : Value} {d : DataW H} {p : List MemPlace} (hval : Value.okWide Try.prog W r b0 35 v) (h : DataW.Trod enc Try.prog W 0 (fun _ => true) true 35 v d p) :
    ∃ (b : Option Addr) (cap : Nat) (xs : List (Int × Int)), v = .slice b xs.length cap ∧ xs.length ≤ cap ∧ cap ≤ maxLen ∧ InW W b 2 (xs.map fun x => [.int .i64 x.1, .int .i64 x.2]) ∧ ∀ x ∈ xs, x.1 ≤ 9223372036854775807 ∧ x.2 ≤ 9223372036854775807 := by
  refine open_slice_as 2 _ _ Try.underlying35 (by kernel_rfl) (by omega) hval h fun c fuel x hc hx => ?_
  obtain ⟨xs, k, hk, hxy, _, hxl, hf⟩ := DataW.trod_struct Try.underlying37 hx
  match xs, hxl, c, hc with
  | [y0, y1], _, [v0, v1], _ =>
    have g0 := hf 0 _ rfl
    have g1 := hf 1 _ rfl
    have c64 : Try.prog.cellsOf 2 = 1 := by kernel_rfl
    simp [c64] at g0 g1
    obtain ⟨a, e0, _, w0⟩ := DataW.trod_int Try.underlying2 g0
    obtain ⟨b, e1, _, w1⟩ := DataW.trod_int Try.underlying2 g1
    simp at e0 e1
    subst e0 e1
    exact ⟨(a, b), rfl, (bounds_i64 w0).2, (bounds_i64 w1).2⟩
end
set_option maxHeartbeats 1000000 in
theorem walk (w : World) (b : Option Addr) (cap : Nat) (xs : List (Int × Int)) (_hl : xs.length ≤ cap) (_hm : cap ≤ maxLen) (hi : InW w b 2 (xs.map fun x => [.int .i64 x.1, .int .i64 x.2])) (ho : ∀ x ∈ xs, x.1 ≤ 9223372036854775807 ∧ x.2 ≤ 9223372036854775807) :
    Calls Try.prog 6 #[.slice b xs.length cap] w fun e w' => e = .returned (.bool true) ∧ Below w.heap.size w w' := by
  by_cases hbig : 12 < xs.length
  · clear hi ho
    generalize xs.length = n at *
    go_enter Try.func6, Try.ntmps6
    go_wp2_with fail
    refine (awake_any _).mono ?_
    rintro e w1 ⟨rfl, b1⟩
    go_wp2_with fail
    go_ret
    exact ⟨rfl, b1⟩
  · have H1 : ∀ wv, Below w.heap.size w wv → Calls Try.prog 18 #[.slice b xs.length cap] wv fun e w' => e = .returned (.tuple #[.agg #[.int .i64 (sumN xs), .int .i64 (sumD xs)], .bool (sumB xs)]) ∧ Below wv.heap.size wv w' := by
      intro wv hb
      rcases hi.bel hb with h | ⟨B, off, rfl, _, hc⟩
      · have : xs = [] := List.map_eq_nil_iff.1 h
        subst this
        exact sum_nil_slice b cap wv
      · refine sum_some_slice B off cap xs wv (fun i x hx => ?_) (fun x hx => ho x hx) (by omega)
        have h0 := hc i _ (by rw [List.getElem?_map, hx]; rfl)
        exact ⟨h0 0 _ rfl, h0 1 _ rfl⟩
    have H2 : ∀ wv, Below w.heap.size w wv → Calls Try.prog 19 #[.slice b xs.length cap] wv fun e w' => e = .returned (.tuple #[.agg #[.int .i64 (sumN xs), .int .i64 (sumD xs)], .bool (sumB xs)]) ∧ Below wv.heap.size wv w' := by
      intro wv hb
      rcases hi.bel hb with h | ⟨B, off, rfl, _, hc⟩
      · have : xs = [] := List.map_eq_nil_iff.1 h
        subst this
        exact rsum_nil_slice b cap wv
      · refine rsum_some_slice B off cap xs wv (fun i x hx => ?_) (fun x hx => ho x hx) (by omega)
        have h0 := hc i _ (by rw [List.getElem?_map, hx]; rfl)
        exact ⟨h0 0 _ rfl, h0 1 _ rfl⟩
    have K1 := Lib.hid H1
    have K2 := Lib.hid H2
    clear H1 H2 hi ho
    generalize sumN xs = n at *
    generalize sumD xs = d at *
    generalize sumB xs = z at *
    generalize xs.length = l at *
    cases z
    all_goals
      go_enter Try.func6, Try.ntmps6
      go_wp2_with fail
      refine (K1.out _ (Below.refl _ _)).mono ?_
      rintro e w1 ⟨rfl, b1⟩
      have t1 := Two.new w1 (.int .i64 n) (.int .i64 d) 37
      have bA := bel_alloc b1 (.cells #[.int .i64 n, .int .i64 d] 37)
      go_wp2_with fail
      refine (K2.out _ bA).mono ?_
      rintro e w2 ⟨rfl, b2⟩
      have t2 := t1.bel b2
      have bB := bel_trans bA b2
      have l2 := t2.lt
      obtain ⟨c0, c1, _, _, _⟩ := two_facts t2
      go_wp2_with fail
      refine (awake_any _).mono ?_
      rintro e w3 ⟨rfl, b3⟩
      go_wp2_with fail
      go_ret
      exact ⟨rfl, bel_trans (bel_alloc bB _) b3⟩

theorem own : ownKnob Try.prog.godebug = none := by kernel_rfl
theorem laidOut : laidOutB Try.prog = true := by kernel_rfl

set_option maxRecDepth 100000 in
theorem lifted (os : Os) (started : os.Started) (H : Type) (enc : TypeId × Value → H) :
    ReturnsInHanded {} Try.checked os 6 .any (Rows.ratioSumsSpec.pre6 enc Try.prog Try.f6 Rows.ratioSumsRow.domain false) (Rows.ratioSumsSpec.post enc Try.prog Try.f6 false true false false) := by
  refine returnsInHanded_of_change (C := Try.checked) own started (by kernel_rfl) Try.func6
    (ChangeSpec.witness6 (enc := enc) (C := Try.checked) false ⟨#[], #[.slice none 0 0], []⟩ 8 (by kernel_rfl) (by kernel_rfl) (by kernel_rfl) (by kernel_rfl)) ?_
  intro W base args ds gs before hval0 hW hcnd _
  have hval : ∀ (j : Nat) t v, Try.f6.params[j]? = some t → args[j]? = some v → Value.okWide Try.prog W .any base t v := hval0
  have hW' := hW
  obtain ⟨p, q, hA0, hV, rfl, hfz, hnd⟩ := hW
  have hA : DataW.TrodAll enc Try.prog W 0 (fun _ => true) true Try.f6.params.toList args.toList ds p := hA0
  rw [Try.params6] at hA hval
  obtain ⟨v0, vs0, d0, ds0, p0, q0, hargs, rfl, rfl, h0, r0⟩ := trodAll_cons hA
  obtain ⟨rfl, rfl, rfl⟩ := trodAll_nil r0
  obtain rfl : args = #[v0] := by cases args; simp_all
  obtain ⟨rfl, rfl⟩ := trodVars_none hV
  have k0 := h0
  have lt0 : ∀ x ∈ p0, x.block < W.heap.size := by obtain ⟨m, hm⟩ := k0; exact DataW.trod_lt m _ _ _ hm
  obtain ⟨b0, c0, x0, rfl, l0, m0, i0, o0⟩ := open_ratios (hval 0 35 v0 rfl rfl) h0
  clear hA0 hval0
  refine (walk W b0 c0 x0 l0 m0 i0 o0).mono fun e W' ⟨he, bel⟩ => ?_
  subst he
  exact ⟨_, rfl, _, _, _, [], _, [], hW', trodAll_mk1 (shut_bool Try.underlying4 _), (trodAll_cons_mk (Below.trod laidOut (by kernel_rfl) (of_decide_eq_true (by kernel_rfl)) k0 bel lt0) trodAll_mk0), rfl, bel.frame _, fun h => by cases h⟩

theorem over : Rows.ratioSumsRow.holds Try.pinned (OpenSpec.ofChange Rows.ratioSumsSpec) :=
  OpenClaim.holds_of_wide 6 Try.f6 rfl rfl rfl rfl rfl rfl rfl ⟨rfl, rfl, rfl, rfl, rfl⟩ rfl rfl rfl rfl rfl (by kernel_rfl) Try.func6 (by kernel_rfl)
    (of_decide_eq_true (by kernel_rfl)) (by unfold Func.isWrapper; first | (rw [if_pos (by decide +kernel)]; kernel_rfl) | (rw [if_neg (by decide +kernel)]; exact ⟨rfl, rfl⟩))
    (fun os started H enc _ => lifted os started H enc)

theorem proved : Rows.RatioSumsSaid := over
#print axioms proved
end Go.Proofs.Ytlkiondacgcmdaa.ratioSums

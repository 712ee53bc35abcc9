/- For every input ciceronelaw13.DistinctGrows returns true, and its arguments read behind the call as before. No conditions. -/
import Derived.Test.YtipblbmpckfigaaDLong
import Derived.Test.YtipblbmpckfigaaRows
import Derived.ProofKit
import Derived.OpenShut
import Derived.ShutString
import Derived.ChangeOld
import Derived.Below
import Derived.Lib.SmallJoins
namespace Go.Proofs.Ytipblbmpckfigaa.distinctGrows
open Go.ChangeShapes Go.WideShapes Go.ChangeAt Go.RowKit Go.Joins
open Go.ChangeMaps (open_string shut_string)
set_option linter.unusedVariables false

open Dist
theorem insU_idem (L : List Int) (h : Int) : insU (insU L h) h = insU L h := by
  have : h ∈ insU L h := mem_insU.2 (.inl rfl)
  rw [insU, if_pos this]
theorem least_mono {k : Nat} {L : List Int} (h : Int) : leastOf k L ≤ leastOf k (insU L h) := by
  have := insU_length L h
  unfold leastOf
  split <;> split <;> omega
theorem more_mono {k : Nat} {L : List Int} (h : Int) (hm : k < L.length) : k < (insU L h).length := by
  have := insU_length L h; omega
theorem again {k : Nat} {L : List Int} (h : Int) : addRet k (insU L h) h = false ∨ addRet k L h = false := by
  unfold addRet
  by_cases hm : h ∈ (insU L h).take k
  · left; simp [hm]
  · right; simp [hm]
set_option maxHeartbeats 4000000 in
set_option maxRecDepth 100000 in
theorem walk (w : World) (k : Int) (wk : (Lit.int .i64 k).wf = true) (b : Option Addr) (cap : Nat) (xs : List ByteArray) (hl : xs.length ≤ cap) (hm : cap ≤ maxLen) (hi : InW w b 1 (xs.map fun s => [.string s])) (ho : ∀ s ∈ xs, s.size ≤ maxLen) :
    Calls Try.prog 4 #[.int .i64 k, .slice b xs.length cap] w fun e w' => e = .returned (.bool true) ∧ Below w.heap.size w w' := by
  have HL := Lib.hid (long_any b cap xs w hi hm hl ho)
  have HN := Lib.hid (New_any k w)
  obtain ⟨kk1, kk2⟩ := sizeK_bd k
  unfold maxLen at hm
  cases hlong : longB xs
  · rw [hlong] at HL
    generalize hn : xs.length = n at *
    have Hn := Lib.hid hn
    clear hn
    generalize sizeK k = K at *
    go_enter Try.func4, Try.ntmps4
    go_wp2_with fail
    refine HL.out.mono ?_
    rintro e w1 ⟨rfl, rfl⟩
    go_wp2_with fail
    refine HN.out.mono ?_
    rintro e w1 ⟨rfl, C0, hw1⟩
    have B1 : Below w.heap.size w w1 := by rw [hw1]; exact (Below.refl _ _).alloc (Nat.le_refl _) _
    clear hw1 HN HL
    have K1 := Lib.hid (Count_exact w.heap.size K _ [] w1 C0 (by simp))
    have K2 := Lib.hid (Exact_any w.heap.size K _ [] w1 C0)
    have K3 := Lib.hid (Least_any w.heap.size K _ [] w1 C0)
    rw [show ([] : List Int).length = 0 from rfl] at K1 K2
    rw [show decide (K < 0) = false by simp] at K2
    rw [show leastOf K [] = 0 by simp [leastOf]] at K3
    go_wp2_with fail
    refine K1.out.mono ?_
    rintro e w2 ⟨rfl, rfl⟩
    go_wp2_with fail
    refine K2.out.mono ?_
    rintro e w2 ⟨rfl, rfl⟩
    go_wp2_with fail
    refine K3.out.mono ?_
    rintro e w2 ⟨rfl, rfl⟩
    go_wp2_with fail
    go_loopw [6, 7, 35] (fun s6 s7 c wr => ∃ (i : Nat) (L : List Int) (v : Value), i ≤ n ∧ c = .int .i64 i ∧ s6 = .int .i64 (leastOf K L) ∧ s7 = .bool (!decide (K < L.length)) ∧ Cnt wr w.heap.size v K L ∧ (∀ b, v.ownBlock = some b → w.heap.size ≤ b) ∧ Below w.heap.size w wr) (fun _ _ c _ => n - (intOf c).toNat)
    case atStart => exact ⟨0, [], .slice none 0 0, by omega, rfl, by simp [leastOf], by simp, C0, (fun b hb => by cases hb), B1⟩
    case round =>
      obtain ⟨i, L, v, hin, rfl, rfl, rfl, hC, hv, hB⟩ := hrel
      clear C0 B1 K1 K2 K3
      by_cases hlt : i < n
      · obtain ⟨s, hs⟩ : ∃ s, xs[i]? = some s := ⟨xs[i]'(by have := Hn.out; omega), List.getElem?_eq_getElem _⟩
        obtain ⟨B, off, rfl, hBl, hc⟩ := Strs.at hi hs
        have hsz : s.size ≤ maxLen := ho s (List.mem_of_getElem? hs)
        have c1 := hB.cell (p := ⟨B, off + i, none⟩) hBl
        rw [hc] at c1
        clear hc
        have HS := Lib.hid hs
        clear hs
        have lm := least_mono (k := K) (L := L) (hash s.data.toList)
        have lb : leastOf K (insU L (hash s.data.toList)) ≤ 4097 := by unfold leastOf; split <;> omega
        have mm := Lib.hid (more_mono (k := K) (L := L) (hash s.data.toList))
        have ag := Lib.hid (again (k := K) (L := L) (hash s.data.toList))
        have A1 := Lib.hid (fun wx (c : Cnt wx w.heap.size v K L) => Add_any w.heap.size K v L s wx c hsz)
        have A2 := Lib.hid (fun wx v' (c : Cnt wx w.heap.size v' K (insU L (hash s.data.toList))) => Add_any w.heap.size K v' _ s wx c hsz)
        have idem : Hid (insU (insU L (hash s.data.toList)) (hash s.data.toList) = insU L (hash s.data.toList)) := insU_idem _ _
        generalize hash s.data.toList = h at *
        obtain ⟨m0, hm0⟩ : ∃ m, decide (K < L.length) = m := ⟨_, rfl⟩
        obtain ⟨m1, hm1⟩ : ∃ m, decide (K < (insU L h).length) = m := ⟨_, rfl⟩
        have hmm : m0 = true → m1 = true := fun e => by rw [← hm1]; rw [← hm0] at e; exact decide_eq_true (mm.out (of_decide_eq_true e))
        obtain ⟨r0, hr0⟩ : ∃ r, addRet K L h = r := ⟨_, rfl⟩
        rw [hr0] at ag
        rw [hm0]
        have t1 : decide (leastOf K (insU L h) < leastOf K L) = false := decide_eq_false (by omega)
        have HM1 := Lib.hid hm1
        have HR0 := Lib.hid hr0
        clear hm0 hm1 hr0 mm lm
        generalize leastOf K L = l0 at *
        go_wp2_with fail
        refine (A1.out _ hC).mono ?_
        rintro e w1 ⟨v1, rfl, C1, F1, S1⟩
        rw [HR0.out]
        have hB1 : Below w.heap.size w w1 := hB.trans (F1.below (hB.size) (fun b hb => by rcases hb with rfl | hb; exact Nat.le_refl _; exact hv b hb))
        have hv1 : ∀ b, v1.ownBlock = some b → w.heap.size ≤ b := fun b hb => by
          rcases S1 with e | ⟨c, e, hc⟩
          · rw [e] at hb; exact hv b hb
          · rw [e] at hb; cases hb; have := hB.size; omega
        clear hC F1 S1 hB hv c1 A1
        have K2 := Lib.hid (Exact_any w.heap.size K _ _ w1 C1)
        have K3 := Lib.hid (Least_any w.heap.size K _ _ w1 C1)
        rw [HM1.out] at K2
        go_wp2_with fail
        refine K3.out.mono ?_
        rintro e w2 ⟨rfl, rfl⟩
        generalize hl1 : leastOf K (insU L h) = l1 at *
        go_wp2_with fail
        refine K2.out.mono ?_
        rintro e w2 ⟨rfl, rfl⟩
        have Hl1 := Lib.hid hl1
        clear hl1
        have hcase : (m1 = true) ∨ (m1 = false ∧ m0 = false) := by
          cases m1 with
          | true => exact .inl rfl
          | false => cases m0 with
            | true => exact absurd (hmm rfl) (by simp)
            | false => exact .inr ⟨rfl, rfl⟩
        clear hmm
        cases r0
        · rcases hcase with rfl | ⟨rfl, rfl⟩
          all_goals
            · skip
              go_wp2_with fail
              refine K3.out.mono ?_
              rintro e w2 ⟨rfl, rfl⟩
              go_wp2_with fail
              refine K2.out.mono ?_
              rintro e w2 ⟨rfl, rfl⟩
              go_wp2_with fail
              go_roundw
              case rel => exact ⟨i + 1, insU L h, v1, by omega, by go_num, by rw [Hl1.out], (by rw [HM1.out]; rfl), C1, hv1, hB1⟩
              case measure => simp [intOf]; omega
        · have hag := ag.out.resolve_right (by simp)
          rcases hcase with rfl | ⟨rfl, rfl⟩
          all_goals
            · go_wp2_with fail
              refine (A2.out _ _ C1).mono ?_
              rintro e w3 ⟨v2, rfl, C2, F2, S2⟩
              rw [hag]
              rw [idem.out] at C2
              have hB2 : Below w.heap.size w w3 := hB1.trans (F2.below (hB1.size) (fun b hb => by rcases hb with rfl | hb; exact Nat.le_refl _; exact hv1 b hb))
              have hv2 : ∀ b, v2.ownBlock = some b → w.heap.size ≤ b := fun b hb => by
                rcases S2 with e | ⟨c, e, hc⟩
                · rw [e] at hb; exact hv1 b hb
                · rw [e] at hb; cases hb; have := hB1.size; omega
              clear K2 K3 F2 S2 hag ag
              have K2 := Lib.hid (Exact_any w.heap.size K _ _ w3 C2)
              have K3 := Lib.hid (Least_any w.heap.size K _ _ w3 C2)
              rw [HM1.out] at K2
              rw [Hl1.out] at K3
              go_wp2_with fail
              refine K3.out.mono ?_
              rintro e w2 ⟨rfl, rfl⟩
              go_wp2_with fail
              refine K2.out.mono ?_
              rintro e w2 ⟨rfl, rfl⟩
              go_wp2_with fail
              go_roundw
              case rel => exact ⟨i + 1, insU L h, v2, by omega, by go_num, by rw [Hl1.out], (by rw [HM1.out]; rfl), C2, hv2, hB2⟩
              case measure => simp [intOf]; omega
      · obtain rfl : i = n := by omega
        generalize (!decide (K < L.length)) = z at *
        generalize leastOf K L = l0 at *
        go_wp2_with fail
        refine (awake_any _).mono ?_
        rintro e w2 ⟨rfl, b2⟩
        go_wp2_with fail
        go_ret
        exact ⟨rfl, hB.trans (b2.mono hB.size)⟩
  · rw [hlong] at HL
    generalize xs.length = n at *
    go_enter Try.func4, Try.ntmps4
    go_wp2_with fail
    refine HL.out.mono ?_
    rintro e w1 ⟨rfl, rfl⟩
    go_wp2_with fail
    refine (awake_any _).mono ?_
    rintro e w2 ⟨rfl, b2⟩
    go_wp2_with fail
    go_ret
    exact ⟨rfl, b2⟩

theorem own : ownKnob Try.prog.godebug = none := by kernel_rfl
theorem laidOut : laidOutB Try.prog = true := by kernel_rfl

set_option maxRecDepth 100000 in
theorem lifted (os : Os) (started : os.Started) (H : Type) (enc : TypeId × Value → H) :
    ReturnsInHanded {} Try.checked os 4 .any (Rows.distinctGrowsSpec.pre6 enc Try.prog Try.f4 Rows.distinctGrowsRow.domain false) (Rows.distinctGrowsSpec.post enc Try.prog Try.f4 false true false false) := by
  refine returnsInHanded_of_change (C := Try.checked) own started (by kernel_rfl) Try.func4
    (ChangeSpec.witness6 (enc := enc) (C := Try.checked) false ⟨#[], #[.int .i64 0, .slice none 0 0], []⟩ 8 (by kernel_rfl) (by kernel_rfl) (by kernel_rfl) (by kernel_rfl)) ?_
  intro W base args ds gs before hval0 hW hcnd _
  have hval : ∀ (j : Nat) t v, Try.f4.params[j]? = some t → args[j]? = some v → Value.okWide Try.prog W .any base t v := hval0
  have hW' := hW
  obtain ⟨p, q, hA0, hV, rfl, hfz, hnd⟩ := hW
  have hA : DataW.TrodAll enc Try.prog W 0 (fun _ => true) true Try.f4.params.toList args.toList ds p := hA0
  rw [Try.params4] at hA hval
  obtain ⟨v0, vs0, d0, ds0, p0, q0, hargs, rfl, rfl, h0, r0⟩ := trodAll_cons hA
  obtain ⟨v1, vs1, d1, ds1, p1, q1, rfl, rfl, rfl, h1, r1⟩ := trodAll_cons r0
  obtain ⟨rfl, rfl, rfl⟩ := trodAll_nil r1
  obtain rfl : args = #[v0, v1] := by cases args; simp_all
  obtain ⟨rfl, rfl⟩ := trodVars_none hV
  have k0 := h0
  have lt0 : ∀ x ∈ p0, x.block < W.heap.size := by obtain ⟨m, hm⟩ := k0; exact DataW.trod_lt m _ _ _ hm
  obtain ⟨a0, rfl, rfl, rfl, w0⟩ := open_int Try.underlying3 (hval 0 3 v0 rfl rfl) h0
  have k1 := h1
  have lt1 : ∀ x ∈ p1, x.block < W.heap.size := by obtain ⟨m, hm⟩ := k1; exact DataW.trod_lt m _ _ _ hm
  obtain ⟨b1, c1, x1, rfl, l1, m1, i1, o1⟩ := open_l (hval 1 26 v1 rfl rfl) h1
  clear hA0 hval0
  refine (walk W a0 w0 b1 c1 x1 l1 m1 i1 o1).mono fun e W' ⟨he, bel⟩ => ?_
  subst he
  exact ⟨_, rfl, _, _, _, [], _, [], hW', trodAll_mk1 (shut_bool Try.underlying4 _), (trodAll_cons_mk (Below.trod laidOut (by kernel_rfl) (of_decide_eq_true (by kernel_rfl)) k0 bel lt0) (trodAll_cons_mk (Below.trod laidOut (by kernel_rfl) (of_decide_eq_true (by kernel_rfl)) k1 bel lt1) trodAll_mk0)), rfl, bel.frame _, fun h => by cases h⟩

theorem over : Rows.distinctGrowsRow.holds Try.pinned (OpenSpec.ofChange Rows.distinctGrowsSpec) :=
  OpenClaim.holds_of_wide 4 Try.f4 rfl rfl rfl rfl rfl rfl rfl ⟨rfl, rfl, rfl, rfl, rfl⟩ rfl rfl rfl rfl rfl (by kernel_rfl) Try.func4 (by kernel_rfl)
    (of_decide_eq_true (by kernel_rfl)) (by unfold Func.isWrapper; first | (rw [if_pos (by decide +kernel)]; kernel_rfl) | (rw [if_neg (by decide +kernel)]; exact ⟨rfl, rfl⟩))
    (fun os started H enc _ => lifted os started H enc)

theorem proved : Rows.DistinctGrowsSaid := over
#print axioms proved
end Go.Proofs.Ytipblbmpckfigaa.distinctGrows

/- For every input ciceronelaw47.VerdictRanks returns true, and its arguments read behind the call as before. No conditions. -/
import Derived.Test.YthkdcbmcknndnaaVOpen
import Derived.Test.YthkdcbmcknndnaaRows
import Derived.ProofKit
import Derived.OpenShut
import Derived.ShutString
import Derived.ChangeOld
import Derived.Below
import Derived.Lib.SmallJoins
namespace Go.Proofs.Ythkdcbmcknndnaa.verdictRanks
open Go.ChangeShapes Go.WideShapes Go.ChangeAt Go.RowKit Go.Joins
open Go.ChangeMaps (open_string shut_string)
set_option linter.unusedVariables false

open Rk
set_option maxHeartbeats 4000000 in
theorem walk (w : World) (b : Option Addr) (cap : Nat) (l : List Rw) (hlc : l.length ≤ cap) (hm : cap ≤ maxLen) (hi : InW w b 4 (l.map rwC)) (ho : ∀ a ∈ l, Ok a) :
    Calls Try.prog 3 #[.slice b l.length cap] w fun e w' => e = .returned (.bool true) ∧ Below w.heap.size w w' := by
  obtain ⟨n, hn⟩ : ∃ n, l.length = n := ⟨_, rfl⟩
  have HI := Lib.hid hi
  have HO := Lib.hid ho
  have HN := Lib.hid hn
  rw [hn] at hlc ⊢
  unfold maxLen at hm
  clear hi ho hn
  go_enter Try.func3, Try.ntmps3
  go_wp2_with fail
  go_loopw [7] (fun c wr => ∃ i : Nat, i ≤ n ∧ c = .int .i64 i ∧ Hid (Below w.heap.size w wr)) (fun c _ => n - (intOf c).toNat)
  case atStart => exact ⟨0, by omega, rfl, Lib.hid (Below.refl _ _)⟩
  case round =>
    obtain ⟨i, hin, rfl, HB⟩ := hrel
    by_cases hlt : i < n
    · obtain ⟨x, hx⟩ : ∃ x, l[i]? = some x := ⟨l[i]'(by have := HN.out; omega), List.getElem?_eq_getElem _⟩
      obtain ⟨B, off, rfl, hB, hc⟩ := rows_at HI.out hx
      obtain ⟨c0, c1, c2, c3⟩ := hc _ HB.out
      have hsz := (HO.out x (List.mem_of_getElem? hx)).arm
      unfold maxLen at hsz
      have hi0' : (0 : Int) ≤ (i : Int) := by omega
      have hi1 : (i : Int) < (n : Int) := by omega
      have HB2 := Lib.hid (bel_alloc HB.out (.cells #[.string x.arm, .int .i64 x.pe, .int .i64 x.bo, .int .i64 x.wo] 24))
      clear hc hx
      by_cases hl60 : 60 < x.arm.size
      · have t1 : (60 : Int) < (x.arm.size : Int) := by omega
        go_wp2_with fail
        refine (awake_any _).mono ?_
        rintro e w1 ⟨rfl, b1⟩
        have HB3 := Lib.hid (bel_trans HB2.out b1)
        clear b1
        go_wp2_with fail
        go_ret
        exact ⟨rfl, HB3.out⟩
      · have t1 : ¬ (60 : Int) < (x.arm.size : Int) := by omega
        go_wp2_with fail
        go_roundw
        case rel => exact ⟨i + 1, by omega, by go_num, HB2⟩
        case measure => simp [intOf]; omega
    · by_cases h30 : 30 < n
      · have t1 : (30 : Int) < (n : Int) := by omega
        go_wp2_with fail
        refine (awake_any _).mono ?_
        rintro e w1 ⟨rfl, b1⟩
        have HB3 := Lib.hid (bel_trans HB.out b1)
        clear b1
        go_wp2_with fail
        go_ret
        exact ⟨rfl, HB3.out⟩
      · have t1 : ¬ (30 : Int) < (n : Int) := by omega
        have R1 := Lib.hid (rank_any b n cap l wr (InW.bel HI.out HB.out) HN.out.symm (by omega) HO.out)
        have R2 : Hid (∀ W, Below w.heap.size w W → Calls Try.prog 7 #[.slice b n cap] W fun e w' => ∃ v, e = .returned v ∧ MkT W w' v (rankB l)) := Lib.hid (fun W hW => drank_any b n cap l W (InW.bel HI.out hW) HN.out.symm (by omega) HO.out)
        have HRL : Hid ((rankB l).length = n) := Lib.hid (by unfold rankB; rw [List.length_map, (insAll_is pre l).2.length_eq]; exact HN.out)
        go_wp2_with fail
        refine R1.out.mono ?_
        rintro e w1 ⟨v1, rfl, m1⟩
        obtain ⟨b1, c1, hv1, _, _, s1⟩ := m1.tx.strs
        rw [HRL.out] at hv1
        subst hv1
        have HB1 := Lib.hid (bel_trans HB.out m1.bl)
        have S1 := Lib.hid s1
        clear m1 s1 R1
        have R3 := Lib.hid (R2.out w1 HB1.out)
        clear R2
        go_wp2_with fail
        refine R3.out.mono ?_
        rintro e w2 ⟨v2, rfl, m2⟩
        obtain ⟨b2, c2, hv2, _, _, s2⟩ := m2.tx.strs
        rw [HRL.out] at hv2
        subst hv2
        have HB2 := Lib.hid (bel_trans HB1.out m2.bl)
        have SM := Lib.hid (same16_any b1 b2 n n c1 c2 _ _ w2 (Strs.bel S1.out m2.bl) s2 HRL.out HRL.out (by omega) (by omega))
        rw [decide_eq_true rfl] at SM
        clear m2 s2 R3 S1
        go_wp2_with fail
        refine SM.out.mono ?_
        rintro e w3 ⟨rfl, q, rfl⟩
        clear SM
        go_wp2_with fail
        refine (awake_any _).mono ?_
        rintro e w4 ⟨rfl, b4⟩
        have HB4 := Lib.hid (bel_trans (bdrewN HB2.out q) b4)
        clear b4
        go_wp2_with fail
        go_ret
        exact ⟨rfl, HB4.out⟩

theorem own : ownKnob Try.prog.godebug = none := by kernel_rfl
theorem laidOut : laidOutB Try.prog = true := by kernel_rfl

set_option maxRecDepth 100000 in
theorem lifted (os : Os) (started : os.Started) (H : Type) (enc : TypeId × Value → H) :
    ReturnsInHanded {} Try.checked os 3 .any (Rows.verdictRanksSpec.pre6 enc Try.prog Try.f3 Rows.verdictRanksRow.domain false) (Rows.verdictRanksSpec.post enc Try.prog Try.f3 false true false false) := by
  refine returnsInHanded_of_change (C := Try.checked) own started (by kernel_rfl) Try.func3
    (ChangeSpec.witness6 (enc := enc) (C := Try.checked) false ⟨#[], #[.slice none 0 0], []⟩ 8 (by kernel_rfl) (by kernel_rfl) (by kernel_rfl) (by kernel_rfl)) ?_
  intro W base args ds gs before hval0 hW hcnd _
  have hval : ∀ (j : Nat) t v, Try.f3.params[j]? = some t → args[j]? = some v → Value.okWide Try.prog W .any base t v := hval0
  have hW' := hW
  obtain ⟨p, q, hA0, hV, rfl, hfz, hnd⟩ := hW
  have hA : DataW.TrodAll enc Try.prog W 0 (fun _ => true) true Try.f3.params.toList args.toList ds p := hA0
  rw [Try.params3] at hA hval
  obtain ⟨v0, vs0, d0, ds0, p0, q0, hargs, rfl, rfl, h0, r0⟩ := trodAll_cons hA
  obtain ⟨rfl, rfl, rfl⟩ := trodAll_nil r0
  obtain rfl : args = #[v0] := by cases args; simp_all
  obtain ⟨rfl, rfl⟩ := trodVars_none hV
  have k0 := h0
  have lt0 : ∀ x ∈ p0, x.block < W.heap.size := by obtain ⟨m, hm⟩ := k0; exact DataW.trod_lt m _ _ _ hm
  obtain ⟨b0, c0, x0, rfl, l0, m0, i0, o0⟩ := open_rows (hval 0 22 v0 rfl rfl) h0
  clear hA0 hval0
  refine (walk W b0 c0 x0 l0 m0 i0 o0).mono fun e W' ⟨he, bel⟩ => ?_
  subst he
  exact ⟨_, rfl, _, _, _, [], _, [], hW', trodAll_mk1 (shut_bool Try.underlying4 _), (trodAll_cons_mk (Below.trod laidOut (by kernel_rfl) (of_decide_eq_true (by kernel_rfl)) k0 bel lt0) trodAll_mk0), rfl, bel.frame _, fun h => by cases h⟩

theorem over : Rows.verdictRanksRow.holds Try.pinned (OpenSpec.ofChange Rows.verdictRanksSpec) :=
  OpenClaim.holds_of_wide 3 Try.f3 rfl rfl rfl rfl rfl rfl rfl ⟨rfl, rfl, rfl, rfl, rfl⟩ rfl rfl rfl rfl rfl (by kernel_rfl) Try.func3 (by kernel_rfl)
    (of_decide_eq_true (by kernel_rfl)) (by unfold Func.isWrapper; first | (rw [if_pos (by decide +kernel)]; kernel_rfl) | (rw [if_neg (by decide +kernel)]; exact ⟨rfl, rfl⟩))
    (fun os started H enc _ => lifted os started H enc)

theorem proved : Rows.VerdictRanksSaid := over
#print axioms proved
end Go.Proofs.Ythkdcbmcknndnaa.verdictRanks

/- For every input ciceronelaw12.SessionOrder returns true, and its arguments read behind the call as before. No conditions. -/
import Derived.Test.YtcnddbcdkpdkbaaEAwake
import Derived.Test.YtcnddbcdkpdkbaaRows
import Derived.ProofKit
import Derived.OpenShut
import Derived.ShutString
import Derived.ChangeOld
import Derived.Below
import Derived.Lib.SmallJoins
namespace Go.Proofs.Ytcnddbcdkpdkbaa.sessionOrder
open Go.ChangeShapes Go.WideShapes Go.ChangeAt Go.RowKit Go.Joins
open Go.ChangeMaps (open_string shut_string)
set_option linter.unusedVariables false

theorem infoAdd : (Try.prog.info? 31).map (fun i => (i.zero, i.size, i.bytes)) = some (some (.agg #[.string ⟨#[]⟩, .int .i64 0, .string ⟨#[]⟩]), 3, 40) := by kernel_rfl
theorem same_adds (l : List Tri) (k : Nat) : addsT [] l = addsT [] (l.drop k ++ l) := by
  refine (SOk.nil.adds l).ext (SOk.nil.adds _) (fun x => ?_)
  rw [mem_adds, mem_adds]
  constructor
  · rintro (⟨h1, h2⟩ | h)
    · exact .inl ⟨List.mem_append.2 (.inr h1), h2⟩
    · exact .inr h
  · rintro (⟨h1, h2⟩ | h)
    · rcases List.mem_append.1 h1 with h1 | h1
      · exact .inl ⟨List.mem_of_mem_drop h1, h2⟩
      · exact .inl ⟨h1, h2⟩
    · exact .inr h
set_option maxRecDepth 20000 in
set_option maxHeartbeats 4000000 in
theorem walk (w : World) (x : Int) (wx : (Lit.int .i64 x).wf = true) (b : Option Addr) (cap : Nat) (l : List Tri) (hlc : l.length ≤ cap) (hm : cap ≤ maxLen) (hi : InW w b 3 (l.map aC)) (ho : ∀ a ∈ l, aOk a) (tn : Int) (wt : (Lit.int .i64 tn).wf = true) :
    Calls Try.prog 5 #[.int .i64 x, .slice b l.length cap, .int .i64 tn] w fun e w' => e = .returned (.bool true) ∧ Below w.heap.size w w' := by
  obtain ⟨i0, hi0T, hz0, hz1, hz2⟩ := info_parts infoAdd
  have hx := i64_wf wx
  have ht := i64_wf wt
  unfold I64 at ht
  have AW := Lib.hid (awake_any w)
  have HF : Hid (∀ W, Below w.heap.size w W → Calls Try.prog 12 #[.slice b l.length cap] W fun e w' => e = .returned (.bool (fewB l)) ∧ W = w') := Lib.hid (fun W hb => few_any b cap l W (InW.bel hi hb) hm hlc ho)
  have HIW := Lib.hid hi
  have HOK := Lib.hid ho
  have HX := Lib.hid hx
  unfold maxLen at hm
  clear wx wt hi ho hx
  cases hfw : fewB l with
  | false =>
    rw [hfw] at HF
    generalize l.length = n at *
    go_enter Try.func5, Try.ntmps5
    go_wp2_with fail
    refine AW.out.mono ?_
    rintro e w1 ⟨rfl, b1⟩
    have B1 := Lib.hid b1
    have F1 := Lib.hid (HF.out w1 b1)
    clear b1 HF AW
    go_wp2_with fail
    refine F1.out.mono ?_
    rintro e w2 ⟨rfl, rfl⟩
    go_wp2_with fail
    go_ret
    exact ⟨rfl, B1.out⟩
  | true =>
    rw [hfw] at HF
    obtain ⟨hn1, -⟩ := few_of hfw
    clear hfw
    obtain ⟨n, hn⟩ : ∃ n, l.length = n := ⟨_, rfl⟩
    have Hn := Lib.hid hn
    rw [hn] at hn1 hlc HF ⊢
    clear hn
    by_cases hneg : tn < 0
    · have t1 : decide (tn < 0) = true := decide_eq_true hneg
      go_enter Try.func5, Try.ntmps5
      go_wp2_with fail
      refine AW.out.mono ?_
      rintro e w1 ⟨rfl, b1⟩
      have B1 := Lib.hid b1
      have F1 := Lib.hid (HF.out w1 b1)
      clear b1 HF AW
      go_wp2_with fail
      refine F1.out.mono ?_
      rintro e w2 ⟨rfl, rfl⟩
      go_wp2_with fail
      go_ret
      exact ⟨rfl, B1.out⟩
    · have t1 : decide (tn < 0) = false := decide_eq_false hneg
      obtain ⟨k, rfl⟩ : ∃ k : Nat, tn = k := ⟨tn.toNat, by omega⟩
      by_cases hbig : n < k
      · have t2 : decide ((n : Int) < (k : Int)) = true := decide_eq_true (by omega)
        go_enter Try.func5, Try.ntmps5
        go_wp2_with fail
        refine AW.out.mono ?_
        rintro e w1 ⟨rfl, b1⟩
        have B1 := Lib.hid b1
        have F1 := Lib.hid (HF.out w1 b1)
        clear b1 HF AW
        go_wp2_with fail
        refine F1.out.mono ?_
        rintro e w2 ⟨rfl, rfl⟩
        go_wp2_with fail
        go_ret
        exact ⟨rfl, B1.out⟩
      · have t2 : decide ((n : Int) < (k : Int)) = false := decide_eq_false (by omega)
        have hsl : ∀ W, (Instr.slice 22 (.slice b n cap) (some (.int .i64 k)) none none).run Try.prog W = .ok (.slice (subB b cap k 3) (n - k) (cap - k)) W := fun W => run_slice_from W _ 31 b n cap k 3 Try.underlying22 ⟨i0, hi0T, hz1⟩ (by omega)
        go_enter Try.func5, Try.ntmps5
        go_wp2_with fail
        refine AW.out.mono ?_
        rintro e w1 ⟨rfl, b1⟩
        have F1 := Lib.hid (HF.out w1 b1)
        have hb2 := b1.alloc b1.size (.cells #[] 31)
        have HM0 : Hid (MkG 31 3 aC w (w1.alloc (.cells #[] 31)) (.slice (some ⟨w1.heap.size, 0, none⟩) 0 0) []) := Lib.hid ((MkG.empty w1).from b1)
        have HI1 : Hid (∀ W, Below w.heap.size w W → InW W (subB b cap k 3) 3 ((l.drop k).map aC) ∧ InW W b 3 (l.map aC)) := Lib.hid (fun W hW => ⟨by
          have := subB_inw (cap := cap) (k := k) (HIW.out.bel hW) (by rw [List.length_map, Hn.out]; exact hlc)
          rwa [← List.map_drop] at this, HIW.out.bel hW⟩)
        have HL1 : Hid (n - k = (l.drop k).length ∧ n = l.length ∧ ([] : List Tri).length + (l.drop k).length ≤ 1000000 ∧ ([] ++ l.drop k).length + l.length ≤ 1000000) := Lib.hid (by
          have h := Hn.out
          have h2 : (l.drop k).length = n - k := by rw [List.length_drop, h]
          refine ⟨h2.symm, h.symm, ?_, ?_⟩
          · rw [h2]; simp only [List.length_nil]; omega
          · rw [List.nil_append, h2, h]; omega)
        clear b1 hb2 HF AW
        generalize subB b cap k 3 = sb at *
        go_wp2_with fail
        refine F1.out.mono ?_
        rintro e w2 ⟨rfl, rfl⟩
        clear F1
        go_wp2_with (at_builtin; first | (refine wpList_append_m aLen aOne _ rfl _ _ _ rfl 31 i0 _ 40 Try.underlying22 hi0T hz0 hz1 hz2 rfl (by decide) (by omega) (.slice (some ⟨w1.heap.size, 0, none⟩) 0 0) [] (l.drop k) rfl HM0.out.tx sb (n - k) (cap - k) rfl HL1.out.1 (HI1.out _ HM0.out.bl).1 HL1.out.2.2.1 ?_; intro v5 w5 o5 f5 h5; have HM1 := Lib.hid (HM0.out.more o5 f5 h5); clear o5 f5 h5) | (refine wpList_append_m aLen aOne _ rfl _ _ _ rfl 31 i0 _ 40 Try.underlying22 hi0T hz0 hz1 hz2 rfl (by decide) (by omega) v5 ([] ++ l.drop k) l rfl HM1.out.tx b n cap rfl HL1.out.2.1 (HI1.out _ HM1.out.bl).2 HL1.out.2.2.2 ?_; intro v6 w6 o6 f6 h6; have HM2 := Lib.hid (HM1.out.more o6 f6 h6); clear o6 f6 h6) | fail)
        have HSA : Hid (addsT [] (([] ++ l.drop k) ++ l) = addsT [] l) := Lib.hid (same_adds l k).symm
        have HL2 : Hid ((([] ++ l.drop k) ++ l).length ≤ 1000) := Lib.hid (by rw [List.length_append, List.nil_append, List.length_drop]; have := Hn.out; omega)
        have HO2 : Hid (∀ a ∈ (([] ++ l.drop k) ++ l), aOk a) := Lib.hid (fun a ha => by
          rcases List.mem_append.1 ha with ha | ha
          · rw [List.nil_append] at ha
            exact HOK.out a (List.mem_of_mem_drop ha)
          · exact HOK.out a ha)
        generalize (([] ++ l.drop k) ++ l) = ys at *
        obtain ⟨yb, yc, rfl, -, -, hyi⟩ := HM2.out.read aLen (by omega)
        have HYI := Lib.hid hyi
        clear hyi HM1 HM0 HL1 hsl
        have HMD := Lib.hid (made_any x HX.out b cap l w6 (HI1.out _ HM2.out.bl).2 (by rw [Hn.out]; omega) HOK.out)
        rw [Hn.out] at HMD
        obtain ⟨m, hm'⟩ : ∃ m, ys.length = m := ⟨_, rfl⟩
        have HM' := Lib.hid hm'
        rw [hm']
        clear hm'
        go_wp2_with fail
        refine HMD.out.mono ?_
        rintro e w7 ⟨s, rfl, h7⟩
        have H7 := Lib.hid h7
        have HMD2 := Lib.hid (made_any x HX.out yb yc ys w7 (HYI.out.bel h7.bel) HL2.out HO2.out)
        rw [HM'.out] at HMD2
        clear h7 HMD
        go_wp2_with fail
        refine HMD2.out.mono ?_
        rintro e w8 ⟨o, rfl, h8⟩
        have h8' := H7.out.adopt h8
        rw [HSA.out] at h8'
        have hA : (addsT [] l).length ≤ 1000 := by have := adds_len l []; rw [Hn.out] at this; simp at this; omega
        have H8 := Lib.hid h8'
        have HLA : Hid ((allS (gapOf x) (addsT [] l)).length ≤ 1000) := Lib.hid (Nat.le_trans (all_le _ _) hA)
        have HS1 := Lib.hid (h_sall H8.out (i := 0) rfl)
        clear h8 h8' H7 HMD2 hA
        generalize addsT [] l = A at *
        generalize gapOf x = gap at *
        go_wp2_with fail
        refine HS1.out.mono ?_
        rintro e w9 ⟨b9, c9, svs, rfl, q1, q2, q3, q4, q5⟩
        have hsl9 : svs.length ≤ 1000 := by have := congrArg List.length q4; rw [List.length_map] at this; have := HLA.out; omega
        have HT1 := Lib.hid (told_any b9 c9 svs w9 q3 (by omega))
        have H9 := Lib.hid (H8.out.step_bel q5)
        have HQ4 := Lib.hid q4
        obtain ⟨n9, hn9⟩ : ∃ n9, svs.length = n9 := ⟨_, rfl⟩
        have HN9 := Lib.hid hn9
        rw [hn9] at HT1 hsl9 ⊢
        clear q1 q2 q3 q4 q5 HS1 H8 hn9
        go_wp2_with fail
        refine HT1.out.mono ?_
        rintro e w10 ⟨b10, c10, rfl, g1, g2⟩
        have H10 := Lib.hid (H9.out.step_bel g2)
        have HG1 := Lib.hid g1
        have HS2 := Lib.hid (h_sall H10.out (i := 1) rfl)
        clear g1 g2 HT1 H9
        go_wp2_with fail
        refine HS2.out.mono ?_
        rintro e w11 ⟨b11, c11, svs2, rfl, q1, q2, q3, q4, q5⟩
        have hsl11 : svs2.length ≤ 1000 := by have := congrArg List.length q4; rw [List.length_map] at this; have := HLA.out; omega
        have HT2 := Lib.hid (told_any b11 c11 svs2 w11 q3 (by omega))
        have H11 := Lib.hid (H10.out.step_bel q5)
        have HG11 := Lib.hid (HG1.out.bel q5)
        have HE : Hid (svs.map seOf = svs2.map seOf) := Lib.hid (HQ4.out.trans q4.symm)
        obtain ⟨n11, hn11⟩ : ∃ n11, svs2.length = n11 := ⟨_, rfl⟩
        have HN11 := Lib.hid hn11
        rw [hn11] at HT2 hsl11 ⊢
        clear q1 q2 q3 q4 q5 HS2 H10 HG1 hn11
        go_wp2_with fail
        refine HT2.out.mono ?_
        rintro e w12 ⟨b12, c12, rfl, g1, g2⟩
        have HSM := Lib.hid (same_yes b10 b12 c10 c12 svs svs2 w12 (HG11.out.bel g2) g1 HE.out (by rw [HN9.out]; unfold maxLen; omega))
        rw [HN9.out, HN11.out] at HSM
        have H12 := Lib.hid (H11.out.step_bel g2)
        clear g1 g2 HT2 H11 HG11
        go_wp2_with fail
        refine HSM.out.mono ?_
        rintro e w13 ⟨rfl, g3⟩
        have H13 := Lib.hid (H12.out.step_bel g3)
        clear g3 HSM H12
        go_wp2_with fail
        go_ret
        exact ⟨rfl, HM2.out.bl.trans (H13.out.bel.mono HM2.out.bl.size)⟩

theorem own : ownKnob Try.prog.godebug = none := by kernel_rfl
theorem laidOut : laidOutB Try.prog = true := by kernel_rfl

set_option maxRecDepth 100000 in
theorem lifted (os : Os) (started : os.Started) (H : Type) (enc : TypeId × Value → H) :
    ReturnsInHanded {} Try.checked os 5 .any (Rows.sessionOrderSpec.pre6 enc Try.prog Try.f5 Rows.sessionOrderRow.domain false) (Rows.sessionOrderSpec.post enc Try.prog Try.f5 false true false false) := by
  refine returnsInHanded_of_change (C := Try.checked) own started (by kernel_rfl) Try.func5
    (ChangeSpec.witness6 (enc := enc) (C := Try.checked) false ⟨#[], #[.int .i64 0, .slice none 0 0, .int .i64 0], []⟩ 8 (by kernel_rfl) (by kernel_rfl) (by kernel_rfl) (by kernel_rfl)) ?_
  intro W base args ds gs before hval0 hW hcnd _
  have hval : ∀ (j : Nat) t v, Try.f5.params[j]? = some t → args[j]? = some v → Value.okWide Try.prog W .any base t v := hval0
  have hW' := hW
  obtain ⟨p, q, hA0, hV, rfl, hfz, hnd⟩ := hW
  have hA : DataW.TrodAll enc Try.prog W 0 (fun _ => true) true Try.f5.params.toList args.toList ds p := hA0
  rw [Try.params5] at hA hval
  obtain ⟨v0, vs0, d0, ds0, p0, q0, hargs, rfl, rfl, h0, r0⟩ := trodAll_cons hA
  obtain ⟨v1, vs1, d1, ds1, p1, q1, rfl, rfl, rfl, h1, r1⟩ := trodAll_cons r0
  obtain ⟨v2, vs2, d2, ds2, p2, q2, rfl, rfl, rfl, h2, r2⟩ := trodAll_cons r1
  obtain ⟨rfl, rfl, rfl⟩ := trodAll_nil r2
  obtain rfl : args = #[v0, v1, v2] := by cases args; simp_all
  obtain ⟨rfl, rfl⟩ := trodVars_none hV
  have k0 := h0
  have lt0 : ∀ x ∈ p0, x.block < W.heap.size := by obtain ⟨m, hm⟩ := k0; exact DataW.trod_lt m _ _ _ hm
  obtain ⟨a0, rfl, rfl, rfl, w0⟩ := open_int Try.underlying3 (hval 0 3 v0 rfl rfl) h0
  have k1 := h1
  have lt1 : ∀ x ∈ p1, x.block < W.heap.size := by obtain ⟨m, hm⟩ := k1; exact DataW.trod_lt m _ _ _ hm
  obtain ⟨b1, c1, x1, rfl, l1, m1, i1, o1⟩ := open_adds (hval 1 22 v1 rfl rfl) h1
  have k2 := h2
  have lt2 : ∀ x ∈ p2, x.block < W.heap.size := by obtain ⟨m, hm⟩ := k2; exact DataW.trod_lt m _ _ _ hm
  obtain ⟨a2, rfl, rfl, rfl, w2⟩ := open_int Try.underlying3 (hval 2 3 v2 rfl rfl) h2
  clear hA0 hval0
  refine (walk W a0 w0 b1 c1 x1 l1 m1 i1 o1 a2 w2).mono fun e W' ⟨he, bel⟩ => ?_
  subst he
  exact ⟨_, rfl, _, _, _, [], _, [], hW', trodAll_mk1 (shut_bool Try.underlying4 _), (trodAll_cons_mk (Below.trod laidOut (by kernel_rfl) (of_decide_eq_true (by kernel_rfl)) k0 bel lt0) (trodAll_cons_mk (Below.trod laidOut (by kernel_rfl) (of_decide_eq_true (by kernel_rfl)) k1 bel lt1) (trodAll_cons_mk (Below.trod laidOut (by kernel_rfl) (of_decide_eq_true (by kernel_rfl)) k2 bel lt2) trodAll_mk0))), rfl, bel.frame _, fun h => by cases h⟩

theorem over : Rows.sessionOrderRow.holds Try.pinned (OpenSpec.ofChange Rows.sessionOrderSpec) :=
  OpenClaim.holds_of_wide 5 Try.f5 rfl rfl rfl rfl rfl rfl rfl ⟨rfl, rfl, rfl, rfl, rfl⟩ rfl rfl rfl rfl rfl (by kernel_rfl) Try.func5 (by kernel_rfl)
    (of_decide_eq_true (by kernel_rfl)) (by unfold Func.isWrapper; first | (rw [if_pos (by decide +kernel)]; kernel_rfl) | (rw [if_neg (by decide +kernel)]; exact ⟨rfl, rfl⟩))
    (fun os started H enc _ => lifted os started H enc)

theorem proved : Rows.SessionOrderSaid := over
#print axioms proved
end Go.Proofs.Ytcnddbcdkpdkbaa.sessionOrder

/- For every input ciceronelaw17.PairsSame returns true, and its arguments read behind the call as before. No conditions. -/
import Derived.Test.YtnpjihbaebbbcaaQOpen
import Derived.Test.YtnpjihbaebbbcaaRows
import Derived.ProofKit
import Derived.OpenShut
import Derived.ShutString
import Derived.ChangeOld
import Derived.Below
import Derived.Lib.SmallJoins
namespace Go.Proofs.Ytnpjihbaebbbcaa.pairsSame
open Go.ChangeShapes Go.WideShapes Go.ChangeAt Go.RowKit Go.Joins
open Go.ChangeMaps (open_string shut_string)
set_option linter.unusedVariables false

set_option maxRecDepth 20000 in
set_option maxHeartbeats 8000000 in
theorem walk (w : World) (b : Option Addr) (cap : Nat) (l : List Sv) (hlc : l.length ≤ cap) (hm : cap ≤ maxLen) (hi : InW w b 4 (l.map svC)) (ho : ∀ a ∈ l, SvOk w a) (pn : ByteArray) (wp : pn.size ≤ maxLen) (tk : Int) (wt : (Lit.int .i64 tk).wf = true) (x : ByteArray) (wx : x.size ≤ maxLen) (y : ByteArray) (wy : y.size ≤ maxLen) :
    Calls Try.prog 4 #[.slice b l.length cap, .string pn, .int .i64 tk, .string x, .string y] w fun e w' => e = .returned (.bool true) ∧ Below w.heap.size w w' := by
  unfold maxLen at wp wx wy
  have LV := Lib.hid (lives_any w)
  have HSV : Hid (SvIn w b l) := Lib.hid ⟨hi, ho⟩
  have HV : Hid (∀ W, Below w.heap.size w W → Calls Try.prog 9 #[.slice b l.length cap, .int .i64 12] W fun e w' => e = .returned (.bool (heavyB l 12)) ∧ w' = W) := Lib.hid (fun W hb => heavy_any b cap l 12 W (HSV.out.bel hb) hm hlc (by omega))
  clear hi ho
  have hm' := hm
  unfold maxLen at hm
  by_cases hfw : heavyB l 12 = true
  · rw [hfw] at HV
    generalize l.length = n at *
    go_enter Try.func4, Try.ntmps4
    go_wp2_with fail
    refine LV.out.mono ?_
    rintro e w1 ⟨rfl, b1⟩
    have B1 := Lib.hid b1
    have F1 := Lib.hid (HV.out w1 b1)
    clear b1 HV LV
    go_wp2_with fail
    refine F1.out.mono ?_
    rintro e w2 ⟨rfl, rfl⟩
    clear F1
    go_wp2_with fail
    go_ret
    exact ⟨rfl, B1.out⟩
  rw [Bool.not_eq_true] at hfw
  rw [hfw] at HV
  obtain ⟨hn24, hits⟩ := heavy_no hfw
  clear hfw
  by_cases hx : 100 < x.size
  · have tx : decide ((100 : Int) < (x.size : Int)) = true := decide_eq_true (by omega)
    generalize l.length = n at *
    go_enter Try.func4, Try.ntmps4
    go_wp2_with fail
    refine LV.out.mono ?_
    rintro e w1 ⟨rfl, b1⟩
    have B1 := Lib.hid b1
    have F1 := Lib.hid (HV.out w1 b1)
    clear b1 HV LV
    go_wp2_with fail
    refine F1.out.mono ?_
    rintro e w2 ⟨rfl, rfl⟩
    clear F1
    go_wp2_with fail
    go_ret
    exact ⟨rfl, B1.out⟩
  have tx : decide ((100 : Int) < (x.size : Int)) = false := decide_eq_false (by omega)
  by_cases hy : 100 < y.size
  · have ty : decide ((100 : Int) < (y.size : Int)) = true := decide_eq_true (by omega)
    generalize l.length = n at *
    go_enter Try.func4, Try.ntmps4
    go_wp2_with fail
    refine LV.out.mono ?_
    rintro e w1 ⟨rfl, b1⟩
    have B1 := Lib.hid b1
    have F1 := Lib.hid (HV.out w1 b1)
    clear b1 HV LV
    go_wp2_with fail
    refine F1.out.mono ?_
    rintro e w2 ⟨rfl, rfl⟩
    clear F1
    go_wp2_with fail
    go_ret
    exact ⟨rfl, B1.out⟩
  have ty : decide ((100 : Int) < (y.size : Int)) = false := decide_eq_false (by omega)
  by_cases hp : 100 < pn.size
  · have tp : decide ((100 : Int) < (pn.size : Int)) = true := decide_eq_true (by omega)
    generalize l.length = n at *
    go_enter Try.func4, Try.ntmps4
    go_wp2_with fail
    refine LV.out.mono ?_
    rintro e w1 ⟨rfl, b1⟩
    have B1 := Lib.hid b1
    have F1 := Lib.hid (HV.out w1 b1)
    clear b1 HV LV
    go_wp2_with fail
    refine F1.out.mono ?_
    rintro e w2 ⟨rfl, rfl⟩
    clear F1
    go_wp2_with fail
    go_ret
    exact ⟨rfl, B1.out⟩
  have tp : decide ((100 : Int) < (pn.size : Int)) = false := decide_eq_false (by omega)
  have HLI : Hid (Light l) := Lib.hid ⟨by omega, fun s hs => by have := (hits s hs).1; omega⟩
  have EV : Hid (∀ W p C, Below w.heap.size w W → PrAt W p C → Tells C l → ∀ u v : ByteArray, u.size ≤ 1000 → v.size ≤ 1000 → Calls Try.prog 13 #[.pointer (some ⟨p, 0, none⟩), .slice b l.length cap, .string u, .string v] W fun e w' => e = .returned (.bool true) ∧ Below W.heap.size W w') := Lib.hid (fun W p C hb hp hC u v hu hv => even_any p C b cap l u v W hp hC (HSV.out.bel hb) HLI.out hm' hlc hu hv)
  have HIT := Lib.hid hits
  obtain ⟨i0, hi0T, hz0, hz1, hz2⟩ := info_parts infoText
  clear hits
  obtain ⟨n, hn⟩ : ∃ n, l.length = n := ⟨_, rfl⟩
  have HN := Lib.hid hn
  rw [hn] at hn24 hlc HV EV ⊢
  clear hn hm'
  go_enter Try.func4, Try.ntmps4
  go_wp2_with fail
  refine LV.out.mono ?_
  rintro e w1 ⟨rfl, b1⟩
  have B1 := Lib.hid b1
  have F1 := Lib.hid (HV.out w1 b1)
  clear b1 HV LV
  go_wp2_with fail
  refine F1.out.mono ?_
  rintro e w2 ⟨rfl, rfl⟩
  clear F1
  have N1 := Lib.hid (q_new (Here.nil (K := K17) B1.out))
  go_wp2_with fail
  refine N1.out.mono ?_
  rintro e w3 ⟨p, tp, rfl, h3⟩
  have N2 := Lib.hid (q_new h3)
  clear h3 N1
  go_wp2_with fail
  refine N2.out.mono ?_
  rintro e w4 ⟨q, tq, rfl, h4⟩
  have H4 : Hid (Here K17 w w4 [.tab tp (cntF (l.take 0)), .box p [.pointer (some ⟨tp, 0, none⟩), .bool false] 52, .tab tq (cntF (l.take 0)), .box q [.pointer (some ⟨tq, 0, none⟩), .bool false] 52]) := Lib.hid h4
  clear h4 N2 B1
  go_wp2_with fail
  go_loopw [13] (fun c wr => ∃ k : Nat, k ≤ n ∧ c = .int .i64 k ∧ Hid (Here K17 w wr [.tab tp (cntF (l.take k)), .box p [.pointer (some ⟨tp, 0, none⟩), .bool false] 52, .tab tq (cntF (l.take k)), .box q [.pointer (some ⟨tq, 0, none⟩), .bool false] 52])) (fun c _ => n - (intOf c).toNat)
  case atStart => exact ⟨0, by omega, rfl, H4⟩
  case round =>
    obtain ⟨k, hk, rfl, HR⟩ := hrel
    clear H4
    by_cases hlt : k < n
    · obtain ⟨s, hs⟩ : ∃ s, l[k]? = some s := ⟨l[k]'(by have := HN.out; omega), List.getElem?_eq_getElem _⟩
      have hS := HSV.out.bel HR.out.bel
      obtain ⟨B, off, rfl, hB, d0, d1, d2, d3⟩ := svAt hS hs
      have hsm := List.mem_of_getElem? hs
      have HS1 := Lib.hid (cntF_take hs)
      have HSO : Hid (l[k]? = some s) := Lib.hid hs
      have HLS : Hid (s.its.length ≤ 12) := Lib.hid (HIT.out s hsm).1
      have hk0 : (0 : Int) ≤ (k : Int) := by omega
      have hk1 : (k : Int) < (n : Int) := by omega
      have A1 := Lib.hid (q_add_no (i := 1) (j := 0) HR.out rfl rfl (cntF_small (by rw [List.length_take]; omega)) s (hS.o s hsm).st (hS.o s hsm).sz (by have := (HIT.out s hsm).1; omega))
      clear hs hS hsm hB
      go_wp2_with fail
      refine A1.out.mono ?_
      rintro e w5 ⟨rfl, h5⟩
      have H5 : Hid (Here K17 w w5 [.tab tp (cntF (l.take (k + 1))), .box p [.pointer (some ⟨tp, 0, none⟩), .bool false] 52, .tab tq (cntF (l.take k)), .box q [.pointer (some ⟨tq, 0, none⟩), .bool false] 52]) := Lib.hid (by rw [HS1.out]; exact h5)
      have hS5 := HSV.out.bel h5.bel
      obtain ⟨B', off', hbb, hB', f0, f1, f2, f3⟩ := svAt hS5 HSO.out
      cases hbb
      have hzm := List.mem_of_getElem? HSO.out
      have T1 := Lib.hid (dthings_any s.ib s.ic s.its w5 (hS5.o s hzm).st (by have := HLS.out; omega))
      have HZ : Hid (∀ z ∈ s.its, z.size ≤ maxLen) := Lib.hid (hS5.o s hzm).sz
      clear h5 hS5 hzm hB' A1 HR d0 d1 d2 d3
      go_wp2_with fail
      refine T1.out.mono ?_
      rintro e w6 ⟨v, ks, rfl, k1, k2, k3, m6⟩
      obtain ⟨b6, c6, rfl, _, _, st6⟩ := m6.tx.strs
      have B6 := Lib.hid m6.bl
      have ST6 := Lib.hid st6
      have K2 := Lib.hid k2
      have M0 := Lib.hid (MkT.empty w6)
      have hkl : ks.length ≤ 12 := by have := HLS.out; omega
      generalize hK : ks.length = nk at *
      have HK := Lib.hid hK
      have HL1 : Hid (([] : List ByteArray).length + ks.length ≤ 1000000) := Lib.hid (by rw [hK]; simp; omega)
      have HL2 : Hid ((([] : List ByteArray) ++ ks).length + ks.length ≤ 1000000) := Lib.hid (by rw [List.nil_append, hK]; omega)
      clear m6 st6 k1 k2 k3 T1 f0 f1 f2 f3 hK
      go_wp2_with (first
        | (at_builtin; refine wpList_append_m tLen tOne _ rfl (.tmp 55) (.tmp 56) _ rfl 9 i0 _ 16 Try.underlying28 hi0T hz0 hz1 hz2 rfl (by decide) (by omega) _ [] ks rfl M0.out.tx.flat b6 nk c6 rfl HK.out.symm (ST6.out.bel M0.out.bl) HL1.out ?_; intro v7 w7 o7 f7 h7; have M7 := Lib.hid (M0.out.more o7 f7 h7); clear o7 f7 h7)
        | (at_builtin; refine wpList_append_m tLen tOne _ rfl (.tmp 57) (.tmp 58) _ rfl 9 i0 _ 16 Try.underlying28 hi0T hz0 hz1 hz2 rfl (by decide) (by omega) v7 ([] ++ ks) ks rfl M7.out.tx.flat b6 nk c6 rfl HK.out.symm (ST6.out.bel M7.out.bl) HL2.out ?_; intro v8 w8 o8 f8 h8; have M8 := Lib.hid (M7.out.more o8 f8 h8); clear o8 f8 h8 hi0T hz0 hz1 hz2; obtain ⟨b8, n8, c8, rfl⟩ : ∃ b n c, v8 = .slice b n c := (by obtain ⟨b', cap', h, _⟩ := M8.out.tx.strs; exact ⟨_, _, _, h⟩)))
      obtain ⟨b8', c8', hv8, _, _, st8⟩ := M8.out.tx.strs
      simp only [Value.slice.injEq] at hv8
      obtain ⟨hb8, hn8, hc8⟩ := hv8
      rw [← hb8] at st8
      have H8 := Lib.hid (H5.out.step_bel (Below.trans' B6.out M8.out.bl))
      have hmem : ∀ z, z ∈ (([] : List ByteArray) ++ ks) ++ ks ↔ z ∈ s.its := fun z => by rw [← K2.out z]; simp
      have A2 := Lib.hid (q_add_no (i := 3) (j := 2) H8.out rfl rfl (cntF_small (l := l.take k) (by rw [List.length_take]; omega)) ⟨pn, tk, tk, b8, c8, ([] ++ ks) ++ ks⟩ st8 (fun z hz => HZ.out z ((hmem z).1 hz)) (by simp only [List.length_append, List.length_nil]; have := HK.out; omega))
      have HQ := Lib.hid (rise_small hmem (cntF (l.take k)) 1)
      dsimp only at A2
      rw [← hn8] at A2
      clear st8 hmem M7 M8 M0 hb8 hc8 hn8
      go_wp2_with fail
      refine A2.out.mono ?_
      rintro e w9 ⟨rfl, h9⟩
      have H9 : Hid (Here K17 w w9 [.tab tp (cntF (l.take (k + 1))), .box p [.pointer (some ⟨tp, 0, none⟩), .bool false] 52, .tab tq (cntF (l.take (k + 1))), .box q [.pointer (some ⟨tq, 0, none⟩), .bool false] 52]) := Lib.hid (by
        rw [HQ.out, ← HS1.out] at h9
        exact h9)
      clear h9 A2 H8 H5 HQ HS1
      go_wp2_with fail
      go_roundw
      case rel => exact ⟨k + 1, by omega, by go_num, H9⟩
      case measure => simp [intOf]; omega
    · have H9 : Hid (Here K17 w wr [.tab tp (cntF l), .box p [.pointer (some ⟨tp, 0, none⟩), .bool false] 52, .tab tq (cntF l), .box q [.pointer (some ⟨tq, 0, none⟩), .bool false] 52]) := Lib.hid (by
        have h := HR.out
        rw [List.take_of_length_le (by have := HN.out; omega)] at h
        exact h)
      clear HR
      have TP : Hid (Tells (cntF l) l) := Lib.hid (fun u v => cntF_is l u v)
      have HQ := Lib.hid (pr_here H9.out (i := 3) (j := 2) rfl rfl)
      have B9 := Lib.hid H9.out.bel
      have E1 := Lib.hid (EV.out wr p _ H9.out.bel (pr_here H9.out (i := 1) (j := 0) rfl rfl) TP.out x y (by omega) (by omega))
      clear H9
      go_wp2_with fail
      refine E1.out.mono ?_
      rintro e w7 ⟨rfl, b7⟩
      have E2 := Lib.hid (EV.out w7 q _ (Below.trans' B9.out b7) (HQ.out.bel b7) TP.out x y (by omega) (by omega))
      have B7 := Lib.hid (Below.trans' B9.out b7)
      clear b7 E1
      go_wp2_with fail
      refine E2.out.mono ?_
      rintro e w8 ⟨rfl, b8⟩
      have B8 := Lib.hid (Below.trans' B7.out b8)
      clear b8 E2
      go_wp2_with fail
      go_ret
      exact ⟨rfl, B8.out⟩

theorem own : ownKnob Try.prog.godebug = none := by kernel_rfl
theorem laidOut : laidOutB Try.prog = true := by kernel_rfl

set_option maxRecDepth 100000 in
theorem lifted (os : Os) (started : os.Started) (H : Type) (enc : TypeId × Value → H) :
    ReturnsInHanded {} Try.checked os 4 .any (Rows.pairsSameSpec.pre6 enc Try.prog Try.f4 Rows.pairsSameRow.domain false) (Rows.pairsSameSpec.post enc Try.prog Try.f4 false true false false) := by
  refine returnsInHanded_of_change (C := Try.checked) own started (by kernel_rfl) Try.func4
    (ChangeSpec.witness6 (enc := enc) (C := Try.checked) false ⟨#[], #[.slice none 0 0, .string ⟨#[]⟩, .int .i64 0, .string ⟨#[]⟩, .string ⟨#[]⟩], []⟩ 8 (by kernel_rfl) (by kernel_rfl) (by kernel_rfl) (by kernel_rfl)) ?_
  intro W base args ds gs before hval0 hW hcnd _
  have hval : ∀ (j : Nat) t v, Try.f4.params[j]? = some t → args[j]? = some v → Value.okWide Try.prog W .any base t v := hval0
  have hW' := hW
  obtain ⟨p, q, hA0, hV, rfl, hfz, hnd⟩ := hW
  have hA : DataW.TrodAll enc Try.prog W 0 (fun _ => true) true Try.f4.params.toList args.toList ds p := hA0
  rw [Try.params4] at hA hval
  obtain ⟨v0, vs0, d0, ds0, p0, q0, hargs, rfl, rfl, h0, r0⟩ := trodAll_cons hA
  obtain ⟨v1, vs1, d1, ds1, p1, q1, rfl, rfl, rfl, h1, r1⟩ := trodAll_cons r0
  obtain ⟨v2, vs2, d2, ds2, p2, q2, rfl, rfl, rfl, h2, r2⟩ := trodAll_cons r1
  obtain ⟨v3, vs3, d3, ds3, p3, q3, rfl, rfl, rfl, h3, r3⟩ := trodAll_cons r2
  obtain ⟨v4, vs4, d4, ds4, p4, q4, rfl, rfl, rfl, h4, r4⟩ := trodAll_cons r3
  obtain ⟨rfl, rfl, rfl⟩ := trodAll_nil r4
  obtain rfl : args = #[v0, v1, v2, v3, v4] := by cases args; simp_all
  obtain ⟨rfl, rfl⟩ := trodVars_none hV
  have k0 := h0
  have lt0 : ∀ x ∈ p0, x.block < W.heap.size := by obtain ⟨m, hm⟩ := k0; exact DataW.trod_lt m _ _ _ hm
  obtain ⟨b0, c0, x0, rfl, l0, m0, i0, o0⟩ := open_svs (hval 0 22 v0 rfl rfl) h0
  have k1 := h1
  have lt1 : ∀ x ∈ p1, x.block < W.heap.size := by obtain ⟨m, hm⟩ := k1; exact DataW.trod_lt m _ _ _ hm
  obtain ⟨a1, rfl, rfl, rfl, w1⟩ := open_string Try.underlying9 (hval 1 9 v1 rfl rfl) h1
  have k2 := h2
  have lt2 : ∀ x ∈ p2, x.block < W.heap.size := by obtain ⟨m, hm⟩ := k2; exact DataW.trod_lt m _ _ _ hm
  obtain ⟨a2, rfl, rfl, rfl, w2⟩ := open_int Try.underlying3 (hval 2 3 v2 rfl rfl) h2
  have k3 := h3
  have lt3 : ∀ x ∈ p3, x.block < W.heap.size := by obtain ⟨m, hm⟩ := k3; exact DataW.trod_lt m _ _ _ hm
  obtain ⟨a3, rfl, rfl, rfl, w3⟩ := open_string Try.underlying9 (hval 3 9 v3 rfl rfl) h3
  have k4 := h4
  have lt4 : ∀ x ∈ p4, x.block < W.heap.size := by obtain ⟨m, hm⟩ := k4; exact DataW.trod_lt m _ _ _ hm
  obtain ⟨a4, rfl, rfl, rfl, w4⟩ := open_string Try.underlying9 (hval 4 9 v4 rfl rfl) h4
  clear hA0 hval0
  refine (walk W b0 c0 x0 l0 m0 i0 o0 a1 w1 a2 w2 a3 w3 a4 w4).mono fun e W' ⟨he, bel⟩ => ?_
  subst he
  exact ⟨_, rfl, _, _, _, [], _, [], hW', trodAll_mk1 (shut_bool Try.underlying4 _), (trodAll_cons_mk (Below.trod laidOut (by kernel_rfl) (of_decide_eq_true (by kernel_rfl)) k0 bel lt0) (trodAll_cons_mk (Below.trod laidOut (by kernel_rfl) (of_decide_eq_true (by kernel_rfl)) k1 bel lt1) (trodAll_cons_mk (Below.trod laidOut (by kernel_rfl) (of_decide_eq_true (by kernel_rfl)) k2 bel lt2) (trodAll_cons_mk (Below.trod laidOut (by kernel_rfl) (of_decide_eq_true (by kernel_rfl)) k3 bel lt3) (trodAll_cons_mk (Below.trod laidOut (by kernel_rfl) (of_decide_eq_true (by kernel_rfl)) k4 bel lt4) trodAll_mk0))))), rfl, bel.frame _, fun h => by cases h⟩

theorem over : Rows.pairsSameRow.holds Try.pinned (OpenSpec.ofChange Rows.pairsSameSpec) :=
  OpenClaim.holds_of_wide 4 Try.f4 rfl rfl rfl rfl rfl rfl rfl ⟨rfl, rfl, rfl, rfl, rfl⟩ rfl rfl rfl rfl rfl (by kernel_rfl) Try.func4 (by kernel_rfl)
    (of_decide_eq_true (by kernel_rfl)) (by unfold Func.isWrapper; first | (rw [if_pos (by decide +kernel)]; kernel_rfl) | (rw [if_neg (by decide +kernel)]; exact ⟨rfl, rfl⟩))
    (fun os started H enc _ => lifted os started H enc)

theorem proved : Rows.PairsSameSaid := over
#print axioms proved
end Go.Proofs.Ytnpjihbaebbbcaa.pairsSame

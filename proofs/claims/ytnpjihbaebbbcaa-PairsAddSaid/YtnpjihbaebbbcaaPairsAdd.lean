/- For every input ciceronelaw17.PairsAdd returns true, and its arguments read behind the call as before. No conditions. -/
import Derived.Test.YtnpjihbaebbbcaaQOpen
import Derived.Test.YtnpjihbaebbbcaaRows
import Derived.ProofKit
import Derived.OpenShut
import Derived.ShutString
import Derived.ChangeOld
import Derived.Below
import Derived.Lib.SmallJoins
namespace Go.Proofs.Ytnpjihbaebbbcaa.pairsAdd
open Go.ChangeShapes Go.WideShapes Go.ChangeAt Go.RowKit Go.Joins
open Go.ChangeMaps (open_string shut_string)
set_option linter.unusedVariables false

theorem cntB_rev (l : List Sv) (x y : ByteArray) : cntB l.reverse x y = cntB l x y := by unfold cntB; rw [List.countP_reverse]
theorem cntB_comm (l : List Sv) (x y : ByteArray) : cntB l x y = cntB l y x := by
  unfold cntB
  refine List.countP_congr fun s _ => ?_
  unfold hasB
  rw [Bool.and_comm]
theorem cntB_mono (l : List Sv) (x y : ByteArray) : cntB l x y ≤ cntB l x x := by
  unfold cntB
  refine List.countP_mono_left fun s _ h => ?_
  unfold hasB at *
  rw [Bool.and_eq_true] at h
  rw [Bool.and_eq_true]; exact ⟨h.1, h.1⟩
set_option maxRecDepth 20000 in
set_option maxHeartbeats 8000000 in
theorem walk (w : World) (b : Option Addr) (cap : Nat) (l : List Sv) (hlc : l.length ≤ cap) (hm : cap ≤ maxLen) (hi : InW w b 4 (l.map svC)) (ho : ∀ a ∈ l, SvOk w a) (x : ByteArray) (wx : x.size ≤ maxLen) (y : ByteArray) (wy : y.size ≤ maxLen) :
    Calls Try.prog 3 #[.slice b l.length cap, .string x, .string y] w fun e w' => e = .returned (.bool true) ∧ Below w.heap.size w w' := by
  have LV := Lib.hid (lives_any w)
  have HSV : Hid (SvIn w b l) := Lib.hid ⟨hi, ho⟩
  have HV : Hid (∀ W, Below w.heap.size w W → Calls Try.prog 9 #[.slice b l.length cap, .int .i64 24] W fun e w' => e = .returned (.bool (heavyB l 24)) ∧ w' = W) := Lib.hid (fun W hb => heavy_any b cap l 24 W (HSV.out.bel hb) hm hlc (by omega))
  clear hi ho
  have hm' := hm
  unfold maxLen at hm wx wy
  cases hfw : heavyB l 24 with
  | true =>
    rw [hfw] at HV
    generalize l.length = n at *
    go_enter Try.func3, Try.ntmps3
    go_wp2_with fail
    refine LV.out.mono ?_
    rintro e w1 ⟨rfl, b1⟩
    have B1 := Lib.hid b1
    have F1 := Lib.hid (HV.out w1 b1)
    clear b1 HV LV
    go_wp2_with fail
    refine F1.out.mono ?_
    rintro e w2 ⟨rfl, rfl⟩
    clear F1
    go_wp2_with fail
    go_ret
    exact ⟨rfl, B1.out⟩
  | false =>
    rw [hfw] at HV
    obtain ⟨hn24, hits⟩ := heavy_no hfw
    clear hfw
    by_cases hx : 100 < x.size
    · have t1 : decide ((100 : Int) < (x.size : Int)) = true := decide_eq_true (by omega)
      generalize l.length = n at *
      go_enter Try.func3, Try.ntmps3
      go_wp2_with fail
      refine LV.out.mono ?_
      rintro e w1 ⟨rfl, b1⟩
      have B1 := Lib.hid b1
      have F1 := Lib.hid (HV.out w1 b1)
      clear b1 HV LV
      go_wp2_with fail
      refine F1.out.mono ?_
      rintro e w2 ⟨rfl, rfl⟩
      clear F1
      go_wp2_with fail
      go_ret
      exact ⟨rfl, B1.out⟩
    have t1 : decide ((100 : Int) < (x.size : Int)) = false := decide_eq_false (by omega)
    by_cases hy : 100 < y.size
    · have t2 : decide ((100 : Int) < (y.size : Int)) = true := decide_eq_true (by omega)
      generalize l.length = n at *
      go_enter Try.func3, Try.ntmps3
      go_wp2_with fail
      refine LV.out.mono ?_
      rintro e w1 ⟨rfl, b1⟩
      have B1 := Lib.hid b1
      have F1 := Lib.hid (HV.out w1 b1)
      clear b1 HV LV
      go_wp2_with fail
      refine F1.out.mono ?_
      rintro e w2 ⟨rfl, rfl⟩
      clear F1
      go_wp2_with fail
      go_ret
      exact ⟨rfl, B1.out⟩
    have t2 : decide ((100 : Int) < (y.size : Int)) = false := decide_eq_false (by omega)
    have HLI : Hid (Light l) := Lib.hid ⟨by omega, fun s hs => by have := (hits s hs).1; omega⟩
    have EV : Hid (∀ W p C, Below w.heap.size w W → PrAt W p C → Tells C l → ∀ u v : ByteArray, u.size ≤ 1000 → v.size ≤ 1000 → Calls Try.prog 13 #[.pointer (some ⟨p, 0, none⟩), .slice b l.length cap, .string u, .string v] W fun e w' => e = .returned (.bool true) ∧ Below W.heap.size W w') := Lib.hid (fun W p C hb hp hC u v hu hv => even_any p C b cap l u v W hp hC (HSV.out.bel hb) HLI.out hm' hlc hu hv)
    have OF : Hid (∀ W, Below w.heap.size w W → Calls Try.prog 14 #[.slice b l.length cap] W fun e w' => ∃ p t, e = .returned (.pointer (some ⟨p, 0, none⟩)) ∧ Here K17 W w' [.tab t (cntF l), .box p [.pointer (some ⟨t, 0, none⟩), .bool false] 52]) := Lib.hid (fun W hb => of_any b cap l W (HSV.out.bel hb) HLI.out hm' hlc)
    have HIT := Lib.hid hits
    clear hits
    obtain ⟨n, hn⟩ : ∃ n, l.length = n := ⟨_, rfl⟩
    have HN := Lib.hid hn
    rw [hn] at hn24 hlc HV EV OF ⊢
    clear hn hm'
    go_enter Try.func3, Try.ntmps3
    go_wp2_with fail
    refine LV.out.mono ?_
    rintro e w1 ⟨rfl, b1⟩
    have B1 := Lib.hid b1
    have F1 := Lib.hid (HV.out w1 b1)
    clear b1 HV LV
    go_wp2_with fail
    refine F1.out.mono ?_
    rintro e w2 ⟨rfl, rfl⟩
    have N1 := Lib.hid (q_new (Here.nil (K := K17) B1.out))
    clear F1
    go_wp2_with fail
    refine N1.out.mono ?_
    rintro e w3 ⟨p, tp, rfl, h3⟩
    have N2 := Lib.hid (q_new h3)
    clear h3 N1
    go_wp2_with fail
    refine N2.out.mono ?_
    rintro e w4 ⟨q, tq, rfl, h4⟩
    have H4 : Hid (Here K17 w w4 [.tab tp (cntF (l.take 0)), .box p [.pointer (some ⟨tp, 0, none⟩), .bool false] 52, .tab tq (cntF (l.reverse.take 0)), .box q [.pointer (some ⟨tq, 0, none⟩), .bool false] 52]) := Lib.hid h4
    clear h4 N2 B1
    go_wp2_with fail
    go_loopw [9] (fun c wr => ∃ k : Nat, k ≤ n ∧ c = .int .i64 k ∧ Hid (Here K17 w wr [.tab tp (cntF (l.take k)), .box p [.pointer (some ⟨tp, 0, none⟩), .bool false] 52, .tab tq (cntF (l.reverse.take k)), .box q [.pointer (some ⟨tq, 0, none⟩), .bool false] 52])) (fun c _ => n - (intOf c).toNat)
    case atStart => exact ⟨0, by omega, rfl, H4⟩
    case round =>
      obtain ⟨k, hk, rfl, HR⟩ := hrel
      clear H4
      by_cases hlt : k < n
      · obtain ⟨s, hs⟩ : ∃ s, l[k]? = some s := ⟨l[k]'(by have := HN.out; omega), List.getElem?_eq_getElem _⟩
        obtain ⟨z, hz⟩ : ∃ z, l[n - 1 - k]? = some z := ⟨l[n - 1 - k]'(by have := HN.out; omega), List.getElem?_eq_getElem _⟩
        have hzr : l.reverse[k]? = some z := by
          rw [List.getElem?_reverse (by have := HN.out; omega), HN.out]
          exact hz
        have hS := HSV.out.bel HR.out.bel
        obtain ⟨B, off, rfl, hB, d0, d1, d2, d3⟩ := svAt hS hs
        obtain ⟨B', off', hbb, hB', f0, f1, f2, f3⟩ := svAt hS hz
        cases hbb
        have hsm := List.mem_of_getElem? hs
        have hzm := List.mem_of_getElem? hz
        have HS1 := Lib.hid (cntF_take hs)
        have HZ1 := Lib.hid (cntF_take hzr)
        have hk0 : (0 : Int) ≤ (k : Int) := by omega
        have hk1 : (k : Int) < (n : Int) := by omega
        have hj0 : (0 : Int) ≤ ((n - 1 - k : Nat) : Int) := by omega
        have hj1 : ((n - 1 - k : Nat) : Int) < (n : Int) := by omega
        have q1 : RowKit.wrap64 ((n : Int) - 1) = ((n - 1 : Nat) : Int) := by rw [IntWalk.wrap64_in _ (by omega)]; omega
        have q2 : RowKit.wrap64 (((n - 1 : Nat) : Int) - (k : Int)) = ((n - 1 - k : Nat) : Int) := by rw [IntWalk.wrap64_in _ (by omega)]; omega
        have A1 := Lib.hid (q_add_no (i := 1) (j := 0) HR.out rfl rfl (cntF_small (by rw [List.length_take]; omega)) s (hS.o s hsm).st (hS.o s hsm).sz (by have := (HIT.out s hsm).1; omega))
        have HZO : Hid (l[n - 1 - k]? = some z) := Lib.hid hz
        clear hs hz hzr hS hsm hzm hB hB' f0 f1 f2 f3
        go_wp2_with fail
        refine A1.out.mono ?_
        rintro e w5 ⟨rfl, h5⟩
        have H5 : Hid (Here K17 w w5 [.tab tp (cntF (l.take (k + 1))), .box p [.pointer (some ⟨tp, 0, none⟩), .bool false] 52, .tab tq (cntF (l.reverse.take k)), .box q [.pointer (some ⟨tq, 0, none⟩), .bool false] 52]) := Lib.hid (by rw [HS1.out]; exact h5)
        have hS5 := HSV.out.bel h5.bel
        obtain ⟨B', off', hbb, hB', f0, f1, f2, f3⟩ := svAt hS5 HZO.out
        cases hbb
        have hzm := List.mem_of_getElem? HZO.out
        have A2 := Lib.hid (q_add_no (i := 3) (j := 2) H5.out rfl rfl (cntF_small (by rw [List.length_take, List.length_reverse, HN.out]; omega)) z (hS5.o z hzm).st (hS5.o z hzm).sz (by have := (HIT.out z hzm).1; omega))
        clear h5 hS5 hzm hB' A1 HR HS1 d0 d1 d2 d3
        go_wp2_with fail
        refine A2.out.mono ?_
        rintro e w6 ⟨rfl, h6⟩
        have H6 : Hid (Here K17 w w6 [.tab tp (cntF (l.take (k + 1))), .box p [.pointer (some ⟨tp, 0, none⟩), .bool false] 52, .tab tq (cntF (l.reverse.take (k + 1))), .box q [.pointer (some ⟨tq, 0, none⟩), .bool false] 52]) := Lib.hid (by rw [HZ1.out]; exact h6)
        clear h6 A2 H5 HZ1 f0 f1 f2 f3
        go_wp2_with fail
        go_roundw
        case rel => exact ⟨k + 1, by omega, by go_num, H6⟩
        case measure => simp [intOf]; omega
      · have H9 : Hid (Here K17 w wr [.tab tp (cntF l), .box p [.pointer (some ⟨tp, 0, none⟩), .bool false] 52, .tab tq (cntF l.reverse), .box q [.pointer (some ⟨tq, 0, none⟩), .bool false] 52]) := Lib.hid (by
          have h := HR.out
          rw [List.take_of_length_le (by have := HN.out; omega), List.take_of_length_le (by rw [List.length_reverse]; have := HN.out; omega)] at h
          exact h)
        clear HR
        have hsz : x.size ≤ maxLen ∧ y.size ≤ maxLen := ⟨by unfold maxLen; omega, by unfold maxLen; omega⟩
        have hP := pr_here H9.out (i := 1) (j := 0) rfl rfl
        have hQ := pr_here H9.out (i := 3) (j := 2) rfl rfl
        have HP := Lib.hid hP
        have HQ := Lib.hid hQ
        have B9 := Lib.hid H9.out.bel
        have TP : Hid (Tells (cntF l) l) := Lib.hid (fun u v => cntF_is l u v)
        have TQ : Hid (Tells (cntF l.reverse) l) := Lib.hid (fun u v => by rw [cntF_is, cntB_rev])
        have hmx : ((cntB l x y : Nat) : Int) ≤ ((cntB l x x : Nat) : Int) := by have := cntB_mono l x y; omega
        have hmy : ((cntB l x y : Nat) : Int) ≤ ((cntB l y y : Nat) : Int) := by have := cntB_mono l y x; rw [cntB_comm l y x] at this; omega
        have HC1 : Hid (∀ W, Below wr.heap.size wr W → Calls Try.prog 12 #[.pointer (some ⟨p, 0, none⟩), .string x, .string y] W fun e w' => e = .returned (.int .i64 (cntB l x y : Nat)) ∧ w' = W) := Lib.hid (fun W hb => by
          have := pcount_any (HP.out.bel hb) x y hsz.1 hsz.2
          rw [TP.out] at this; exact this)
        have HC2 : Hid (∀ W, Below wr.heap.size wr W → Calls Try.prog 12 #[.pointer (some ⟨p, 0, none⟩), .string y, .string x] W fun e w' => e = .returned (.int .i64 (cntB l x y : Nat)) ∧ w' = W) := Lib.hid (fun W hb => by
          have := pcount_any (HP.out.bel hb) y x hsz.2 hsz.1
          rw [TP.out, cntB_comm] at this; exact this)
        have HS1 : Hid (∀ W, Below wr.heap.size wr W → Calls Try.prog 15 #[.pointer (some ⟨p, 0, none⟩), .string x] W fun e w' => e = .returned (.int .i64 (cntB l x x : Nat)) ∧ w' = W) := Lib.hid (fun W hb => by
          have := psingle_any (HP.out.bel hb) x hsz.1
          rw [TP.out] at this; exact this)
        have HS2 : Hid (∀ W, Below wr.heap.size wr W → Calls Try.prog 15 #[.pointer (some ⟨p, 0, none⟩), .string y] W fun e w' => e = .returned (.int .i64 (cntB l y y : Nat)) ∧ w' = W) := Lib.hid (fun W hb => by
          have := psingle_any (HP.out.bel hb) y hsz.2
          rw [TP.out] at this; exact this)
        have E1 := Lib.hid (EV.out wr p _ B9.out HP.out TP.out x y (by omega) (by omega))
        have C1 := Lib.hid (HC1.out wr (Below.refl _ _))
        clear hP hQ hsz H9
        generalize ((cntB l x y : Nat) : Int) = g1 at *
        generalize ((cntB l x x : Nat) : Int) = g2 at *
        generalize ((cntB l y y : Nat) : Int) = g3 at *
        have t11 : (g1 == g1) = true := by simp
        have t12 : decide (g1 ≤ g2) = true := decide_eq_true hmx
        have t13 : decide (g1 ≤ g3) = true := decide_eq_true hmy
        go_wp2_with fail
        refine C1.out.mono ?_
        rintro e w' ⟨rfl, rfl⟩
        go_wp2_with fail
        refine E1.out.mono ?_
        rintro e w7 ⟨rfl, b7⟩
        have B7 := Lib.hid b7
        have E2 := Lib.hid (EV.out w7 q _ (Below.trans' B9.out b7) (HQ.out.bel b7) TQ.out x y (by omega) (by omega))
        clear b7 E1 C1
        go_wp2_with fail
        refine E2.out.mono ?_
        rintro e w8 ⟨rfl, b8⟩
        have B8 := Lib.hid (Below.trans' B7.out b8)
        have O8 := Lib.hid (OF.out w8 (Below.trans' B9.out B8.out))
        clear b8 E2
        go_wp2_with fail
        refine O8.out.mono ?_
        rintro e w9 ⟨r, tr, rfl, h9⟩
        have B9b := Lib.hid (Below.trans' B8.out h9.bel)
        have E3 := Lib.hid (EV.out w9 r _ (Below.trans' B9.out B9b.out) (pr_here h9 (i := 1) (j := 0) rfl rfl) TP.out y x (by omega) (by omega))
        clear h9 O8
        go_wp2_with fail
        refine E3.out.mono ?_
        rintro e w10 ⟨rfl, b10⟩
        have B10 := Lib.hid (Below.trans' B9b.out b10)
        have C2 := Lib.hid (HC2.out w10 B10.out)
        have D1 := Lib.hid (HS1.out w10 B10.out)
        have D2 := Lib.hid (HS2.out w10 B10.out)
        clear b10 E3
        go_wp2_with fail
        refine C2.out.mono ?_
        rintro e w' ⟨rfl, rfl⟩
        go_wp2_with fail
        refine D1.out.mono ?_
        rintro e w' ⟨rfl, rfl⟩
        go_wp2_with fail
        refine D2.out.mono ?_
        rintro e w' ⟨rfl, rfl⟩
        have BE := Lib.hid (Below.trans' B9.out B10.out)
        go_wp2_with fail
        go_ret
        exact ⟨rfl, BE.out⟩

theorem own : ownKnob Try.prog.godebug = none := by kernel_rfl
theorem laidOut : laidOutB Try.prog = true := by kernel_rfl

set_option maxRecDepth 100000 in
theorem lifted (os : Os) (started : os.Started) (H : Type) (enc : TypeId × Value → H) :
    ReturnsInHanded {} Try.checked os 3 .any (Rows.pairsAddSpec.pre6 enc Try.prog Try.f3 Rows.pairsAddRow.domain false) (Rows.pairsAddSpec.post enc Try.prog Try.f3 false true false false) := by
  refine returnsInHanded_of_change (C := Try.checked) own started (by kernel_rfl) Try.func3
    (ChangeSpec.witness6 (enc := enc) (C := Try.checked) false ⟨#[], #[.slice none 0 0, .string ⟨#[]⟩, .string ⟨#[]⟩], []⟩ 8 (by kernel_rfl) (by kernel_rfl) (by kernel_rfl) (by kernel_rfl)) ?_
  intro W base args ds gs before hval0 hW hcnd _
  have hval : ∀ (j : Nat) t v, Try.f3.params[j]? = some t → args[j]? = some v → Value.okWide Try.prog W .any base t v := hval0
  have hW' := hW
  obtain ⟨p, q, hA0, hV, rfl, hfz, hnd⟩ := hW
  have hA : DataW.TrodAll enc Try.prog W 0 (fun _ => true) true Try.f3.params.toList args.toList ds p := hA0
  rw [Try.params3] at hA hval
  obtain ⟨v0, vs0, d0, ds0, p0, q0, hargs, rfl, rfl, h0, r0⟩ := trodAll_cons hA
  obtain ⟨v1, vs1, d1, ds1, p1, q1, rfl, rfl, rfl, h1, r1⟩ := trodAll_cons r0
  obtain ⟨v2, vs2, d2, ds2, p2, q2, rfl, rfl, rfl, h2, r2⟩ := trodAll_cons r1
  obtain ⟨rfl, rfl, rfl⟩ := trodAll_nil r2
  obtain rfl : args = #[v0, v1, v2] := by cases args; simp_all
  obtain ⟨rfl, rfl⟩ := trodVars_none hV
  have k0 := h0
  have lt0 : ∀ x ∈ p0, x.block < W.heap.size := by obtain ⟨m, hm⟩ := k0; exact DataW.trod_lt m _ _ _ hm
  obtain ⟨b0, c0, x0, rfl, l0, m0, i0, o0⟩ := open_svs (hval 0 22 v0 rfl rfl) h0
  have k1 := h1
  have lt1 : ∀ x ∈ p1, x.block < W.heap.size := by obtain ⟨m, hm⟩ := k1; exact DataW.trod_lt m _ _ _ hm
  obtain ⟨a1, rfl, rfl, rfl, w1⟩ := open_string Try.underlying9 (hval 1 9 v1 rfl rfl) h1
  have k2 := h2
  have lt2 : ∀ x ∈ p2, x.block < W.heap.size := by obtain ⟨m, hm⟩ := k2; exact DataW.trod_lt m _ _ _ hm
  obtain ⟨a2, rfl, rfl, rfl, w2⟩ := open_string Try.underlying9 (hval 2 9 v2 rfl rfl) h2
  clear hA0 hval0
  refine (walk W b0 c0 x0 l0 m0 i0 o0 a1 w1 a2 w2).mono fun e W' ⟨he, bel⟩ => ?_
  subst he
  exact ⟨_, rfl, _, _, _, [], _, [], hW', trodAll_mk1 (shut_bool Try.underlying4 _), (trodAll_cons_mk (Below.trod laidOut (by kernel_rfl) (of_decide_eq_true (by kernel_rfl)) k0 bel lt0) (trodAll_cons_mk (Below.trod laidOut (by kernel_rfl) (of_decide_eq_true (by kernel_rfl)) k1 bel lt1) (trodAll_cons_mk (Below.trod laidOut (by kernel_rfl) (of_decide_eq_true (by kernel_rfl)) k2 bel lt2) trodAll_mk0))), rfl, bel.frame _, fun h => by cases h⟩

theorem over : Rows.pairsAddRow.holds Try.pinned (OpenSpec.ofChange Rows.pairsAddSpec) :=
  OpenClaim.holds_of_wide 3 Try.f3 rfl rfl rfl rfl rfl rfl rfl ⟨rfl, rfl, rfl, rfl, rfl⟩ rfl rfl rfl rfl rfl (by kernel_rfl) Try.func3 (by kernel_rfl)
    (of_decide_eq_true (by kernel_rfl)) (by unfold Func.isWrapper; first | (rw [if_pos (by decide +kernel)]; kernel_rfl) | (rw [if_neg (by decide +kernel)]; exact ⟨rfl, rfl⟩))
    (fun os started H enc _ => lifted os started H enc)

theorem proved : Rows.PairsAddSaid := over
#print axioms proved
end Go.Proofs.Ytnpjihbaebbbcaa.pairsAdd

/- For every input ciceronelaw45.AliasApplies returns true, and its arguments read behind the call as before. No conditions. -/
import Derived.Test.YtgflfjmlhapplaaAOpen
import Derived.Test.YtgflfjmlhapplaaARApply
import Derived.Test.YtgflfjmlhapplaaRows
import Derived.ProofKit
import Derived.OpenShut
import Derived.ShutString
import Derived.ChangeOld
import Derived.Below
import Derived.Lib.SmallJoins
namespace Go.Proofs.Ytgflfjmlhapplaa.aliasApplies
open Go.ChangeShapes Go.WideShapes Go.ChangeAt Go.RowKit Go.Joins
open Go.ChangeMaps (open_string shut_string)
set_option linter.unusedVariables false

theorem name_idem {w : World} {p : Nat} {B : List Nat} {l : List Two} (h : AlAt w p B l) (x : ByteArray) : nameR l (nameR l x) = nameR l x := by
  obtain ⟨m, M, r, rfl, h1, h2, h3⟩ := h
  rw [nameR_eq h3 h2, nameR_eq h3 h2, h2.idem]
theorem apply_size {l : List Two} (ho : ∀ p ∈ l, okTwo p) {evs : List Ev} (hs : ∀ e ∈ evs, e.item.size ≤ 1000) : ∀ e ∈ applyR l evs, e.item.size ≤ 1000 := fun e he => by
  unfold applyR at he
  obtain ⟨e', h1, h2⟩ := List.mem_flatMap.1 he
  unfold applyS at h2
  split at h2
  · cases h2
  · simp at h2
    subst h2
    exact nameR_size ho (hs e' h1)
set_option maxRecDepth 100000 in
set_option maxHeartbeats 8000000 in
theorem walk (w : World) (b : Option Addr) (cap : Nat) (l : List Two) (hlc : l.length ≤ cap) (hm : cap ≤ maxLen) (hi : InW w b 2 (l.map twoC)) (ho : ∀ a ∈ l, twoOk a) (eb : Option Addr) (ec : Nat) (evs : List Ev) (hec : evs.length ≤ ec) (hem : ec ≤ maxLen) (hei : InW w eb 8 (evs.map evC)) (heo : ∀ e ∈ evs, evOk e) :
    Calls Try.prog 6 #[.slice b l.length cap, .slice eb evs.length ec] w fun e w' => e = .returned (.bool true) ∧ Below w.heap.size w w' := by
  have LV := Lib.hid (lives_any w)
  have HVY : Hid (∀ W, Below w.heap.size w W → Calls Try.prog 9 #[.slice b l.length cap, .int .i64 12] W fun e w' => e = .returned (.bool (heavyB l 12)) ∧ W = w') := Lib.hid (fun W hb => heavy_any b cap l 12 W (InW.bel hi hb) hlc hm ho)
  have SO : Hid (∀ W, Below w.heap.size w W → Calls Try.prog 19 #[.slice eb evs.length ec, .int .i64 300] W fun x w' => x = .returned (.bool (evs.any fun e => bigB e 300)) ∧ Below W.heap.size W w') := Lib.hid (fun W hb => some_any eb ec evs 300 W (InW.bel hei hb) (by omega) hem hec heo)
  unfold maxLen at hem
  cases hhv : heavyB l 12 with
  | true =>
    clear SO
    generalize evs.length = en at *
    rw [hhv] at HVY
    clear hhv hi ho hei heo
    generalize l.length = n at *
    go_enter Try.func6, Try.ntmps6
    go_wp2_with fail
    refine LV.out.mono ?_
    rintro e w1 ⟨rfl, b1⟩
    have H1 := Lib.hid (Here.nil (K := K45) b1)
    have HE := Lib.hid (HVY.out w1 b1)
    clear b1 LV HVY
    go_wp2_with fail
    refine HE.out.mono ?_
    rintro e wx ⟨rfl, rfl⟩
    clear HE
    go_wp2_with fail
    go_ret
    exact ⟨rfl, H1.out.bel⟩
  | false =>
    rw [hhv] at HVY
    obtain ⟨hl16, hok⟩ := ok_of_heavy (most := 12) hhv
    clear hhv ho
    by_cases hel : 20 < evs.length
    · have t1 : decide ((20 : Int) < (evs.length : Int)) = true := decide_eq_true (by omega)
      have t1' : decide (20 < evs.length) = true := decide_eq_true hel
      clear SO hei heo
      generalize evs.length = en at *
      clear hi hok
      generalize l.length = n at *
      go_enter Try.func6, Try.ntmps6
      go_wp2_with fail
      refine LV.out.mono ?_
      rintro e w1 ⟨rfl, b1⟩
      have H1 := Lib.hid (Here.nil (K := K45) b1)
      have HE := Lib.hid (HVY.out w1 b1)
      clear b1 LV HVY
      go_wp2_with fail
      refine HE.out.mono ?_
      rintro e wx ⟨rfl, rfl⟩
      clear HE
      go_wp2_with fail
      go_ret
      exact ⟨rfl, H1.out.bel⟩
    · have t1 : decide ((20 : Int) < (evs.length : Int)) = false := decide_eq_false (by omega)
      have t1' : decide (20 < evs.length) = false := decide_eq_false hel
      cases hbg : (evs.any fun e => bigB e 300) with
      | true =>
        rw [hbg] at SO
        clear hbg hi hok hei heo
        generalize evs.length = en at *
        generalize l.length = n at *
        go_enter Try.func6, Try.ntmps6
        go_wp2_with fail
        refine LV.out.mono ?_
        rintro e w1 ⟨rfl, b1⟩
        have H1 := Lib.hid (Here.nil (K := K45) b1)
        have HE := Lib.hid (HVY.out w1 b1)
        clear b1 LV HVY
        go_wp2_with fail
        refine HE.out.mono ?_
        rintro e wx ⟨rfl, rfl⟩
        clear HE
        have S1 := Lib.hid (SO.out w1 H1.out.bel)
        go_wp2_with fail
        refine S1.out.mono ?_
        rintro e w2 ⟨rfl, b2⟩
        have H2 := Lib.hid (H1.out.step_bel b2)
        clear b2 S1 SO
        go_wp2_with fail
        go_ret
        exact ⟨rfl, H2.out.bel⟩
      | false =>
        rw [hbg] at SO
        have hsz : ∀ e ∈ evs, e.item.size ≤ 1000 := fun e he => by
          have := List.any_eq_false.1 hbg e he
          unfold bigB at this
          simp at this
          omega
        obtain ⟨i0, hi0T, hz0, hz1, hz2⟩ := info_parts infoEv
        have HIW := Lib.hid hi
        have HOK := Lib.hid hok
        have HEW := Lib.hid hei
        have HSZ := Lib.hid hsz
        have JO : Hid (∀ W, Below w.heap.size w W → Calls Try.prog 16 #[.slice b l.length cap] W fun e w' => ∃ p, e = .returned (.pointer (some ⟨p, 0, none⟩)) ∧ Here K45 W w' [.alias p l]) := Lib.hid (fun W hb => joined_any b cap l W (InW.bel hi hb) (by omega) hok)
        have RA : Hid (∀ (W : World) (bb : Option Addr) (cc : Nat), Below w.heap.size w W → InW W bb 8 (evs.map evC) → Calls Try.prog 22 #[.slice b l.length cap, .slice bb evs.length cc] W fun x w' => ∃ v, x = .returned v ∧ MkG 62 8 evC W w' v (applyR l evs)) := Lib.hid (fun W bb cc hb h => rapply_any b cap l bb cc evs W (InW.bel hi hb) (by omega) hok h (by omega) hsz)
        have hal := applyR_len l evs
        have HSZ2 := Lib.hid (apply_size hok hsz)
        have HLE : Hid (evs.length ≤ 1000) := Lib.hid (by omega)
        have HLA : Hid ((applyR l evs).length ≤ 1000) := Lib.hid (by omega)
        have HLX : Hid (([] : List Ev).length + evs.length ≤ 1000000) := Lib.hid (by simp; omega)
        clear hbg hi hok hei heo hsz
        generalize hen : evs.length = en at *
        have Hen := Lib.hid hen
        clear hen
        generalize l.length = n at *
        go_enter Try.func6, Try.ntmps6
        go_wp2_with fail
        refine LV.out.mono ?_
        rintro e w1 ⟨rfl, b1⟩
        have H1 := Lib.hid (Here.nil (K := K45) b1)
        have HE := Lib.hid (HVY.out w1 b1)
        clear b1 LV HVY
        go_wp2_with fail
        refine HE.out.mono ?_
        rintro e wx ⟨rfl, rfl⟩
        clear HE
        have S1 := Lib.hid (SO.out w1 H1.out.bel)
        go_wp2_with fail
        refine S1.out.mono ?_
        rintro e w2 ⟨rfl, b2⟩
        have H2 := Lib.hid (H1.out.step_bel b2)
        have J2 := Lib.hid (JO.out w2 H2.out.bel)
        clear b2 S1 SO H1
        go_wp2_with fail
        refine J2.out.mono ?_
        rintro e w3 ⟨p, rfl, h3⟩
        have H3 : Hid (Here K45 w w3 [.alias p l]) := Lib.hid (H2.out.adopt h3)
        clear h3 J2 JO H2
        have ME := Lib.hid (MkG.empty (t := 62) (sz := 8) (f := evC) w3)
        have HI3 := Lib.hid (InW.bel (InW.bel HEW.out H3.out.bel) ME.out.bl)
        have HEN2 : Hid (en = evs.length) := Lib.hid Hen.out.symm
        go_wp2_with (at_builtin; refine wpList_append_m evLen evOne _ rfl _ _ _ rfl 62 i0 _ 96 Try.underlying40 hi0T hz0 hz1 hz2 rfl (by decide) (by omega) _ [] evs rfl ME.out.tx eb en ec rfl HEN2.out HI3.out (by have := HLX.out; rw [← Hen.out] at this; exact this) ?_; intro v4 w4 o4 f4 h4)
        have M4 := Lib.hid (ME.out.more o4 f4 h4)
        clear o4 f4 h4 ME HI3
        have hm4 := M4.out
        rw [List.nil_append] at hm4
        obtain ⟨vb, vc, hv, _, _, hvw⟩ := hm4.read evLen (by omega)
        rw [Hen.out] at hv
        subst hv
        have H4 := Lib.hid (H3.out.step_bel hm4.bl)
        have HVW := Lib.hid hvw
        obtain ⟨Bl, ha⟩ := h_at H4.out (i := 0) rfl
        have HID := Lib.hid (name_idem ha)
        have hap := apply_at ha eb ec evs (InW.bel HEW.out H4.out.bel) (by rw [Hen.out]; exact HLE.out) HSZ.out
        rw [Hen.out] at hap
        have AP := Lib.hid hap
        clear hm4 hvw hap ha M4
        go_wp2_with fail
        refine AP.out.mono ?_
        rintro e w5 ⟨v5, rfl, m5⟩
        obtain ⟨ob, oc, ho5, _, _, how⟩ := m5.read evLen (by omega)
        obtain ⟨la, hla⟩ : ∃ la, (applyR l evs).length = la := ⟨_, rfl⟩
        rw [hla] at ho5
        subst ho5
        have HLA2 := Lib.hid hla
        have H5 := Lib.hid (H4.out.step_bel m5.bl)
        have HV5 := Lib.hid (InW.bel HVW.out m5.bl)
        have HOW := Lib.hid how
        have R5 := Lib.hid (RA.out w5 vb vc H5.out.bel HV5.out)
        clear m5 how AP hla
        go_wp2_with fail
        refine R5.out.mono ?_
        rintro e w6 ⟨v6, rfl, m6⟩
        obtain ⟨rb, rc, hr6, _, _, hrw⟩ := m6.read evLen (by omega)
        have H6 := Lib.hid (H5.out.step_bel m6.bl)
        have HO6 := Lib.hid (InW.bel HOW.out m6.bl)
        have HV6 := Lib.hid (InW.bel HV5.out m6.bl)
        have hsm := evsame_any ob rb oc rc (applyR l evs) w6 HO6.out hrw (by have := HLA.out; omega)
        rw [← hr6, HLA2.out] at hsm
        have S6 := Lib.hid hsm
        clear m6 hrw hr6 hsm R5
        go_wp2_with fail
        refine S6.out.mono ?_
        rintro e w7 ⟨rfl, b7⟩
        have H7 := Lib.hid (H6.out.step_bel b7)
        have HO7 := Lib.hid (InW.bel HO6.out b7)
        have HV7 := Lib.hid (InW.bel HV6.out b7)
        obtain ⟨Bl7, ha7⟩ := h_at H7.out (i := 0) rfl
        have hap := apply_at ha7 ob oc (applyR l evs) HO7.out HLA.out HSZ2.out
        rw [HLA2.out, applyR_again HID.out] at hap
        have AP7 := Lib.hid hap
        clear b7 S6 hap ha7
        go_wp2_with fail
        refine AP7.out.mono ?_
        rintro e w8 ⟨v8, rfl, m8⟩
        obtain ⟨qb, qc, hr8, _, _, hqw⟩ := m8.read evLen (by omega)
        have H8 := Lib.hid (H7.out.step_bel m8.bl)
        have HO8 := Lib.hid (InW.bel HO7.out m8.bl)
        have HV8 := Lib.hid (InW.bel HV7.out m8.bl)
        have hsm := evsame_any qb ob qc oc (applyR l evs) w8 hqw HO8.out (by have := HLA.out; omega)
        rw [← hr8, HLA2.out] at hsm
        have S8 := Lib.hid hsm
        clear m8 hqw hr8 hsm AP7
        go_wp2_with fail
        refine S8.out.mono ?_
        rintro e w9 ⟨rfl, b9⟩
        have H9 := Lib.hid (H8.out.step_bel b9)
        have HV9 := Lib.hid (InW.bel HV8.out b9)
        have hsm := evsame_any eb vb ec vc evs w9 (InW.bel HEW.out H9.out.bel) HV9.out (by rw [Hen.out]; have := HLE.out; omega)
        rw [Hen.out] at hsm
        have S9 := Lib.hid hsm
        clear b9 hsm S8
        go_wp2_with fail
        refine S9.out.mono ?_
        rintro e wa ⟨rfl, ba⟩
        have HA := Lib.hid (H9.out.step_bel ba)
        clear ba
        go_wp2_with fail
        go_ret
        exact ⟨rfl, HA.out.bel⟩

theorem own : ownKnob Try.prog.godebug = none := by kernel_rfl
theorem laidOut : laidOutB Try.prog = true := by kernel_rfl

set_option maxRecDepth 100000 in
theorem lifted (os : Os) (started : os.Started) (H : Type) (enc : TypeId × Value → H) :
    ReturnsInHanded {} Try.checked os 6 .any (Rows.aliasAppliesSpec.pre6 enc Try.prog Try.f6 Rows.aliasAppliesRow.domain false) (Rows.aliasAppliesSpec.post enc Try.prog Try.f6 false true false false) := by
  refine returnsInHanded_of_change (C := Try.checked) own started (by kernel_rfl) Try.func6
    (ChangeSpec.witness6 (enc := enc) (C := Try.checked) false ⟨#[], #[.slice none 0 0, .slice none 0 0], []⟩ 8 (by kernel_rfl) (by kernel_rfl) (by kernel_rfl) (by kernel_rfl)) ?_
  intro W base args ds gs before hval0 hW hcnd _
  have hval : ∀ (j : Nat) t v, Try.f6.params[j]? = some t → args[j]? = some v → Value.okWide Try.prog W .any base t v := hval0
  have hW' := hW
  obtain ⟨p, q, hA0, hV, rfl, hfz, hnd⟩ := hW
  have hA : DataW.TrodAll enc Try.prog W 0 (fun _ => true) true Try.f6.params.toList args.toList ds p := hA0
  rw [Try.params6] at hA hval
  obtain ⟨v0, vs0, d0, ds0, p0, q0, hargs, rfl, rfl, h0, r0⟩ := trodAll_cons hA
  obtain ⟨v1, vs1, d1, ds1, p1, q1, rfl, rfl, rfl, h1, r1⟩ := trodAll_cons r0
  obtain ⟨rfl, rfl, rfl⟩ := trodAll_nil r1
  obtain rfl : args = #[v0, v1] := by cases args; simp_all
  obtain ⟨rfl, rfl⟩ := trodVars_none hV
  have k0 := h0
  have lt0 : ∀ x ∈ p0, x.block < W.heap.size := by obtain ⟨m, hm⟩ := k0; exact DataW.trod_lt m _ _ _ hm
  obtain ⟨b0, c0, x0, rfl, l0, m0, i0, o0⟩ := open_twos (hval 0 22 v0 rfl rfl) h0
  have k1 := h1
  have lt1 : ∀ x ∈ p1, x.block < W.heap.size := by obtain ⟨m, hm⟩ := k1; exact DataW.trod_lt m _ _ _ hm
  obtain ⟨b1, c1, x1, rfl, l1, m1, i1, o1⟩ := open_events (hval 1 40 v1 rfl rfl) h1
  clear hA0 hval0
  refine (walk W b0 c0 x0 l0 m0 i0 o0 b1 c1 x1 l1 m1 i1 o1).mono fun e W' ⟨he, bel⟩ => ?_
  subst he
  exact ⟨_, rfl, _, _, _, [], _, [], hW', trodAll_mk1 (shut_bool Try.underlying4 _), (trodAll_cons_mk (Below.trod laidOut (by kernel_rfl) (of_decide_eq_true (by kernel_rfl)) k0 bel lt0) (trodAll_cons_mk (Below.trod laidOut (by kernel_rfl) (of_decide_eq_true (by kernel_rfl)) k1 bel lt1) trodAll_mk0)), rfl, bel.frame _, fun h => by cases h⟩

theorem over : Rows.aliasAppliesRow.holds Try.pinned (OpenSpec.ofChange Rows.aliasAppliesSpec) :=
  OpenClaim.holds_of_wide 6 Try.f6 rfl rfl rfl rfl rfl rfl rfl ⟨rfl, rfl, rfl, rfl, rfl⟩ rfl rfl rfl rfl rfl (by kernel_rfl) Try.func6 (by kernel_rfl)
    (of_decide_eq_true (by kernel_rfl)) (by unfold Func.isWrapper; first | (rw [if_pos (by decide +kernel)]; kernel_rfl) | (rw [if_neg (by decide +kernel)]; exact ⟨rfl, rfl⟩))
    (fun os started H enc _ => lifted os started H enc)

theorem proved : Rows.AliasAppliesSaid := over
#print axioms proved
end Go.Proofs.Ytgflfjmlhapplaa.aliasApplies

/- For every input ciceronelaw04.DiskFull returns true, and its arguments read behind the call as before. No conditions. -/
import Derived.Test.YtemfnchiedepoaaDkRep
import Derived.Test.YtemfnchiedepoaaDkHere
import Derived.Laws.MakeOwn
import Derived.Test.YtemfnchiedepoaaRows
import Derived.ProofKit
import Derived.OpenShut
import Derived.ShutString
import Derived.ChangeOld
import Derived.Below
import Derived.Lib.SmallJoins
namespace Go.Proofs.Ytemfnchiedepoaa.diskFull
open Go.ChangeShapes Go.WideShapes Go.ChangeAt Go.RowKit Go.Joins
open Go.ChangeMaps (open_string shut_string)
set_option linter.unusedVariables false

theorem u8_wf {q : Int} (h : (Lit.int .u8 q).wf = true) : 0 ≤ q ∧ q ≤ 255 := by
  simp only [Lit.wf, Bool.and_eq_true, decide_eq_true_eq] at h
  exact h
def nG : ByteArray := ⟨#[103]⟩
def nH : ByteArray := ⟨#[104]⟩
def zeroB (n : Nat) : ByteArray := ⟨(List.replicate n (0 : UInt8)).toArray⟩
theorem zero_size (n : Nat) : (zeroB n).size = n := by show (List.replicate n (0 : UInt8)).toArray.size = n; simp
theorem made_zero (n : Nat) : (madeCells #[Value.int .u8 0] n).toList = bV (zeroB n) := by
  unfold bV zeroB madeCells
  apply List.ext_getElem?
  intro i
  simp only [Array.toList_map, Array.toList_range]
  rw [List.getElem?_map, List.getElem?_map]
  by_cases h : i < n
  · rw [List.getElem?_range h]
    simp [h, byV, Nat.mod_one]
  · rw [List.getElem?_eq_none (by simp; omega)]
    simp [h]
theorem make_zero (n : Nat) (hn : n ≤ 5000000) (w : World) : (Instr.makeSlice 28 (.int .i64 (n : Int)) (.int .i64 (n : Int))).run Try.prog w = .ok (.slice (some ⟨w.heap.size, 0, none⟩) n n) (w.alloc (.cells (madeCells #[Value.int .u8 0] n) 5)) := by
  obtain ⟨i0, hi0T, hz0, hz1, hz2⟩ := info_parts infoByte
  have := run_make (P := Try.prog) w 28 5 i0 (.int .u8 0) Try.underlying28 hi0T hz0 .i64 .i64 (n : Int) (n : Int) (by omega) (Int.le_refl _) (by rw [hz2]; omega) (by omega)
  rw [hz1, Nat.mul_one] at this
  simpa [Value.cells] using this
abbrev oneF (Z : ByteArray) : Dk := oneD nF Z (-1) false
theorem full_many {Z b : ByteArray} {nm : ByteArray} (k : Nat) (h : 4194304 < k) : fullB (oneF Z) nm k = true := by
  unfold fullB
  rw [decide_eq_true h]; rfl
theorem app_full {Z b nm : ByteArray} (hn : nameD nm = true) (h : 4194304 < Z.size + b.size) : stepA (oneF Z) nm b = (oneF Z, 5) := by
  unfold stepA
  rw [if_neg (by simp [oneF, oneD]), if_neg (by simp [hn]), if_pos]
  have : fsum (oneF Z).L = Z.size := by simp [oneF, oneD, fsum]
  rw [this]
  exact full_many (b := b) _ h
theorem not_full {Z nm : ByteArray} {k : Nat} (h : k ≤ 4194304) : fullB (oneF Z) nm k = false := by
  unfold fullB
  rw [decide_eq_false (by omega : ¬ 4194304 < k), decide_eq_false (by simp [oneF, oneD] : ¬ 4096 ≤ (oneF Z).L.length)]
  simp
theorem app_ok {Z b nm : ByteArray} (hn : nameD nm = true) (h : Z.size + b.size ≤ 4194304) : ∃ Y, stepA (oneF Z) nm b = (Y, 0) ∧ readD Y nF = (if nm = nF then catB Z b else Z, 0) := by
  have hs : fsum (oneF Z).L = Z.size := by simp [oneF, oneD, fsum]
  have hr : RiseF (oneF Z).L := by unfold oneF oneD RiseF fnames Rise; simp
  have e : stepA (oneF Z) nm b = ({ burn (oneF Z) with L := fput (oneF Z).L nm { getF (oneF Z).L nm with s := catB (getF (oneF Z).L nm).s b } }, 0) := by
    unfold stepA
    rw [if_neg (by simp [oneF, oneD]), if_neg (by simp [hn]), if_neg (by rw [hs, not_full h]; simp), if_neg (show ¬ (oneF Z).fuse = 0 from (by decide : ¬ (-1 : Int) = 0))]
  refine ⟨_, e, ?_⟩
  have hb : burn (oneF Z) = oneF Z := rfl
  rw [hb]
  unfold readD
  rw [if_neg (by simp [oneF, oneD]), if_neg (by simp [show nameD nF = true by decide])]
  rw [show mget (fput (oneF Z).L nm { getF (oneF Z).L nm with s := catB (getF (oneF Z).L nm).s b }) nF = _ from fput_get hr nm _ nF]
  by_cases c : nm = nF
  · subst c
    rw [if_pos rfl, if_pos rfl]
    have : getF (oneF Z).L nF = ⟨Z, Z.size, true⟩ := by unfold getF oneF oneD; rw [get_one]; rfl
    rw [this]
  · rw [if_neg c, if_neg c]
    have : mget (oneF Z).L nF = some ⟨Z, Z.size, true⟩ := by unfold oneF oneD; rw [get_one]
    rw [this]
theorem rep_full {Z b : ByteArray} (h : 4194304 < Z.size + b.size) : stepR (oneF Z) nH b = (oneF Z, 5) := by
  unfold stepR
  rw [if_neg (by simp [oneF, oneD]), if_neg (by simp [show nameD nH = true by decide]), if_pos]
  have : fsumBut nH (oneF Z).L = Z.size := by simp [oneF, oneD, fsumBut, show ¬ nF = nH by decide]
  rw [this]
  exact full_many (b := b) _ h
theorem names_one (Z : ByteArray) : (fnames (oneF Z).L) = [nF] := rfl
theorem MkT.one {w0 w : World} {v : Value} (h : MkT w0 w v [nF]) : ∃ b cap, v = .slice b 1 cap ∧ 1 ≤ cap ∧ cap ≤ maxLen := by
  obtain ⟨b, cap, h1, h2, h3, _⟩ := h.tx.strs
  exact ⟨b, cap, h1, h2, h3⟩
set_option maxRecDepth 100000 in
set_option maxHeartbeats 1000000 in
theorem walk (less : Int) (wl : (Lit.int .u8 less).wf = true) (b : ByteArray) (hb : b.size ≤ maxLen) (other : Bool) (w : World) :
    Calls Try.prog 4 #[.int .u8 less, .string b, .bool other] w fun e w' => e = .returned (.bool true) ∧ Below w.heap.size w w' := by
  have hl := u8_wf wl
  have AW := Lib.hid (fun W => awake_any W)
  obtain ⟨m, rfl⟩ : ∃ m : Nat, less = m := ⟨less.toNat, by omega⟩
  clear wl
  unfold maxLen at hb
  by_cases q1 : b.size ≤ 255
  · have t1 : decide ((255 : Int) < (b.size : Int)) = false := decide_eq_false (by omega)
    obtain ⟨z, hz⟩ : ∃ z : Nat, z = 4194304 - m := ⟨_, rfl⟩
    have hz1 : (4194304 : Int) - (m : Int) = (z : Int) := by omega
    have hmk := make_zero z (by omega)
    clear hz
    have HMI : Hid (∀ W : World, ByIn (W.alloc (.cells (madeCells #[Value.int .u8 0] z) 5)) (some ⟨W.heap.size, 0, none⟩) (zeroB z)) := Lib.hid (fun W => in_mark (fr := (0, 0)) (made_zero z))
    have HZS : Hid ((zeroB z).size = z) := Lib.hid (zero_size z)
    generalize hZ : zeroB z = Z at *
    clear hZ
    have HR1 := Lib.hid (rep1 (n := nF) (s := Z) (by decide) (by rw [HZS.out]; omega))
    have HN := Lib.hid (h_new (Here.nil (K := K04) (Below.refl w.heap.size w)))
    go_enter Try.func4, Try.ntmps4
    go_wp2_with fail
    refine HN.out.mono ?_
    rintro e w1 ⟨d, rfl, hd1⟩
    have hA := h_replace hd1 (i := 0) rfl ((Below.refl _ _).alloc (Nat.le_refl _) (.cells (madeCells #[Value.int .u8 0] z) 5)) nF Z (some ⟨w1.heap.size, 0, none⟩) z (by decide) (HMI.out w1) (fun k o hk => since hk) (by rw [HZS.out]; omega) z HZS.out.symm
    rw [HR1.out] at hA
    have HA := Lib.hid hA
    clear hA hd1 HN
    go_wp2_with fail
    refine HA.out.mono ?_
    rintro e w2 ⟨rfl, hd2⟩
    have hd2' : Here K04 w w2 [Ob.disk d (oneF Z)] := hd2
    have H2 := Lib.hid hd2'
    clear hd2 hd2' HA hmk HMI
    cases other with
    | true =>
      obtain ⟨c3, g3, W3, hcv3, hA3⟩ := h_append_conv H2.out (i := 0) rfl nG b (by decide) (by omega)
      by_cases q2 : m < b.size
      · have t2 : decide ((m : Int) < (b.size : Int)) = true := decide_eq_true (by omega)
        have t2' : decide (m < b.size) = true := decide_eq_true q2
        rw [app_full (by decide) (by rw [HZS.out]; omega)] at hA3
        have HA3 := Lib.hid hA3
        clear hA3 H2
        go_wp2_with fail
        refine HA3.out.mono ?_
        rintro e w4 ⟨rfl, hd4⟩
        have hd4' : Here K04 w w4 [Ob.disk d (oneF Z)] := hd4
        have hR := h_read hd4' (i := 0) rfl nF (by decide)
        rw [read_one (-1) (by decide)] at hR
        have HR := Lib.hid hR
        clear hR hd4 hd4' HA3 hcv3
        go_wp2_with fail
        refine HR.out.mono ?_
        rintro e w5 ⟨u5, rfl, m5, hd5⟩
        obtain ⟨b5, c5, rfl, z5, z5', _⟩ := m5.sl
        unfold maxLen at z5'
        have HNM := Lib.hid (h_names hd5 (i := 0) rfl)
        rw [HZS.out] at z5
        generalize hzs : Z.size = zs at *
        obtain rfl : z = zs := HZS.out.symm
        clear hd5 HR m5
        go_wp2_with fail
        refine HNM.out.mono ?_
        rintro e w6 ⟨v6, rfl, m6, hd6⟩
        rw [names_one] at m6
        obtain ⟨b6, c6, rfl, z6, z6'⟩ := MkT.one m6
        unfold maxLen at z6'
        obtain ⟨c7, g7, W7, hcv7, hA7⟩ := h_replace_conv hd6 (i := 0) rfl nH b (by decide) (by omega)
        rw [rep_full (by omega)] at hA7
        have HA7 := Lib.hid hA7
        clear hA7 hd6 m6 HNM
        go_wp2_with fail
        refine HA7.out.mono ?_
        rintro e w8 ⟨rfl, hd8⟩
        have hd8' : Here K04 w w8 [Ob.disk d (oneF Z)] := hd8
        obtain ⟨c9, g9, W9, hcv9, hA9⟩ := h_replace_conv hd8' (i := 0) rfl nF b (by decide) (by omega)
        obtain ⟨fu', hrep⟩ := rep3 (n := nF) (s := Z) b (fu := -1) (by omega) (by decide) (by omega)
        rw [hrep] at hA9
        have HA9 := Lib.hid hA9
        clear hA9 hd8 hd8' HA7 hcv7
        go_wp2_with fail
        refine HA9.out.mono ?_
        rintro e w10 ⟨rfl, hd10⟩
        have H10 := Lib.hid hd10
        clear hd10 HA9 hcv9
        go_wp2_with fail
        refine (AW.out _).mono ?_
        rintro e w11 ⟨rfl, b11⟩
        have HB := Lib.hid (H10.out.step_bel b11).bel
        clear b11
        go_wp2_with fail
        go_ret
        exact ⟨rfl, HB.out⟩
      · have t2 : decide ((m : Int) < (b.size : Int)) = false := decide_eq_false (by omega)
        have t2' : decide (m < b.size) = false := decide_eq_false q2
        obtain ⟨Y, hY, hYR⟩ := app_ok (Z := Z) (b := b) (nm := nG) (by decide) (by rw [HZS.out]; omega)
        rw [hY] at hA3
        rw [if_neg (by decide)] at hYR
        have HYR := Lib.hid hYR
        have HA3 := Lib.hid hA3
        clear hA3 H2 hYR hY
        go_wp2_with fail
        refine HA3.out.mono ?_
        rintro e w4 ⟨rfl, hd4⟩
        have hd4' : Here K04 w w4 [Ob.disk d Y] := hd4
        have hR := h_read hd4' (i := 0) rfl nF (by decide)
        rw [HYR.out] at hR
        have HR := Lib.hid hR
        clear hR hd4 hd4' HA3 hcv3
        go_wp2_with fail
        refine HR.out.mono ?_
        rintro e w5 ⟨u5, rfl, m5, hd5⟩
        obtain ⟨b5, c5, rfl, z5, z5', _⟩ := m5.sl
        unfold maxLen at z5'
        have H5 := Lib.hid hd5
        generalize hzs : Z.size = zs at *
        obtain rfl : z = zs := HZS.out.symm
        clear hd5 HR m5
        go_wp2_with fail
        refine (AW.out _).mono ?_
        rintro e w11 ⟨rfl, b11⟩
        have HB := Lib.hid (H5.out.step_bel b11).bel
        clear b11
        go_wp2_with fail
        go_ret
        exact ⟨rfl, HB.out⟩
    | false =>
      obtain ⟨c3, g3, W3, hcv3, hA3⟩ := h_append_conv H2.out (i := 0) rfl nF b (by decide) (by omega)
      by_cases q2 : m < b.size
      · have t2 : decide ((m : Int) < (b.size : Int)) = true := decide_eq_true (by omega)
        have t2' : decide (m < b.size) = true := decide_eq_true q2
        rw [app_full (by decide) (by rw [HZS.out]; omega)] at hA3
        have HA3 := Lib.hid hA3
        clear hA3 H2
        go_wp2_with fail
        refine HA3.out.mono ?_
        rintro e w4 ⟨rfl, hd4⟩
        have hd4' : Here K04 w w4 [Ob.disk d (oneF Z)] := hd4
        have hR := h_read hd4' (i := 0) rfl nF (by decide)
        rw [read_one (-1) (by decide)] at hR
        have HR := Lib.hid hR
        clear hR hd4 hd4' HA3 hcv3
        go_wp2_with fail
        refine HR.out.mono ?_
        rintro e w5 ⟨u5, rfl, m5, hd5⟩
        obtain ⟨b5, c5, rfl, z5, z5', _⟩ := m5.sl
        unfold maxLen at z5'
        have HNM := Lib.hid (h_names hd5 (i := 0) rfl)
        rw [HZS.out] at z5
        generalize hzs : Z.size = zs at *
        obtain rfl : z = zs := HZS.out.symm
        clear hd5 HR m5
        go_wp2_with fail
        refine HNM.out.mono ?_
        rintro e w6 ⟨v6, rfl, m6, hd6⟩
        rw [names_one] at m6
        obtain ⟨b6, c6, rfl, z6, z6'⟩ := MkT.one m6
        unfold maxLen at z6'
        obtain ⟨c7, g7, W7, hcv7, hA7⟩ := h_replace_conv hd6 (i := 0) rfl nH b (by decide) (by omega)
        rw [rep_full (by omega)] at hA7
        have HA7 := Lib.hid hA7
        clear hA7 hd6 m6 HNM
        go_wp2_with fail
        refine HA7.out.mono ?_
        rintro e w8 ⟨rfl, hd8⟩
        have hd8' : Here K04 w w8 [Ob.disk d (oneF Z)] := hd8
        obtain ⟨c9, g9, W9, hcv9, hA9⟩ := h_replace_conv hd8' (i := 0) rfl nF b (by decide) (by omega)
        obtain ⟨fu', hrep⟩ := rep3 (n := nF) (s := Z) b (fu := -1) (by omega) (by decide) (by omega)
        rw [hrep] at hA9
        have HA9 := Lib.hid hA9
        clear hA9 hd8 hd8' HA7 hcv7
        go_wp2_with fail
        refine HA9.out.mono ?_
        rintro e w10 ⟨rfl, hd10⟩
        have H10 := Lib.hid hd10
        clear hd10 HA9 hcv9
        go_wp2_with fail
        refine (AW.out _).mono ?_
        rintro e w11 ⟨rfl, b11⟩
        have HB := Lib.hid (H10.out.step_bel b11).bel
        clear b11
        go_wp2_with fail
        go_ret
        exact ⟨rfl, HB.out⟩
      · have t2 : decide ((m : Int) < (b.size : Int)) = false := decide_eq_false (by omega)
        have t2' : decide (m < b.size) = false := decide_eq_false q2
        obtain ⟨Y, hY, hYR⟩ := app_ok (Z := Z) (b := b) (nm := nF) (by decide) (by rw [HZS.out]; omega)
        rw [hY] at hA3
        rw [if_pos (by decide)] at hYR
        have HYR := Lib.hid hYR
        have HA3 := Lib.hid hA3
        clear hA3 H2 hYR hY
        go_wp2_with fail
        refine HA3.out.mono ?_
        rintro e w4 ⟨rfl, hd4⟩
        have hd4' : Here K04 w w4 [Ob.disk d Y] := hd4
        have hR := h_read hd4' (i := 0) rfl nF (by decide)
        rw [HYR.out] at hR
        have HR := Lib.hid hR
        clear hR hd4 hd4' HA3 hcv3
        go_wp2_with fail
        refine HR.out.mono ?_
        rintro e w5 ⟨u5, rfl, m5, hd5⟩
        obtain ⟨b5, c5, rfl, z5, z5', _⟩ := m5.sl
        unfold maxLen at z5'
        have H5 := Lib.hid hd5
        have hz6 := size_cat Z b
        rw [HZS.out] at hz6
        generalize hzs : (catB Z b).size = zs at *
        have e5 : ((zs : Int) == (z : Int) + (b.size : Int)) = true := by simp; omega
        have e6 : IntKind.i64.wrap ((z : Int) + (b.size : Int)) = (z : Int) + (b.size : Int) := IntWalk.i64_in _ (by omega)
        clear hz6
        clear hd5 HR m5
        go_wp2_with fail
        refine (AW.out _).mono ?_
        rintro e w11 ⟨rfl, b11⟩
        have HB := Lib.hid (H5.out.step_bel b11).bel
        clear b11
        go_wp2_with fail
        go_ret
        exact ⟨rfl, HB.out⟩
  · have t1 : decide ((255 : Int) < (b.size : Int)) = true := decide_eq_true (by omega)
    go_enter Try.func4, Try.ntmps4
    go_wp2_with fail
    refine (AW.out _).mono ?_
    rintro e w7 ⟨rfl, b7⟩
    have HB := Lib.hid b7
    clear b7
    go_wp2_with fail
    go_ret
    exact ⟨rfl, HB.out⟩

theorem own : ownKnob Try.prog.godebug = none := by kernel_rfl
theorem laidOut : laidOutB Try.prog = true := by kernel_rfl

set_option maxRecDepth 100000 in
theorem lifted (os : Os) (started : os.Started) (H : Type) (enc : TypeId × Value → H) :
    ReturnsInHanded {} Try.checked os 4 .any (Rows.diskFullSpec.pre6 enc Try.prog Try.f4 Rows.diskFullRow.domain false) (Rows.diskFullSpec.post enc Try.prog Try.f4 false true false false) := by
  refine returnsInHanded_of_change (C := Try.checked) own started (by kernel_rfl) Try.func4
    (ChangeSpec.witness6 (enc := enc) (C := Try.checked) false ⟨#[], #[.int .u8 0, .string ⟨#[]⟩, .bool false], []⟩ 8 (by kernel_rfl) (by kernel_rfl) (by kernel_rfl) (by kernel_rfl)) ?_
  intro W base args ds gs before hval0 hW hcnd _
  have hval : ∀ (j : Nat) t v, Try.f4.params[j]? = some t → args[j]? = some v → Value.okWide Try.prog W .any base t v := hval0
  have hW' := hW
  obtain ⟨p, q, hA0, hV, rfl, hfz, hnd⟩ := hW
  have hA : DataW.TrodAll enc Try.prog W 0 (fun _ => true) true Try.f4.params.toList args.toList ds p := hA0
  rw [Try.params4] at hA hval
  obtain ⟨v0, vs0, d0, ds0, p0, q0, hargs, rfl, rfl, h0, r0⟩ := trodAll_cons hA
  obtain ⟨v1, vs1, d1, ds1, p1, q1, rfl, rfl, rfl, h1, r1⟩ := trodAll_cons r0
  obtain ⟨v2, vs2, d2, ds2, p2, q2, rfl, rfl, rfl, h2, r2⟩ := trodAll_cons r1
  obtain ⟨rfl, rfl, rfl⟩ := trodAll_nil r2
  obtain rfl : args = #[v0, v1, v2] := by cases args; simp_all
  obtain ⟨rfl, rfl⟩ := trodVars_none hV
  have k0 := h0
  have lt0 : ∀ x ∈ p0, x.block < W.heap.size := by obtain ⟨m, hm⟩ := k0; exact DataW.trod_lt m _ _ _ hm
  obtain ⟨a0, rfl, rfl, rfl, w0⟩ := open_int Try.underlying5 (hval 0 5 v0 rfl rfl) h0
  have k1 := h1
  have lt1 : ∀ x ∈ p1, x.block < W.heap.size := by obtain ⟨m, hm⟩ := k1; exact DataW.trod_lt m _ _ _ hm
  obtain ⟨a1, rfl, rfl, rfl, w1⟩ := open_string Try.underlying9 (hval 1 9 v1 rfl rfl) h1
  have k2 := h2
  have lt2 : ∀ x ∈ p2, x.block < W.heap.size := by obtain ⟨m, hm⟩ := k2; exact DataW.trod_lt m _ _ _ hm
  obtain ⟨a2, rfl, rfl, rfl⟩ := open_bool Try.underlying4 (hval 2 4 v2 rfl rfl) h2
  clear hA0 hval0
  refine (walk a0 w0 a1 w1 a2 W).mono fun e W' ⟨he, bel⟩ => ?_
  subst he
  exact ⟨_, rfl, _, _, _, [], _, [], hW', trodAll_mk1 (shut_bool Try.underlying4 _), (trodAll_cons_mk (Below.trod laidOut (by kernel_rfl) (of_decide_eq_true (by kernel_rfl)) k0 bel lt0) (trodAll_cons_mk (Below.trod laidOut (by kernel_rfl) (of_decide_eq_true (by kernel_rfl)) k1 bel lt1) (trodAll_cons_mk (Below.trod laidOut (by kernel_rfl) (of_decide_eq_true (by kernel_rfl)) k2 bel lt2) trodAll_mk0))), rfl, bel.frame _, fun h => by cases h⟩

theorem over : Rows.diskFullRow.holds Try.pinned (OpenSpec.ofChange Rows.diskFullSpec) :=
  OpenClaim.holds_of_wide 4 Try.f4 rfl rfl rfl rfl rfl rfl rfl ⟨rfl, rfl, rfl, rfl, rfl⟩ rfl rfl rfl rfl rfl (by kernel_rfl) Try.func4 (by kernel_rfl)
    (of_decide_eq_true (by kernel_rfl)) (by unfold Func.isWrapper; first | (rw [if_pos (by decide +kernel)]; kernel_rfl) | (rw [if_neg (by decide +kernel)]; exact ⟨rfl, rfl⟩))
    (fun os started H enc _ => lifted os started H enc)

theorem proved : Rows.DiskFullSaid := over
#print axioms proved
end Go.Proofs.Ytemfnchiedepoaa.diskFull

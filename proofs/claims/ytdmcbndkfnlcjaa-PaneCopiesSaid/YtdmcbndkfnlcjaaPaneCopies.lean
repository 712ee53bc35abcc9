/- For every input ciceronelaw09.PaneCopies returns true, and its arguments read behind the call as before. No conditions. -/
import Derived.Test.YtdmcbndkfnlcjaaPTwo
import Derived.Test.YtdmcbndkfnlcjaaPDrop3
import Derived.Test.YtdmcbndkfnlcjaaRows
import Derived.ProofKit
import Derived.OpenShut
import Derived.ShutString
import Derived.ChangeOld
import Derived.Below
import Derived.Lib.SmallJoins
namespace Go.Proofs.Ytdmcbndkfnlcjaa.paneCopies
open Go.ChangeShapes Go.WideShapes Go.ChangeAt Go.RowKit Go.Joins
open Go.ChangeMaps (open_string shut_string)
set_option linter.unusedVariables false

theorem psum_high (A : List Ad) (least : Int) (k : ByteArray) (lo hi : Int) (h : least ≤ lo) : psum (A.filter fun x => decide (least ≤ x.2.1)) k lo hi = psum A k lo hi := by
  induction A with
  | nil => rfl
  | cons x A ih =>
    by_cases e : least ≤ x.2.1
    · rw [List.filter_cons, if_pos (by simpa using e), psum, ih, psum]
    · rw [List.filter_cons, if_neg (by simpa using e), ih, psum, if_neg (fun c => by omega), Int.zero_add]
theorem psum_low (A : List Ad) (least : Int) (k : ByteArray) (lo : Int) : psum (A.filter fun x => decide (least ≤ x.2.1)) k lo least = 0 := by
  induction A with
  | nil => rfl
  | cons x A ih =>
    by_cases e : least ≤ x.2.1
    · rw [List.filter_cons, if_pos (by simpa using e), psum, ih, if_neg (fun c => by omega)]; rfl
    · rw [List.filter_cons, if_neg (by simpa using e), ih]
set_option maxHeartbeats 8000000 in
set_option maxRecDepth 100000 in
theorem walk (w : World) (wi : Int) (wk : (Lit.int .i64 wi).wf = true) (b : Option Addr) (cap : Nat) (xs : List Act9) (hl : xs.length ≤ cap) (hm : cap ≤ maxLen) (hi : InW w b 4 (xs.map actC)) (ho : ∀ a ∈ xs, actOk a)
    (bf : Int) (hbf : (Lit.int .i64 bf).wf = true) (key : ByteArray) (hk : key.size ≤ maxLen) (f : Int) (hf : (Lit.int .i64 f).wf = true) (t : Int) (ht : (Lit.int .i64 t).wf = true) :
    Calls Try.prog 3 #[.int .i64 wi, .slice b xs.length cap, .int .i64 bf, .string key, .int .i64 f, .int .i64 t] w fun e w' => e = .returned (.bool true) ∧ Below w.heap.size w w' := by
  have HA := Lib.hid (awake_any w)
  have HF := Lib.hid (fun w' hb => few_any b cap xs w' (InW.bel (W' := w') hi hb) hm hl ho)
  have hwi := i64_wf wk
  have hfi := i64_wf hf
  have hti := i64_wf ht
  have hbi := i64_wf hbf
  clear wk hf ht hbf
  unfold maxLen at hm hk
  cases hfew : fewB xs with
  | false =>
    rw [hfew] at HF
    generalize xs.length = n at *
    go_enter Try.func3, Try.ntmps3
    go_wp2_with fail
    refine HA.out.mono ?_
    rintro e w1 ⟨rfl, b1⟩
    have HF2 := Lib.hid (HF.out w1 b1)
    have HB1 := Lib.hid b1
    clear b1 HA HF
    go_wp2_with fail
    refine HF2.out.mono ?_
    rintro e wx ⟨rfl, rfl⟩
    go_wp2_with fail
    go_ret
    exact ⟨rfl, HB1.out⟩
  | true =>
    rw [hfew] at HF
    obtain ⟨hn101, hk100⟩ := few_of hfew
    have HIn := Lib.hid hi
    have HK := Lib.hid hk100
    have HO := Lib.hid ho
    clear hfew hi hk100 ho
    generalize hn : xs.length = n at *
    have Hn := Lib.hid hn
    clear hn
    by_cases hkey : key.size ≤ 100
    · have tf5 : decide ((100 : Int) < (key.size : Int)) = false := by simp; omega
      go_enter Try.func3, Try.ntmps3
      go_wp2_with fail
      refine HA.out.mono ?_
      rintro e w1 ⟨rfl, b1⟩
      have HF2 := Lib.hid (HF.out w1 b1)
      have HB1 := Lib.hid b1
      clear b1 HA HF
      go_wp2_with fail
      refine HF2.out.mono ?_
      rintro e wx ⟨rfl, rfl⟩
      clear HF2
      have HN1 := Lib.hid (new_pane wi w1 hwi)
      go_wp2_with fail
      refine HN1.out.mono ?_
      rintro e w2 ⟨rfl, p2, b2, z2⟩
      have hwd := wdOf_in wi
      generalize wdOf wi = wd at *
      have H0 : Hid (∃ B1, PaneAt w2 (w1.heap.size + 2) B1 wd (adds wd (xs.take 0)).length (adds wd (xs.take 0)) ∧ Above w.heap.size B1 ∧ Below w.heap.size w w2) := Lib.hid (by
        have hs1 := HB1.out.size
        refine ⟨_, p2, fun b hb => ?_, HB1.out.trans (b2.mono hs1)⟩
        simp at hb; omega)
      clear HN1 p2 b2 z2 HB1
      generalize w1.heap.size + 2 = P1 at *
      go_wp2_with fail
      go_loopw [14] (fun c wr => ∃ (i : Nat) (B1 : List Nat), i ≤ n ∧ c = .int .i64 i ∧ PaneAt wr P1 B1 wd (adds wd (xs.take i)).length (adds wd (xs.take i)) ∧ Above w.heap.size B1 ∧ Below w.heap.size w wr) (fun c _ => n - (intOf c).toNat)
      case atStart =>
        obtain ⟨B1, h⟩ := H0.out
        exact ⟨0, B1, by omega, rfl, h⟩
      case round =>
        obtain ⟨i, B1, hin, rfl, hp1, ha1, hbl⟩ := hrel
        clear H0
        have HA1 := Lib.hid ha1
        have HBL := Lib.hid hbl
        clear ha1 hbl
        by_cases hlt : i < n
        · obtain ⟨a, ha⟩ : ∃ a, xs[i]? = some a := ⟨xs[i]'(by have := Hn.out; omega), List.getElem?_eq_getElem _⟩
          have hmem := List.mem_of_getElem? ha
          have hka := HK.out a hmem
          obtain ⟨_, _, oa1, oa2⟩ := HO.out a hmem
          have HMA := Lib.hid hmem
          have HT : Hid (xs.take (i + 1) = xs.take i ++ [a]) := Lib.hid (by rw [List.take_add_one, ha]; rfl)
          have HL : Hid ((xs.take i).length ≤ 101) := Lib.hid (by have := Hn.out; rw [List.length_take]; omega)
          obtain ⟨B, off, hbb, _, _, c1, c2, c3⟩ := acts_at (InW.bel HIn.out HBL.out) ha
          have HIA : Hid (∀ w', Below w.heap.size w w' → w'.cell? ⟨B, off + i * 4 + 1, none⟩ = some (.string a.2.1) ∧ w'.cell? ⟨B, off + i * 4 + 2, none⟩ = some (.int .i64 a.2.2.1) ∧ w'.cell? ⟨B, off + i * 4 + 3, none⟩ = some (.int .i64 a.2.2.2)) := Lib.hid (fun w' hb' => by
            obtain ⟨B', off', hbb', _, _, d1, d2, d3⟩ := acts_at (InW.bel HIn.out hb') ha
            rw [hbb] at hbb'
            cases hbb'
            exact ⟨d1, d2, d3⟩)
          subst hbb
          clear ha hmem
          have hi0 : (0 : Int) ≤ (i : Int) := by omega
          have hi1 : (i : Int) < (n : Int) := by omega
          have HAD := Lib.hid (add_act P1 B1 wd (xs.take i) a wr.drew hp1.drew (by have := HL.out; omega) hka oa1 oa2)
          clear hp1
          go_wp2_with fail
          go_still_tail 16, (by kernel_rfl)
          change wpList _ _ _ _ _ wr.drew
          clear c1 c2 c3
          go_wp2_with fail
          refine HAD.out.mono ?_
          rintro e w4 ⟨rfl, B1', hp4, hf4, hs4⟩
          rw [← HT.out] at hp4
          have HE : Hid (PaneAt w4 P1 B1' wd (adds wd (xs.take (i + 1))).length (adds wd (xs.take (i + 1))) ∧ Above w.heap.size B1' ∧ Below w.heap.size w w4) := Lib.hid ⟨hp4, HA1.out.spread hs4 HBL.out.drew.size, bel_step HBL.out.drew hf4 HA1.out⟩
          clear hp4 hf4 hs4 HAD
          go_wp2_with fail
          go_roundw
          case rel => exact ⟨i + 1, B1', by omega, by go_num, HE.out⟩
          case measure => simp [intOf]; omega
        · obtain rfl : i = n := by omega
          have htk : xs.take i = xs := List.take_of_length_le (by have := Hn.out; omega)
          rw [htk] at hp1
          clear htk
          generalize adds wd xs = A at *
          generalize (A.length : Int) = ad at *
          have HP1 := Lib.hid hp1
          have C1 := Lib.hid (copy_any P1 B1 wd ad A wr hp1)
          clear hp1
          go_wp2_with fail
          refine C1.out.mono ?_
          rintro e w3 ⟨q, B2, rfl, hq3, hab3, hb3⟩
          have HP3 := Lib.hid (HP1.out.bel hb3)
          have HQ3 := Lib.hid hq3
          have HAP3 : Hid (Apart B1 B2) := Lib.hid (fun b hb hc => by have := HP1.out.lt b hb; have := hab3 b hc; omega)
          have HB3 : Hid (Below w.heap.size w w3) := Lib.hid (HBL.out.trans (hb3.mono HBL.out.size))
          have HAB3 : Hid (Above w.heap.size B2) := Lib.hid (fun b hb => by have := hab3 b hb; have := HBL.out.size; omega)
          have hwc : ∀ {W : World} {P : Nat} {B : List Nat} {A' : List Ad}, PaneAt W P B wd ad A' → W.cell? ⟨P, 0, none⟩ = some (.int .i64 wd) := fun hh => by
            obtain ⟨s, r, sm, rw, _, h1, _⟩ := hh.ex
            exact h1.cells.1
          have W1 := Lib.hid (width_any q wd w3 (hwc hq3))
          have W2 := Lib.hid (width_any P1 wd w3 (hwc HP3.out))
          have S1 := Lib.hid (sum_any P1 B1 wd _ _ key f t w3 HP3.out hkey hfi hti)
          have S2 := Lib.hid (sum_any q B2 wd _ _ key f t w3 hq3 hkey hfi hti)
          have D1 := Lib.hid (drop_any q B2 wd ad A bf w3 hq3 hbi)
          clear C1 hq3 hab3 hb3 HBL HP1 hwc
          go_wp2_with fail
          refine W1.out.mono ?_
          rintro e wx ⟨rfl, rfl⟩
          go_wp2_with fail
          refine W2.out.mono ?_
          rintro e wx ⟨rfl, rfl⟩
          go_wp2_with fail
          refine S1.out.mono ?_
          rintro e wx ⟨rfl, rfl⟩
          go_wp2_with fail
          refine S2.out.mono ?_
          rintro e wx ⟨rfl, rfl⟩
          clear W1 W2 S1 S2
          go_wp2_with fail
          refine D1.out.mono ?_
          rintro e w4 ⟨c, B2', rfl, hc4, hq4, hf4, hs4⟩
          have HC4 := Lib.hid hc4
          have HQ4 := Lib.hid hq4
          have HP4 := Lib.hid (HP3.out.beside hf4 HAP3.out)
          have HAP4 : Hid (Apart B1 B2') := Lib.hid (HAP3.out.symm.spread hs4 HP3.out.lt).symm
          have HAB4 : Hid (Above w.heap.size B2') := Lib.hid (HAB3.out.spread hs4 HB3.out.size)
          have HB4 : Hid (Below w.heap.size w w4) := Lib.hid (bel_step HB3.out hf4 HAB3.out)
          have C2 := Lib.hid (copy_any P1 B1 wd ad A w4 HP4.out)
          clear D1 hc4 hq4 hf4 hs4 HP3 HQ3 HAP3 HB3 HAB3
          go_wp2_with fail
          refine C2.out.mono ?_
          rintro e w5 ⟨z, B3, rfl, hz5, hab5, hb5⟩
          have HZ5 := Lib.hid hz5
          have HP5 := Lib.hid (HP4.out.bel hb5)
          have HQ5 := Lib.hid (HQ4.out.bel hb5)
          have HA13 : Hid (Apart B1 B3) := Lib.hid (fun b hb hc => by have := HP4.out.lt b hb; have := hab5 b hc; omega)
          have HA23 : Hid (Apart B2' B3) := Lib.hid (fun b hb hc => by have := HQ4.out.lt b hb; have := hab5 b hc; omega)
          have HAB5 : Hid (Above w.heap.size B3) := Lib.hid (fun b hb => by have := hab5 b hb; have := HB4.out.size; omega)
          have HB5 : Hid (Below w.heap.size w w5) := Lib.hid (HB4.out.trans (hb5.mono HB4.out.size))
          have S3 := Lib.hid (sum_any P1 B1 wd _ _ key f t w5 HP5.out hkey hfi hti)
          have S4 := Lib.hid (sum_any q B2' wd _ _ key f bf w5 HQ5.out hkey hfi hbi)
          rw [psum_low] at S4
          have hcn : decide ((c : Int) < 0) = false := decide_eq_false (by omega)
          have A6 := Lib.hid (add_any P1 B1 wd ad A ⟨#[120]⟩ 0 5 w5 HP5.out (by decide) (by unfold I64; omega) (by unfold I64; omega))
          generalize hmd : mayAdd ⟨#[120]⟩ 0 5 ad = md at *
          clear C2 hz5 hab5 hb5 HP4 HQ4 HB4 hmd
          have HPS : Hid (bf ≤ f → psum ((A.filter fun x => decide (bf / wd ≤ x.2.1)).filter fun x => decide (bf / wd ≤ x.2.1)) key (f / wd) (t / wd) = psum A key (f / wd) (t / wd)) := Lib.hid (fun h => by
            have hle : bf / wd ≤ f / wd := Int.ediv_le_ediv (by omega) h
            rw [psum_high _ _ _ _ _ hle, psum_high _ _ _ _ _ hle])
          generalize psum A key (f / wd) (t / wd) = Z at *
          go_wp2_with fail
          refine S3.out.mono ?_
          rintro e wx ⟨rfl, rfl⟩
          go_wp2_with fail
          refine S4.out.mono ?_
          rintro e wx ⟨rfl, rfl⟩
          clear S3 S4
          go_wp2_with fail
          refine A6.out.mono ?_
          rintro e w6 ⟨rfl, B1', hp6, hf6, hs6⟩
          have HQ6 := Lib.hid (HQ5.out.beside hf6 HAP4.out.symm)
          have HZ6 := Lib.hid (HZ5.out.beside hf6 HA13.out.symm)
          have HB6 : Hid (Below w.heap.size w w6) := Lib.hid (bel_step HB5.out hf6 HA1.out)
          have D2 := Lib.hid (drop_any q B2' wd ad _ bf w6 HQ6.out hbi)
          clear A6 hp6 hf6 hs6 HQ5 HZ5 HP5 HB5
          go_wp2_with fail
          refine D2.out.mono ?_
          rintro e w7 ⟨c2, B2'', rfl, hc7, hq7, hf7, hs7⟩
          have hc20 : c2 = 0 := hc7.zero (fun k n hn => by rw [sget_high, if_pos hn])
          subst hc20
          have HQ7 := Lib.hid hq7
          have HZ7 := Lib.hid (HZ6.out.beside hf7 HA23.out.symm)
          have HAB7 : Hid (Above w.heap.size B2'') := Lib.hid (HAB4.out.spread hs7 HB6.out.size)
          have HA27 : Hid (Apart B2'' B3) := Lib.hid (HA23.out.spread hs7 HZ6.out.lt)
          have HB7 : Hid (Below w.heap.size w w7) := Lib.hid (bel_step HB6.out hf7 HAB4.out)
          have D3 := Lib.hid (drop_any z B3 wd ad A bf w7 HZ7.out hbi)
          clear D2 hc7 hq7 hf7 hs7 HQ6 HZ6 HB6
          go_wp2_with fail
          refine D3.out.mono ?_
          rintro e w8 ⟨c3, B3', rfl, hc8, hz8, hf8, hs8⟩
          have hc3 : c3 = c := hc8.uniq HC4.out (fun _ _ _ => rfl)
          subst hc3
          have HQ8 := Lib.hid (HQ7.out.beside hf8 HA27.out)
          have HB8 : Hid (Below w.heap.size w w8) := Lib.hid (bel_step HB7.out hf8 HAB5.out)
          have S5 := Lib.hid (sum_any q B2'' wd _ _ key f t w8 HQ8.out hkey hfi hti)
          clear D3 hc8 hz8 hf8 hs8 HQ7 HZ7 HB7
          by_cases hfb : f < bf
          · go_wp2_with fail
            go_ret
            exact ⟨rfl, HB8.out⟩
          · rw [HPS.out (by omega)] at S5
            go_wp2_with fail
            refine S5.out.mono ?_
            rintro e wx ⟨rfl, rfl⟩
            go_wp2_with fail
            go_ret
            exact ⟨rfl, HB8.out⟩
    · go_enter Try.func3, Try.ntmps3
      go_wp2_with fail
      refine HA.out.mono ?_
      rintro e w1 ⟨rfl, b1⟩
      have HF2 := Lib.hid (HF.out w1 b1)
      have HB1 := Lib.hid b1
      clear b1 HA HF
      go_wp2_with fail
      refine HF2.out.mono ?_
      rintro e wx ⟨rfl, rfl⟩
      clear HF2
      go_wp2_with fail
      go_ret
      exact ⟨rfl, HB1.out⟩

theorem own : ownKnob Try.prog.godebug = none := by kernel_rfl
theorem laidOut : laidOutB Try.prog = true := by kernel_rfl

set_option maxRecDepth 100000 in
theorem lifted (os : Os) (started : os.Started) (H : Type) (enc : TypeId × Value → H) :
    ReturnsInHanded {} Try.checked os 3 .any (Rows.paneCopiesSpec.pre6 enc Try.prog Try.f3 Rows.paneCopiesRow.domain false) (Rows.paneCopiesSpec.post enc Try.prog Try.f3 false true false false) := by
  refine returnsInHanded_of_change (C := Try.checked) own started (by kernel_rfl) Try.func3
    (ChangeSpec.witness6 (enc := enc) (C := Try.checked) false ⟨#[], #[.int .i64 0, .slice none 0 0, .int .i64 0, .string ⟨#[]⟩, .int .i64 0, .int .i64 0], []⟩ 8 (by kernel_rfl) (by kernel_rfl) (by kernel_rfl) (by kernel_rfl)) ?_
  intro W base args ds gs before hval0 hW hcnd _
  have hval : ∀ (j : Nat) t v, Try.f3.params[j]? = some t → args[j]? = some v → Value.okWide Try.prog W .any base t v := hval0
  have hW' := hW
  obtain ⟨p, q, hA0, hV, rfl, hfz, hnd⟩ := hW
  have hA : DataW.TrodAll enc Try.prog W 0 (fun _ => true) true Try.f3.params.toList args.toList ds p := hA0
  rw [Try.params3] at hA hval
  obtain ⟨v0, vs0, d0, ds0, p0, q0, hargs, rfl, rfl, h0, r0⟩ := trodAll_cons hA
  obtain ⟨v1, vs1, d1, ds1, p1, q1, rfl, rfl, rfl, h1, r1⟩ := trodAll_cons r0
  obtain ⟨v2, vs2, d2, ds2, p2, q2, rfl, rfl, rfl, h2, r2⟩ := trodAll_cons r1
  obtain ⟨v3, vs3, d3, ds3, p3, q3, rfl, rfl, rfl, h3, r3⟩ := trodAll_cons r2
  obtain ⟨v4, vs4, d4, ds4, p4, q4, rfl, rfl, rfl, h4, r4⟩ := trodAll_cons r3
  obtain ⟨v5, vs5, d5, ds5, p5, q5, rfl, rfl, rfl, h5, r5⟩ := trodAll_cons r4
  obtain ⟨rfl, rfl, rfl⟩ := trodAll_nil r5
  obtain rfl : args = #[v0, v1, v2, v3, v4, v5] := by cases args; simp_all
  obtain ⟨rfl, rfl⟩ := trodVars_none hV
  have k0 := h0
  have lt0 : ∀ x ∈ p0, x.block < W.heap.size := by obtain ⟨m, hm⟩ := k0; exact DataW.trod_lt m _ _ _ hm
  obtain ⟨a0, rfl, rfl, rfl, w0⟩ := open_int Try.underlying3 (hval 0 3 v0 rfl rfl) h0
  have k1 := h1
  have lt1 : ∀ x ∈ p1, x.block < W.heap.size := by obtain ⟨m, hm⟩ := k1; exact DataW.trod_lt m _ _ _ hm
  obtain ⟨b1, c1, x1, rfl, l1, m1, i1, o1⟩ := open_acts (hval 1 22 v1 rfl rfl) h1
  have k2 := h2
  have lt2 : ∀ x ∈ p2, x.block < W.heap.size := by obtain ⟨m, hm⟩ := k2; exact DataW.trod_lt m _ _ _ hm
  obtain ⟨a2, rfl, rfl, rfl, w2⟩ := open_int Try.underlying3 (hval 2 3 v2 rfl rfl) h2
  have k3 := h3
  have lt3 : ∀ x ∈ p3, x.block < W.heap.size := by obtain ⟨m, hm⟩ := k3; exact DataW.trod_lt m _ _ _ hm
  obtain ⟨a3, rfl, rfl, rfl, w3⟩ := open_string Try.underlying9 (hval 3 9 v3 rfl rfl) h3
  have k4 := h4
  have lt4 : ∀ x ∈ p4, x.block < W.heap.size := by obtain ⟨m, hm⟩ := k4; exact DataW.trod_lt m _ _ _ hm
  obtain ⟨a4, rfl, rfl, rfl, w4⟩ := open_int Try.underlying3 (hval 4 3 v4 rfl rfl) h4
  have k5 := h5
  have lt5 : ∀ x ∈ p5, x.block < W.heap.size := by obtain ⟨m, hm⟩ := k5; exact DataW.trod_lt m _ _ _ hm
  obtain ⟨a5, rfl, rfl, rfl, w5⟩ := open_int Try.underlying3 (hval 5 3 v5 rfl rfl) h5
  clear hA0 hval0
  refine (walk W a0 w0 b1 c1 x1 l1 m1 i1 o1 a2 w2 a3 w3 a4 w4 a5 w5).mono fun e W' ⟨he, bel⟩ => ?_
  subst he
  exact ⟨_, rfl, _, _, _, [], _, [], hW', trodAll_mk1 (shut_bool Try.underlying4 _), (trodAll_cons_mk (Below.trod laidOut (by kernel_rfl) (of_decide_eq_true (by kernel_rfl)) k0 bel lt0) (trodAll_cons_mk (Below.trod laidOut (by kernel_rfl) (of_decide_eq_true (by kernel_rfl)) k1 bel lt1) (trodAll_cons_mk (Below.trod laidOut (by kernel_rfl) (of_decide_eq_true (by kernel_rfl)) k2 bel lt2) (trodAll_cons_mk (Below.trod laidOut (by kernel_rfl) (of_decide_eq_true (by kernel_rfl)) k3 bel lt3) (trodAll_cons_mk (Below.trod laidOut (by kernel_rfl) (of_decide_eq_true (by kernel_rfl)) k4 bel lt4) (trodAll_cons_mk (Below.trod laidOut (by kernel_rfl) (of_decide_eq_true (by kernel_rfl)) k5 bel lt5) trodAll_mk0)))))), rfl, bel.frame _, fun h => by cases h⟩

theorem over : Rows.paneCopiesRow.holds Try.pinned (OpenSpec.ofChange Rows.paneCopiesSpec) :=
  OpenClaim.holds_of_wide 3 Try.f3 rfl rfl rfl rfl rfl rfl rfl ⟨rfl, rfl, rfl, rfl, rfl⟩ rfl rfl rfl rfl rfl (by kernel_rfl) Try.func3 (by kernel_rfl)
    (of_decide_eq_true (by kernel_rfl)) (by unfold Func.isWrapper; first | (rw [if_pos (by decide +kernel)]; kernel_rfl) | (rw [if_neg (by decide +kernel)]; exact ⟨rfl, rfl⟩))
    (fun os started H enc _ => lifted os started H enc)

theorem proved : Rows.PaneCopiesSaid := over
#print axioms proved
end Go.Proofs.Ytdmcbndkfnlcjaa.paneCopies

/- For every input ciceronelaw09.PaneKeyed returns true, and its arguments read behind the call as before. No conditions. -/
import Derived.Test.YtdmcbndkfnlcjaaPTwo
import Derived.Test.YtdmcbndkfnlcjaaRows
import Derived.ProofKit
import Derived.OpenShut
import Derived.ShutString
import Derived.ChangeOld
import Derived.Below
import Derived.Lib.SmallJoins
namespace Go.Proofs.Ytdmcbndkfnlcjaa.paneKeyed
open Go.ChangeShapes Go.WideShapes Go.ChangeAt Go.RowKit Go.Joins
open Go.ChangeMaps (open_string shut_string)
set_option linter.unusedVariables false

theorem keys_one {wd : Int} {xs : List Act9} {k : ByteArray} {lo hi : Int} {ks : List ByteArray} (h : KeysOf (adds wd (xs.filter fun a => decide (a.2.1 = k))) lo hi ks) : ks.length ≤ 1 ∧ (ks.length = 1 ↔ psum (adds wd xs) k lo hi ≠ 0) := by
  rw [adds_key] at h
  have hall : ∀ j ∈ ks, j = k := fun j hj => by
    have h1 := (h.2 j).1 hj
    by_cases e : j = k
    · exact e
    · exact absurd (psum_other _ k j lo hi (fun x hx => by simpa using (List.mem_filter.1 hx).2) e) h1
  have hk := h.2 k
  rw [psum_key] at hk
  have hn := h.1.nodup
  match ks, hall, hn, hk with
  | [], _, _, hk => exact ⟨by simp, by simp at hk; simp [hk]⟩
  | [j], hall, _, hk =>
    have := hall j (by simp)
    subst this
    simp at hk
    exact ⟨by simp, by simp [hk]⟩
  | i :: j :: l, hall, hn, _ =>
    have h1 := hall i (by simp)
    have h2 := hall j (by simp)
    subst h1
    rw [h2] at hn
    simp at hn
set_option maxHeartbeats 4000000 in
set_option maxRecDepth 100000 in
theorem walk (w : World) (wi : Int) (wk : (Lit.int .i64 wi).wf = true) (b : Option Addr) (cap : Nat) (xs : List Act9) (hl : xs.length ≤ cap) (hm : cap ≤ maxLen) (hi : InW w b 4 (xs.map actC)) (ho : ∀ a ∈ xs, actOk a)
    (key : ByteArray) (hk : key.size ≤ maxLen) (f : Int) (hf : (Lit.int .i64 f).wf = true) (t : Int) (ht : (Lit.int .i64 t).wf = true) :
    Calls Try.prog 6 #[.int .i64 wi, .slice b xs.length cap, .string key, .int .i64 f, .int .i64 t] w fun e w' => e = .returned (.bool true) ∧ Below w.heap.size w w' := by
  have HA := Lib.hid (awake_any w)
  have HF := Lib.hid (fun w' hb => few_any b cap xs w' (InW.bel (W' := w') hi hb) hm hl ho)
  have hwi := i64_wf wk
  have hfi := i64_wf hf
  have hti := i64_wf ht
  clear wk hf ht
  unfold maxLen at hm hk
  cases hfew : fewB xs with
  | false =>
    rw [hfew] at HF
    generalize xs.length = n at *
    go_enter Try.func6, Try.ntmps6
    go_wp2_with fail
    refine HA.out.mono ?_
    rintro e w1 ⟨rfl, b1⟩
    have HF2 := Lib.hid (HF.out w1 b1)
    have HB1 := Lib.hid b1
    clear b1 HA HF
    go_wp2_with fail
    refine HF2.out.mono ?_
    rintro e wx ⟨rfl, rfl⟩
    go_wp2_with fail
    go_ret
    exact ⟨rfl, HB1.out⟩
  | true =>
    rw [hfew] at HF
    obtain ⟨hn101, hk100⟩ := few_of hfew
    have HIn := Lib.hid hi
    have HK := Lib.hid hk100
    have HO := Lib.hid ho
    clear hfew hi hk100 ho
    generalize hn : xs.length = n at *
    have Hn := Lib.hid hn
    clear hn
    by_cases hkey : key.size ≤ 100
    · go_enter Try.func6, Try.ntmps6
      go_wp2_with fail
      refine HA.out.mono ?_
      rintro e w1 ⟨rfl, b1⟩
      have HF2 := Lib.hid (HF.out w1 b1)
      have HB1 := Lib.hid b1
      clear b1 HA HF
      go_wp2_with fail
      refine HF2.out.mono ?_
      rintro e wx ⟨rfl, rfl⟩
      have HN1 := Lib.hid (new_pane wi w1 hwi)
      clear HF2
      go_wp2_with fail
      refine HN1.out.mono ?_
      rintro e w2 ⟨rfl, p2, b2, z2⟩
      have HN2 := Lib.hid (new_pane wi w2 hwi)
      clear HN1
      go_wp2_with fail
      refine HN2.out.mono ?_
      rintro e w3 ⟨rfl, p3, b3, z3⟩
      have hwd := wdOf_in wi
      generalize wdOf wi = wd at *
      have H0 : Hid (∃ B1 B2, PaneAt w3 (w1.heap.size + 2) B1 wd (adds wd (xs.take 0)).length (adds wd (xs.take 0)) ∧ PaneAt w3 (w2.heap.size + 2) B2 wd (adds wd ((xs.take 0).filter fun a => decide (a.2.1 = key))).length (adds wd ((xs.take 0).filter fun a => decide (a.2.1 = key))) ∧ Apart B1 B2 ∧ Above w.heap.size B1 ∧ Above w.heap.size B2 ∧ Below w.heap.size w w3) := Lib.hid (by
        have hs1 := HB1.out.size
        refine ⟨_, _, p2.bel b3, p3, fun b hb hc => ?_, fun b hb => ?_, fun b hb => ?_, (HB1.out.trans (b2.mono hs1)).trans (b3.mono (by omega))⟩
        · simp at hb hc; omega
        · simp at hb; omega
        · simp at hb; omega)
      clear HN2 p2 p3 b2 b3 z2 z3 HB1
      generalize w1.heap.size + 2 = P1 at *
      generalize w2.heap.size + 2 = P2 at *
      go_wp2_with fail
      go_loopw [13] (fun c wr => ∃ (i : Nat) (B1 B2 : List Nat), i ≤ n ∧ c = .int .i64 i ∧ PaneAt wr P1 B1 wd (adds wd (xs.take i)).length (adds wd (xs.take i)) ∧ PaneAt wr P2 B2 wd (adds wd ((xs.take i).filter fun a => decide (a.2.1 = key))).length (adds wd ((xs.take i).filter fun a => decide (a.2.1 = key))) ∧ Apart B1 B2 ∧ Above w.heap.size B1 ∧ Above w.heap.size B2 ∧ Below w.heap.size w wr) (fun c _ => n - (intOf c).toNat)
      case atStart =>
        obtain ⟨B1, B2, h⟩ := H0.out
        exact ⟨0, B1, B2, by omega, rfl, h⟩
      case round =>
        obtain ⟨i, B1, B2, hin, rfl, hp1, hp2, hap, ha1, ha2, hbl⟩ := hrel
        clear H0
        have HAP := Lib.hid hap
        have HA1 := Lib.hid ha1
        have HA2 := Lib.hid ha2
        have HBL := Lib.hid hbl
        clear hap ha1 ha2 hbl
        by_cases hlt : i < n
        · obtain ⟨a, ha⟩ : ∃ a, xs[i]? = some a := ⟨xs[i]'(by have := Hn.out; omega), List.getElem?_eq_getElem _⟩
          have hmem := List.mem_of_getElem? ha
          have hka := HK.out a hmem
          obtain ⟨_, _, oa1, oa2⟩ := HO.out a hmem
          have HT : Hid (xs.take (i + 1) = xs.take i ++ [a]) := Lib.hid (by rw [List.take_add_one, ha]; rfl)
          have HL : Hid ((xs.take i).length ≤ 101) := Lib.hid (by have := Hn.out; rw [List.length_take]; omega)
          obtain ⟨B, off, hbb, _, _, c1, c2, c3⟩ := acts_at (InW.bel HIn.out HBL.out) ha
          have HIA : Hid (∀ w', Below w.heap.size w w' → w'.cell? ⟨B, off + i * 4 + 1, none⟩ = some (.string a.2.1) ∧ w'.cell? ⟨B, off + i * 4 + 2, none⟩ = some (.int .i64 a.2.2.1) ∧ w'.cell? ⟨B, off + i * 4 + 3, none⟩ = some (.int .i64 a.2.2.2)) := Lib.hid (fun w' hb' => by
            obtain ⟨B', off', hbb', _, _, d1, d2, d3⟩ := acts_at (InW.bel HIn.out hb') ha
            rw [hbb] at hbb'
            cases hbb'
            exact ⟨d1, d2, d3⟩)
          subst hbb
          clear ha hmem
          have hi0 : (0 : Int) ≤ (i : Int) := by omega
          have hi1 : (i : Int) < (n : Int) := by omega
          have HAD := Lib.hid (add_act P1 B1 wd (xs.take i) a wr.drew hp1.drew (by have := HL.out; omega) hka oa1 oa2)
          have HP2 := Lib.hid hp2
          have HLT : Hid (∀ b ∈ B2, b < wr.heap.size) := Lib.hid hp2.lt
          clear hp1 hp2
          go_wp2_with fail
          go_still_tail 16, (by kernel_rfl)
          change wpList _ _ _ _ _ wr.drew
          clear c1 c2 c3
          go_wp2_with fail
          refine HAD.out.mono ?_
          rintro e w4 ⟨rfl, B1', hp1, hf4, hs4⟩
          rw [← HT.out] at hp1
          have HP4 := Lib.hid hp1
          have HQ4 : Hid (PaneAt w4 P2 B2 wd (adds wd ((xs.take i).filter fun a => decide (a.2.1 = key))).length (adds wd ((xs.take i).filter fun a => decide (a.2.1 = key)))) := Lib.hid (HP2.out.drew.beside hf4 HAP.out.symm)
          have HBL4 : Hid (Below w.heap.size w w4) := Lib.hid (bel_step HBL.out.drew hf4 HA1.out)
          have HA14 : Hid (Above w.heap.size B1') := Lib.hid (HA1.out.spread hs4 HBL.out.drew.size)
          have HAP4 : Hid (Apart B1' B2) := Lib.hid (HAP.out.spread hs4 HLT.out)
          obtain ⟨d1, d2, d3⟩ := HIA.out w4 HBL4.out
          clear hp1 hf4 hs4 HAD HP2 HBL HA1 HAP HLT
          by_cases hka2 : a.2.1 = key
          · have HF5 : Hid ((xs.take (i + 1)).filter (fun a => decide (a.2.1 = key)) = (xs.take i).filter (fun a => decide (a.2.1 = key)) ++ [a]) := Lib.hid (by rw [HT.out, List.filter_append]; simp [hka2])
            have HAD2 := Lib.hid (add_act P2 B2 wd ((xs.take i).filter fun a => decide (a.2.1 = key)) a w4.drew HQ4.out.drew (by have := HL.out; have := List.length_filter_le (fun a : Act9 => decide (a.2.1 = key)) (xs.take i); omega) hka oa1 oa2)
            rw [hka2] at d1 HAD2
            have HLT4 : Hid (∀ b ∈ B1', b < w4.heap.size) := Lib.hid HP4.out.lt
            clear hka2
            go_wp2_with fail
            go_still_tail 16, (by kernel_rfl)
            change wpList _ _ _ _ _ w4.drew
            clear d1 d2 d3
            go_wp2_with fail
            refine HAD2.out.mono ?_
            rintro e w5 ⟨rfl, B2', hp5, hf5, hs5⟩
            rw [← HF5.out] at hp5
            have HE : Hid (PaneAt w5 P1 B1' wd (adds wd (xs.take (i + 1))).length (adds wd (xs.take (i + 1))) ∧ PaneAt w5 P2 B2' wd (adds wd ((xs.take (i + 1)).filter fun a => decide (a.2.1 = key))).length (adds wd ((xs.take (i + 1)).filter fun a => decide (a.2.1 = key))) ∧ Apart B1' B2' ∧ Above w.heap.size B1' ∧ Above w.heap.size B2' ∧ Below w.heap.size w w5) := Lib.hid
              ⟨HP4.out.drew.beside hf5 HAP4.out, hp5, (HAP4.out.symm.spread hs5 HLT4.out).symm, HA14.out, HA2.out.spread hs5 HBL4.out.drew.size, bel_step HBL4.out.drew hf5 HA2.out⟩
            clear hp5 hf5 hs5 HAD2 HP4 HQ4 HBL4 HA14 HAP4 HLT4
            go_wp2_with fail
            go_roundw
            case rel => exact ⟨i + 1, B1', B2', by omega, by go_num, HE.out⟩
            case measure => simp [intOf]; omega
          · have HF5 : Hid ((xs.take (i + 1)).filter (fun a => decide (a.2.1 = key)) = (xs.take i).filter (fun a => decide (a.2.1 = key))) := Lib.hid (by rw [HT.out, List.filter_append]; simp [hka2])
            have hne : (a.2.1.toList == key.toList) = false := by
              rw [beq_eq_false_iff_ne]
              intro e
              rw [Go.ByteArray.toList_eq, Go.ByteArray.toList_eq] at e
              exact hka2 (byte_ext e)
            have HE : Hid (PaneAt w4 P1 B1' wd (adds wd (xs.take (i + 1))).length (adds wd (xs.take (i + 1))) ∧ PaneAt w4 P2 B2 wd (adds wd ((xs.take (i + 1)).filter fun a => decide (a.2.1 = key))).length (adds wd ((xs.take (i + 1)).filter fun a => decide (a.2.1 = key))) ∧ Apart B1' B2 ∧ Above w.heap.size B1' ∧ Above w.heap.size B2 ∧ Below w.heap.size w w4) := Lib.hid
              ⟨HP4.out, by rw [HF5.out]; exact HQ4.out, HAP4.out, HA14.out, HA2.out, HBL4.out⟩
            clear HP4 HQ4 HBL4 HA14 HAP4 hka2
            go_wp2_with fail
            go_roundw
            case rel => exact ⟨i + 1, B1', B2, by omega, by go_num, HE.out⟩
            case measure => simp [intOf]; omega
        · obtain rfl : i = n := by omega
          have htk : xs.take i = xs := List.take_of_length_le (by have := Hn.out; omega)
          rw [htk] at hp1 hp2
          have HP1 := Lib.hid hp1
          have HP2 := Lib.hid hp2
          have hwd1 := hwd.1
          have HKY := Lib.hid (keys_any P2 B2 wd _ _ f t wr hp2 hfi hti)
          clear hp1 hp2 htk
          go_wp2_with fail
          refine HKY.out.mono ?_
          rintro e w5 ⟨v, ks, rfl, hks, htx, _, hb5⟩
          have HP5 := HP1.out.bel hb5
          have HQ5 := HP2.out.bel hb5
          have S1 := Lib.hid (sum_any P1 B1 wd _ _ key f t w5 HP5 hkey hfi hti)
          have S2 := Lib.hid (sum_any P2 B2 wd _ _ key f t w5 HQ5 hkey hfi hti)
          have hpk : psum (adds wd (xs.filter fun a => decide (a.2.1 = key))) key (f / wd) (t / wd) = psum (adds wd xs) key (f / wd) (t / wd) := by rw [adds_key, psum_key]
          rw [hpk] at S2
          have hone := keys_one hks
          have hnn := psum_nonneg (adds_ok wd hwd1 xs) key (f / wd) (t / wd)
          obtain ⟨bb, cc, rfl, _, _, _⟩ := htx.strs
          have HB5 : Hid (Below w.heap.size w w5) := Lib.hid (HBL.out.trans (hb5.mono HBL.out.size))
          clear HKY HP1 HP2 HP5 HQ5 hks htx hpk hb5
          generalize psum (adds wd xs) key (f / wd) (t / wd) = Z at *
          obtain ⟨h1, h2⟩ := hone
          by_cases hz : Z = 0
          · have hk0 : ks.length = 0 := by
              rcases Nat.lt_or_ge 0 ks.length with h | h
              · exact absurd hz (h2.1 (by omega))
              · omega
            rw [hk0]
            subst hz
            clear h1 h2 hk0
            go_wp2_with fail
            refine S1.out.mono ?_
            rintro e wx ⟨rfl, rfl⟩
            go_wp2_with fail
            refine S2.out.mono ?_
            rintro e wx ⟨rfl, rfl⟩
            go_wp2_with fail
            refine S1.out.mono ?_
            rintro e wx ⟨rfl, rfl⟩
            go_wp2_with fail
            go_ret
            exact ⟨rfl, HB5.out⟩
          · have hk0 : ks.length = 1 := h2.2 hz
            rw [hk0]
            have hz1 : 0 < Z := by omega
            have hz2 : decide (0 < Z) = true := by simpa using hz1
            clear h1 h2 hk0 hz
            go_wp2_with fail
            refine S1.out.mono ?_
            rintro e wx ⟨rfl, rfl⟩
            go_wp2_with fail
            refine S2.out.mono ?_
            rintro e wx ⟨rfl, rfl⟩
            go_wp2_with fail
            refine S1.out.mono ?_
            rintro e wx ⟨rfl, rfl⟩
            go_wp2_with fail
            go_ret
            exact ⟨rfl, HB5.out⟩
    · go_enter Try.func6, Try.ntmps6
      go_wp2_with fail
      refine HA.out.mono ?_
      rintro e w1 ⟨rfl, b1⟩
      have HF2 := Lib.hid (HF.out w1 b1)
      have HB1 := Lib.hid b1
      clear b1 HA HF
      go_wp2_with fail
      refine HF2.out.mono ?_
      rintro e wx ⟨rfl, rfl⟩
      go_wp2_with fail
      go_ret
      exact ⟨rfl, HB1.out⟩

theorem own : ownKnob Try.prog.godebug = none := by kernel_rfl
theorem laidOut : laidOutB Try.prog = true := by kernel_rfl

set_option maxRecDepth 100000 in
theorem lifted (os : Os) (started : os.Started) (H : Type) (enc : TypeId × Value → H) :
    ReturnsInHanded {} Try.checked os 6 .any (Rows.paneKeyedSpec.pre6 enc Try.prog Try.f6 Rows.paneKeyedRow.domain false) (Rows.paneKeyedSpec.post enc Try.prog Try.f6 false true false false) := by
  refine returnsInHanded_of_change (C := Try.checked) own started (by kernel_rfl) Try.func6
    (ChangeSpec.witness6 (enc := enc) (C := Try.checked) false ⟨#[], #[.int .i64 0, .slice none 0 0, .string ⟨#[]⟩, .int .i64 0, .int .i64 0], []⟩ 8 (by kernel_rfl) (by kernel_rfl) (by kernel_rfl) (by kernel_rfl)) ?_
  intro W base args ds gs before hval0 hW hcnd _
  have hval : ∀ (j : Nat) t v, Try.f6.params[j]? = some t → args[j]? = some v → Value.okWide Try.prog W .any base t v := hval0
  have hW' := hW
  obtain ⟨p, q, hA0, hV, rfl, hfz, hnd⟩ := hW
  have hA : DataW.TrodAll enc Try.prog W 0 (fun _ => true) true Try.f6.params.toList args.toList ds p := hA0
  rw [Try.params6] at hA hval
  obtain ⟨v0, vs0, d0, ds0, p0, q0, hargs, rfl, rfl, h0, r0⟩ := trodAll_cons hA
  obtain ⟨v1, vs1, d1, ds1, p1, q1, rfl, rfl, rfl, h1, r1⟩ := trodAll_cons r0
  obtain ⟨v2, vs2, d2, ds2, p2, q2, rfl, rfl, rfl, h2, r2⟩ := trodAll_cons r1
  obtain ⟨v3, vs3, d3, ds3, p3, q3, rfl, rfl, rfl, h3, r3⟩ := trodAll_cons r2
  obtain ⟨v4, vs4, d4, ds4, p4, q4, rfl, rfl, rfl, h4, r4⟩ := trodAll_cons r3
  obtain ⟨rfl, rfl, rfl⟩ := trodAll_nil r4
  obtain rfl : args = #[v0, v1, v2, v3, v4] := by cases args; simp_all
  obtain ⟨rfl, rfl⟩ := trodVars_none hV
  have k0 := h0
  have lt0 : ∀ x ∈ p0, x.block < W.heap.size := by obtain ⟨m, hm⟩ := k0; exact DataW.trod_lt m _ _ _ hm
  obtain ⟨a0, rfl, rfl, rfl, w0⟩ := open_int Try.underlying3 (hval 0 3 v0 rfl rfl) h0
  have k1 := h1
  have lt1 : ∀ x ∈ p1, x.block < W.heap.size := by obtain ⟨m, hm⟩ := k1; exact DataW.trod_lt m _ _ _ hm
  obtain ⟨b1, c1, x1, rfl, l1, m1, i1, o1⟩ := open_acts (hval 1 22 v1 rfl rfl) h1
  have k2 := h2
  have lt2 : ∀ x ∈ p2, x.block < W.heap.size := by obtain ⟨m, hm⟩ := k2; exact DataW.trod_lt m _ _ _ hm
  obtain ⟨a2, rfl, rfl, rfl, w2⟩ := open_string Try.underlying9 (hval 2 9 v2 rfl rfl) h2
  have k3 := h3
  have lt3 : ∀ x ∈ p3, x.block < W.heap.size := by obtain ⟨m, hm⟩ := k3; exact DataW.trod_lt m _ _ _ hm
  obtain ⟨a3, rfl, rfl, rfl, w3⟩ := open_int Try.underlying3 (hval 3 3 v3 rfl rfl) h3
  have k4 := h4
  have lt4 : ∀ x ∈ p4, x.block < W.heap.size := by obtain ⟨m, hm⟩ := k4; exact DataW.trod_lt m _ _ _ hm
  obtain ⟨a4, rfl, rfl, rfl, w4⟩ := open_int Try.underlying3 (hval 4 3 v4 rfl rfl) h4
  clear hA0 hval0
  refine (walk W a0 w0 b1 c1 x1 l1 m1 i1 o1 a2 w2 a3 w3 a4 w4).mono fun e W' ⟨he, bel⟩ => ?_
  subst he
  exact ⟨_, rfl, _, _, _, [], _, [], hW', trodAll_mk1 (shut_bool Try.underlying4 _), (trodAll_cons_mk (Below.trod laidOut (by kernel_rfl) (of_decide_eq_true (by kernel_rfl)) k0 bel lt0) (trodAll_cons_mk (Below.trod laidOut (by kernel_rfl) (of_decide_eq_true (by kernel_rfl)) k1 bel lt1) (trodAll_cons_mk (Below.trod laidOut (by kernel_rfl) (of_decide_eq_true (by kernel_rfl)) k2 bel lt2) (trodAll_cons_mk (Below.trod laidOut (by kernel_rfl) (of_decide_eq_true (by kernel_rfl)) k3 bel lt3) (trodAll_cons_mk (Below.trod laidOut (by kernel_rfl) (of_decide_eq_true (by kernel_rfl)) k4 bel lt4) trodAll_mk0))))), rfl, bel.frame _, fun h => by cases h⟩

theorem over : Rows.paneKeyedRow.holds Try.pinned (OpenSpec.ofChange Rows.paneKeyedSpec) :=
  OpenClaim.holds_of_wide 6 Try.f6 rfl rfl rfl rfl rfl rfl rfl ⟨rfl, rfl, rfl, rfl, rfl⟩ rfl rfl rfl rfl rfl (by kernel_rfl) Try.func6 (by kernel_rfl)
    (of_decide_eq_true (by kernel_rfl)) (by unfold Func.isWrapper; first | (rw [if_pos (by decide +kernel)]; kernel_rfl) | (rw [if_neg (by decide +kernel)]; exact ⟨rfl, rfl⟩))
    (fun os started H enc _ => lifted os started H enc)

theorem proved : Rows.PaneKeyedSaid := over
#print axioms proved
end Go.Proofs.Ytdmcbndkfnlcjaa.paneKeyed

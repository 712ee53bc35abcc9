/- For every input ciceronelaw09.PaneWidths returns true, and its arguments read behind the call as before. No conditions. -/
import Derived.Test.YtdmcbndkfnlcjaaPTwo
import Derived.Test.YtdmcbndkfnlcjaaRows
import Derived.ProofKit
import Derived.OpenShut
import Derived.ShutString
import Derived.ChangeOld
import Derived.Below
import Derived.Lib.SmallJoins
namespace Go.Proofs.Ytdmcbndkfnlcjaa.paneWidths
open Go.ChangeShapes Go.WideShapes Go.ChangeAt Go.RowKit Go.Joins
open Go.ChangeMaps (open_string shut_string)
set_option linter.unusedVariables false

theorem scale_lo (x c m wd : Int) (hw : 1 ≤ wd) (hm : 1 ≤ m) : c * (wd * m) / wd ≤ x / wd ↔ c * (wd * m) / (wd * m) ≤ x / (wd * m) := by
  have hg : 0 < wd * m := Int.mul_pos (by omega) (by omega)
  rw [Int.mul_ediv_cancel _ (by omega), show c * (wd * m) = c * m * wd by rw [Int.mul_comm wd m, Int.mul_assoc], Int.mul_ediv_cancel _ (by omega), Int.le_ediv_iff_mul_le (by omega), Int.le_ediv_iff_mul_le hg, Int.mul_assoc, Int.mul_comm m wd]
theorem psum_scale (xs : List Act9) (k : ByteArray) (a b m wd : Int) (hw : 1 ≤ wd) (hm : 1 ≤ m) : psum (adds wd xs) k (a * (wd * m) / wd) (b * (wd * m) / wd) = psum (adds (wd * m) xs) k (a * (wd * m) / (wd * m)) (b * (wd * m) / (wd * m)) := by
  unfold adds
  induction xs.filter okA with
  | nil => rfl
  | cons x l ih =>
    simp only [List.map_cons, psum, ih, toAd]
    have h1 := scale_lo x.2.2.1 a m wd hw hm
    have h2 := scale_lo x.2.2.1 b m wd hw hm
    congr 1
    by_cases hk : x.2.1 = k
    · by_cases p1 : a * (wd * m) / wd ≤ x.2.2.1 / wd
      · by_cases p2 : b * (wd * m) / wd ≤ x.2.2.1 / wd
        · rw [if_neg (by omega), if_neg (by have := h2.1 p2; omega)]
        · rw [if_pos ⟨hk, p1, by omega⟩, if_pos ⟨hk, h1.1 p1, by have : ¬ _ := fun e => p2 (h2.2 e); omega⟩]
      · rw [if_neg (fun e => p1 e.2.1), if_neg (fun e => p1 (h1.2 e.2.1))]
    · rw [if_neg (fun e => hk e.1), if_neg (fun e => hk e.1)]
theorem u8_wf {q : Int} (h : (Lit.int .u8 q).wf = true) : 0 ≤ q ∧ q ≤ 255 := by
  simp only [Lit.wf, Bool.and_eq_true, decide_eq_true_eq] at h
  exact h
theorem i8_wf {q : Int} (h : (Lit.int .i8 q).wf = true) : -128 ≤ q ∧ q ≤ 127 := by
  simp only [Lit.wf, Bool.and_eq_true, decide_eq_true_eq] at h
  exact h
set_option maxHeartbeats 8000000 in
set_option maxRecDepth 100000 in
theorem walk (w : World) (x0 : Int) (wk0 : (Lit.int .u8 x0).wf = true) (x1 : Int) (wk1 : (Lit.int .u8 x1).wf = true) (b : Option Addr) (cap : Nat) (xs : List Act9) (hl : xs.length ≤ cap) (hm : cap ≤ maxLen) (hi : InW w b 4 (xs.map actC)) (ho : ∀ a ∈ xs, actOk a)
    (key : ByteArray) (hk : key.size ≤ maxLen) (f : Int) (hf : (Lit.int .i8 f).wf = true) (t : Int) (ht : (Lit.int .i8 t).wf = true) :
    Calls Try.prog 7 #[.int .u8 x0, .int .u8 x1, .slice b xs.length cap, .string key, .int .i8 f, .int .i8 t] w fun e w' => e = .returned (.bool true) ∧ Below w.heap.size w w' := by
  have HA := Lib.hid (awake_any w)
  have HF := Lib.hid (fun w' hb => few_any b cap xs w' (InW.bel (W' := w') hi hb) hm hl ho)
  obtain ⟨x00, x01⟩ := u8_wf wk0
  obtain ⟨x10, x11⟩ := u8_wf wk1
  obtain ⟨f0, f1⟩ := i8_wf hf
  obtain ⟨t0, t1⟩ := i8_wf ht
  clear wk0 wk1 hf ht
  unfold maxLen at hm hk
  cases hfew : fewB xs with
  | false =>
    rw [hfew] at HF
    generalize xs.length = n at *
    go_enter Try.func7, Try.ntmps7
    go_wp2_with fail
    refine HA.out.mono ?_
    rintro e w1 ⟨rfl, b1⟩
    have HF2 := Lib.hid (HF.out w1 b1)
    have HB1 := Lib.hid b1
    clear b1 HA HF
    go_wp2_with fail
    refine HF2.out.mono ?_
    rintro e wx ⟨rfl, rfl⟩
    go_wp2_with fail
    go_ret
    exact ⟨rfl, HB1.out⟩
  | true =>
    rw [hfew] at HF
    obtain ⟨hn101, hk100⟩ := few_of hfew
    have HIn := Lib.hid hi
    have HK := Lib.hid hk100
    have HO := Lib.hid ho
    clear hfew hi hk100 ho
    generalize hn : xs.length = n at *
    have Hn := Lib.hid hn
    clear hn
    by_cases hkey : key.size ≤ 100
    · by_cases hfr : -100 ≤ f ∧ f ≤ 100 ∧ -100 ≤ t ∧ t ≤ 100
      · obtain ⟨f2, f3, t2, t3⟩ := hfr
        obtain ⟨g, hg⟩ : ∃ g : Int, (1 + x0) * (1 + x1) = g := ⟨_, rfl⟩
        have hg1 : 1 ≤ g ∧ g ≤ 65536 := by
          have h1 : 1 * 1 ≤ (1 + x0) * (1 + x1) := Int.mul_le_mul (by omega) (by omega) (by omega) (by omega)
          have h2 : (1 + x0) * (1 + x1) ≤ 256 * 256 := Int.mul_le_mul (by omega) (by omega) (by omega) (by omega)
          omega
        have hfg : -6553600 ≤ f * g ∧ f * g ≤ 6553600 := by
          have h1 : f * g ≤ 100 * 65536 := by
            rcases Int.le_total 0 f with h | h
            · exact Int.mul_le_mul (by omega) (by omega) (by omega) (by omega)
            · have := Int.mul_nonpos_of_nonpos_of_nonneg h (show 0 ≤ g by omega); omega
          have h2 : -(100 * 65536) ≤ f * g := by
            rcases Int.le_total 0 f with h | h
            · have := Int.mul_nonneg h (show 0 ≤ g by omega); omega
            · have := Int.mul_le_mul (a := -f) (b := g) (c := 100) (d := 65536) (by omega) (by omega) (by omega) (by omega)
              rw [Int.neg_mul] at this; omega
          omega
        have htg : -6553600 ≤ t * g ∧ t * g ≤ 6553600 := by
          have h1 : t * g ≤ 100 * 65536 := by
            rcases Int.le_total 0 t with h | h
            · exact Int.mul_le_mul (by omega) (by omega) (by omega) (by omega)
            · have := Int.mul_nonpos_of_nonpos_of_nonneg h (show 0 ≤ g by omega); omega
          have h2 : -(100 * 65536) ≤ t * g := by
            rcases Int.le_total 0 t with h | h
            · have := Int.mul_nonneg h (show 0 ≤ g by omega); omega
            · have := Int.mul_le_mul (a := -t) (b := g) (c := 100) (d := 65536) (by omega) (by omega) (by omega) (by omega)
              rw [Int.neg_mul] at this; omega
          omega
        have HSC : Hid (∀ k, psum (adds (1 + x0) xs) k (f * g / (1 + x0)) (t * g / (1 + x0)) = psum (adds g xs) k (f * g / g) (t * g / g)) := Lib.hid (fun k => by rw [← hg]; exact psum_scale xs k f t (1 + x1) (1 + x0) (by omega) (by omega))
        have e1 : wdOf (1 + x0) = 1 + x0 := by unfold wdOf; omega
        have e2 : wdOf g = g := by unfold wdOf; omega
        have E1 := Lib.hid e1
        have E2 := Lib.hid e2
        clear e1 e2
        go_enter Try.func7, Try.ntmps7
        go_wp2_with fail
        refine HA.out.mono ?_
        rintro e w1 ⟨rfl, b1⟩
        have HF2 := Lib.hid (HF.out w1 b1)
        have HB1 := Lib.hid b1
        clear b1 HA HF
        go_wp2_with fail
        refine HF2.out.mono ?_
        rintro e wx ⟨rfl, rfl⟩
        clear HF2
        go_wp2_with fail
        clear hg
        generalize 1 + x0 = wd at *
        have hwd1 : 1 ≤ wd := by have := E1.out; have := wdOf_in wd; omega
        have HN1 := Lib.hid (new_pane wd w1 (by have := E1.out; have := wdOf_in wd; unfold I64; omega))
        rw [E1.out] at HN1
        refine HN1.out.mono ?_
        rintro e w2 ⟨rfl, p2, b2, z2⟩
        have HN2 := Lib.hid (new_pane g w2 (by unfold I64; omega))
        rw [E2.out] at HN2
        clear HN1
        go_wp2_with fail
        refine HN2.out.mono ?_
        rintro e w3 ⟨rfl, p3, b3, z3⟩
        have H0 : Hid (∃ B1 B2, PaneAt w3 (w1.heap.size + 2) B1 wd (adds wd (xs.take 0)).length (adds wd (xs.take 0)) ∧ PaneAt w3 (w2.heap.size + 2) B2 g (adds g (xs.take 0)).length (adds g (xs.take 0)) ∧ Apart B1 B2 ∧ Above w.heap.size B1 ∧ Above w.heap.size B2 ∧ Below w.heap.size w w3) := Lib.hid (by
          have hs1 := HB1.out.size
          refine ⟨_, _, p2.bel b3, p3, fun b hb hc => ?_, fun b hb => ?_, fun b hb => ?_, (HB1.out.trans (b2.mono hs1)).trans (b3.mono (by omega))⟩
          · simp at hb hc; omega
          · simp at hb; omega
          · simp at hb; omega)
        clear HN2 p2 p3 b2 b3 z2 z3 HB1
        generalize w1.heap.size + 2 = P1 at *
        generalize w2.heap.size + 2 = P2 at *
        go_wp2_with fail
        go_loopw [17] (fun c wr => ∃ (i : Nat) (B1 B2 : List Nat), i ≤ n ∧ c = .int .i64 i ∧ PaneAt wr P1 B1 wd (adds wd (xs.take i)).length (adds wd (xs.take i)) ∧ PaneAt wr P2 B2 g (adds g (xs.take i)).length (adds g (xs.take i)) ∧ Apart B1 B2 ∧ Above w.heap.size B1 ∧ Above w.heap.size B2 ∧ Below w.heap.size w wr) (fun c _ => n - (intOf c).toNat)
        case atStart =>
          obtain ⟨B1, B2, h⟩ := H0.out
          exact ⟨0, B1, B2, by omega, rfl, h⟩
        case round =>
          obtain ⟨i, B1, B2, hin, rfl, hp1, hp2, hap, ha1, ha2, hbl⟩ := hrel
          clear H0
          have HAP := Lib.hid hap
          have HA1 := Lib.hid ha1
          have HA2 := Lib.hid ha2
          have HBL := Lib.hid hbl
          clear hap ha1 ha2 hbl
          by_cases hlt : i < n
          · obtain ⟨a, ha⟩ : ∃ a, xs[i]? = some a := ⟨xs[i]'(by have := Hn.out; omega), List.getElem?_eq_getElem _⟩
            have hmem := List.mem_of_getElem? ha
            have hka := HK.out a hmem
            obtain ⟨_, _, oa1, oa2⟩ := HO.out a hmem
            have HMA := Lib.hid hmem
            have HT : Hid (xs.take (i + 1) = xs.take i ++ [a]) := Lib.hid (by rw [List.take_add_one, ha]; rfl)
            have HL : Hid ((xs.take i).length ≤ 101) := Lib.hid (by have := Hn.out; rw [List.length_take]; omega)
            obtain ⟨B, off, hbb, _, _, c1, c2, c3⟩ := acts_at (InW.bel HIn.out HBL.out) ha
            have HIA : Hid (∀ w', Below w.heap.size w w' → w'.cell? ⟨B, off + i * 4 + 1, none⟩ = some (.string a.2.1) ∧ w'.cell? ⟨B, off + i * 4 + 2, none⟩ = some (.int .i64 a.2.2.1) ∧ w'.cell? ⟨B, off + i * 4 + 3, none⟩ = some (.int .i64 a.2.2.2)) := Lib.hid (fun w' hb' => by
              obtain ⟨B', off', hbb', _, _, d1, d2, d3⟩ := acts_at (InW.bel HIn.out hb') ha
              rw [hbb] at hbb'
              cases hbb'
              exact ⟨d1, d2, d3⟩)
            subst hbb
            clear ha hmem
            have hi0 : (0 : Int) ≤ (i : Int) := by omega
            have hi1 : (i : Int) < (n : Int) := by omega
            have HAD := Lib.hid (add_act P1 B1 wd (xs.take i) a wr.drew hp1.drew (by have := HL.out; omega) hka oa1 oa2)
            have HP2 := Lib.hid hp2
            have HLT : Hid (∀ b ∈ B2, b < wr.heap.size) := Lib.hid hp2.lt
            clear hp1 hp2
            go_wp2_with fail
            go_region_held3 (fun X => X.cell? ⟨B, off + i * 4 + 1, none⟩ = some (.string a.2.1) ∧ X.cell? ⟨B, off + i * 4 + 2, none⟩ = some (.int .i64 a.2.2.1) ∧ X.cell? ⟨B, off + i * 4 + 3, none⟩ = some (.int .i64 a.2.2.2)) (first | assumption | go_keep)
              (first
                | (go_at_call 13
                   (with_reducible refine HAD2.out.mono ?_)
                   rintro e w5 ⟨rfl, B2', hp5, hf5, hs5⟩
                   have HP5 := Lib.hid hp5
                   have HF5 := Lib.hid hf5
                   have HS5 := Lib.hid hs5
                   have HBL5 : Hid (Below w.heap.size w w5) := Lib.hid (bel_step HBL4.out hf5 HA2.out)
                   have hcc5 := HIA.out w5 HBL5.out
                   clear hp5 hf5 hs5)
                | (go_at_call 13
                   (with_reducible refine HAD.out.mono ?_)
                   rintro e w4 ⟨rfl, B1', hp4, hf4, hs4⟩
                   have HP4 := Lib.hid hp4
                   have HS4 := Lib.hid hs4
                   have HQ4 := Lib.hid (HP2.out.drew.beside hf4 HAP.out.symm)
                   have HBL4 : Hid (Below w.heap.size w w4) := Lib.hid (bel_step HBL.out.drew hf4 HA1.out)
                   have HAD2 := Lib.hid (add_act P2 B2 g (xs.take i) a w4 HQ4.out (by have := HL.out; omega) hka oa1 oa2)
                   have hcc4 := HIA.out w4 HBL4.out
                   clear hp4 hf4 hs4)
                | fail)
            have HE : Hid (PaneAt w5 P1 B1' wd (adds wd (xs.take (i + 1))).length (adds wd (xs.take (i + 1))) ∧ PaneAt w5 P2 B2' g (adds g (xs.take (i + 1))).length (adds g (xs.take (i + 1))) ∧ Apart B1' B2' ∧ Above w.heap.size B1' ∧ Above w.heap.size B2' ∧ Below w.heap.size w w5) := Lib.hid (by
              have hap4 := HAP.out.spread HS4.out HLT.out
              rw [HT.out]
              exact ⟨HP4.out.beside HF5.out hap4, HP5.out, (hap4.symm.spread HS5.out HP4.out.lt).symm, HA1.out.spread HS4.out HBL.out.drew.size, HA2.out.spread HS5.out HBL4.out.size, HBL5.out⟩)
            clear HP4 HS4 HQ4 HBL4 HAD2 hcc4 HP5 HF5 HS5 HBL5 hcc5 HAD HP2 HLT HIA c1 c2 c3
            generalize okA a = oa
            cases oa
            all_goals
              go_wp2_with fail
              exact ⟨⟨i + 1, B1', B2', by omega, by go_num, HE.out⟩, by simp [intOf]; omega⟩
          · obtain rfl : i = n := by omega
            have htk : xs.take i = xs := List.take_of_length_le (by have := Hn.out; omega)
            rw [htk] at hp1 hp2
            have hfi : I64 (f * g) := by unfold I64; omega
            have hti : I64 (t * g) := by unfold I64; omega
            have S1 := Lib.hid (sum_any P1 B1 wd _ _ key (f * g) (t * g) wr hp1 hkey hfi hti)
            have S2 := Lib.hid (sum_any P2 B2 g _ _ key (f * g) (t * g) wr hp2 hkey hfi hti)
            rw [HSC.out] at S1
            have HP1 := Lib.hid hp1
            have HP2 := Lib.hid hp2
            have K1 := Lib.hid (keys_any P1 B1 wd _ _ (f * g) (t * g) wr hp1 hfi hti)
            have hla := adds_length wd xs
            have hlg := adds_length g xs
            have hxl := Hn.out
            have HL1 : Hid ((adds wd xs).length ≤ 101 ∧ (adds g xs).length ≤ 101) := Lib.hid (by omega)
            clear hp1 hp2 htk hla hlg hxl
            generalize psum (adds g xs) key (f * g / g) (t * g / g) = Z at *
            obtain ⟨F, hF⟩ : ∃ F : Int, f * g = F := ⟨_, rfl⟩
            obtain ⟨G, hG⟩ : ∃ G : Int, t * g = G := ⟨_, rfl⟩
            rw [hF] at S1 S2 K1 hfi hfg
            rw [hG] at S1 S2 K1 hti htg
            go_wp2_with fail
            refine S1.out.mono ?_
            rintro e wx ⟨rfl, rfl⟩
            go_wp2_with fail
            refine S2.out.mono ?_
            rintro e wx ⟨rfl, rfl⟩
            clear S1 S2
            go_wp2_with fail
            refine K1.out.mono ?_
            rintro e w6 ⟨v1, ks1, rfl, hk1, ht1, hn1, hb6⟩
            have K2 := Lib.hid (keys_any P2 B2 g _ _ F G w6 (HP2.out.bel hb6) hfi hti)
            have HK1 := Lib.hid hk1
            have HT1 := Lib.hid ht1
            have HB6 : Hid (Below w.heap.size w w6) := Lib.hid (HBL.out.trans (hb6.mono HBL.out.size))
            clear K1 hk1 ht1 hn1 hb6
            go_wp2_with fail
            refine K2.out.mono ?_
            rintro e w7 ⟨v2, ks2, rfl, hk2, ht2, hn2, hb7⟩
            have HB7 : Hid (Below w.heap.size w w7) := Lib.hid (HB6.out.trans (hb7.mono HB6.out.size))
            have heq : ks1 = ks2 := HK1.out.uniq hk2 (fun k => by have := HSC.out k; rw [hF, hG] at this; exact this)
            have hl1 := (hk2.mem (adds_ok g (by omega) xs)).1
            have ht1' : TextsAt w7 v1 ks1 := (Fr.of_bel (S := none') hb7).row HT1.out (fun _ _ => id)
            obtain ⟨bb1, cc1, rfl, _, _, hs1⟩ := ht1'.strs
            obtain ⟨bb2, cc2, rfl, _, _, hs2⟩ := ht2.strs
            have HX := Lib.hid (texts_any bb1 bb2 ks1.length ks2.length cc1 cc2 ks1 ks2 w7 hs1 hs2 rfl rfl (by have := HL1.out; rw [heq]; omega) (by have := HL1.out; omega))
            rw [show decide (ks1 = ks2) = true by simp [heq]] at HX
            clear K2 hk2 ht2 hn2 hb7 heq hl1 ht1' hs1 hs2 HK1 HT1
            generalize ks1.length = l1 at *
            generalize ks2.length = l2 at *
            go_wp2_with fail
            refine HX.out.mono ?_
            rintro e w8 ⟨rfl, q, rfl⟩
            go_wp2_with fail
            go_ret
            exact ⟨rfl, Fr.belOf HB7.out ((Fr.refl none' w7).drewN q) (fun _ h => h.elim)⟩
      · go_enter Try.func7, Try.ntmps7
        go_wp2_with fail
        refine HA.out.mono ?_
        rintro e w1 ⟨rfl, b1⟩
        have HF2 := Lib.hid (HF.out w1 b1)
        have HB1 := Lib.hid b1
        clear b1 HA HF
        go_wp2_with fail
        refine HF2.out.mono ?_
        rintro e wx ⟨rfl, rfl⟩
        clear HF2
        go_wp2_with fail
        all_goals first | (go_ret; exact ⟨rfl, HB1.out⟩) | (exfalso; omega)
    · go_enter Try.func7, Try.ntmps7
      go_wp2_with fail
      refine HA.out.mono ?_
      rintro e w1 ⟨rfl, b1⟩
      have HF2 := Lib.hid (HF.out w1 b1)
      have HB1 := Lib.hid b1
      clear b1 HA HF
      go_wp2_with fail
      refine HF2.out.mono ?_
      rintro e wx ⟨rfl, rfl⟩
      clear HF2
      go_wp2_with fail
      go_ret
      exact ⟨rfl, HB1.out⟩

theorem own : ownKnob Try.prog.godebug = none := by kernel_rfl
theorem laidOut : laidOutB Try.prog = true := by kernel_rfl

set_option maxRecDepth 100000 in
theorem lifted (os : Os) (started : os.Started) (H : Type) (enc : TypeId × Value → H) :
    ReturnsInHanded {} Try.checked os 7 .any (Rows.paneWidthsSpec.pre6 enc Try.prog Try.f7 Rows.paneWidthsRow.domain false) (Rows.paneWidthsSpec.post enc Try.prog Try.f7 false true false false) := by
  refine returnsInHanded_of_change (C := Try.checked) own started (by kernel_rfl) Try.func7
    (ChangeSpec.witness6 (enc := enc) (C := Try.checked) false ⟨#[], #[.int .u8 0, .int .u8 0, .slice none 0 0, .string ⟨#[]⟩, .int .i8 0, .int .i8 0], []⟩ 8 (by kernel_rfl) (by kernel_rfl) (by kernel_rfl) (by kernel_rfl)) ?_
  intro W base args ds gs before hval0 hW hcnd _
  have hval : ∀ (j : Nat) t v, Try.f7.params[j]? = some t → args[j]? = some v → Value.okWide Try.prog W .any base t v := hval0
  have hW' := hW
  obtain ⟨p, q, hA0, hV, rfl, hfz, hnd⟩ := hW
  have hA : DataW.TrodAll enc Try.prog W 0 (fun _ => true) true Try.f7.params.toList args.toList ds p := hA0
  rw [Try.params7] at hA hval
  obtain ⟨v0, vs0, d0, ds0, p0, q0, hargs, rfl, rfl, h0, r0⟩ := trodAll_cons hA
  obtain ⟨v1, vs1, d1, ds1, p1, q1, rfl, rfl, rfl, h1, r1⟩ := trodAll_cons r0
  obtain ⟨v2, vs2, d2, ds2, p2, q2, rfl, rfl, rfl, h2, r2⟩ := trodAll_cons r1
  obtain ⟨v3, vs3, d3, ds3, p3, q3, rfl, rfl, rfl, h3, r3⟩ := trodAll_cons r2
  obtain ⟨v4, vs4, d4, ds4, p4, q4, rfl, rfl, rfl, h4, r4⟩ := trodAll_cons r3
  obtain ⟨v5, vs5, d5, ds5, p5, q5, rfl, rfl, rfl, h5, r5⟩ := trodAll_cons r4
  obtain ⟨rfl, rfl, rfl⟩ := trodAll_nil r5
  obtain rfl : args = #[v0, v1, v2, v3, v4, v5] := by cases args; simp_all
  obtain ⟨rfl, rfl⟩ := trodVars_none hV
  have k0 := h0
  have lt0 : ∀ x ∈ p0, x.block < W.heap.size := by obtain ⟨m, hm⟩ := k0; exact DataW.trod_lt m _ _ _ hm
  obtain ⟨a0, rfl, rfl, rfl, w0⟩ := open_int Try.underlying5 (hval 0 5 v0 rfl rfl) h0
  have k1 := h1
  have lt1 : ∀ x ∈ p1, x.block < W.heap.size := by obtain ⟨m, hm⟩ := k1; exact DataW.trod_lt m _ _ _ hm
  obtain ⟨a1, rfl, rfl, rfl, w1⟩ := open_int Try.underlying5 (hval 1 5 v1 rfl rfl) h1
  have k2 := h2
  have lt2 : ∀ x ∈ p2, x.block < W.heap.size := by obtain ⟨m, hm⟩ := k2; exact DataW.trod_lt m _ _ _ hm
  obtain ⟨b2, c2, x2, rfl, l2, m2, i2, o2⟩ := open_acts (hval 2 22 v2 rfl rfl) h2
  have k3 := h3
  have lt3 : ∀ x ∈ p3, x.block < W.heap.size := by obtain ⟨m, hm⟩ := k3; exact DataW.trod_lt m _ _ _ hm
  obtain ⟨a3, rfl, rfl, rfl, w3⟩ := open_string Try.underlying9 (hval 3 9 v3 rfl rfl) h3
  have k4 := h4
  have lt4 : ∀ x ∈ p4, x.block < W.heap.size := by obtain ⟨m, hm⟩ := k4; exact DataW.trod_lt m _ _ _ hm
  obtain ⟨a4, rfl, rfl, rfl, w4⟩ := open_int Try.underlying41 (hval 4 41 v4 rfl rfl) h4
  have k5 := h5
  have lt5 : ∀ x ∈ p5, x.block < W.heap.size := by obtain ⟨m, hm⟩ := k5; exact DataW.trod_lt m _ _ _ hm
  obtain ⟨a5, rfl, rfl, rfl, w5⟩ := open_int Try.underlying41 (hval 5 41 v5 rfl rfl) h5
  clear hA0 hval0
  refine (walk W a0 w0 a1 w1 b2 c2 x2 l2 m2 i2 o2 a3 w3 a4 w4 a5 w5).mono fun e W' ⟨he, bel⟩ => ?_
  subst he
  exact ⟨_, rfl, _, _, _, [], _, [], hW', trodAll_mk1 (shut_bool Try.underlying4 _), (trodAll_cons_mk (Below.trod laidOut (by kernel_rfl) (of_decide_eq_true (by kernel_rfl)) k0 bel lt0) (trodAll_cons_mk (Below.trod laidOut (by kernel_rfl) (of_decide_eq_true (by kernel_rfl)) k1 bel lt1) (trodAll_cons_mk (Below.trod laidOut (by kernel_rfl) (of_decide_eq_true (by kernel_rfl)) k2 bel lt2) (trodAll_cons_mk (Below.trod laidOut (by kernel_rfl) (of_decide_eq_true (by kernel_rfl)) k3 bel lt3) (trodAll_cons_mk (Below.trod laidOut (by kernel_rfl) (of_decide_eq_true (by kernel_rfl)) k4 bel lt4) (trodAll_cons_mk (Below.trod laidOut (by kernel_rfl) (of_decide_eq_true (by kernel_rfl)) k5 bel lt5) trodAll_mk0)))))), rfl, bel.frame _, fun h => by cases h⟩

theorem over : Rows.paneWidthsRow.holds Try.pinned (OpenSpec.ofChange Rows.paneWidthsSpec) :=
  OpenClaim.holds_of_wide 7 Try.f7 rfl rfl rfl rfl rfl rfl rfl ⟨rfl, rfl, rfl, rfl, rfl⟩ rfl rfl rfl rfl rfl (by kernel_rfl) Try.func7 (by kernel_rfl)
    (of_decide_eq_true (by kernel_rfl)) (by unfold Func.isWrapper; first | (rw [if_pos (by decide +kernel)]; kernel_rfl) | (rw [if_neg (by decide +kernel)]; exact ⟨rfl, rfl⟩))
    (fun os started H enc _ => lifted os started H enc)

theorem proved : Rows.PaneWidthsSaid := over
#print axioms proved
end Go.Proofs.Ytdmcbndkfnlcjaa.paneWidths

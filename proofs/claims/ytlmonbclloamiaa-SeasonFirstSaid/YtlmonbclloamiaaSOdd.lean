/- Contract of season.Odd. -/
import Derived.Test.YtlmonbclloamiaaSUsual
namespace Go.Proofs.Ytlmonbclloamiaa
open Go.RowKit Go.MapKept Go.Maps Wide
set_option linter.unusedVariables false
theorem infoText : (Try.prog.info? 9).map (fun i => (i.zero, i.size, i.bytes)) = some (some (.string ⟨#[]⟩), 1, 16) := by kernel_rfl
theorem pane_div {wd now : Int} (h1 : 1 ≤ wd) : (now - now % wd) / wd = now / wd ∧ (now - now % wd + wd) / wd = now / wd + 1 := by
  have e1 : now - now % wd = wd * (now / wd) := by have := Int.mul_ediv_add_emod now wd; omega
  have hw : wd ≠ 0 := by omega
  rw [e1]
  refine ⟨Int.mul_ediv_cancel_left _ hw, ?_⟩
  have : wd * (now / wd) + wd = wd * (now / wd + 1) := by rw [Int.mul_add, Int.mul_one]
  rw [this, Int.mul_ediv_cancel_left _ hw]
/-- the odd keys -/
def OddsOf (A : List Ad) (pe bk wd now fl : Int) (os : List ByteArray) : Prop := Rise os ∧ ∀ k, k ∈ os ↔ nowS A k wd now ≠ 0 ∧ oddB A pe bk wd now fl k = true
theorem OddsOf.of {A : List Ad} {pe bk wd now fl : Int} {ks : List ByteArray} (h : KeysOf A (now / wd) (now / wd + 1) ks) : OddsOf A pe bk wd now fl (ks.filter (oddB A pe bk wd now fl)) := by
  refine ⟨h.1.sublist List.filter_sublist, fun k => ?_⟩
  rw [List.mem_filter, h.2, psum_one]
  rfl
theorem OddsOf.uniq {A A' : List Ad} {pe bk wd now fl : Int} {os os' : List ByteArray} (h : OddsOf A pe bk wd now fl os) (h' : Rise os' ∧ ∀ k, k ∈ os' ↔ nowS A k wd now ≠ 0 ∧ oddB A pe bk wd now fl k = true) : os = os' := h.1.ext h'.1 (fun k => (h.2 k).trans (h'.2 k).symm)
structure OddIn (w3 wr : World) (u : Value) (os : List ByteArray) : Prop where
  tx : TextsAt wr u os
  nw : ∀ b, u.ownBlock = some b → w3.heap.size ≤ b
  bl : Below w3.heap.size w3 wr
theorem OddIn.bel {w3 wr w' : World} {u : Value} {os : List ByteArray} (h : OddIn w3 wr u os) (hb : Below wr.heap.size wr w') : OddIn w3 w' u os :=
  ⟨(Fr.of_bel (S := none') hb).row h.tx (fun _ _ => id), h.nw, h.bl.trans (hb.mono h.bl.size)⟩
theorem OddIn.more {w3 wr w7 : World} {u v7 : Value} {os : List ByteArray} {k : ByteArray} (h : OddIn w3 wr u os) (o7 : w7.ownsRow 0 9 1 v7 (os ++ [k]).length ((os ++ [k]).flatMap tC)) (f7 : Fr (fun b => u.ownBlock = some b) wr w7) (h7 : Hence u v7 wr) : OddIn w3 w7 v7 (os ++ [k]) := by
  refine ⟨by unfold TextsAt; rw [← tC_flat]; exact o7, fun b hb => ?_, below_of_fr h.bl f7 h.nw⟩
  rcases h7 with h' | h'
  · exact h.nw b (by rw [← h']; exact hb)
  · have := Option.some.inj (h'.symm.trans hb)
    have := h.bl.size
    omega
set_option maxRecDepth 100000 in
set_option maxHeartbeats 8000000 in
theorem odd_yes (p : Nat) (B : List Nat) (wd ad : Int) (A : List Ad) (pe bk now fl : Int) (w : World) (h : PaneAt w p B wd ad A) (hl : A.length ≤ 1000) (hr : rightS pe bk wd now = true) (hfl : I64 fl) :
    Calls Try.prog 14 #[.pointer (some ⟨p, 0, none⟩), .agg #[.int .i64 pe, .int .i64 bk], .int .i64 now, .int .i64 fl] w fun e w' => ∃ v os, e = .returned v ∧ OddsOf A pe bk wd now fl os ∧ TextsAt w' v os ∧ (∀ b, v.ownBlock = some b → w.heap.size ≤ b) ∧ Below w.heap.size w w' := by
  obtain ⟨⟨r1, r2, r3, r4, r5, r6⟩, r7, r8⟩ := (rightS_iff _ _ _ _).1 hr
  obtain ⟨i0, hi0, hz0, hz1, hz2⟩ := info_parts infoText
  have hw2 := h.w2
  have hTS := fun k n => thenS_bd h.ok hl k pe wd now n
  have HTS := Lib.hid hTS
  have hb := (Below.refl w.heap.size w).alloc (Nat.le_refl _) (.cells #[.int .i64 pe, .int .i64 bk] 23)
  have hbk := Bk.new w [.int .i64 pe, .int .i64 bk] 23
  have hR := right_any p pe bk wd now _ ((hb.cell (p := ⟨p, 0, none⟩) h.ptr).trans h.wdCell) (by have := h.ptr; simp; omega) (by unfold I64; omega) (by unfold I64; omega) (by unfold I64; omega) (by unfold I64; omega)
  rw [hr] at hR
  have HR := Lib.hid hR
  have HB := Lib.hid hb
  have HBK := Lib.hid hbk
  have H := Lib.hid h
  have HRT := Lib.hid hr
  have hmod : 0 ≤ now % wd ∧ now % wd < wd := ⟨Int.emod_nonneg _ (by omega), Int.emod_lt_of_pos _ (by omega)⟩
  clear hb hbk hR h hr hTS
  unfold I64 at hfl
  obtain ⟨N, hN⟩ : ∃ N, w.heap.size = N := ⟨_, rfl⟩
  have HN := Lib.hid hN
  go_enter Try.func14, Try.ntmps14
  clear hN
  go_wp2_with fail
  refine HR.out.mono ?_
  rintro e w2 ⟨rfl, b2⟩
  have hB2 : Below w.heap.size w w2 := HB.out.trans (b2.mono (by simp))
  have hp2 := H.out.bel hB2
  have HK2 := Lib.hid (HBK.out.bel b2)
  have W2 := Lib.hid (width_any p wd w2 hp2.wdCell)
  have hdv := pane_div (now := now) r1
  have hky := keys_any p B wd ad A (now - now % wd) (now - now % wd + wd) w2 hp2 (by unfold I64; omega) (by unfold I64; omega)
  rw [hdv.1, hdv.2] at hky
  have KY := Lib.hid hky
  have HB2 := Lib.hid hB2
  clear b2 HR hB2 hp2 hky hdv
  go_wp2_with fail
  refine W2.out.mono ?_
  rintro e wx ⟨rfl, rfl⟩
  go_wp2_with fail
  refine W2.out.mono ?_
  rintro e wx ⟨rfl, rfl⟩
  go_wp2_with fail
  refine KY.out.mono ?_
  rintro e w3 ⟨v3, ks, rfl, o3, t3, n3, b3⟩
  have hB3 : Below w.heap.size w w3 := HB2.out.trans (b3.mono HB2.out.size)
  have hkm := o3.mem H.out.ok
  obtain ⟨bv, cv, rfl, hv1, hv2, sv⟩ := t3.strs
  have HP3 := Lib.hid (H.out.bel hB3)
  have HK3 := Lib.hid (HK2.out.bel b3)
  have HO3 := Lib.hid o3
  have HS3 := Lib.hid sv
  have HB3 := Lib.hid hB3
  have HKM := Lib.hid hkm.2
  have hkl := hkm.1
  clear W2 KY HB2 HK2 o3 t3 n3 b3 hB3 hkm sv
  generalize hkn : ks.length = kn at *
  have Hkn := Lib.hid hkn
  clear hkn
  go_wp2_with fail
  go_loopw [10, 35] (fun u c wr => ∃ (j : Nat), j ≤ kn ∧ c = .int .i64 j ∧ OddIn w3 wr u ((ks.take j).filter (oddB A pe bk wd now fl))) (fun _ c _ => kn - (intOf c).toNat)
  case atStart => exact ⟨0, by omega, rfl, ⟨own_nil _ _, by simp [Value.ownBlock], Below.refl _ _⟩⟩
  case round =>
    obtain ⟨j, hj, rfl, hoi⟩ := hrel
    have HOI := Lib.hid hoi
    clear hoi
    by_cases hlt : j < kn
    · obtain ⟨k, hk⟩ : ∃ k, ks[j]? = some k := ⟨ks[j]'(by rw [Hkn.out]; exact hlt), List.getElem?_eq_getElem _⟩
      have hks := HKM.out k (List.mem_of_getElem? hk)
      obtain ⟨Bv, ov, rfl, hbv, e1⟩ := HS3.out.at hk
      have g1 : wr.cell? ⟨Bv, ov + j, none⟩ = some (.string k) := (HOI.out.bl.cell (p := ⟨Bv, ov + j, none⟩) hbv).trans e1
      have HTK : Hid ((ks.take (j + 1)).filter (oddB A pe bk wd now fl) = (ks.take j).filter (oddB A pe bk wd now fl) ++ (if oddB A pe bk wd now fl k then [k] else [])) := Lib.hid (by
        rw [List.take_add_one, hk, List.filter_append]
        cases h : oddB A pe bk wd now fl k <;> simp [h])
      have HLN : Hid (((ks.take j).filter (oddB A pe bk wd now fl)).length + [k].length ≤ 1000000) := Lib.hid (by
        have h1 := List.length_filter_le (oddB A pe bk wd now fl) (ks.take j)
        have h2 : (ks.take j).length ≤ kn := by rw [List.length_take, Hkn.out]; omega
        simp; omega)
      have hj0 : (0 : Int) ≤ (j : Int) := by omega
      have hj1 : (j : Int) < (kn : Int) := by omega
      have tb := HTS.out k bk.toNat
      have nb : 0 ≤ nowS A k wd now ∧ nowS A k wd now ≤ 1048576000 := by
        have h1 := sget_nonneg H.out.ok k (now / wd)
        have h2 := sget_le H.out.ok k (now / wd)
        unfold nowS; omega
      have HCM := Lib.hid (cmp_odd (n := nowS A k wd now) (m := 2 * thenS A k pe wd now bk.toNat) (d := bk) nb.1 (by omega) r5)
      have HOB : Hid (oddB A pe bk wd now fl k = (decide (fl ≤ nowS A k wd now) && decide (2 * thenS A k pe wd now bk.toNat < nowS A k wd now * bk))) := Lib.hid rfl
      have HKK := Lib.hid hk
      have HGO : Hid (∀ W, Below wr.heap.size wr W → Below w3.heap.size w3 W) := Lib.hid (fun W hb => HOI.out.bl.trans (hb.mono HOI.out.bl.size))
      have HNO : Hid (∀ W, Below wr.heap.size wr W → Calls Try.prog 12 #[.pointer (some ⟨p, 0, none⟩), .agg #[.int .i64 pe, .int .i64 bk], .string k, .int .i64 now] W fun e w' => e = .returned (.int .i64 (nowS A k wd now)) ∧ Below W.heap.size W w') := Lib.hid (fun W hb => now_yes p B wd ad A k pe bk now W (HP3.out.bel (HGO.out W hb)) (by omega) HRT.out)
      have HUS : Hid (∀ W, Below wr.heap.size wr W → Calls Try.prog 13 #[.pointer (some ⟨p, 0, none⟩), .agg #[.int .i64 pe, .int .i64 bk], .string k, .int .i64 now] W fun e w' => e = .returned (.agg #[.int .i64 (thenS A k pe wd now bk.toNat), .int .i64 bk]) ∧ Below W.heap.size W w') := Lib.hid (fun W hb => usual_yes p B wd ad A k pe bk now W (HP3.out.bel (HGO.out W hb)) hl (by omega) HRT.out)
      have HBX : Hid (∀ W, Below wr.heap.size wr W → W.cell? ⟨N, 0, none⟩ = some (.int .i64 pe) ∧ W.cell? ⟨N, 1, none⟩ = some (.int .i64 bk)) := Lib.hid (fun W hb => by
        have hk := HK3.out.bel (HGO.out W hb)
        rw [HN.out] at hk
        exact ⟨hk.cell 0, hk.cell 1⟩)
      generalize nowS A k wd now = X at *
      generalize thenS A k pe wd now bk.toNat = T at *
      have hbX := HBX.out wr.drew (Below.refl _ _).drew
      clear hk e1
      rw [HN.out]
      have G0 : Hid (Below wr.heap.size wr wr.drew) := Lib.hid (Below.refl _ _).drew
      have G1 : Hid (Below wr.heap.size wr (wr.alloc (.cells #[.int .i64 0, .int .i64 0] 28)).drew) := Lib.hid ((Below.refl _ _).alloc (Nat.le_refl _) _).drew
      have HZ0 : Hid (Bk (wr.alloc (.cells #[.int .i64 0, .int .i64 0] 28)).drew wr.heap.size [.int .i64 0, .int .i64 0] 28) := Lib.hid ((Bk.new wr [.int .i64 0, .int .i64 0] 28).fr (Fr.refl none' _).drew id)
      have hbX1 := HBX.out _ G1.out
      by_cases c1 : fl ≤ X
      · by_cases c2 : 2 * T < X * bk
        · have HOF : Hid (oddB A pe bk wd now fl k = true) := Lib.hid (by rw [HOB.out, decide_eq_true c1, decide_eq_true c2]; rfl)
          have c3 : 0 < cmpR X 1 (2 * T) bk := HCM.out.2 c2
          have t1 : decide (fl ≤ X) = true := decide_eq_true c1
          clear HCM HOB c2
          go_wp2_with fail
          go_region_held3 (fun X => X.cell? ⟨N, 0, none⟩ = some (.int .i64 pe) ∧ X.cell? ⟨N, 1, none⟩ = some (.int .i64 bk)) (first | assumption | go_keep)
            (first
              | (go_at_call 12
                 (with_reducible refine (HNO.out _ (by first | exact G0.out | exact G1.out)).mono ?_)
                 rintro e w4 ⟨rfl, b4⟩
                 have G4 : Hid (Below wr.heap.size wr w4) := Lib.hid (by first | exact G0.out.trans (b4.mono G0.out.size) | exact G1.out.trans (b4.mono G1.out.size))
                 have hS4 := HBX.out _ G4.out
                 (try (have hz4 := HZ0.out.bel b4; have HZ4 := Lib.hid hz4; clear hz4))
                 have G4A := Lib.hid (G4.out.alloc G4.out.size (.cells #[.int .i64 0, .int .i64 0] 28))
                 have hS4A := HBX.out _ G4A.out
                 clear b4)
              | (go_at_call 13
                 (with_reducible refine (HUS.out _ (by first | exact G4.out | exact G4A.out)).mono ?_)
                 rintro e w5 ⟨rfl, b5⟩
                 have G5 : Hid (Below wr.heap.size wr w5) := Lib.hid (by first | exact G4.out.trans (b5.mono G4.out.size) | exact G4A.out.trans (b5.mono G4A.out.size))
                 have hS5 := HBX.out _ G5.out
                 have hS5A := HBX.out _ (G5.out.alloc G5.out.size (.cells #[.int .i64 0, .int .i64 0] 28))
                 have hS6a := HBX.out ((w5.setCell ⟨wr.heap.size, 0, none⟩ (.int .i64 T)).setCell ⟨wr.heap.size, 1, none⟩ (.int .i64 bk)) ((G5.out.setCell (by simp) _).setCell (by simp) _)
                 have hS6b := HBX.out ((w5.setCell ⟨w4.heap.size, 0, none⟩ (.int .i64 T)).setCell ⟨w4.heap.size, 1, none⟩ (.int .i64 bk)) ((G5.out.setCell (by have := G4.out.size; simp; omega) _).setCell (by have := G4.out.size; simp; omega) _)
                 have hS6c := HBX.out (w5.alloc (.cells #[.int .i64 T, .int .i64 bk] 28)) (G5.out.alloc G5.out.size _)
                 (try (have hz5 := HZ4.out.bel b5; have z0 := hz5.cell 0; have z1 := hz5.cell 1; have zf0 := hz5.free 0; have zf1 := hz5.free 1; have HZ5 := Lib.hid hz5; clear hz5))
                 (try (have hz5 := (Bk.new w4 [.int .i64 0, .int .i64 0] 28).bel b5; have z0 := hz5.cell 0; have z1 := hz5.cell 1; have zf0 := hz5.free 0; have zf1 := hz5.free 1; have HZ5 := Lib.hid hz5; clear hz5))
                 clear b5)
              | fail)
          all_goals first
            | (obtain ⟨W8, hW8⟩ : ∃ W8, (w5.setCell ⟨wr.heap.size, 0, none⟩ (.int .i64 T)).setCell ⟨wr.heap.size, 1, none⟩ (.int .i64 bk) = W8 := ⟨_, rfl⟩
               have hb8 : Below wr.heap.size wr W8 := by rw [← hW8]; exact (G5.out.setCell (by simp) _).setCell (by simp) _
               have hz8 : Bk W8 wr.heap.size [.int .i64 T, .int .i64 bk] 28 := by rw [← hW8]; exact (HZ5.out.set 0 _).set 1 _
               rw [hW8]
               generalize wr.heap.size = a8 at hz8 ⊢
               have H8 := Lib.hid hb8
               have HZ8 := Lib.hid hz8)
            | (obtain ⟨W8, hW8⟩ : ∃ W8, (w5.setCell ⟨w4.heap.size, 0, none⟩ (.int .i64 T)).setCell ⟨w4.heap.size, 1, none⟩ (.int .i64 bk) = W8 := ⟨_, rfl⟩
               have hb8 : Below wr.heap.size wr W8 := by rw [← hW8]; exact (G5.out.setCell (by have := G4.out.size; simp; omega) _).setCell (by have := G4.out.size; simp; omega) _
               have hz8 : Bk W8 w4.heap.size [.int .i64 T, .int .i64 bk] 28 := by rw [← hW8]; exact (HZ5.out.set 0 _).set 1 _
               rw [hW8]
               generalize w4.heap.size = a8 at hz8 ⊢
               have H8 := Lib.hid hb8
               have HZ8 := Lib.hid hz8)
            | (obtain ⟨W8, hW8⟩ : ∃ W8, w5.alloc (.cells #[.int .i64 T, .int .i64 bk] 28) = W8 := ⟨_, rfl⟩
               have hb8 : Below wr.heap.size wr W8 := by rw [← hW8]; exact G5.out.alloc G5.out.size _
               have hz8 : Bk W8 w5.heap.size [.int .i64 T, .int .i64 bk] 28 := by rw [← hW8]; exact Bk.new w5 _ _
               rw [hW8]
               generalize w5.heap.size = a8 at hz8 ⊢
               have H8 := Lib.hid hb8
               have HZ8 := Lib.hid hz8)
            | fail
          all_goals
            clear hW8 hb8 hz8
            (try clear z0 z1 zf0 zf1)
            have x0 := HZ8.out.cell 0
            have x1 := HZ8.out.cell 1
            have q1 : IntKind.i64.wrap (2 * T) = 2 * T := IntWalk.i64_in _ (by omega)
            have G9 := Lib.hid (H8.out.alloc H8.out.size (.cells #[.int .i64 (2 * T), .int .i64 bk] 28))
            have CP := Lib.hid (compare_any X 1 (2 * T) bk (W8.alloc (.cells #[.int .i64 (2 * T), .int .i64 bk] 28)) (by omega) (by omega) (by omega) (by omega))
            generalize hcm : cmpR X 1 (2 * T) bk = cm at *
            clear hcm
            go_wp2_with fail
            refine CP.out.mono ?_
            rintro e w9 ⟨rfl, b9⟩
            have G9' : Hid (Below wr.heap.size wr w9) := Lib.hid (G9.out.trans (b9.mono G9.out.size))
            clear b9 CP
            have HI9 := Lib.hid (HOI.out.bel G9'.out)
            have hrow : (w9.alloc (.cells #[.string k] 9)).ownsRow 0 9 1 u10 ((ks.take j).filter (oddB A pe bk wd now fl)).length (((ks.take j).filter (oddB A pe bk wd now fl)).flatMap tC) := by
              rw [tC_flat]
              exact (Fr.of_bel (S := none') ((Below.refl _ _).alloc (Nat.le_refl _) _)).row HI9.out.tx (fun _ _ => id)
            have HROW := Lib.hid hrow
            clear hrow
            go_wp2_with (at_builtin; refine wpList_append_m tLen tOne _ rfl (.tmp 65) (.tmp 67) _ rfl 9 i0 _ 16 Try.underlying30 hi0 hz0 hz1 hz2 rfl (by decide) (by omega) u10 ((ks.take j).filter (oddB A pe bk wd now fl)) [k] rfl HROW.out (some ⟨w9.heap.size, 0, none⟩) 1 1 rfl rfl (inw_one (f := tC) (sz := 1) (x := k) (Bk.new w9 (tC k) 9)) HLN.out ?_; intro v7 w7 o7 f7 h7; have O7 := Lib.hid o7; have F7 := Lib.hid f7; have H7 := Lib.hid h7; clear o7 f7 h7)
            go_roundw
            case rel => exact ⟨j + 1, by omega, by go_num, by rw [HTK.out, if_pos HOF.out]; exact (HI9.out.bel ((Below.refl _ _).alloc (Nat.le_refl _) _)).more O7.out F7.out H7.out⟩
            case measure => simp [intOf]; omega
        · have HOF : Hid (oddB A pe bk wd now fl k = false) := Lib.hid (by rw [HOB.out, decide_eq_true c1, decide_eq_false c2]; rfl)
          have c3 : ¬ 0 < cmpR X 1 (2 * T) bk := fun c => c2 (HCM.out.1 c)
          have t1 : decide (fl ≤ X) = true := decide_eq_true c1
          clear HCM HOB c2
          go_wp2_with fail
          go_region_held3 (fun X => X.cell? ⟨N, 0, none⟩ = some (.int .i64 pe) ∧ X.cell? ⟨N, 1, none⟩ = some (.int .i64 bk)) (first | assumption | go_keep)
            (first
              | (go_at_call 12
                 (with_reducible refine (HNO.out _ (by first | exact G0.out | exact G1.out)).mono ?_)
                 rintro e w4 ⟨rfl, b4⟩
                 have G4 : Hid (Below wr.heap.size wr w4) := Lib.hid (by first | exact G0.out.trans (b4.mono G0.out.size) | exact G1.out.trans (b4.mono G1.out.size))
                 have hS4 := HBX.out _ G4.out
                 (try (have hz4 := HZ0.out.bel b4; have HZ4 := Lib.hid hz4; clear hz4))
                 have G4A := Lib.hid (G4.out.alloc G4.out.size (.cells #[.int .i64 0, .int .i64 0] 28))
                 have hS4A := HBX.out _ G4A.out
                 clear b4)
              | (go_at_call 13
                 (with_reducible refine (HUS.out _ (by first | exact G4.out | exact G4A.out)).mono ?_)
                 rintro e w5 ⟨rfl, b5⟩
                 have G5 : Hid (Below wr.heap.size wr w5) := Lib.hid (by first | exact G4.out.trans (b5.mono G4.out.size) | exact G4A.out.trans (b5.mono G4A.out.size))
                 have hS5 := HBX.out _ G5.out
                 have hS5A := HBX.out _ (G5.out.alloc G5.out.size (.cells #[.int .i64 0, .int .i64 0] 28))
                 have hS6a := HBX.out ((w5.setCell ⟨wr.heap.size, 0, none⟩ (.int .i64 T)).setCell ⟨wr.heap.size, 1, none⟩ (.int .i64 bk)) ((G5.out.setCell (by simp) _).setCell (by simp) _)
                 have hS6b := HBX.out ((w5.setCell ⟨w4.heap.size, 0, none⟩ (.int .i64 T)).setCell ⟨w4.heap.size, 1, none⟩ (.int .i64 bk)) ((G5.out.setCell (by have := G4.out.size; simp; omega) _).setCell (by have := G4.out.size; simp; omega) _)
                 have hS6c := HBX.out (w5.alloc (.cells #[.int .i64 T, .int .i64 bk] 28)) (G5.out.alloc G5.out.size _)
                 (try (have hz5 := HZ4.out.bel b5; have z0 := hz5.cell 0; have z1 := hz5.cell 1; have zf0 := hz5.free 0; have zf1 := hz5.free 1; have HZ5 := Lib.hid hz5; clear hz5))
                 (try (have hz5 := (Bk.new w4 [.int .i64 0, .int .i64 0] 28).bel b5; have z0 := hz5.cell 0; have z1 := hz5.cell 1; have zf0 := hz5.free 0; have zf1 := hz5.free 1; have HZ5 := Lib.hid hz5; clear hz5))
                 clear b5)
              | fail)
          all_goals first
            | (obtain ⟨W8, hW8⟩ : ∃ W8, (w5.setCell ⟨wr.heap.size, 0, none⟩ (.int .i64 T)).setCell ⟨wr.heap.size, 1, none⟩ (.int .i64 bk) = W8 := ⟨_, rfl⟩
               have hb8 : Below wr.heap.size wr W8 := by rw [← hW8]; exact (G5.out.setCell (by simp) _).setCell (by simp) _
               have hz8 : Bk W8 wr.heap.size [.int .i64 T, .int .i64 bk] 28 := by rw [← hW8]; exact (HZ5.out.set 0 _).set 1 _
               rw [hW8]
               generalize wr.heap.size = a8 at hz8 ⊢
               have H8 := Lib.hid hb8
               have HZ8 := Lib.hid hz8)
            | (obtain ⟨W8, hW8⟩ : ∃ W8, (w5.setCell ⟨w4.heap.size, 0, none⟩ (.int .i64 T)).setCell ⟨w4.heap.size, 1, none⟩ (.int .i64 bk) = W8 := ⟨_, rfl⟩
               have hb8 : Below wr.heap.size wr W8 := by rw [← hW8]; exact (G5.out.setCell (by have := G4.out.size; simp; omega) _).setCell (by have := G4.out.size; simp; omega) _
               have hz8 : Bk W8 w4.heap.size [.int .i64 T, .int .i64 bk] 28 := by rw [← hW8]; exact (HZ5.out.set 0 _).set 1 _
               rw [hW8]
               generalize w4.heap.size = a8 at hz8 ⊢
               have H8 := Lib.hid hb8
               have HZ8 := Lib.hid hz8)
            | (obtain ⟨W8, hW8⟩ : ∃ W8, w5.alloc (.cells #[.int .i64 T, .int .i64 bk] 28) = W8 := ⟨_, rfl⟩
               have hb8 : Below wr.heap.size wr W8 := by rw [← hW8]; exact G5.out.alloc G5.out.size _
               have hz8 : Bk W8 w5.heap.size [.int .i64 T, .int .i64 bk] 28 := by rw [← hW8]; exact Bk.new w5 _ _
               rw [hW8]
               generalize w5.heap.size = a8 at hz8 ⊢
               have H8 := Lib.hid hb8
               have HZ8 := Lib.hid hz8)
            | fail
          all_goals
            clear hW8 hb8 hz8
            (try clear z0 z1 zf0 zf1)
            have x0 := HZ8.out.cell 0
            have x1 := HZ8.out.cell 1
            have q1 : IntKind.i64.wrap (2 * T) = 2 * T := IntWalk.i64_in _ (by omega)
            have G9 := Lib.hid (H8.out.alloc H8.out.size (.cells #[.int .i64 (2 * T), .int .i64 bk] 28))
            have CP := Lib.hid (compare_any X 1 (2 * T) bk (W8.alloc (.cells #[.int .i64 (2 * T), .int .i64 bk] 28)) (by omega) (by omega) (by omega) (by omega))
            generalize hcm : cmpR X 1 (2 * T) bk = cm at *
            clear hcm
            go_wp2_with fail
            refine CP.out.mono ?_
            rintro e w9 ⟨rfl, b9⟩
            have G9' : Hid (Below wr.heap.size wr w9) := Lib.hid (G9.out.trans (b9.mono G9.out.size))
            clear b9 CP
            go_wp2_with fail
            go_roundw
            case rel => exact ⟨j + 1, by omega, by go_num, by rw [HTK.out, if_neg (by rw [HOF.out]; simp), List.append_nil]; exact HOI.out.bel G9'.out⟩
            case measure => simp [intOf]; omega
      · have HOF : Hid (oddB A pe bk wd now fl k = false) := Lib.hid (by rw [HOB.out, decide_eq_false c1]; rfl)
        have t1 : decide (fl ≤ X) = false := decide_eq_false c1
        clear HCM HOB
        go_wp2_with fail
        go_region_held3 (fun X => X.cell? ⟨N, 0, none⟩ = some (.int .i64 pe) ∧ X.cell? ⟨N, 1, none⟩ = some (.int .i64 bk)) (first | assumption | go_keep)
          (first
            | (go_at_call 12
               (with_reducible refine (HNO.out _ (by first | exact G0.out | exact G1.out)).mono ?_)
               rintro e w4 ⟨rfl, b4⟩
               have G4 : Hid (Below wr.heap.size wr w4) := Lib.hid (by first | exact G0.out.trans (b4.mono G0.out.size) | exact G1.out.trans (b4.mono G1.out.size))
               have hS4 := HBX.out _ G4.out
               (try (have hz4 := HZ0.out.bel b4; have HZ4 := Lib.hid hz4; clear hz4))
               have G4A := Lib.hid (G4.out.alloc G4.out.size (.cells #[.int .i64 0, .int .i64 0] 28))
               have hS4A := HBX.out _ G4A.out
               clear b4)
            | (go_at_call 13
               (with_reducible refine (HUS.out _ (by first | exact G4.out | exact G4A.out)).mono ?_)
               rintro e w5 ⟨rfl, b5⟩
               have G5 : Hid (Below wr.heap.size wr w5) := Lib.hid (by first | exact G4.out.trans (b5.mono G4.out.size) | exact G4A.out.trans (b5.mono G4A.out.size))
               have hS5 := HBX.out _ G5.out
               have hS5A := HBX.out _ (G5.out.alloc G5.out.size (.cells #[.int .i64 0, .int .i64 0] 28))
               have hS6a := HBX.out ((w5.setCell ⟨wr.heap.size, 0, none⟩ (.int .i64 T)).setCell ⟨wr.heap.size, 1, none⟩ (.int .i64 bk)) ((G5.out.setCell (by simp) _).setCell (by simp) _)
               have hS6b := HBX.out ((w5.setCell ⟨w4.heap.size, 0, none⟩ (.int .i64 T)).setCell ⟨w4.heap.size, 1, none⟩ (.int .i64 bk)) ((G5.out.setCell (by have := G4.out.size; simp; omega) _).setCell (by have := G4.out.size; simp; omega) _)
               have hS6c := HBX.out (w5.alloc (.cells #[.int .i64 T, .int .i64 bk] 28)) (G5.out.alloc G5.out.size _)
               (try (have hz5 := HZ4.out.bel b5; have z0 := hz5.cell 0; have z1 := hz5.cell 1; have zf0 := hz5.free 0; have zf1 := hz5.free 1; have HZ5 := Lib.hid hz5; clear hz5))
               (try (have hz5 := (Bk.new w4 [.int .i64 0, .int .i64 0] 28).bel b5; have z0 := hz5.cell 0; have z1 := hz5.cell 1; have zf0 := hz5.free 0; have zf1 := hz5.free 1; have HZ5 := Lib.hid hz5; clear hz5))
               clear b5)
            | fail)
        all_goals first
          | (obtain ⟨W8, hW8⟩ : ∃ W8, (w5.setCell ⟨wr.heap.size, 0, none⟩ (.int .i64 T)).setCell ⟨wr.heap.size, 1, none⟩ (.int .i64 bk) = W8 := ⟨_, rfl⟩
             have hb8 : Below wr.heap.size wr W8 := by rw [← hW8]; exact (G5.out.setCell (by simp) _).setCell (by simp) _
             have hz8 : Bk W8 wr.heap.size [.int .i64 T, .int .i64 bk] 28 := by rw [← hW8]; exact (HZ5.out.set 0 _).set 1 _
             rw [hW8]
             generalize wr.heap.size = a8 at hz8 ⊢
             have H8 := Lib.hid hb8
             have HZ8 := Lib.hid hz8)
          | (obtain ⟨W8, hW8⟩ : ∃ W8, (w5.setCell ⟨w4.heap.size, 0, none⟩ (.int .i64 T)).setCell ⟨w4.heap.size, 1, none⟩ (.int .i64 bk) = W8 := ⟨_, rfl⟩
             have hb8 : Below wr.heap.size wr W8 := by rw [← hW8]; exact (G5.out.setCell (by have := G4.out.size; simp; omega) _).setCell (by have := G4.out.size; simp; omega) _
             have hz8 : Bk W8 w4.heap.size [.int .i64 T, .int .i64 bk] 28 := by rw [← hW8]; exact (HZ5.out.set 0 _).set 1 _
             rw [hW8]
             generalize w4.heap.size = a8 at hz8 ⊢
             have H8 := Lib.hid hb8
             have HZ8 := Lib.hid hz8)
          | (obtain ⟨W8, hW8⟩ : ∃ W8, w5.alloc (.cells #[.int .i64 T, .int .i64 bk] 28) = W8 := ⟨_, rfl⟩
             have hb8 : Below wr.heap.size wr W8 := by rw [← hW8]; exact G5.out.alloc G5.out.size _
             have hz8 : Bk W8 w5.heap.size [.int .i64 T, .int .i64 bk] 28 := by rw [← hW8]; exact Bk.new w5 _ _
             rw [hW8]
             generalize w5.heap.size = a8 at hz8 ⊢
             have H8 := Lib.hid hb8
             have HZ8 := Lib.hid hz8)
          | fail
        all_goals
          clear hW8 hb8 hz8
          (try clear z0 z1 zf0 zf1)
          have x0 := HZ8.out.cell 0
          have x1 := HZ8.out.cell 1
          have q1 : IntKind.i64.wrap (2 * T) = 2 * T := IntWalk.i64_in _ (by omega)
          have G9 := Lib.hid (H8.out.alloc H8.out.size (.cells #[.int .i64 (2 * T), .int .i64 bk] 28))
          have CP := Lib.hid (compare_any X 1 (2 * T) bk (W8.alloc (.cells #[.int .i64 (2 * T), .int .i64 bk] 28)) (by omega) (by omega) (by omega) (by omega))
          go_wp2_with fail
          go_roundw
          case rel => exact ⟨j + 1, by omega, by go_num, by rw [HTK.out, if_neg (by rw [HOF.out]; simp), List.append_nil]; exact HOI.out.bel G9.out⟩
          case measure => simp [intOf]; omega
    · obtain rfl : j = kn := by omega
      have htk : ks.take j = ks := List.take_of_length_le (by rw [Hkn.out]; exact Nat.le_refl _)
      go_wp2_with fail
      go_ret
      refine ⟨_, _, rfl, OddsOf.of HO3.out, ?_, fun b hb => Nat.le_trans HB3.out.size (HOI.out.nw b hb), HB3.out.trans (HOI.out.bl.mono HB3.out.size)⟩
      have := HOI.out.tx
      rw [htk] at this
      exact this
end Go.Proofs.Ytlmonbclloamiaa

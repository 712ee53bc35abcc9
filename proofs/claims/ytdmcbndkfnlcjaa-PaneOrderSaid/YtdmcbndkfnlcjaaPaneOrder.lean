/- For every input ciceronelaw09.PaneOrder returns true, and its arguments read behind the call as before. No conditions. -/
import Derived.Test.YtdmcbndkfnlcjaaPTwo
import Derived.Test.YtdmcbndkfnlcjaaSub
import Derived.Test.YtdmcbndkfnlcjaaRows
import Derived.ProofKit
import Derived.OpenShut
import Derived.ShutString
import Derived.ChangeOld
import Derived.Below
import Derived.Lib.SmallJoins
namespace Go.Proofs.Ytdmcbndkfnlcjaa.paneOrder
open Go.ChangeShapes Go.WideShapes Go.ChangeAt Go.RowKit Go.Joins
open Go.ChangeMaps (open_string shut_string)
set_option linter.unusedVariables false

theorem actLen (a : Act9) : (actC a).length = 4 := rfl
theorem actOne (a : Act9) : ∀ u ∈ actC a, u.oneCell' = true := fun u hu => by
  simp only [actC, List.mem_cons, List.not_mem_nil, or_false] at hu
  rcases hu with rfl | rfl | rfl | rfl <;> rfl
theorem infoAct : (Try.prog.info? 29).map (fun i => (i.zero, i.size, i.bytes)) = some (some (.agg #[.int .i64 0, .string ⟨#[]⟩, .int .i64 0, .int .i64 0]), 4, 40) := by kernel_rfl
theorem psum_turn (wd : Int) (xs : List Act9) (k : Nat) (key : ByteArray) (lo hi : Int) : psum (adds wd (xs.drop k ++ xs.take k)) key lo hi = psum (adds wd xs) key lo hi := by
  conv => rhs; rw [← List.take_append_drop k xs]
  rw [adds_append, adds_append, psum_append, psum_append]; omega
set_option maxHeartbeats 8000000 in
set_option maxRecDepth 100000 in
theorem walk (w : World) (wi : Int) (wk : (Lit.int .i64 wi).wf = true) (b : Option Addr) (cap : Nat) (xs : List Act9) (hl : xs.length ≤ cap) (hm : cap ≤ maxLen) (hi : InW w b 4 (xs.map actC)) (ho : ∀ a ∈ xs, actOk a)
    (tn : Int) (htn : (Lit.int .i64 tn).wf = true) (f : Int) (hf : (Lit.int .i64 f).wf = true) (t : Int) (ht : (Lit.int .i64 t).wf = true) :
    Calls Try.prog 5 #[.int .i64 wi, .slice b xs.length cap, .int .i64 tn, .int .i64 f, .int .i64 t] w fun e w' => e = .returned (.bool true) ∧ Below w.heap.size w w' := by
  have HA := Lib.hid (awake_any w)
  have HF := Lib.hid (fun w' hb => few_any b cap xs w' (InW.bel (W' := w') hi hb) hm hl ho)
  have hwi := i64_wf wk
  have hfi := i64_wf hf
  have hti := i64_wf ht
  have htni := i64_wf htn
  clear wk hf ht htn
  unfold maxLen at hm
  cases hfew : fewB xs with
  | false =>
    rw [hfew] at HF
    generalize xs.length = n at *
    go_enter Try.func5, Try.ntmps5
    go_wp2_with fail
    refine HA.out.mono ?_
    rintro e w1 ⟨rfl, b1⟩
    have HF2 := Lib.hid (HF.out w1 b1)
    have HB1 := Lib.hid b1
    clear b1 HA HF
    go_wp2_with fail
    refine HF2.out.mono ?_
    rintro e wx ⟨rfl, rfl⟩
    go_wp2_with fail
    go_ret
    exact ⟨rfl, HB1.out⟩
  | true =>
    rw [hfew] at HF
    obtain ⟨hn101, hk100⟩ := few_of hfew
    have HIn := Lib.hid hi
    have HK := Lib.hid hk100
    have HO := Lib.hid ho
    clear hfew hi hk100 ho
    generalize hn : xs.length = n at *
    have Hn := Lib.hid hn
    clear hn
    by_cases hturn : 0 ≤ tn ∧ tn ≤ n
    · obtain ⟨k, rfl⟩ : ∃ k : Nat, tn = k := ⟨tn.toNat, by omega⟩
      have hkn : k ≤ n := by omega
      have t1 : decide ((k : Int) < 0) = false := decide_eq_false (by omega)
      have t2 : decide ((n : Int) < (k : Int)) = false := decide_eq_false (by omega)
      have t3 : decide (n < k) = false := decide_eq_false (by omega)
      obtain ⟨i0, hi0, hz0, hz1, hz2⟩ := info_parts infoAct
      have hs1 := fun W => run_slice_from (P := Try.prog) W 22 29 b n cap k 4 Try.underlying22 ⟨i0, hi0, hz1⟩ hkn
      have hs2 := fun W => run_slice_to (P := Try.prog) W 22 29 b n cap k 4 Try.underlying22 ⟨i0, hi0, hz1⟩ (by omega)
      have HS1 := Lib.hid hs1
      have HS2 := Lib.hid hs2
      have HSI : Hid (∀ W, Below w.heap.size w W → InW W (subB b cap k 4) 4 ((xs.drop k).map actC) ∧ InW W b 4 ((xs.take k).map actC)) := Lib.hid (fun W hb => by
        have h := InW.bel HIn.out hb
        rw [List.map_drop, List.map_take]
        exact ⟨subB_inw h (by rw [List.length_map]; have := Hn.out; omega), h.take k⟩)
      clear hs1 hs2 hturn
      go_enter Try.func5, Try.ntmps5
      go_wp2_with fail
      refine HA.out.mono ?_
      rintro e w1 ⟨rfl, b1⟩
      have HF2 := Lib.hid (HF.out w1 b1)
      have HB1 := Lib.hid b1
      clear b1 HA HF
      go_wp2_with fail
      refine HF2.out.mono ?_
      rintro e wx ⟨rfl, rfl⟩
      clear HF2
      have HN1 := Lib.hid (new_pane wi w1 hwi)
      go_wp2_with fail
      refine HN1.out.mono ?_
      rintro e w2 ⟨rfl, p2, b2, z2⟩
      have HN2 := Lib.hid (new_pane wi w2 hwi)
      clear HN1
      go_wp2_with fail
      refine HN2.out.mono ?_
      rintro e w3 ⟨rfl, p3, b3, z3⟩
      have hwd := wdOf_in wi
      generalize wdOf wi = wd at *
      obtain ⟨ys, hys⟩ : ∃ ys, xs.drop k ++ xs.take k = ys := ⟨_, rfl⟩
      have HYS := Lib.hid hys
      have HYL : Hid (ys.length = n) := Lib.hid (by rw [← hys]; have := Hn.out; simp; omega)
      clear hys
      have HB3 : Hid (Below w.heap.size w w3) := Lib.hid ((HB1.out.trans (b2.mono HB1.out.size)).trans (b3.mono (by have := HB1.out.size; omega)))
      have H0 : Hid (∃ B1 B2, PaneAt w3 (w1.heap.size + 2) B1 wd (adds wd (xs.take 0)).length (adds wd (xs.take 0)) ∧ PaneAt w3 (w2.heap.size + 2) B2 wd (adds wd (ys.take 0)).length (adds wd (ys.take 0)) ∧ Apart B1 B2 ∧ Above w.heap.size B1 ∧ Above w.heap.size B2) := Lib.hid (by
        have hs1 := HB1.out.size
        refine ⟨_, _, p2.bel b3, p3, fun b hb hc => ?_, fun b hb => ?_, fun b hb => ?_⟩
        · simp at hb hc; omega
        · simp at hb; omega
        · simp at hb; omega)
      clear HN2 p2 p3 b2 b3 z2 z3 HB1
      generalize w1.heap.size + 2 = P1 at *
      generalize w2.heap.size + 2 = P2 at *
      have HL1 : Hid ((xs.drop k).length = n - k ∧ (xs.take k).length = k) := Lib.hid (by have := Hn.out; simp; omega)
      have hs1 := HS1.out
      have hs2 := HS2.out
      generalize subB b cap k 4 = sb at *
      go_wp2_with fail
      have HLN : Hid (([] : List Act9).length + (xs.drop k).length ≤ 1000000 ∧ ([] ++ xs.drop k).length + (xs.take k).length ≤ 1000000) := Lib.hid (by have := Hn.out; simp; omega)
      have HW4 : Hid (Below w.heap.size w (w3.alloc (.cells #[] 29)).drew) := Lib.hid (HB3.out.alloc HB3.out.size _).drew
      have HO4 : Hid ((w3.alloc (.cells #[] 29)).drew.ownsRow 0 29 4 (.slice (some ⟨w3.heap.size, 0, none⟩) 0 0) ([] : List Act9).length (([] : List Act9).flatMap actC)) := Lib.hid ⟨rfl, .inr ⟨w3.heap.size, 0, #[], rfl, Nat.zero_le _, Bk.new w3 [] 29, Nat.le_refl _, Nat.zero_le _, rfl, rfl⟩⟩
      go_region_held3 (fun _ => True) (trivial)
        (first
          | (refine step_append_m actLen actOne (by rfl) (.tmp 42) (.tmp 45) _ (by rfl) 29 i0 _ 40 Try.underlying22 hi0 hz0 hz1 hz2 rfl (by decide) (by omega) (.slice (some ⟨w3.heap.size, 0, none⟩) 0 0) [] (xs.drop k) (by rfl) HO4.out sb (n - k) (cap - k) (by rfl) HL1.out.1.symm (HSI.out _ HW4.out).1 HLN.out.1 ?_
             intro v5 w5 o5 f5 h5
             have O5 := Lib.hid o5
             have F5 := Lib.hid f5
             have H5 := Lib.hid h5
             have HW5 : Hid (Below w.heap.size w w5) := Lib.hid (Fr.belOf HW4.out f5 (fun b hb => by
               have hb' : w3.heap.size = b := by simpa [Value.ownBlock] using hb
               have := HB3.out.size; omega))
             clear o5 f5 h5)
          | (refine step_append_m actLen actOne (by rfl) (.tmp 46) (.tmp 49) _ (by rfl) 29 i0 _ 40 Try.underlying22 hi0 hz0 hz1 hz2 rfl (by decide) (by omega) v5 ([] ++ xs.drop k) (xs.take k) (by rfl) O5.out b k cap (by rfl) HL1.out.2.symm (HSI.out _ HW5.out).2 HLN.out.2 ?_
             intro v6 w6 o6 f6 h6
             have O6 := Lib.hid o6
             have F6 := Lib.hid f6
             have H6 := Lib.hid h6
             clear o6 f6 h6)
          | fail)
      have HI6 : Hid (∃ B1 B2, PaneAt w6 P1 B1 wd (adds wd (xs.take 0)).length (adds wd (xs.take 0)) ∧ PaneAt w6 P2 B2 wd (adds wd (ys.take 0)).length (adds wd (ys.take 0)) ∧ Apart B1 B2 ∧ Above w.heap.size B1 ∧ Above w.heap.size B2 ∧ Below w.heap.size w w6 ∧ w6.ownsRow 0 29 4 v6 ys.length (ys.flatMap actC) ∧ Apart B1 v6.ownBlock.toList ∧ Apart B2 v6.ownBlock.toList) := Lib.hid (by
        obtain ⟨B1, B2, q1, q2, q3, q4, q5⟩ := H0.out
        have g3 := HB3.out.size
        have hlt1 := q1.lt
        have hlt2 := q2.lt
        have hv5 : ∀ b, v5.ownBlock = some b → w3.heap.size ≤ b := fun b hb => by
          rcases H5.out with h | h
          · rw [h] at hb
            have hb' : w3.heap.size = b := by simpa [Value.ownBlock] using hb
            omega
          · rw [h] at hb
            have hb' := Option.some.inj hb
            simp at hb'; omega
        have hz5 : w3.heap.size ≤ w5.heap.size := by have := F5.out.size; simp at this; omega
        have hv6 : ∀ b, v6.ownBlock = some b → w3.heap.size ≤ b := fun b hb => by
          rcases H6.out with h | h
          · exact hv5 b (by rw [← h]; exact hb)
          · rw [h] at hb
            have hb' := Option.some.inj hb
            omega
        have fr : Fr (fun b => w3.heap.size ≤ b) w3 w6 := ((((Fr.refl (fun b => w3.heap.size ≤ b) w3).alloc (.cells #[] 29)).drew).trans F5.out (fun b _ e => by
            have hb' : w3.heap.size = b := by simpa [Value.ownBlock] using e
            omega)).trans F6.out (fun b _ e => hv5 b e)
        have hfl := O6.out
        rw [List.nil_append, HYS.out] at hfl
        refine ⟨B1, B2, q1.fr fr (fun b hb => by have := hlt1 b hb; omega), q2.fr fr (fun b hb => by have := hlt2 b hb; omega), q3, q4, q5, Fr.belOf HB3.out fr (fun b hb => by omega), hfl, fun b hb hc => ?_, fun b hb hc => ?_⟩
        · have := hlt1 b hb
          have := hv6 b (Option.mem_toList.1 hc)
          omega
        · have := hlt2 b hb
          have := hv6 b (Option.mem_toList.1 hc)
          omega)
      clear H0 HB3 HW4 HO4 O5 F5 H5 HW5 O6 F6 H6 hs1 hs2 HS1 HS2 HSI HL1
      have hvm : ∃ bm cm, v6 = .slice bm n cm := by
        obtain ⟨B1, B2, q1, q2, q3, q4, q5, q6, q7, q8⟩ := HI6.out
        obtain ⟨bm, cm, h1, _⟩ := inw_of_rowm actLen (by omega) q7
        exact ⟨bm, cm, by rw [h1, HYL.out]⟩
      obtain ⟨bm, cm, rfl⟩ := hvm
      have HRD : Hid (∀ W : World, W.ownsRow 0 29 4 (.slice bm n cm) ys.length (ys.flatMap actC) → InW W bm 4 (ys.map actC)) := Lib.hid (fun W h => by
        obtain ⟨b', c', h1, _, _, h2, _⟩ := inw_of_rowm actLen (by omega) h
        cases h1
        exact h2)
      have HYM : Hid (∀ a ∈ ys, a ∈ xs) := Lib.hid (fun a ha => by
        rw [← HYS.out] at ha
        rcases List.mem_append.1 ha with h | h
        · exact List.mem_of_mem_drop h
        · exact List.mem_of_mem_take h)
      go_wp2_with fail
      go_loopw [14] (fun c wr => ∃ (i : Nat) (B1 B2 : List Nat), i ≤ n ∧ c = .int .i64 i ∧ PaneAt wr P1 B1 wd (adds wd (xs.take i)).length (adds wd (xs.take i)) ∧ PaneAt wr P2 B2 wd (adds wd (ys.take i)).length (adds wd (ys.take i)) ∧ Apart B1 B2 ∧ Above w.heap.size B1 ∧ Above w.heap.size B2 ∧ Below w.heap.size w wr ∧ wr.ownsRow 0 29 4 (.slice bm n cm) ys.length (ys.flatMap actC) ∧ Apart B1 (Value.slice bm n cm).ownBlock.toList ∧ Apart B2 (Value.slice bm n cm).ownBlock.toList) (fun c _ => n - (intOf c).toNat)
      case atStart =>
        obtain ⟨B1, B2, h⟩ := HI6.out
        exact ⟨0, B1, B2, by omega, rfl, h⟩
      case round =>
        obtain ⟨i, B1, B2, hin, rfl, hp1, hp2, hap, ha1, ha2, hbl, hrow, hm1, hm2⟩ := hrel
        clear HI6
        have HAP := Lib.hid hap
        have HA1 := Lib.hid ha1
        have HA2 := Lib.hid ha2
        have HBL := Lib.hid hbl
        have HRW := Lib.hid hrow
        have HM1 := Lib.hid hm1
        have HM2 := Lib.hid hm2
        clear hap ha1 ha2 hbl hrow hm1 hm2
        by_cases hlt : i < n
        · obtain ⟨a, ha⟩ : ∃ a, xs[i]? = some a := ⟨xs[i]'(by have := Hn.out; omega), List.getElem?_eq_getElem _⟩
          have hmem := List.mem_of_getElem? ha
          have hka := HK.out a hmem
          obtain ⟨_, _, oa1, oa2⟩ := HO.out a hmem
          have HMA := Lib.hid hmem
          have HT : Hid (xs.take (i + 1) = xs.take i ++ [a]) := Lib.hid (by rw [List.take_add_one, ha]; rfl)
          have HL : Hid ((xs.take i).length ≤ 101) := Lib.hid (by have := Hn.out; rw [List.length_take]; omega)
          obtain ⟨B, off, hbb, _, _, c1, c2, c3⟩ := acts_at (InW.bel HIn.out HBL.out) ha
          have HIA : Hid (∀ w', Below w.heap.size w w' → w'.cell? ⟨B, off + i * 4 + 1, none⟩ = some (.string a.2.1) ∧ w'.cell? ⟨B, off + i * 4 + 2, none⟩ = some (.int .i64 a.2.2.1) ∧ w'.cell? ⟨B, off + i * 4 + 3, none⟩ = some (.int .i64 a.2.2.2)) := Lib.hid (fun w' hb' => by
            obtain ⟨B', off', hbb', _, _, d1, d2, d3⟩ := acts_at (InW.bel HIn.out hb') ha
            rw [hbb] at hbb'
            cases hbb'
            exact ⟨d1, d2, d3⟩)
          subst hbb
          clear ha hmem
          have hi0 : (0 : Int) ≤ (i : Int) := by omega
          have hi1 : (i : Int) < (n : Int) := by omega
          obtain ⟨a', ha'⟩ : ∃ a, ys[i]? = some a := ⟨ys[i]'(by have := HYL.out; omega), List.getElem?_eq_getElem _⟩
          have hmem' := HYM.out a' (List.mem_of_getElem? ha')
          have hka' := HK.out a' hmem'
          obtain ⟨_, _, ob1, ob2⟩ := HO.out a' hmem'
          have HT' : Hid (ys.take (i + 1) = ys.take i ++ [a']) := Lib.hid (by rw [List.take_add_one, ha']; rfl)
          have HL' : Hid ((ys.take i).length ≤ 101) := Lib.hid (by have := HYL.out; rw [List.length_take]; omega)
          obtain ⟨Bm, om, hbm, _⟩ := acts_at (HRD.out wr HRW.out) ha'
          have HIM : Hid (∀ W : World, W.ownsRow 0 29 4 (.slice bm n cm) ys.length (ys.flatMap actC) → W.cell? ⟨Bm, om + i * 4 + 1, none⟩ = some (.string a'.2.1) ∧ W.cell? ⟨Bm, om + i * 4 + 2, none⟩ = some (.int .i64 a'.2.2.1) ∧ W.cell? ⟨Bm, om + i * 4 + 3, none⟩ = some (.int .i64 a'.2.2.2)) := Lib.hid (fun W hW => by
            obtain ⟨B', o', hb', _, _, d1, d2, d3⟩ := acts_at (HRD.out W hW) ha'
            rw [hbm] at hb'
            cases hb'
            exact ⟨d1, d2, d3⟩)
          subst hbm
          clear ha' hmem'
          have HAD := Lib.hid (add_act P1 B1 wd (xs.take i) a wr.drew hp1.drew (by have := HL.out; omega) hka oa1 oa2)
          have HP2 := Lib.hid hp2
          have HLT : Hid (∀ b ∈ B2, b < wr.heap.size) := Lib.hid hp2.lt
          have HLM : Hid (∀ b ∈ (Value.slice (some ⟨Bm, om, none⟩) n cm).ownBlock.toList, b < wr.heap.size) := Lib.hid (fun b hb => own_lt HRW.out (Option.mem_toList.1 hb))
          clear hp1 hp2
          go_wp2_with fail
          go_still_tail 16, (by kernel_rfl)
          change wpList _ _ _ _ _ wr.drew
          clear c1 c2 c3
          go_wp2_with fail
          refine HAD.out.mono ?_
          rintro e w4 ⟨rfl, B1', hp4, hf4, hs4⟩
          rw [← HT.out] at hp4
          have HP4 := Lib.hid hp4
          have HQ4 := Lib.hid (HP2.out.drew.beside hf4 HAP.out.symm)
          have HBL4 : Hid (Below w.heap.size w w4) := Lib.hid (bel_step HBL.out.drew hf4 HA1.out)
          have HA14 : Hid (Above w.heap.size B1') := Lib.hid (HA1.out.spread hs4 HBL.out.drew.size)
          have HAP4 : Hid (Apart B1' B2) := Lib.hid (HAP.out.spread hs4 HLT.out)
          have HM4 : Hid (Apart B1' (Value.slice (some ⟨Bm, om, none⟩) n cm).ownBlock.toList) := Lib.hid (HM1.out.spread hs4 HLM.out)
          have HRW4 := Lib.hid (hf4.row (((Fr.refl none' wr).drew).row HRW.out (fun _ _ => id)) (fun b hb hc => HM1.out b hc (Option.mem_toList.2 hb)))
          obtain ⟨d1, d2, d3⟩ := HIM.out w4 HRW4.out
          have HAD2 := Lib.hid (add_act P2 B2 wd (ys.take i) a' w4.drew HQ4.out.drew (by have := HL'.out; omega) hka' ob1 ob2)
          have HLT4 : Hid (∀ b ∈ B1', b < w4.heap.size) := Lib.hid HP4.out.lt
          have HLM4 : Hid (∀ b ∈ (Value.slice (some ⟨Bm, om, none⟩) n cm).ownBlock.toList, b < w4.heap.size) := Lib.hid (fun b hb => own_lt HRW4.out (Option.mem_toList.1 hb))
          clear hp4 hf4 hs4 HAD HP2 HBL HA1 HAP HLT HRW HM1 HLM
          go_wp2_with fail
          go_still_tail 16, (by kernel_rfl)
          change wpList _ _ _ _ _ w4.drew
          clear d1 d2 d3
          go_wp2_with fail
          refine HAD2.out.mono ?_
          rintro e w5 ⟨rfl, B2', hp5, hf5, hs5⟩
          rw [← HT'.out] at hp5
          have HE : Hid (PaneAt w5 P1 B1' wd (adds wd (xs.take (i + 1))).length (adds wd (xs.take (i + 1))) ∧ PaneAt w5 P2 B2' wd (adds wd (ys.take (i + 1))).length (adds wd (ys.take (i + 1))) ∧ Apart B1' B2' ∧ Above w.heap.size B1' ∧ Above w.heap.size B2' ∧ Below w.heap.size w w5 ∧ w5.ownsRow 0 29 4 (.slice (some ⟨Bm, om, none⟩) n cm) ys.length (ys.flatMap actC) ∧ Apart B1' (Value.slice (some ⟨Bm, om, none⟩) n cm).ownBlock.toList ∧ Apart B2' (Value.slice (some ⟨Bm, om, none⟩) n cm).ownBlock.toList) := Lib.hid
            ⟨HP4.out.drew.beside hf5 HAP4.out, hp5, (HAP4.out.symm.spread hs5 HLT4.out).symm, HA14.out, HA2.out.spread hs5 HBL4.out.drew.size, bel_step HBL4.out.drew hf5 HA2.out, hf5.row (((Fr.refl none' w4).drew).row HRW4.out (fun _ _ => id)) (fun b hb hc => HM2.out b hc (Option.mem_toList.2 hb)), HM4.out, HM2.out.spread hs5 HLM4.out⟩
          clear hp5 hf5 hs5 HAD2 HP4 HQ4 HBL4 HA14 HAP4 HLT4 HLM4 HRW4 HM4
          go_wp2_with fail
          go_roundw
          case rel => exact ⟨i + 1, B1', B2', by omega, by go_num, HE.out⟩
          case measure => simp [intOf]; omega
        · obtain rfl : i = n := by omega
          have htk : xs.take i = xs := List.take_of_length_le (by have := Hn.out; omega)
          have htk' : ys.take i = ys := List.take_of_length_le (by have := HYL.out; omega)
          rw [htk] at hp1
          rw [htk'] at hp2
          have HP1 := Lib.hid hp1
          have HP2 := Lib.hid hp2
          have HPE : Hid (∀ key lo hi, psum (adds wd ys) key lo hi = psum (adds wd xs) key lo hi) := Lib.hid (fun key lo hi => by rw [← HYS.out]; exact psum_turn wd xs k key lo hi)
          have K1 := Lib.hid (keys_any P1 B1 wd _ _ f t wr hp1 hfi hti)
          have HOK := Lib.hid (adds_ok wd hwd.1 xs)
          have HL1 : Hid ((adds wd xs).length ≤ 101) := Lib.hid (by have := adds_length wd xs; have := Hn.out; omega)
          clear hp1 hp2 htk htk'
          go_wp2_with fail
          refine K1.out.mono ?_
          rintro e w6 ⟨v1, ks, rfl, hk1, ht1, hn1, hb6⟩
          have HP6 := Lib.hid (HP1.out.bel hb6)
          have HQ6 := Lib.hid (HP2.out.bel hb6)
          have HK1 := Lib.hid hk1
          have HT1 := Lib.hid ht1
          have HB6 : Hid (Below w.heap.size w w6) := Lib.hid (HBL.out.trans (hb6.mono HBL.out.size))
          have K2 := Lib.hid (keys_any P2 B2 wd _ _ f t w6 HQ6.out hfi hti)
          clear K1 hk1 ht1 hn1 hb6 HP1 HP2
          go_wp2_with fail
          refine K2.out.mono ?_
          rintro e w7 ⟨v2, ks2, rfl, hk2, ht2, hn2, hb7⟩
          have HB7 : Hid (Below w.heap.size w w7) := Lib.hid (HB6.out.trans (hb7.mono HB6.out.size))
          have heq : ks = ks2 := HK1.out.uniq hk2 (fun key => (HPE.out key _ _).symm)
          subst heq
          have hkl : ks.length ≤ 101 := by have := (HK1.out.mem HOK.out).1; have := HL1.out; omega
          have HKS : Hid (∀ k ∈ ks, k.size ≤ 24) := Lib.hid (HK1.out.mem HOK.out).2
          have ht1' : TextsAt w7 v1 ks := (Fr.of_bel (S := none') hb7).row HT1.out (fun _ _ => id)
          obtain ⟨bb1, cc1, rfl, hq1, hq2, hs1⟩ := ht1'.strs
          obtain ⟨bb2, cc2, rfl, _, _, hs2⟩ := ht2.strs
          have HX := Lib.hid (texts_any bb1 bb2 ks.length ks.length cc1 cc2 ks ks w7 hs1 hs2 rfl rfl (by omega) (by omega))
          rw [show decide (ks = ks) = true by simp] at HX
          have HP7 := Lib.hid (HP6.out.bel hb7)
          have HQ7 := Lib.hid (HQ6.out.bel hb7)
          have HST := Lib.hid hs1
          clear K2 hk2 ht2 hn2 hb7 ht1' hs1 hs2 HK1 HT1 HP6 HQ6 HBL
          generalize hkn : ks.length = kn at *
          have Hkn := Lib.hid hkn
          clear hkn
          go_wp2_with fail
          refine HX.out.mono ?_
          rintro e w8 ⟨rfl, q, rfl⟩
          clear HX
          go_wp2_with fail
          go_loopw [16] (fun c wv => ∃ (j z : Nat), j ≤ kn ∧ c = .int .i64 j ∧ wv = w7.drewN z) (fun c _ => kn - (intOf c).toNat)
          case atStart => exact ⟨0, q, by omega, rfl, rfl⟩
          case round =>
            obtain ⟨j, z, hj, rfl, rfl⟩ := hrel
            by_cases hjt : j < kn
            · obtain ⟨x, hx⟩ : ∃ x, ks[j]? = some x := ⟨ks[j]'(by have := Hkn.out; omega), List.getElem?_eq_getElem _⟩
              obtain ⟨Bx, ox, rfl, _, e1⟩ := HST.out.at hx
              have hxs := HKS.out x (List.mem_of_getElem? hx)
              have S1 := Lib.hid (fun m => sum_any P1 B1 wd _ _ x f t ((w7.drewN z).drewN m) ((HP7.out.drewN z).drewN m) (by omega) hfi hti)
              have S2 := Lib.hid (fun m => sum_any P2 B2 wd _ _ x f t ((w7.drewN z).drewN m) ((HQ7.out.drewN z).drewN m) (by omega) hfi hti)
              rw [HPE.out] at S2
              have S3 : Hid (∀ (m Q : Nat), Q = P1 ∨ Q = P2 → Calls Try.prog 16 #[.pointer (some ⟨Q, 0, none⟩), .string x, .int .i64 f, .int .i64 t] ((w7.drewN z).drewN m) fun e w' => e = .returned (.int .i64 (psum (adds wd xs) x (f / wd) (t / wd))) ∧ (w7.drewN z).drewN m = w') := Lib.hid (fun m Q hQ => by
                rcases hQ with rfl | rfl
                · exact S1.out m
                · exact S2.out m)
              clear S1 S2
              have e2 : (w7.drewN z).cell? ⟨Bx, ox + j, none⟩ = some (.string x) := e1
              have hi0 : (0 : Int) ≤ (j : Int) := by omega
              have hi1 : (j : Int) < (kn : Int) := by omega
              clear hx e1
              generalize psum (adds wd xs) x (f / wd) (t / wd) = Z at *
              generalize hW : w7.drewN z = V at *
              have HW := Lib.hid hW
              clear hW
              go_wp2_with fail
              go_quiet ((go_at_call 16; exact quiet_same (S3.out _ _ (by first | exact .inl rfl | exact .inr rfl))))
              go_wp2_with fail
              go_roundw
              case rel => exact ⟨j + 1, z + nq, by omega, by go_num, by rw [← HW.out]; simp⟩
              case measure => simp [intOf]; omega
            · obtain rfl : j = kn := by omega
              go_wp2_with fail
              go_ret
              exact ⟨rfl, Fr.belOf HB7.out ((Fr.refl none' w7).drewN z) (fun _ h => h.elim)⟩
    · go_enter Try.func5, Try.ntmps5
      go_wp2_with fail
      refine HA.out.mono ?_
      rintro e w1 ⟨rfl, b1⟩
      have HF2 := Lib.hid (HF.out w1 b1)
      have HB1 := Lib.hid b1
      clear b1 HA HF
      go_wp2_with fail
      refine HF2.out.mono ?_
      rintro e wx ⟨rfl, rfl⟩
      clear HF2
      go_wp2_with fail
      all_goals first | (go_ret; exact ⟨rfl, HB1.out⟩) | (exfalso; omega)

theorem own : ownKnob Try.prog.godebug = none := by kernel_rfl
theorem laidOut : laidOutB Try.prog = true := by kernel_rfl

set_option maxRecDepth 100000 in
theorem lifted (os : Os) (started : os.Started) (H : Type) (enc : TypeId × Value → H) :
    ReturnsInHanded {} Try.checked os 5 .any (Rows.paneOrderSpec.pre6 enc Try.prog Try.f5 Rows.paneOrderRow.domain false) (Rows.paneOrderSpec.post enc Try.prog Try.f5 false true false false) := by
  refine returnsInHanded_of_change (C := Try.checked) own started (by kernel_rfl) Try.func5
    (ChangeSpec.witness6 (enc := enc) (C := Try.checked) false ⟨#[], #[.int .i64 0, .slice none 0 0, .int .i64 0, .int .i64 0, .int .i64 0], []⟩ 8 (by kernel_rfl) (by kernel_rfl) (by kernel_rfl) (by kernel_rfl)) ?_
  intro W base args ds gs before hval0 hW hcnd _
  have hval : ∀ (j : Nat) t v, Try.f5.params[j]? = some t → args[j]? = some v → Value.okWide Try.prog W .any base t v := hval0
  have hW' := hW
  obtain ⟨p, q, hA0, hV, rfl, hfz, hnd⟩ := hW
  have hA : DataW.TrodAll enc Try.prog W 0 (fun _ => true) true Try.f5.params.toList args.toList ds p := hA0
  rw [Try.params5] at hA hval
  obtain ⟨v0, vs0, d0, ds0, p0, q0, hargs, rfl, rfl, h0, r0⟩ := trodAll_cons hA
  obtain ⟨v1, vs1, d1, ds1, p1, q1, rfl, rfl, rfl, h1, r1⟩ := trodAll_cons r0
  obtain ⟨v2, vs2, d2, ds2, p2, q2, rfl, rfl, rfl, h2, r2⟩ := trodAll_cons r1
  obtain ⟨v3, vs3, d3, ds3, p3, q3, rfl, rfl, rfl, h3, r3⟩ := trodAll_cons r2
  obtain ⟨v4, vs4, d4, ds4, p4, q4, rfl, rfl, rfl, h4, r4⟩ := trodAll_cons r3
  obtain ⟨rfl, rfl, rfl⟩ := trodAll_nil r4
  obtain rfl : args = #[v0, v1, v2, v3, v4] := by cases args; simp_all
  obtain ⟨rfl, rfl⟩ := trodVars_none hV
  have k0 := h0
  have lt0 : ∀ x ∈ p0, x.block < W.heap.size := by obtain ⟨m, hm⟩ := k0; exact DataW.trod_lt m _ _ _ hm
  obtain ⟨a0, rfl, rfl, rfl, w0⟩ := open_int Try.underlying3 (hval 0 3 v0 rfl rfl) h0
  have k1 := h1
  have lt1 : ∀ x ∈ p1, x.block < W.heap.size := by obtain ⟨m, hm⟩ := k1; exact DataW.trod_lt m _ _ _ hm
  obtain ⟨b1, c1, x1, rfl, l1, m1, i1, o1⟩ := open_acts (hval 1 22 v1 rfl rfl) h1
  have k2 := h2
  have lt2 : ∀ x ∈ p2, x.block < W.heap.size := by obtain ⟨m, hm⟩ := k2; exact DataW.trod_lt m _ _ _ hm
  obtain ⟨a2, rfl, rfl, rfl, w2⟩ := open_int Try.underlying3 (hval 2 3 v2 rfl rfl) h2
  have k3 := h3
  have lt3 : ∀ x ∈ p3, x.block < W.heap.size := by obtain ⟨m, hm⟩ := k3; exact DataW.trod_lt m _ _ _ hm
  obtain ⟨a3, rfl, rfl, rfl, w3⟩ := open_int Try.underlying3 (hval 3 3 v3 rfl rfl) h3
  have k4 := h4
  have lt4 : ∀ x ∈ p4, x.block < W.heap.size := by obtain ⟨m, hm⟩ := k4; exact DataW.trod_lt m _ _ _ hm
  obtain ⟨a4, rfl, rfl, rfl, w4⟩ := open_int Try.underlying3 (hval 4 3 v4 rfl rfl) h4
  clear hA0 hval0
  refine (walk W a0 w0 b1 c1 x1 l1 m1 i1 o1 a2 w2 a3 w3 a4 w4).mono fun e W' ⟨he, bel⟩ => ?_
  subst he
  exact ⟨_, rfl, _, _, _, [], _, [], hW', trodAll_mk1 (shut_bool Try.underlying4 _), (trodAll_cons_mk (Below.trod laidOut (by kernel_rfl) (of_decide_eq_true (by kernel_rfl)) k0 bel lt0) (trodAll_cons_mk (Below.trod laidOut (by kernel_rfl) (of_decide_eq_true (by kernel_rfl)) k1 bel lt1) (trodAll_cons_mk (Below.trod laidOut (by kernel_rfl) (of_decide_eq_true (by kernel_rfl)) k2 bel lt2) (trodAll_cons_mk (Below.trod laidOut (by kernel_rfl) (of_decide_eq_true (by kernel_rfl)) k3 bel lt3) (trodAll_cons_mk (Below.trod laidOut (by kernel_rfl) (of_decide_eq_true (by kernel_rfl)) k4 bel lt4) trodAll_mk0))))), rfl, bel.frame _, fun h => by cases h⟩

theorem over : Rows.paneOrderRow.holds Try.pinned (OpenSpec.ofChange Rows.paneOrderSpec) :=
  OpenClaim.holds_of_wide 5 Try.f5 rfl rfl rfl rfl rfl rfl rfl ⟨rfl, rfl, rfl, rfl, rfl⟩ rfl rfl rfl rfl rfl (by kernel_rfl) Try.func5 (by kernel_rfl)
    (of_decide_eq_true (by kernel_rfl)) (by unfold Func.isWrapper; first | (rw [if_pos (by decide +kernel)]; kernel_rfl) | (rw [if_neg (by decide +kernel)]; exact ⟨rfl, rfl⟩))
    (fun os started H enc _ => lifted os started H enc)

theorem proved : Rows.PaneOrderSaid := over
#print axioms proved
end Go.Proofs.Ytdmcbndkfnlcjaa.paneOrder

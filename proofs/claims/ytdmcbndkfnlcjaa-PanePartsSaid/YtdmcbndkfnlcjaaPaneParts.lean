/- For every input ciceronelaw09.PaneParts returns true, and its arguments read behind the call as before. No conditions. -/
import Derived.Test.YtdmcbndkfnlcjaaPTwo
import Derived.Test.YtdmcbndkfnlcjaaRows
import Derived.ProofKit
import Derived.OpenShut
import Derived.ShutString
import Derived.ChangeOld
import Derived.Below
import Derived.Lib.SmallJoins
namespace Go.Proofs.Ytdmcbndkfnlcjaa.paneParts
open Go.ChangeShapes Go.WideShapes Go.ChangeAt Go.RowKit Go.Joins
open Go.ChangeMaps (open_string shut_string)
set_option linter.unusedVariables false

def sumKs (A : List Ad) (lo hi : Int) : List ByteArray → Int
  | [] => 0
  | k :: l => psum A k lo hi + sumKs A lo hi l
theorem sumKs_snoc (A : List Ad) (lo hi : Int) (l : List ByteArray) (k : ByteArray) : sumKs A lo hi (l ++ [k]) = sumKs A lo hi l + psum A k lo hi := by
  induction l with
  | nil => simp [sumKs]
  | cons x l ih => simp only [List.cons_append, sumKs, ih]; omega
theorem sumKs_bd {A : List Ad} (ha : ∀ x ∈ A, AdOk x) (lo hi : Int) (l : List ByteArray) : 0 ≤ sumKs A lo hi l ∧ sumKs A lo hi l ≤ l.length * (A.length * 1048576) := by
  induction l with
  | nil => simp [sumKs]
  | cons x l ih =>
    have h1 := psum_nonneg ha x lo hi
    have h2 := psum_le ha x lo hi
    simp only [sumKs, List.length_cons]
    rw [show ((l.length + 1 : Nat) : Int) * (A.length * 1048576) = l.length * (A.length * 1048576) + A.length * 1048576 by rw [Int.natCast_add, Int.add_mul]; simp]
    omega
theorem sumKs_ge {A : List Ad} (ha : ∀ x ∈ A, AdOk x) (lo hi : Int) {l : List ByteArray} {k : ByteArray} (hk : k ∈ l) : psum A k lo hi ≤ sumKs A lo hi l := by
  induction l with
  | nil => cases hk
  | cons x l ih =>
    have h1 := psum_nonneg ha x lo hi
    have h2 := (sumKs_bd ha lo hi l).1
    simp only [sumKs]
    rcases List.mem_cons.1 hk with rfl | h
    · omega
    · have := ih h; omega
theorem key_all {A : List Ad} (ha : ∀ x ∈ A, AdOk x) {lo hi : Int} {ks : List ByteArray} (h : KeysOf A lo hi ks) (k : ByteArray) : psum A k lo hi ≤ sumKs A lo hi ks := by
  by_cases hk : k ∈ ks
  · exact sumKs_ge ha lo hi hk
  · have h1 : psum A k lo hi = 0 := Decidable.byContradiction fun e => hk ((h.2 k).2 e)
    rw [h1]; exact (sumKs_bd ha lo hi ks).1
theorem psum_mem {A : List Ad} (ha : ∀ x ∈ A, AdOk x) {x : Ad} (hx : x ∈ A) {lo hi : Int} (h1 : lo ≤ x.2.1) (h2 : x.2.1 < hi) : x.2.2 ≤ psum A x.1 lo hi := by
  obtain ⟨l1, l2, rfl⟩ := List.append_of_mem hx
  have e1 := psum_nonneg (A := l1) (fun y hy => ha y (by simp [hy])) x.1 lo hi
  have e2 := psum_nonneg (A := l2) (fun y hy => ha y (by simp [hy])) x.1 lo hi
  rw [psum_append]
  simp only [psum]
  rw [if_pos ⟨trivial, h1, h2⟩]
  omega
/-- an act that may be counts in its key's sum over all panes -/
theorem act_counts {wd : Int} (hw : 1 ≤ wd) (hw2 : wd ≤ 1099511627776) {xs : List Act9} {a : Act9} (ha : a ∈ xs) (hok : okA a = true) : a.2.2.2 ≤ psum (adds wd xs) a.2.1 (-4611686018427387904 / wd) (4611686018427387904 / wd) := by
  have hm : toAd wd a ∈ adds wd xs := List.mem_map.2 ⟨a, List.mem_filter.2 ⟨ha, hok⟩, rfl⟩
  have hb := adds_ok wd hw xs _ hm
  unfold AdOk toAd at hb
  simp only at hb
  have l1 : -4611686018427387904 / wd ≤ 0 := Int.le_of_lt (Int.ediv_neg_of_neg_of_pos (by omega) (by omega))
  have l2 : a.2.2.1 / wd < 4611686018427387904 / wd := by
    simp only [okA, Bool.and_eq_true, decide_eq_true_eq] at hok
    have h1 : a.2.2.1 / wd ≤ 1099511627776 / wd := Int.ediv_le_ediv (by omega) (by omega)
    have h2 : 1 ≤ 1099511627776 / wd := (Int.le_ediv_iff_mul_le (by omega)).2 (by omega)
    have h3 : 4194304 * (1099511627776 / wd) ≤ 4611686018427387904 / wd := (Int.le_ediv_iff_mul_le (by omega)).2 (by
      have := Int.ediv_mul_le 1099511627776 (show wd ≠ 0 by omega)
      rw [Int.mul_assoc]; omega)
    omega
  exact psum_mem (adds_ok wd hw xs) hm (by simp only [toAd]; omega) (by simp only [toAd]; exact l2)
set_option maxHeartbeats 8000000 in
set_option maxRecDepth 100000 in
theorem walk (w : World) (wi : Int) (wk : (Lit.int .i64 wi).wf = true) (b : Option Addr) (cap : Nat) (xs : List Act9) (hl : xs.length ≤ cap) (hm : cap ≤ maxLen) (hi : InW w b 4 (xs.map actC)) (ho : ∀ a ∈ xs, actOk a)
    (key : ByteArray) (hk : key.size ≤ maxLen) (f : Int) (hf : (Lit.int .i64 f).wf = true) (g : Int) (hg : (Lit.int .i64 g).wf = true) (t : Int) (ht : (Lit.int .i64 t).wf = true) :
    Calls Try.prog 4 #[.int .i64 wi, .slice b xs.length cap, .string key, .int .i64 f, .int .i64 g, .int .i64 t] w fun e w' => e = .returned (.bool true) ∧ Below w.heap.size w w' := by
  have HA := Lib.hid (awake_any w)
  have HF := Lib.hid (fun w' hb => few_any b cap xs w' (InW.bel (W' := w') hi hb) hm hl ho)
  have hwi := i64_wf wk
  have hfi := i64_wf hf
  have hgi := i64_wf hg
  have hti := i64_wf ht
  clear wk hf ht hg
  unfold maxLen at hm hk
  cases hfew : fewB xs with
  | false =>
    rw [hfew] at HF
    generalize xs.length = n at *
    go_enter Try.func4, Try.ntmps4
    go_wp2_with fail
    refine HA.out.mono ?_
    rintro e w1 ⟨rfl, b1⟩
    have HF2 := Lib.hid (HF.out w1 b1)
    have HB1 := Lib.hid b1
    clear b1 HA HF
    go_wp2_with fail
    refine HF2.out.mono ?_
    rintro e wx ⟨rfl, rfl⟩
    go_wp2_with fail
    go_ret
    exact ⟨rfl, HB1.out⟩
  | true =>
    rw [hfew] at HF
    obtain ⟨hn101, hk100⟩ := few_of hfew
    have HIn := Lib.hid hi
    have HK := Lib.hid hk100
    have HO := Lib.hid ho
    clear hfew hi hk100 ho
    generalize hn : xs.length = n at *
    have Hn := Lib.hid hn
    clear hn
    by_cases hkey : key.size ≤ 100
    · have tf5 : decide ((100 : Int) < (key.size : Int)) = false := by simp; omega
      go_enter Try.func4, Try.ntmps4
      go_wp2_with fail
      refine HA.out.mono ?_
      rintro e w1 ⟨rfl, b1⟩
      have HF2 := Lib.hid (HF.out w1 b1)
      have HB1 := Lib.hid b1
      clear b1 HA HF
      go_wp2_with fail
      refine HF2.out.mono ?_
      rintro e wx ⟨rfl, rfl⟩
      clear HF2
      have HN1 := Lib.hid (new_pane wi w1 hwi)
      go_wp2_with fail
      refine HN1.out.mono ?_
      rintro e w2 ⟨rfl, p2, b2, z2⟩
      have hwd := wdOf_in wi
      generalize wdOf wi = wd at *
      have H0 : Hid (∃ B1, PaneAt w2 (w1.heap.size + 2) B1 wd (adds wd (xs.take 0)).length (adds wd (xs.take 0)) ∧ Above w.heap.size B1 ∧ Below w.heap.size w w2) := Lib.hid (by
        have hs1 := HB1.out.size
        refine ⟨_, p2, fun b hb => ?_, HB1.out.trans (b2.mono hs1)⟩
        simp at hb; omega)
      clear HN1 p2 b2 z2 HB1
      generalize w1.heap.size + 2 = P1 at *
      go_wp2_with fail
      go_loopw [14] (fun c wr => ∃ (i : Nat) (B1 : List Nat), i ≤ n ∧ c = .int .i64 i ∧ PaneAt wr P1 B1 wd (adds wd (xs.take i)).length (adds wd (xs.take i)) ∧ Above w.heap.size B1 ∧ Below w.heap.size w wr) (fun c _ => n - (intOf c).toNat)
      case atStart =>
        obtain ⟨B1, h⟩ := H0.out
        exact ⟨0, B1, by omega, rfl, h⟩
      case round =>
        obtain ⟨i, B1, hin, rfl, hp1, ha1, hbl⟩ := hrel
        clear H0
        have HA1 := Lib.hid ha1
        have HBL := Lib.hid hbl
        clear ha1 hbl
        by_cases hlt : i < n
        · obtain ⟨a, ha⟩ : ∃ a, xs[i]? = some a := ⟨xs[i]'(by have := Hn.out; omega), List.getElem?_eq_getElem _⟩
          have hmem := List.mem_of_getElem? ha
          have hka := HK.out a hmem
          obtain ⟨_, _, oa1, oa2⟩ := HO.out a hmem
          have HMA := Lib.hid hmem
          have HT : Hid (xs.take (i + 1) = xs.take i ++ [a]) := Lib.hid (by rw [List.take_add_one, ha]; rfl)
          have HL : Hid ((xs.take i).length ≤ 101) := Lib.hid (by have := Hn.out; rw [List.length_take]; omega)
          obtain ⟨B, off, hbb, _, _, c1, c2, c3⟩ := acts_at (InW.bel HIn.out HBL.out) ha
          have HIA : Hid (∀ w', Below w.heap.size w w' → w'.cell? ⟨B, off + i * 4 + 1, none⟩ = some (.string a.2.1) ∧ w'.cell? ⟨B, off + i * 4 + 2, none⟩ = some (.int .i64 a.2.2.1) ∧ w'.cell? ⟨B, off + i * 4 + 3, none⟩ = some (.int .i64 a.2.2.2)) := Lib.hid (fun w' hb' => by
            obtain ⟨B', off', hbb', _, _, d1, d2, d3⟩ := acts_at (InW.bel HIn.out hb') ha
            rw [hbb] at hbb'
            cases hbb'
            exact ⟨d1, d2, d3⟩)
          subst hbb
          clear ha hmem
          have hi0 : (0 : Int) ≤ (i : Int) := by omega
          have hi1 : (i : Int) < (n : Int) := by omega
          have HAD := Lib.hid (add_act P1 B1 wd (xs.take i) a wr.drew hp1.drew (by have := HL.out; omega) hka oa1 oa2)
          clear hp1
          go_wp2_with fail
          go_still_tail 16, (by kernel_rfl)
          change wpList _ _ _ _ _ wr.drew
          clear c1 c2 c3
          go_wp2_with fail
          refine HAD.out.mono ?_
          rintro e w4 ⟨rfl, B1', hp4, hf4, hs4⟩
          rw [← HT.out] at hp4
          have HE : Hid (PaneAt w4 P1 B1' wd (adds wd (xs.take (i + 1))).length (adds wd (xs.take (i + 1))) ∧ Above w.heap.size B1' ∧ Below w.heap.size w w4) := Lib.hid ⟨hp4, HA1.out.spread hs4 HBL.out.drew.size, bel_step HBL.out.drew hf4 HA1.out⟩
          clear hp4 hf4 hs4 HAD
          go_wp2_with fail
          go_roundw
          case rel => exact ⟨i + 1, B1', by omega, by go_num, HE.out⟩
          case measure => simp [intOf]; omega
        · obtain rfl : i = n := by omega
          have htk : xs.take i = xs := List.take_of_length_le (by have := Hn.out; omega)
          rw [htk] at hp1
          have hok := adds_ok wd hwd.1 xs
          have HOK := Lib.hid hok
          have HP1 := Lib.hid hp1
          have hla := adds_length wd xs
          have hxl := Hn.out
          have HL1 : Hid ((adds wd xs).length ≤ 101) := Lib.hid (by omega)
          have HD := Lib.hid hwd
          clear htk hok hla hxl
          by_cases hab : g < f
          · have hq : g / wd ≤ f / wd := Int.ediv_le_ediv (by omega) (by omega)
            have S1 := Lib.hid (sum_any P1 B1 wd _ _ key f g wr hp1 hkey hfi hgi)
            rw [psum_empty _ _ hq] at S1
            have K1 := Lib.hid (keys_any P1 B1 wd _ _ f g wr hp1 hfi hgi)
            clear hp1
            go_wp2_with fail
            refine S1.out.mono ?_
            rintro e wx ⟨rfl, rfl⟩
            go_wp2_with fail
            refine K1.out.mono ?_
            rintro e w6 ⟨v1, ks1, rfl, hk1, ht1, hn1, hb6⟩
            have hks : ks1 = [] := by
              cases ks1 with
              | nil => rfl
              | cons k l => exact absurd (psum_empty _ k hq) ((hk1.2 k).1 (by simp))
            subst hks
            obtain ⟨bb1, cc1, rfl, _, _, hs1⟩ := ht1.strs
            have HB6 : Hid (Below w.heap.size w w6) := Lib.hid (HBL.out.trans (hb6.mono HBL.out.size))
            clear S1 K1 hk1 ht1 hn1 hb6 hs1
            go_wp2_with fail
            go_ret
            exact ⟨rfl, HB6.out⟩
          · by_cases hbc : t < g
            · clear hp1
              go_wp2_with fail
              go_ret
              exact ⟨rfl, HBL.out⟩
            · clear hp1
              have HAC : Hid (∀ a ∈ xs, okA a = true → a.2.2.2 ≤ psum (adds wd xs) a.2.1 (-4611686018427387904 / wd) (4611686018427387904 / wd)) := Lib.hid (fun a ha hok => act_counts HD.out.1 HD.out.2 ha hok)
              have HNN : Hid (∀ k lo hi, 0 ≤ psum (adds wd xs) k lo hi) := Lib.hid (fun k lo hi => psum_nonneg HOK.out k lo hi)
              go_wp2_with fail
              go_loopw [16] (fun c wv => ∃ (j q : Nat), j ≤ i ∧ c = .int .i64 j ∧ wv = wr.drewN q) (fun c _ => i - (intOf c).toNat)
              case atStart => exact ⟨0, 0, by omega, rfl, rfl⟩
              case round =>
                obtain ⟨j, q, hj, rfl, rfl⟩ := hrel
                by_cases hjt : j < i
                · obtain ⟨a, ha⟩ : ∃ a, xs[j]? = some a := ⟨xs[j]'(by have := Hn.out; omega), List.getElem?_eq_getElem _⟩
                  have hmem := List.mem_of_getElem? ha
                  have hka := HK.out a hmem
                  obtain ⟨_, _, oa1, oa2⟩ := HO.out a hmem
                  have hac := HAC.out a hmem
                  have hnn := HNN.out a.2.1 (-4611686018427387904 / wd) (4611686018427387904 / wd)
                  obtain ⟨B, off, hbb, _, _, c1, c2, c3⟩ := acts_at (InW.bel HIn.out HBL.out) ha
                  subst hbb
                  have HSM := Lib.hid (fun m => sum_any P1 B1 wd _ _ a.2.1 (-4611686018427387904) 4611686018427387904 ((wr.drewN q).drewN m) ((HP1.out.drewN q).drewN m) hka (by unfold I64; omega) (by unfold I64; omega))
                  have d1 : (wr.drewN q).cell? ⟨B, off + j * 4 + 1, none⟩ = some (.string a.2.1) := c1
                  have d2 : (wr.drewN q).cell? ⟨B, off + j * 4 + 2, none⟩ = some (.int .i64 a.2.2.1) := c2
                  have d3 : (wr.drewN q).cell? ⟨B, off + j * 4 + 3, none⟩ = some (.int .i64 a.2.2.2) := c3
                  clear ha hmem c1 c2 c3
                  have hi0 : (0 : Int) ≤ (j : Int) := by omega
                  have hi1 : (j : Int) < (i : Int) := by omega
                  simp only [okA, Bool.and_eq_true, decide_eq_true_eq] at hac
                  have HAC2 := Lib.hid hac
                  clear hac
                  unfold I64 at oa1 oa2
                  generalize psum (adds wd xs) a.2.1 (-4611686018427387904 / wd) (4611686018427387904 / wd) = Z at *
                  generalize hW : wr.drewN q = V at *
                  have HW := Lib.hid hW
                  clear hW
                  go_wp2_with fail
                  by_cases g0 : Z < a.2.2.2
                  · have q0 : decide (Z < a.2.2.2) = true := by simpa using g0
                    by_cases g1 : a.2.2.2 ≤ 1048576
                    · have q1 : decide (a.2.2.2 ≤ 1048576) = true := decide_eq_true g1
                      by_cases g2 : (0 : Int) ≤ a.2.2.1
                      · have q2 : decide ((0 : Int) ≤ a.2.2.1) = true := decide_eq_true g2
                        by_cases g3 : a.2.2.1 ≤ 1099511627776
                        · have q3 : decide (a.2.2.1 ≤ 1099511627776) = true := decide_eq_true g3
                          by_cases g4 : (0 : Int) < ((a.2.1.size : Nat) : Int)
                          · have q4 : decide ((0 : Int) < ((a.2.1.size : Nat) : Int)) = true := decide_eq_true g4
                            have qn4 : decide (0 < a.2.1.size) = true := decide_eq_true (by omega)
                            by_cases g5 : ((a.2.1.size : Nat) : Int) ≤ 24
                            · have q5 : decide (((a.2.1.size : Nat) : Int) ≤ 24) = true := decide_eq_true g5
                              have qn5 : decide (a.2.1.size ≤ 24) = true := decide_eq_true (by omega)
                              exfalso
                              have := HAC2.out ⟨⟨⟨⟨⟨by omega, by omega⟩, by omega⟩, by omega⟩, by omega⟩, by omega⟩
                              omega
                            · have q5 : decide (((a.2.1.size : Nat) : Int) ≤ 24) = false := decide_eq_false g5
                              have qn5 : decide (a.2.1.size ≤ 24) = false := decide_eq_false (by omega)
                              go_quiet ((go_at_call 16; exact quiet_same (HSM.out _)))
                              go_wp2_with fail
                              go_roundw
                              case rel => exact ⟨j + 1, q + nq, by omega, by go_num, by rw [← HW.out]; simp⟩
                              case measure => simp [intOf]; omega
                          · have q4 : decide ((0 : Int) < ((a.2.1.size : Nat) : Int)) = false := decide_eq_false g4
                            have qn4 : decide (0 < a.2.1.size) = false := decide_eq_false (by omega)
                            go_quiet ((go_at_call 16; exact quiet_same (HSM.out _)))
                            go_wp2_with fail
                            go_roundw
                            case rel => exact ⟨j + 1, q + nq, by omega, by go_num, by rw [← HW.out]; simp⟩
                            case measure => simp [intOf]; omega
                        · have q3 : decide (a.2.2.1 ≤ 1099511627776) = false := decide_eq_false g3
                          go_quiet ((go_at_call 16; exact quiet_same (HSM.out _)))
                          go_wp2_with fail
                          go_roundw
                          case rel => exact ⟨j + 1, q + nq, by omega, by go_num, by rw [← HW.out]; simp⟩
                          case measure => simp [intOf]; omega
                      · have q2 : decide ((0 : Int) ≤ a.2.2.1) = false := decide_eq_false g2
                        go_quiet ((go_at_call 16; exact quiet_same (HSM.out _)))
                        go_wp2_with fail
                        go_roundw
                        case rel => exact ⟨j + 1, q + nq, by omega, by go_num, by rw [← HW.out]; simp⟩
                        case measure => simp [intOf]; omega
                    · have q1 : decide (a.2.2.2 ≤ 1048576) = false := decide_eq_false g1
                      go_quiet ((go_at_call 16; exact quiet_same (HSM.out _)))
                      go_wp2_with fail
                      go_roundw
                      case rel => exact ⟨j + 1, q + nq, by omega, by go_num, by rw [← HW.out]; simp⟩
                      case measure => simp [intOf]; omega
                  · have q0 : decide (Z < a.2.2.2) = false := by simpa using g0
                    go_quiet ((go_at_call 16; exact quiet_same (HSM.out _)))
                    go_wp2_with fail
                    go_roundw
                    case rel => exact ⟨j + 1, q + nq, by omega, by go_num, by rw [← HW.out]; simp⟩
                    case measure => simp [intOf]; omega
                · obtain rfl : j = i := by omega
                  have HP2 := Lib.hid (HP1.out.drewN q)
                  have HBV : Hid (Below w.heap.size w (wr.drewN q)) := Lib.hid (Fr.belOf HBL.out ((Fr.refl none' wr).drewN q) (fun _ h => h.elim))
                  clear HBL HP1
                  generalize wr.drewN q = V at *
                  have K1 := Lib.hid (keys_any P1 B1 wd _ _ f t V HP2.out hfi hti)
                  go_wp2_with fail
                  refine K1.out.mono ?_
                  rintro e w6 ⟨v1, ks, rfl, hk1, ht1, hn1, hb6⟩
                  have HP6 := Lib.hid (HP2.out.bel hb6)
                  have HB6 : Hid (Below w.heap.size w w6) := Lib.hid (HBV.out.trans (hb6.mono HBV.out.size))
                  have HKO := Lib.hid hk1
                  have hkm := hk1.mem HOK.out
                  have HRS := Lib.hid hk1.1
                  have HSB : Hid (∀ m, 0 ≤ sumKs (adds wd xs) (f / wd) (t / wd) (ks.take m) ∧ sumKs (adds wd xs) (f / wd) (t / wd) (ks.take m) ≤ 101 * (101 * 1048576)) := Lib.hid (fun m => by
                    have h := sumKs_bd HOK.out (f / wd) (t / wd) (ks.take m)
                    have h1 : (ks.take m).length ≤ 101 := by rw [List.length_take]; have := HL1.out; omega
                    have h2 := HL1.out
                    have h3 : (((ks.take m).length : Nat) : Int) * (((adds wd xs).length : Int) * 1048576) ≤ 101 * (101 * 1048576) := Int.mul_le_mul (by omega) (by omega) (by omega) (by omega)
                    omega)
                  obtain ⟨bb, cc, rfl, hcc1, hcc2, hst⟩ := ht1.strs
                  have hkl : ks.length ≤ 101 := by have := HL1.out; omega
                  have HKS : Hid (∀ k ∈ ks, k.size ≤ 24 ∧ psum (adds wd xs) k (f / wd) (t / wd) ≠ 0) := Lib.hid (fun k hk => ⟨hkm.2 k hk, (hk1.2 k).1 hk⟩)
                  have HPB : Hid (∀ k, psum (adds wd xs) k (f / wd) (t / wd) ≤ 101 * 1048576) := Lib.hid (fun k => by have := psum_le HOK.out k (f / wd) (t / wd); have := HL1.out; omega)
                  clear K1 hk1 ht1 hn1 hb6 HBV HP2 hkm
                  generalize hkn : ks.length = kn at *
                  have Hkn := Lib.hid hkn
                  clear hkn
                  go_wp2_with fail
                  go_loopw [15, 18] (fun u c wv => ∃ (m z : Nat), m ≤ kn ∧ c = .int .i64 m ∧ u = .int .i64 (sumKs (adds wd xs) (f / wd) (t / wd) (ks.take m)) ∧ wv = w6.drewN z) (fun _ c _ => kn - (intOf c).toNat)
                  case atStart => exact ⟨0, 0, by omega, rfl, rfl, rfl⟩
                  case round =>
                    obtain ⟨m, z, hm1, rfl, rfl, rfl⟩ := hrel
                    have hsb := HSB.out m
                    by_cases hmt : m < kn
                    · obtain ⟨x, hx⟩ : ∃ x, ks[m]? = some x := ⟨ks[m]'(by have := Hkn.out; omega), List.getElem?_eq_getElem _⟩
                      obtain ⟨Bk', ok', rfl, _, e1⟩ := hst.at hx
                      have hxm := HKS.out x (List.mem_of_getElem? hx)
                      have hxz := HNN.out x (f / wd) (t / wd)
                      have hxb := HPB.out x
                      have HTK : Hid (sumKs (adds wd xs) (f / wd) (t / wd) (ks.take (m + 1)) = sumKs (adds wd xs) (f / wd) (t / wd) (ks.take m) + psum (adds wd xs) x (f / wd) (t / wd)) := Lib.hid (by rw [List.take_add_one, hx]; exact sumKs_snoc _ _ _ _ _)
                      have HSM := Lib.hid (fun k => sum_any P1 B1 wd _ _ x f t ((w6.drewN z).drewN k) ((HP6.out.drewN z).drewN k) (by omega) hfi hti)
                      have HS0 := Lib.hid (sum_any P1 B1 wd _ _ x f t (w6.drewN z) (HP6.out.drewN z) (by omega) hfi hti)
                      have e2 : (w6.drewN z).cell? ⟨Bk', ok' + m, none⟩ = some (.string x) := e1
                      have hi0 : (0 : Int) ≤ (m : Int) := by omega
                      have hi1 : (m : Int) < (kn : Int) := by omega
                      have HX := Lib.hid hx
                      have hz1 : ¬ psum (adds wd xs) x (f / wd) (t / wd) ≤ 0 := by omega
                      have hz2 : decide (psum (adds wd xs) x (f / wd) (t / wd) ≤ 0) = false := by simpa using hz1
                      clear hx e1
                      generalize psum (adds wd xs) x (f / wd) (t / wd) = Z at *
                      generalize sumKs (adds wd xs) (f / wd) (t / wd) (ks.take m) = S0 at *
                      by_cases hm0 : m = 0
                      · have t1 : decide ((0 : Int) < (m : Int)) = false := decide_eq_false (by omega)
                        have t2 : decide (0 < m) = false := decide_eq_false (by omega)
                        clear hm0
                        generalize hW : w6.drewN z = V6 at *
                        have HW := Lib.hid hW
                        clear hW
                        go_wp2_with fail
                        refine HS0.out.mono ?_
                        rintro e wx ⟨rfl, rfl⟩
                        go_wp2_with fail
                        go_quiet ((go_at_call 16; exact quiet_same (HSM.out _)))
                        go_wp2_with fail
                        go_roundw
                        case rel => exact ⟨m + 1, z + nq, by omega, by go_num, by rw [HTK.out], by rw [← HW.out]; simp⟩
                        case measure => simp [intOf]; omega
                      · obtain ⟨m', rfl⟩ : ∃ m', m = m' + 1 := ⟨m - 1, by omega⟩
                        obtain ⟨y, hy⟩ : ∃ y, ks[m']? = some y := ⟨ks[m']'(by have := Hkn.out; omega), List.getElem?_eq_getElem _⟩
                        have hyx : ltB y x := by
                          have hr := List.pairwise_iff_getElem.1 HRS.out m' (m' + 1) (by have := Hkn.out; omega) (by have := Hkn.out; omega) (by omega)
                          have h1 := List.getElem?_eq_some_iff.1 hy
                          have h2 := List.getElem?_eq_some_iff.1 HX.out
                          obtain ⟨_, h1⟩ := h1
                          obtain ⟨_, h2⟩ := h2
                          rw [h1, h2] at hr
                          exact hr
                        obtain ⟨Bk2, ok2, hbb2, _, e3⟩ := hst.at hy
                        cases hbb2
                        have e4 : (w6.drewN z).cell? ⟨Bk', ok' + m', none⟩ = some (.string y) := e3
                        have t1 : decide ((0 : Int) < ((m' + 1 : Nat) : Int)) = true := decide_eq_true (by omega)
                        have t2 : decide (0 < m' + 1) = true := decide_eq_true (by omega)
                        have j0 : (0 : Int) ≤ (m' : Int) := by omega
                        have j1 : (m' : Int) < (kn : Int) := by omega
                        have t3 : Op.bytesLess x.toList y.toList = false := by rw [bytesLess_lt]; exact decide_eq_false (ltB_asymm hyx)
                        have t4 : (x.toList == y.toList) = false := by rw [bytesEq]; exact decide_eq_false (fun e => ltB_irrefl x (by rw [← e] at hyx; exact hyx))
                        clear e3 hy hm0 hyx
                        generalize hW : w6.drewN z = V6 at *
                        have HW := Lib.hid hW
                        clear hW
                        go_wp2_with fail
                        refine HS0.out.mono ?_
                        rintro e wx ⟨rfl, rfl⟩
                        go_wp2_with fail
                        go_quiet ((go_at_call 16; exact quiet_same (HSM.out _)))
                        go_wp2_with fail
                        go_roundw
                        case rel => exact ⟨m' + 1 + 1, z + nq, by omega, by go_num, by rw [HTK.out], by rw [← HW.out]; simp⟩
                        case measure => simp [intOf]; omega
                    · obtain rfl : m = kn := by omega
                      have htk : ks.take m = ks := List.take_of_length_le (by have := Hkn.out; omega)
                      have hall := key_all HOK.out HKO.out key
                      rw [htk] at hsb ⊢
                      have h1 : f / wd ≤ g / wd := Int.ediv_le_ediv (by omega) (by omega)
                      have h2 : g / wd ≤ t / wd := Int.ediv_le_ediv (by omega) (by omega)
                      have hpp := psum_parts (adds wd xs) key h1 h2
                      have S1 := Lib.hid (sum_any P1 B1 wd _ _ key f g (w6.drewN z) (HP6.out.drewN z) hkey hfi hgi)
                      have S2 := Lib.hid (sum_any P1 B1 wd _ _ key g t (w6.drewN z) (HP6.out.drewN z) hkey hgi hti)
                      have S3 := Lib.hid (sum_any P1 B1 wd _ _ key f t (w6.drewN z) (HP6.out.drewN z) hkey hfi hti)
                      have n1 := HNN.out key (f / wd) (g / wd)
                      have n2 := HNN.out key (g / wd) (t / wd)
                      have n3 := HPB.out key
                      have HB8 : Hid (Below w.heap.size w (w6.drewN z)) := Lib.hid (Fr.belOf HB6.out ((Fr.refl none' w6).drewN z) (fun _ h => h.elim))
                      rw [hpp] at S3 hall n3
                      generalize psum (adds wd xs) key (f / wd) (g / wd) = Z1 at *
                      generalize psum (adds wd xs) key (g / wd) (t / wd) = Z2 at *
                      generalize sumKs (adds wd xs) (f / wd) (t / wd) ks = Z3 at *
                      generalize w6.drewN z = V6 at *
                      clear htk hpp h1 h2
                      have t1 : decide (Z1 + Z2 ≤ Z3) = true := decide_eq_true hall
                      go_wp2_with fail
                      refine S1.out.mono ?_
                      rintro e wx ⟨rfl, rfl⟩
                      go_wp2_with fail
                      refine S2.out.mono ?_
                      rintro e wx ⟨rfl, rfl⟩
                      go_wp2_with fail
                      refine S3.out.mono ?_
                      rintro e wx ⟨rfl, rfl⟩
                      go_wp2_with fail
                      refine S3.out.mono ?_
                      rintro e wx ⟨rfl, rfl⟩
                      go_wp2_with fail
                      go_ret
                      exact ⟨rfl, HB8.out⟩
    · go_enter Try.func4, Try.ntmps4
      go_wp2_with fail
      refine HA.out.mono ?_
      rintro e w1 ⟨rfl, b1⟩
      have HF2 := Lib.hid (HF.out w1 b1)
      have HB1 := Lib.hid b1
      clear b1 HA HF
      go_wp2_with fail
      refine HF2.out.mono ?_
      rintro e wx ⟨rfl, rfl⟩
      clear HF2
      go_wp2_with fail
      go_ret
      exact ⟨rfl, HB1.out⟩

theorem own : ownKnob Try.prog.godebug = none := by kernel_rfl
theorem laidOut : laidOutB Try.prog = true := by kernel_rfl

set_option maxRecDepth 100000 in
theorem lifted (os : Os) (started : os.Started) (H : Type) (enc : TypeId × Value → H) :
    ReturnsInHanded {} Try.checked os 4 .any (Rows.panePartsSpec.pre6 enc Try.prog Try.f4 Rows.panePartsRow.domain false) (Rows.panePartsSpec.post enc Try.prog Try.f4 false true false false) := by
  refine returnsInHanded_of_change (C := Try.checked) own started (by kernel_rfl) Try.func4
    (ChangeSpec.witness6 (enc := enc) (C := Try.checked) false ⟨#[], #[.int .i64 0, .slice none 0 0, .string ⟨#[]⟩, .int .i64 0, .int .i64 0, .int .i64 0], []⟩ 8 (by kernel_rfl) (by kernel_rfl) (by kernel_rfl) (by kernel_rfl)) ?_
  intro W base args ds gs before hval0 hW hcnd _
  have hval : ∀ (j : Nat) t v, Try.f4.params[j]? = some t → args[j]? = some v → Value.okWide Try.prog W .any base t v := hval0
  have hW' := hW
  obtain ⟨p, q, hA0, hV, rfl, hfz, hnd⟩ := hW
  have hA : DataW.TrodAll enc Try.prog W 0 (fun _ => true) true Try.f4.params.toList args.toList ds p := hA0
  rw [Try.params4] at hA hval
  obtain ⟨v0, vs0, d0, ds0, p0, q0, hargs, rfl, rfl, h0, r0⟩ := trodAll_cons hA
  obtain ⟨v1, vs1, d1, ds1, p1, q1, rfl, rfl, rfl, h1, r1⟩ := trodAll_cons r0
  obtain ⟨v2, vs2, d2, ds2, p2, q2, rfl, rfl, rfl, h2, r2⟩ := trodAll_cons r1
  obtain ⟨v3, vs3, d3, ds3, p3, q3, rfl, rfl, rfl, h3, r3⟩ := trodAll_cons r2
  obtain ⟨v4, vs4, d4, ds4, p4, q4, rfl, rfl, rfl, h4, r4⟩ := trodAll_cons r3
  obtain ⟨v5, vs5, d5, ds5, p5, q5, rfl, rfl, rfl, h5, r5⟩ := trodAll_cons r4
  obtain ⟨rfl, rfl, rfl⟩ := trodAll_nil r5
  obtain rfl : args = #[v0, v1, v2, v3, v4, v5] := by cases args; simp_all
  obtain ⟨rfl, rfl⟩ := trodVars_none hV
  have k0 := h0
  have lt0 : ∀ x ∈ p0, x.block < W.heap.size := by obtain ⟨m, hm⟩ := k0; exact DataW.trod_lt m _ _ _ hm
  obtain ⟨a0, rfl, rfl, rfl, w0⟩ := open_int Try.underlying3 (hval 0 3 v0 rfl rfl) h0
  have k1 := h1
  have lt1 : ∀ x ∈ p1, x.block < W.heap.size := by obtain ⟨m, hm⟩ := k1; exact DataW.trod_lt m _ _ _ hm
  obtain ⟨b1, c1, x1, rfl, l1, m1, i1, o1⟩ := open_acts (hval 1 22 v1 rfl rfl) h1
  have k2 := h2
  have lt2 : ∀ x ∈ p2, x.block < W.heap.size := by obtain ⟨m, hm⟩ := k2; exact DataW.trod_lt m _ _ _ hm
  obtain ⟨a2, rfl, rfl, rfl, w2⟩ := open_string Try.underlying9 (hval 2 9 v2 rfl rfl) h2
  have k3 := h3
  have lt3 : ∀ x ∈ p3, x.block < W.heap.size := by obtain ⟨m, hm⟩ := k3; exact DataW.trod_lt m _ _ _ hm
  obtain ⟨a3, rfl, rfl, rfl, w3⟩ := open_int Try.underlying3 (hval 3 3 v3 rfl rfl) h3
  have k4 := h4
  have lt4 : ∀ x ∈ p4, x.block < W.heap.size := by obtain ⟨m, hm⟩ := k4; exact DataW.trod_lt m _ _ _ hm
  obtain ⟨a4, rfl, rfl, rfl, w4⟩ := open_int Try.underlying3 (hval 4 3 v4 rfl rfl) h4
  have k5 := h5
  have lt5 : ∀ x ∈ p5, x.block < W.heap.size := by obtain ⟨m, hm⟩ := k5; exact DataW.trod_lt m _ _ _ hm
  obtain ⟨a5, rfl, rfl, rfl, w5⟩ := open_int Try.underlying3 (hval 5 3 v5 rfl rfl) h5
  clear hA0 hval0
  refine (walk W a0 w0 b1 c1 x1 l1 m1 i1 o1 a2 w2 a3 w3 a4 w4 a5 w5).mono fun e W' ⟨he, bel⟩ => ?_
  subst he
  exact ⟨_, rfl, _, _, _, [], _, [], hW', trodAll_mk1 (shut_bool Try.underlying4 _), (trodAll_cons_mk (Below.trod laidOut (by kernel_rfl) (of_decide_eq_true (by kernel_rfl)) k0 bel lt0) (trodAll_cons_mk (Below.trod laidOut (by kernel_rfl) (of_decide_eq_true (by kernel_rfl)) k1 bel lt1) (trodAll_cons_mk (Below.trod laidOut (by kernel_rfl) (of_decide_eq_true (by kernel_rfl)) k2 bel lt2) (trodAll_cons_mk (Below.trod laidOut (by kernel_rfl) (of_decide_eq_true (by kernel_rfl)) k3 bel lt3) (trodAll_cons_mk (Below.trod laidOut (by kernel_rfl) (of_decide_eq_true (by kernel_rfl)) k4 bel lt4) (trodAll_cons_mk (Below.trod laidOut (by kernel_rfl) (of_decide_eq_true (by kernel_rfl)) k5 bel lt5) trodAll_mk0)))))), rfl, bel.frame _, fun h => by cases h⟩

theorem over : Rows.panePartsRow.holds Try.pinned (OpenSpec.ofChange Rows.panePartsSpec) :=
  OpenClaim.holds_of_wide 4 Try.f4 rfl rfl rfl rfl rfl rfl rfl ⟨rfl, rfl, rfl, rfl, rfl⟩ rfl rfl rfl rfl rfl (by kernel_rfl) Try.func4 (by kernel_rfl)
    (of_decide_eq_true (by kernel_rfl)) (by unfold Func.isWrapper; first | (rw [if_pos (by decide +kernel)]; kernel_rfl) | (rw [if_neg (by decide +kernel)]; exact ⟨rfl, rfl⟩))
    (fun os started H enc _ => lifted os started H enc)

theorem proved : Rows.PanePartsSaid := over
#print axioms proved
end Go.Proofs.Ytdmcbndkfnlcjaa.paneParts

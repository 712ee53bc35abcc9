/- For every input ciceronelaw12.SessionApart returns true, and its arguments read behind the call as before. No conditions. -/
import Derived.Test.YtcnddbcdkpdkbaaEApart
import Derived.Deep.DeepCutAuto
import Derived.Test.YtcnddbcdkpdkbaaRows
import Derived.ProofKit
import Derived.OpenShut
import Derived.ShutString
import Derived.ChangeOld
import Derived.Below
import Derived.Lib.SmallJoins
namespace Go.Proofs.Ytcnddbcdkpdkbaa.sessionApart
open Go.ChangeShapes Go.WideShapes Go.ChangeAt Go.RowKit Go.Joins
open Go.ChangeMaps (open_string shut_string)
set_option linter.unusedVariables false

set_option maxRecDepth 20000 in
set_option maxHeartbeats 8000000 in
theorem walk (w : World) (x : Int) (wx : (Lit.int .i64 x).wf = true) (b : Option Addr) (cap : Nat) (l : List Tri) (hlc : l.length ≤ cap) (hm : cap ≤ maxLen) (hi : InW w b 3 (l.map aC)) (ho : ∀ a ∈ l, aOk a) :
    Calls Try.prog 6 #[.int .i64 x, .slice b l.length cap] w fun e w' => e = .returned (.bool true) ∧ Below w.heap.size w w' := by
  have HX := Lib.hid (i64_wf wx)
  have AW := Lib.hid (awake_any w)
  have HF : Hid (∀ W, Below w.heap.size w W → Calls Try.prog 12 #[.slice b l.length cap] W fun e w' => e = .returned (.bool (fewB l)) ∧ W = w') := Lib.hid (fun W hb => few_any b cap l W (InW.bel hi hb) hm hlc ho)
  have HIW := Lib.hid hi
  have HOK := Lib.hid ho
  unfold maxLen at hm
  clear wx hi ho
  cases hfw : fewB l with
  | false =>
    rw [hfw] at HF
    generalize l.length = n at *
    go_enter Try.func6, Try.ntmps6
    go_wp2_with fail
    refine AW.out.mono ?_
    rintro e w1 ⟨rfl, b1⟩
    have B1 := Lib.hid b1
    have F1 := Lib.hid (HF.out w1 b1)
    clear b1 HF AW
    go_wp2_with fail
    refine F1.out.mono ?_
    rintro e w2 ⟨rfl, rfl⟩
    clear F1
    go_wp2_with fail
    go_ret
    exact ⟨rfl, B1.out⟩
  | true =>
    rw [hfw] at HF
    obtain ⟨hn1, -⟩ := few_of hfw
    clear hfw
    obtain ⟨n, hn⟩ : ∃ n, l.length = n := ⟨_, rfl⟩
    have Hn := Lib.hid hn
    rw [hn] at hn1 hlc HF ⊢
    clear hn
    by_cases g1 : x < 0
    · have t1 : decide (x < 0) = true := decide_eq_true g1
      go_enter Try.func6, Try.ntmps6
      go_wp2_with fail
      refine AW.out.mono ?_
      rintro e w1 ⟨rfl, b1⟩
      have B1 := Lib.hid b1
      have F1 := Lib.hid (HF.out w1 b1)
      clear b1 HF AW
      go_wp2_with fail
      refine F1.out.mono ?_
      rintro e w2 ⟨rfl, rfl⟩
      clear F1
      go_wp2_with fail
      go_ret
      exact ⟨rfl, B1.out⟩
    have t1 : decide (x < 0) = false := decide_eq_false g1
    by_cases g2 : 1099511627776 < x
    · have t2 : decide (1099511627776 < x) = true := decide_eq_true g2
      go_enter Try.func6, Try.ntmps6
      go_wp2_with fail
      refine AW.out.mono ?_
      rintro e w1 ⟨rfl, b1⟩
      have B1 := Lib.hid b1
      have F1 := Lib.hid (HF.out w1 b1)
      clear b1 HF AW
      go_wp2_with fail
      refine F1.out.mono ?_
      rintro e w2 ⟨rfl, rfl⟩
      clear F1
      go_wp2_with fail
      go_ret
      exact ⟨rfl, B1.out⟩
    have t2 : decide (1099511627776 < x) = false := decide_eq_false g2
    have HGX : Hid (gapOf x = x ∧ 0 ≤ x) := Lib.hid ⟨by unfold gapOf; omega, by omega⟩
    go_enter Try.func6, Try.ntmps6
    go_wp2_with fail
    refine AW.out.mono ?_
    rintro e w1 ⟨rfl, b1⟩
    have B1 := Lib.hid b1
    have F1 := Lib.hid (HF.out w1 b1)
    clear b1 HF AW
    go_wp2_with fail
    refine F1.out.mono ?_
    rintro e w2 ⟨rfl, rfl⟩
    clear F1
    have HNW := Lib.hid (h_snew (Here.nil (K := K12) B1.out) x HX.out)
    rw [HGX.out.1] at HNW
    go_wp2_with fail
    refine HNW.out.mono ?_
    rintro e W3 ⟨rfl, h1⟩
    have H1 := Lib.hid h1
    clear HNW h1
    generalize w1.heap.size + 1 = s at *
    go_wp2_with fail
    go_loopw [6] (fun c wr => ∃ i : Nat, i ≤ n ∧ c = .int .i64 i ∧ Here K12 w wr [.ses s x (addsT [] (l.take i))] ∧ Hid (∀ a ∈ l.take i, okT a = true)) (fun c _ => n - (intOf c).toNat)
    case atStart => exact ⟨0, by omega, rfl, H1.out, Lib.hid (by simp)⟩
    case round =>
      obtain ⟨i, hi, rfl, hh, HQ⟩ := hrel
      have HH := Lib.hid hh
      clear hh H1
      by_cases hlt : i < n
      · obtain ⟨a, ha⟩ : ∃ a, l[i]? = some a := ⟨l[i]'(by rw [Hn.out]; exact hlt), List.getElem?_eq_getElem _⟩
        obtain ⟨B, off, rfl, hB, d0, d1, d2⟩ := aAt HIW.out ha
        have hao := HOK.out a (List.mem_of_getElem? ha)
        have HC : Hid (∀ W, Below w.heap.size w W → (W.cell? ⟨B, off + i * 3, none⟩ = some (.string a.1) ∧ W.cell? ⟨B, off + i * 3 + 1, none⟩ = some (.int .i64 a.2.1) ∧ W.cell? ⟨B, off + i * 3 + 2, none⟩ = some (.string a.2.2))) := Lib.hid (fun W hW => ⟨(hW.cell (p := ⟨B, _, none⟩) hB).trans d0, (hW.cell (p := ⟨B, _, none⟩) hB).trans d1, (hW.cell (p := ⟨B, _, none⟩) hB).trans d2⟩)
        have hi0 : (0 : Int) ≤ (i : Int) := by omega
        have hi1 : (i : Int) < (n : Int) := by omega
        have HT : Hid (addsT [] (l.take (i + 1)) = addT (addsT [] (l.take i)) a ∧ (okT a = true → ∀ c ∈ l.take (i + 1), okT c = true)) := Lib.hid ⟨by rw [List.take_add_one, ha]; exact addsT_snoc _ _ _, fun hoa c hc => by
          rw [List.take_add_one, ha] at hc
          rcases List.mem_append.1 hc with hc | hc
          · exact HQ.out c hc
          · simp at hc
            rw [hc]; exact hoa⟩
        have HAD := Lib.hid (h_sadd HH.out.drew (i := 0) rfl a hao (by have := adds_len (l.take i) []; rw [List.length_take] at this; simp at this; omega))
        have cS := HC.out wr HH.out.bel
        clear ha d0 d1 d2 hao HQ
        cases hr : okT a with
        | false =>
          rw [hr] at HAD
          clear HT hr
          go_wp2_with fail
          go_region_held3 (fun X => X.cell? ⟨B, off + i * 3, none⟩ = some (.string a.1) ∧ X.cell? ⟨B, off + i * 3 + 1, none⟩ = some (.int .i64 a.2.1) ∧ X.cell? ⟨B, off + i * 3 + 2, none⟩ = some (.string a.2.2)) (first | assumption | go_keep | fail)
            (first
              | (go_at_call 15
                 (with_reducible refine HAD.out.mono ?_)
                 rintro e w2 ⟨rfl, h2⟩
                 have H2 := Lib.hid h2
                 have hS2 := HC.out w2 h2.bel
                 clear h2)
              | fail)
          go_wp2_with fail
          go_ret
          exact ⟨rfl, H2.out.bel⟩
        | true =>
          have HT2 := Lib.hid (HT.out.2 hr)
          rw [hr] at HAD
          clear hr
          go_wp2_with fail
          go_region_held3 (fun X => X.cell? ⟨B, off + i * 3, none⟩ = some (.string a.1) ∧ X.cell? ⟨B, off + i * 3 + 1, none⟩ = some (.int .i64 a.2.1) ∧ X.cell? ⟨B, off + i * 3 + 2, none⟩ = some (.string a.2.2)) (first | assumption | go_keep | fail)
            (first
              | (go_at_call 15
                 (with_reducible refine HAD.out.mono ?_)
                 rintro e w2 ⟨rfl, h2⟩
                 have H2 := Lib.hid h2
                 have hS2 := HC.out w2 h2.bel
                 clear h2)
              | fail)
          go_wp2_with fail
          go_roundw
          case rel => exact ⟨i + 1, by omega, by go_num, by rw [HT.out.1]; exact H2.out, HT2⟩
          case measure => simp [intOf]; omega
      · obtain rfl : n = i := by omega
        have htk : l.take n = l := List.take_of_length_le (by rw [Hn.out]; exact Nat.le_refl _)
        rw [htk] at HH HQ
        have hA : (addsT [] l).length ≤ 1000 := by have := adds_len l []; rw [Hn.out] at this; simp at this; omega
        have HLA : Hid ((allS x (addsT [] l)).length ≤ 1000) := Lib.hid (Nat.le_trans (all_le _ _) hA)
        have hap := all_apart HGX.out.2 (SOk.nil.adds l).rise
        have hrg := all_rng (gap := x) (fun t => 0 ≤ t ∧ t ≤ 1099511627776) (L := addsT [] l) (fun c hc => by
          obtain ⟨-, -, -, -, h5, h6⟩ := (okT_iff c).1 ((SOk.nil.adds l).ok c hc)
          exact ⟨h5, h6⟩)
        have HAP : Hid ((allS x (addsT [] l)).Pairwise (befS x) ∧ (∀ z ∈ allS x (addsT [] l), FineS z) ∧ (∀ a ∈ l, cntS a (allS x (addsT [] l)) = 1) ∧ ∀ z ∈ allS x (addsT [] l), (0 ≤ z.f ∧ z.f ≤ 1099511627776) ∧ (0 ≤ z.t ∧ z.t ≤ 1099511627776)) := Lib.hid ⟨hap.1, hap.2.1, fun a ha => hap.2.2 a ((mem_adds l [] a).2 (.inl ⟨ha, HQ.out a ha⟩)), hrg⟩
        clear hap hrg htk hA HQ
        generalize addsT [] l = A at *
        have CC := Lib.hid (h_sall HH.out (i := 0) rfl)
        go_wp2_with fail
        refine CC.out.mono ?_
        rintro e W9 ⟨b9, c9, S9, rfl, q1, q2, q3, q4, q5⟩
        have hs9 : S9.length ≤ 1000 := by have h1 := congrArg List.length q4; rw [List.length_map] at h1; have h2 := HLA.out; omega
        have H9 := Lib.hid (HH.out.step_bel q5)
        have HQ9 := Lib.hid q4
        have HI9 := Lib.hid q3
        obtain ⟨n9, hn9⟩ : ∃ n, S9.length = n := ⟨_, rfl⟩
        have HN9 := Lib.hid hn9
        rw [hn9] at hs9 ⊢
        clear q1 q2 q3 q4 q5 CC hn9
        rw [← HQ9.out] at HAP
        have HIJ : Hid (SvIn W9 b9 S9 ∧ Below w.heap.size w W9) := Lib.hid ⟨HI9.out, H9.out.bel⟩
        clear HI9 H9 HQ9 HH HLA
        generalize W9 = w9 at *
        go_wp2_with fail
        go_loopw [8] (fun c wr => ∃ k : Nat, k ≤ n9 ∧ c = .int .i64 k ∧ Hid (SvIn wr b9 S9 ∧ Below w.heap.size w wr)) (fun c _ => n9 - (intOf c).toNat)
        case atStart => exact ⟨0, Nat.zero_le _, rfl, HIJ⟩
        case round =>
          obtain ⟨k, hkn, rfl, HW⟩ := hrel
          clear HIJ
          by_cases hkm : k < n9
          · obtain ⟨z, hz⟩ : ∃ z, S9[k]? = some z := ⟨S9[k]'(by rw [HN9.out]; exact hkm), List.getElem?_eq_getElem _⟩
            have HZ := Lib.hid hz
            obtain ⟨Bz, oz, rfl, _, d0, d1, d2, d3⟩ := svAt HW.out.1.i hz
            have hzm : seOf z ∈ S9.map seOf := List.mem_map_of_mem (List.mem_of_getElem? hz)
            have hfz := HAP.out.2.1 _ hzm
            have hk0 : (0 : Int) ≤ (k : Int) := by omega
            have hk1 : (k : Int) < (n9 : Int) := by omega
            have u1 : decide (z.t < z.f) = false := decide_eq_false (by have : z.f ≤ z.t := hfz.ft; omega)
            have u2 : decide ((z.its.length : Int) < 1) = false := decide_eq_false (by
              have : z.its ≠ [] := hfz.ne
              have := List.length_pos_iff.2 this
              omega)
            clear hz hfz
            go_wp2_with fail
            go_quiet (fail)
            have HW2 : Hid (SvIn (wr.drewN nq) (some ⟨Bz, oz, none⟩) S9 ∧ Below w.heap.size w (wr.drewN nq)) := Lib.hid ⟨HW.out.1.bel (bdrewN (Below.refl _ _) nq), bdrewN HW.out.2 nq⟩
            clear d0 d1 d2 d3 HW
            generalize wr.drewN nq = V at *
            obtain ⟨Bz', oz', hbz, _, d0, d1, d2, -⟩ := svAt HW2.out.1.i HZ.out
            cases hbz
            by_cases hk : k = 0
            · subst hk
              have v1 : decide (0 < ((0 : Nat) : Int)) = false := by decide
              go_wp2_with fail
              go_quiet (fail)
              have HW3 : Hid (SvIn (V.drewN nq) (some ⟨Bz, oz, none⟩) S9 ∧ Below w.heap.size w (V.drewN nq)) := Lib.hid ⟨HW2.out.1.bel (bdrewN (Below.refl _ _) nq), bdrewN HW2.out.2 nq⟩
              go_wp2_with fail
              go_roundw
              case rel => exact ⟨0 + 1, by omega, by go_num, HW3⟩
              case measure => simp [intOf]; omega
            · obtain ⟨j, hjk⟩ : ∃ j, j + 1 = k := ⟨k - 1, by omega⟩
              have v1 : decide (0 < k) = true := decide_eq_true (by omega)
              obtain ⟨y, hy⟩ : ∃ y, S9[j]? = some y := ⟨S9[j]'(by rw [HN9.out]; omega), List.getElem?_eq_getElem _⟩
              obtain ⟨By, oy, hby, _, e0, e1, e2, -⟩ := svAt HW2.out.1.i hy
              cases hby
              have hj0 : (0 : Int) ≤ (j : Int) := by omega
              have hj1 : (j : Int) < (n9 : Int) := by omega
              have qj : IntKind.i64.wrap ((k : Int) - 1) = (j : Int) := by rw [IntWalk.i64_in _ (by omega)]; omega
              have hym : seOf y ∈ S9.map seOf := List.mem_map_of_mem (List.mem_of_getElem? hy)
              have hb : befS x (seOf y) (seOf z) := by
                have h1 : (S9.map seOf)[j]? = some (seOf y) := by rw [List.getElem?_map, hy]; rfl
                have h2 : (S9.map seOf)[j + 1]? = some (seOf z) := by rw [hjk, List.getElem?_map, HZ.out]; rfl
                obtain ⟨l1, r1⟩ := List.getElem?_eq_some_iff.1 h1
                obtain ⟨l2, r2⟩ := List.getElem?_eq_some_iff.1 h2
                have := List.pairwise_iff_getElem.1 HAP.out.1 j (j + 1) l1 l2 (by omega)
                rwa [r1, r2] at this
              obtain ⟨-, ry1, ry2⟩ := HAP.out.2.2.2 _ hym
              obtain ⟨⟨rz1, rz2⟩, -⟩ := HAP.out.2.2.2 _ hzm
              replace ry1 : 0 ≤ y.t := ry1
              replace ry2 : y.t ≤ 1099511627776 := ry2
              replace rz1 : 0 ≤ z.f := rz1
              replace rz2 : z.f ≤ 1099511627776 := rz2
              have hb' : ltB y.p z.p ∨ (y.p = z.p ∧ x < z.f - y.t) := hb
              have u3 : Op.bytesLess z.p.toList y.p.toList = false := by
                rw [bytesLess_lt]
                refine decide_eq_false (fun h => ?_)
                rcases hb' with k | ⟨k, _⟩
                · exact ltB_irrefl _ (ltB_trans h k)
                · rw [k] at h; exact ltB_irrefl _ h
              have qs : IntKind.i64.wrap (z.f - y.t) = z.f - y.t := IntWalk.i64_in _ (by omega)
              have he : ((y.p.toList == z.p.toList) = true ∧ decide (z.f - y.t ≤ x) = false) ∨ ((y.p.toList == z.p.toList) = false ∧ Op.bytesLess y.p.toList z.p.toList = true) := by
                by_cases e : y.p = z.p
                · refine .inl ⟨by rw [bytesEq]; exact decide_eq_true e, ?_⟩
                  rcases hb' with k | ⟨_, k⟩
                  · rw [e] at k; exact absurd k (ltB_irrefl _)
                  · exact decide_eq_false (by omega)
                · exact .inr ⟨by rw [bytesEq]; exact decide_eq_false e, by rw [bytesLess_lt]; exact decide_eq_true (hb'.resolve_right (fun k => e k.1))⟩
              clear hb hb' hy hym hzm hjk hk
              rcases he with ⟨u4, u5⟩ | ⟨u4, u6⟩
              rotate_left
              · have hne : ¬ y.p.toList = z.p.toList := by simpa using u4
                have u4b : (y.p.toList != z.p.toList) = true := by simp [bne, u4]
                have u4c : decide (y.p.toList = z.p.toList) = false := decide_eq_false hne
                have u4d : (z.p.toList == y.p.toList) = false := by rw [Bool.eq_false_iff]; intro h; exact hne (by simpa using h : z.p.toList = y.p.toList).symm
                go_wp2_with fail
                go_quiet (fail)
                have HW3 : Hid (SvIn (V.drewN nq) (some ⟨Bz, oz, none⟩) S9 ∧ Below w.heap.size w (V.drewN nq)) := Lib.hid ⟨HW2.out.1.bel (bdrewN (Below.refl _ _) nq), bdrewN HW2.out.2 nq⟩
                go_wp2_with fail
                go_roundw
                case rel => exact ⟨k + 1, by omega, by go_num, HW3⟩
                case measure => simp [intOf]; omega
              · go_wp2_with fail
                go_quiet (fail)
                have HW3 : Hid (SvIn (V.drewN nq) (some ⟨Bz, oz, none⟩) S9 ∧ Below w.heap.size w (V.drewN nq)) := Lib.hid ⟨HW2.out.1.bel (bdrewN (Below.refl _ _) nq), bdrewN HW2.out.2 nq⟩
                go_wp2_with fail
                go_roundw
                case rel => exact ⟨k + 1, by omega, by go_num, HW3⟩
                case measure => simp [intOf]; omega
          · obtain rfl : n9 = k := by omega
            go_wp2_with fail
            go_loopw [9, 10, 11, 12] (fun c _ _ _ wr => ∃ k : Nat, k ≤ n ∧ c = .int .i64 k ∧ Hid (SvIn wr b9 S9 ∧ Below w.heap.size w wr)) (fun c _ _ _ _ => n - (intOf c).toNat)
            case atStart => exact ⟨0, Nat.zero_le _, rfl, HW⟩
            case round =>
              clear HW
              obtain ⟨i, hin, rfl, HW⟩ := hrel
              by_cases hlt : i < n
              · obtain ⟨a, ha⟩ : ∃ a, l[i]? = some a := ⟨l[i]'(by rw [Hn.out]; exact hlt), List.getElem?_eq_getElem _⟩
                have HC1 : Hid (∀ k, cntS a ((S9.map seOf).take k) ≤ 1) := Lib.hid (fun k => by have := HAP.out.2.2.1 a (List.mem_of_getElem? ha); have := cntS_take a (S9.map seOf) k; omega)
                have HC2 : Hid (cntS a (S9.map seOf) = 1) := Lib.hid (HAP.out.2.2.1 a (List.mem_of_getElem? ha))
                obtain ⟨Ba, oa, rfl, hBa, d0, d1, d2⟩ := aAt HIW.out ha
                have HCA : Hid (∀ W, Below w.heap.size w W → (W.cell? ⟨Ba, oa + i * 3, none⟩ = some (.string a.1) ∧ W.cell? ⟨Ba, oa + i * 3 + 1, none⟩ = some (.int .i64 a.2.1) ∧ W.cell? ⟨Ba, oa + i * 3 + 2, none⟩ = some (.string a.2.2))) := Lib.hid (fun W hW => ⟨(hW.cell (p := ⟨Ba, _, none⟩) hBa).trans d0, (hW.cell (p := ⟨Ba, _, none⟩) hBa).trans d1, (hW.cell (p := ⟨Ba, _, none⟩) hBa).trans d2⟩)
                have hi0 : (0 : Int) ≤ (i : Int) := by omega
                have hi1 : (i : Int) < (n : Int) := by omega
                clear ha d0 d1 d2
                go_wp2_with fail
                go_loopw [10, 11, 12] (fun c d _ wr => ∃ k q : Nat, k ≤ n9 ∧ d = .int .i64 k ∧ c = .int .i64 q ∧ Hid (q = cntS a ((S9.map seOf).take k)) ∧ Hid (SvIn wr b9 S9 ∧ Below w.heap.size w wr)) (fun _ d _ _ => n9 - (intOf d).toNat)
                case atStart => exact ⟨0, 0, Nat.zero_le _, rfl, rfl, Lib.hid (by simp [cntS]), HW⟩
                case round =>
                  clear HW
                  obtain ⟨k, q, hkn, rfl, rfl, HQ, HW⟩ := hrel
                  by_cases hkm : k < n9
                  · obtain ⟨z, hz⟩ : ∃ z, S9[k]? = some z := ⟨S9[k]'(by rw [HN9.out]; exact hkm), List.getElem?_eq_getElem _⟩
                    have HZ := Lib.hid hz
                    have hsn : cntS a ((S9.map seOf).take (k + 1)) = q + if covS (seOf z) a then cntI a z.its else 0 := by
                      rw [List.take_add_one, List.getElem?_map, hz, HQ.out]; exact cntS_snoc a _ (seOf z)
                    obtain ⟨Bz, oz, rfl, _, e0, e1, e2, e3⟩ := svAt HW.out.1.i hz
                    obtain ⟨d0, d1, d2⟩ := HCA.out wr HW.out.2
                    have hk0 : (0 : Int) ≤ (k : Int) := by omega
                    have hk1 : (k : Int) < (n9 : Int) := by omega
                    obtain ⟨ni, hni⟩ : ∃ ni, z.its.length = ni := ⟨_, rfl⟩
                    rw [hni] at e3
                    have hnb : ni ≤ 9223372036854775807 := by
                      obtain ⟨-, h2, h3⟩ := HW.out.1.it z (List.mem_of_getElem? hz)
                      unfold maxLen at h3
                      omega
                    have HNI := Lib.hid hni
                    clear hz hni
                    by_cases hcov : z.p = a.1 ∧ z.f ≤ a.2.1 ∧ a.2.1 ≤ z.t
                    · have HSN : Hid (cntS a ((S9.map seOf).take (k + 1)) = q + cntI a z.its) := Lib.hid (by rw [if_pos (show covS (seOf z) a from hcov)] at hsn; exact hsn)
                      have u1 : (z.p.toList == a.1.toList) = true := by rw [bytesEq]; exact decide_eq_true hcov.1
                      have u1b : (z.p.toList != a.1.toList) = false := by simp [bne, u1]
                      have u2 : decide (a.2.1 < z.f) = false := decide_eq_false (by omega)
                      have u3 : decide (z.t < a.2.1) = false := decide_eq_false (by omega)
                      have u1c : z.p.toList = a.1.toList := by rw [hcov.1]
                      clear hcov hsn
                      go_wp2_with fail
                      go_quiet (fail)
                      have HW2 : Hid (SvIn (wr.drewN nq) (some ⟨Bz, oz, none⟩) S9 ∧ Below w.heap.size w (wr.drewN nq)) := Lib.hid ⟨HW.out.1.bel (bdrewN (Below.refl _ _) nq), bdrewN HW.out.2 nq⟩
                      clear d0 d1 d2 e0 e1 e2 e3 HW u1 u1b u1c u2 u3
                      generalize wr.drewN nq = V at *
                      go_wp2_with fail
                      go_loopw [10, 12] (fun c d wr => ∃ j m : Nat, j ≤ ni ∧ d = .int .i64 j ∧ c = .int .i64 m ∧ Hid (m = q + cntI a (z.its.take j)) ∧ Hid (SvIn wr (some ⟨Bz, oz, none⟩) S9 ∧ Below w.heap.size w wr)) (fun _ d _ => ni - (intOf d).toNat)
                      case atStart => exact ⟨0, q, Nat.zero_le _, rfl, rfl, Lib.hid (by simp [cntI]), HW2⟩
                      case round =>
                        clear HW2
                        obtain ⟨j, m, hjn, rfl, rfl, HM, HW⟩ := hrel
                        obtain ⟨Bz', oz', hbz, _, e0, e1, e2, e3⟩ := svAt HW.out.1.i HZ.out
                        cases hbz
                        rw [HNI.out] at e3
                        by_cases hjm : j < ni
                        · obtain ⟨s, hs⟩ : ∃ s, z.its[j]? = some s := ⟨z.its[j]'(by rw [HNI.out]; exact hjm), List.getElem?_eq_getElem _⟩
                          obtain ⟨Bi, oi, hbi, _, f0⟩ := texts_at (HW.out.1.it z (List.mem_of_getElem? HZ.out)).1 hs
                          rw [hbi] at e3
                          obtain ⟨d0, d1, d2⟩ := HCA.out wr HW.out.2
                          have hj0 : (0 : Int) ≤ (j : Int) := by omega
                          have hj1 : (j : Int) < (ni : Int) := by omega
                          have hin1 : cntI a (z.its.take (j + 1)) = cntI a (z.its.take j) + if s = a.2.2 then 1 else 0 := by
                            rw [List.take_add_one, hs]; exact cntI_snoc a _ s
                          have hq1 : m ≤ 1 := by have h1 := HC1.out (k + 1); rw [HSN.out] at h1; have h2 := cntI_take a z.its j; have h3 := HM.out; omega
                          clear hbi hs
                          by_cases hsa : s = a.2.2
                          · have HM2 : Hid (m + 1 = q + cntI a (z.its.take (j + 1))) := Lib.hid (by rw [hin1, if_pos hsa, HM.out]; omega)
                            have v1 : (s.toList == a.2.2.toList) = true := by rw [bytesEq]; exact decide_eq_true hsa
                            have v2 : s.toList = a.2.2.toList := by rw [hsa]
                            clear hsa hin1
                            go_wp2_with fail
                            go_quiet (fail)
                            have HW3 : Hid (SvIn (wr.drewN nq) (some ⟨Bz, oz, none⟩) S9 ∧ Below w.heap.size w (wr.drewN nq)) := Lib.hid ⟨HW.out.1.bel (bdrewN (Below.refl _ _) nq), bdrewN HW.out.2 nq⟩
                            go_wp2_with fail
                            go_roundw
                            case rel => exact ⟨j + 1, m + 1, by omega, by go_num, by go_num, HM2, HW3⟩
                            case measure => simp [intOf]; omega
                          · have HM2 : Hid (m = q + cntI a (z.its.take (j + 1))) := Lib.hid (by rw [hin1, if_neg hsa, HM.out]; omega)
                            have v1 : (s.toList == a.2.2.toList) = false := by rw [bytesEq]; exact decide_eq_false hsa
                            have v2 : ¬ s.toList = a.2.2.toList := by intro h; rw [h] at v1; simp at v1
                            clear hsa hin1
                            go_wp2_with fail
                            go_quiet (fail)
                            have HW3 : Hid (SvIn (wr.drewN nq) (some ⟨Bz, oz, none⟩) S9 ∧ Below w.heap.size w (wr.drewN nq)) := Lib.hid ⟨HW.out.1.bel (bdrewN (Below.refl _ _) nq), bdrewN HW.out.2 nq⟩
                            go_wp2_with fail
                            go_roundw
                            case rel => exact ⟨j + 1, m, by omega, by go_num, rfl, HM2, HW3⟩
                            case measure => simp [intOf]; omega
                        · obtain rfl : ni = j := by omega
                          have HQ2 : Hid (m = cntS a ((S9.map seOf).take (k + 1))) := Lib.hid (by rw [HSN.out, HM.out, List.take_of_length_le (by rw [HNI.out]; exact Nat.le_refl _)])
                          go_wp2_with fail
                          go_roundw
                          case rel => exact ⟨k + 1, m, by omega, by go_num, rfl, HQ2, HW⟩
                          case measure => simp [intOf]; omega
                    · have HSN : Hid (q = cntS a ((S9.map seOf).take (k + 1))) := Lib.hid (by rw [if_neg (show ¬ covS (seOf z) a from hcov)] at hsn; omega)
                      clear hsn
                      by_cases c1 : z.p = a.1
                      · have u1 : (z.p.toList == a.1.toList) = true := by rw [bytesEq]; exact decide_eq_true c1
                        have u1b : (z.p.toList != a.1.toList) = false := by simp [bne, u1]
                        have u1c : z.p.toList = a.1.toList := by rw [c1]
                        by_cases c2 : a.2.1 < z.f
                        · have u2 : decide (a.2.1 < z.f) = true := decide_eq_true c2
                          clear hcov c1 c2
                          go_wp2_with fail
                          go_quiet (fail)
                          have HW2 : Hid (SvIn (wr.drewN nq) (some ⟨Bz, oz, none⟩) S9 ∧ Below w.heap.size w (wr.drewN nq)) := Lib.hid ⟨HW.out.1.bel (bdrewN (Below.refl _ _) nq), bdrewN HW.out.2 nq⟩
                          go_wp2_with fail
                          go_roundw
                          case rel => exact ⟨k + 1, q, by omega, by go_num, rfl, HSN, HW2⟩
                          case measure => simp [intOf]; omega
                        · have u2 : decide (a.2.1 < z.f) = false := decide_eq_false c2
                          have u3 : decide (z.t < a.2.1) = true := decide_eq_true (by
                            have : ¬ a.2.1 ≤ z.t := fun h => hcov ⟨c1, by omega, h⟩
                            omega)
                          clear hcov c1 c2
                          go_wp2_with fail
                          go_quiet (fail)
                          have HW2 : Hid (SvIn (wr.drewN nq) (some ⟨Bz, oz, none⟩) S9 ∧ Below w.heap.size w (wr.drewN nq)) := Lib.hid ⟨HW.out.1.bel (bdrewN (Below.refl _ _) nq), bdrewN HW.out.2 nq⟩
                          go_wp2_with fail
                          go_roundw
                          case rel => exact ⟨k + 1, q, by omega, by go_num, rfl, HSN, HW2⟩
                          case measure => simp [intOf]; omega
                      · have u1 : (z.p.toList == a.1.toList) = false := by rw [bytesEq]; exact decide_eq_false c1
                        have u1b : (z.p.toList != a.1.toList) = true := by simp [bne, u1]
                        have u1c : ¬ z.p.toList = a.1.toList := by intro h; rw [h] at u1; simp at u1
                        clear hcov c1
                        go_wp2_with fail
                        go_quiet (fail)
                        have HW2 : Hid (SvIn (wr.drewN nq) (some ⟨Bz, oz, none⟩) S9 ∧ Below w.heap.size w (wr.drewN nq)) := Lib.hid ⟨HW.out.1.bel (bdrewN (Below.refl _ _) nq), bdrewN HW.out.2 nq⟩
                        go_wp2_with fail
                        go_roundw
                        case rel => exact ⟨k + 1, q, by omega, by go_num, rfl, HSN, HW2⟩
                        case measure => simp [intOf]; omega
                  · obtain rfl : n9 = k := by omega
                    obtain rfl : q = 1 := by
                      rw [HQ.out, List.take_of_length_le (by rw [List.length_map, HN9.out]; exact Nat.le_refl _)]
                      exact HC2.out
                    go_wp2_with fail
                    go_roundw
                    case rel => exact ⟨i + 1, by omega, by go_num, HW⟩
                    case measure => simp [intOf]; omega
              · obtain rfl : n = i := by omega
                go_wp2_with fail
                go_ret
                exact ⟨rfl, HW.out.2⟩

theorem own : ownKnob Try.prog.godebug = none := by kernel_rfl
theorem laidOut : laidOutB Try.prog = true := by kernel_rfl

set_option maxRecDepth 100000 in
theorem lifted (os : Os) (started : os.Started) (H : Type) (enc : TypeId × Value → H) :
    ReturnsInHanded {} Try.checked os 6 .any (Rows.sessionApartSpec.pre6 enc Try.prog Try.f6 Rows.sessionApartRow.domain false) (Rows.sessionApartSpec.post enc Try.prog Try.f6 false true false false) := by
  refine returnsInHanded_of_change (C := Try.checked) own started (by kernel_rfl) Try.func6
    (ChangeSpec.witness6 (enc := enc) (C := Try.checked) false ⟨#[], #[.int .i64 0, .slice none 0 0], []⟩ 8 (by kernel_rfl) (by kernel_rfl) (by kernel_rfl) (by kernel_rfl)) ?_
  intro W base args ds gs before hval0 hW hcnd _
  have hval : ∀ (j : Nat) t v, Try.f6.params[j]? = some t → args[j]? = some v → Value.okWide Try.prog W .any base t v := hval0
  have hW' := hW
  obtain ⟨p, q, hA0, hV, rfl, hfz, hnd⟩ := hW
  have hA : DataW.TrodAll enc Try.prog W 0 (fun _ => true) true Try.f6.params.toList args.toList ds p := hA0
  rw [Try.params6] at hA hval
  obtain ⟨v0, vs0, d0, ds0, p0, q0, hargs, rfl, rfl, h0, r0⟩ := trodAll_cons hA
  obtain ⟨v1, vs1, d1, ds1, p1, q1, rfl, rfl, rfl, h1, r1⟩ := trodAll_cons r0
  obtain ⟨rfl, rfl, rfl⟩ := trodAll_nil r1
  obtain rfl : args = #[v0, v1] := by cases args; simp_all
  obtain ⟨rfl, rfl⟩ := trodVars_none hV
  have k0 := h0
  have lt0 : ∀ x ∈ p0, x.block < W.heap.size := by obtain ⟨m, hm⟩ := k0; exact DataW.trod_lt m _ _ _ hm
  obtain ⟨a0, rfl, rfl, rfl, w0⟩ := open_int Try.underlying3 (hval 0 3 v0 rfl rfl) h0
  have k1 := h1
  have lt1 : ∀ x ∈ p1, x.block < W.heap.size := by obtain ⟨m, hm⟩ := k1; exact DataW.trod_lt m _ _ _ hm
  obtain ⟨b1, c1, x1, rfl, l1, m1, i1, o1⟩ := open_adds (hval 1 22 v1 rfl rfl) h1
  clear hA0 hval0
  refine (walk W a0 w0 b1 c1 x1 l1 m1 i1 o1).mono fun e W' ⟨he, bel⟩ => ?_
  subst he
  exact ⟨_, rfl, _, _, _, [], _, [], hW', trodAll_mk1 (shut_bool Try.underlying4 _), (trodAll_cons_mk (Below.trod laidOut (by kernel_rfl) (of_decide_eq_true (by kernel_rfl)) k0 bel lt0) (trodAll_cons_mk (Below.trod laidOut (by kernel_rfl) (of_decide_eq_true (by kernel_rfl)) k1 bel lt1) trodAll_mk0)), rfl, bel.frame _, fun h => by cases h⟩

theorem over : Rows.sessionApartRow.holds Try.pinned (OpenSpec.ofChange Rows.sessionApartSpec) :=
  OpenClaim.holds_of_wide 6 Try.f6 rfl rfl rfl rfl rfl rfl rfl ⟨rfl, rfl, rfl, rfl, rfl⟩ rfl rfl rfl rfl rfl (by kernel_rfl) Try.func6 (by kernel_rfl)
    (of_decide_eq_true (by kernel_rfl)) (by unfold Func.isWrapper; first | (rw [if_pos (by decide +kernel)]; kernel_rfl) | (rw [if_neg (by decide +kernel)]; exact ⟨rfl, rfl⟩))
    (fun os started H enc _ => lifted os started H enc)

theorem proved : Rows.SessionApartSaid := over
#print axioms proved
end Go.Proofs.Ytcnddbcdkpdkbaa.sessionApart

/- For every input ciceronelaw12.SessionKeyed returns true, and its arguments read behind the call as before. No conditions. -/
import Derived.Test.YtcnddbcdkpdkbaaELast2
import Derived.Deep.DeepCutAuto
import Derived.Test.YtcnddbcdkpdkbaaRows
import Derived.ProofKit
import Derived.OpenShut
import Derived.ShutString
import Derived.ChangeOld
import Derived.Below
import Derived.Lib.SmallJoins
namespace Go.Proofs.Ytcnddbcdkpdkbaa.sessionKeyed
open Go.ChangeShapes Go.WideShapes Go.ChangeAt Go.RowKit Go.Joins
open Go.ChangeMaps (open_string shut_string)
set_option linter.unusedVariables false

theorem infoAdd : (Try.prog.info? 31).map (fun i => (i.zero, i.size, i.bytes)) = some (some (.agg #[.string ⟨#[]⟩, .int .i64 0, .string ⟨#[]⟩]), 3, 40) := by kernel_rfl
def ownL (l : List Tri) (p : ByteArray) : List Tri := l.filter fun a => decide (a.1 = p)
theorem ownL_snoc {l : List Tri} {p : ByteArray} {k : Nat} {a : Tri} (h : l[k]? = some a) : ownL (l.take (k + 1)) p = ownL (l.take k) p ++ (if a.1 = p then [a] else []) := by
  unfold ownL
  rw [List.take_add_one, h, List.filter_append]
  by_cases e : a.1 = p <;> simp [e]
theorem own_adds (l : List Tri) (p : ByteArray) : addsT [] (ownL l p) = ofP (addsT [] l) p := by
  refine (SOk.nil.adds _).ext ((SOk.nil.adds l).filter _) (fun x => ?_)
  rw [mem_adds, ofP_mem, mem_adds]
  unfold ownL
  rw [List.mem_filter]
  simp only [decide_eq_true_eq, List.not_mem_nil, or_false]
  constructor
  · rintro ⟨⟨h1, h2⟩, h3⟩; exact ⟨⟨h1, h3⟩, h2⟩
  · rintro ⟨⟨h1, h3⟩, h2⟩; exact ⟨⟨h1, h2⟩, h3⟩
theorem ofP_idem (L : List Tri) (p : ByteArray) : ofP (ofP L p) p = ofP L p := by unfold ofP; rw [List.filter_filter]; simp
theorem upto_of (L : List Tri) (p : ByteArray) (now : Int) : uptoT (ofP L p) p now = uptoT L p now := by
  unfold uptoT ofP
  rw [List.filter_filter]
  refine List.filter_congr fun a _ => ?_
  by_cases e : a.1 = p <;> simp [e]
structure SvIn1 (w : World) (z : SV) : Prop where
  i : InW w z.ib 1 (z.its.map fun s => [.string s])
  l : z.its.length ≤ z.ic
  m : z.ic ≤ maxLen
theorem SvIn1.bel {w w' : World} {z : SV} (h : SvIn1 w z) (hb : Below w.heap.size w w') : SvIn1 w' z := ⟨h.i.bel hb, h.l, h.m⟩
set_option maxRecDepth 20000 in
set_option maxHeartbeats 4000000 in
theorem walk (w : World) (x : Int) (wx : (Lit.int .i64 x).wf = true) (b : Option Addr) (cap : Nat) (l : List Tri) (hlc : l.length ≤ cap) (hm : cap ≤ maxLen) (hi : InW w b 3 (l.map aC)) (ho : ∀ a ∈ l, aOk a) (p : ByteArray) (hp : p.size ≤ maxLen) (now : Int) (wt : (Lit.int .i64 now).wf = true) :
    Calls Try.prog 9 #[.int .i64 x, .slice b l.length cap, .string p, .int .i64 now] w fun e w' => e = .returned (.bool true) ∧ Below w.heap.size w w' := by
  obtain ⟨i0, hi0T, hz0, hz1, hz2⟩ := info_parts infoAdd
  have HX := Lib.hid (i64_wf wx)
  have HT := Lib.hid (i64_wf wt)
  have HP := Lib.hid hp
  have AW := Lib.hid (awake_any w)
  have HF : Hid (∀ W, Below w.heap.size w W → Calls Try.prog 12 #[.slice b l.length cap] W fun e w' => e = .returned (.bool (fewB l)) ∧ W = w') := Lib.hid (fun W hb => few_any b cap l W (InW.bel hi hb) hm hlc ho)
  have HIW := Lib.hid hi
  have HOK := Lib.hid ho
  unfold maxLen at hm hp
  clear wx wt hi ho
  cases hfw : fewB l with
  | false =>
    rw [hfw] at HF
    generalize l.length = n at *
    go_enter Try.func9, Try.ntmps9
    go_wp2_with fail
    refine AW.out.mono ?_
    rintro e w1 ⟨rfl, b1⟩
    have B1 := Lib.hid b1
    have F1 := Lib.hid (HF.out w1 b1)
    clear b1 HF AW
    go_wp2_with fail
    refine F1.out.mono ?_
    rintro e w2 ⟨rfl, rfl⟩
    clear F1
    go_wp2_with fail
    go_ret
    exact ⟨rfl, B1.out⟩
  | true =>
    rw [hfw] at HF
    obtain ⟨hn1, -⟩ := few_of hfw
    clear hfw
    obtain ⟨n, hn⟩ : ∃ n, l.length = n := ⟨_, rfl⟩
    have Hn := Lib.hid hn
    rw [hn] at hn1 hlc HF ⊢
    clear hn
    by_cases hbig : 100 < p.size
    · have t1 : decide ((100 : Int) < (p.size : Int)) = true := decide_eq_true (by omega)
      go_enter Try.func9, Try.ntmps9
      go_wp2_with fail
      refine AW.out.mono ?_
      rintro e w1 ⟨rfl, b1⟩
      have B1 := Lib.hid b1
      have F1 := Lib.hid (HF.out w1 b1)
      clear b1 HF AW
      go_wp2_with fail
      refine F1.out.mono ?_
      rintro e w2 ⟨rfl, rfl⟩
      clear F1
      go_wp2_with fail
      go_ret
      exact ⟨rfl, B1.out⟩
    · have t1 : decide ((100 : Int) < (p.size : Int)) = false := decide_eq_false (by omega)
      go_enter Try.func9, Try.ntmps9
      go_wp2_with fail
      refine AW.out.mono ?_
      rintro e w1 ⟨rfl, b1⟩
      have B1 := Lib.hid b1
      have F1 := Lib.hid (HF.out w1 b1)
      clear b1 HF AW
      go_wp2_with fail
      refine F1.out.mono ?_
      rintro e w2 ⟨rfl, rfl⟩
      clear F1
      go_wp2_with fail
      go_loopw [9, 10] (fun u c wr => ∃ k : Nat, k ≤ n ∧ c = .int .i64 k ∧ Hid (MkG 31 3 aC w wr u (ownL (l.take k) p))) (fun _ c _ => n - (intOf c).toNat)
      case atStart => exact ⟨0, Nat.zero_le _, rfl, Lib.hid ((MkG.nil w1).from B1.out)⟩
      case round =>
        obtain ⟨k, hk, rfl, HM⟩ := hrel
        by_cases hlt : k < n
        · obtain ⟨a, ha⟩ : ∃ a, l[k]? = some a := ⟨l[k]'(by rw [Hn.out]; exact hlt), List.getElem?_eq_getElem _⟩
          obtain ⟨B, off, rfl, hB, d0, d1, d2⟩ := aAt (HIW.out.bel HM.out.bl) ha
          have hk0 : (0 : Int) ≤ (k : Int) := by omega
          have hk1 : (k : Int) < (n : Int) := by omega
          have HSN := Lib.hid (ownL_snoc (p := p) ha)
          have HLN : Hid ((ownL (l.take k) p).length + [a].length ≤ 1000000) := Lib.hid (by
            have h1 : (ownL (l.take k) p).length ≤ (l.take k).length := List.length_filter_le _ _
            rw [List.length_take, Hn.out] at h1
            simp; omega)
          clear ha
          by_cases he : a.1 = p
          · have t2 : (a.1.toList == p.toList) = true := by rw [bytesEq]; exact decide_eq_true he
            have HE2 : Hid (ownL (l.take (k + 1)) p = ownL (l.take k) p ++ [a]) := Lib.hid (by rw [HSN.out, if_pos he])
            have hb4 : Below wr.heap.size wr (wr.alloc (.cells #[.string a.1, .int .i64 a.2.1, .string a.2.2] 31)) := (Below.refl _ _).alloc (Nat.le_refl _) _
            have HM2 := Lib.hid (HM.out.bel hb4)
            have HIN : Hid (InW (wr.alloc (.cells #[.string a.1, .int .i64 a.2.1, .string a.2.2] 31)) (some ⟨wr.heap.size, 0, none⟩) 3 ([a].map aC)) := Lib.hid (inw_one (f := aC) (x := a) (Bk.new wr (aC a) 31))
            clear HSN he hb4
            generalize ownL (l.take k) p = acc at *
            go_wp2_with (at_builtin; refine wpList_append_m aLen aOne _ rfl _ _ _ rfl 31 i0 _ 40 Try.underlying22 hi0T hz0 hz1 hz2 rfl (by decide) (by omega) u9 acc [a] rfl HM2.out.tx (some ⟨wr.heap.size, 0, none⟩) 1 1 rfl rfl HIN.out HLN.out ?_; intro v5 w5 o5 f5 h5; have HM5 := Lib.hid (HM2.out.more o5 f5 h5); clear o5 f5 h5)
            go_wp2_with fail
            go_roundw
            case rel => exact ⟨k + 1, by omega, by go_num, by rw [HE2.out]; exact HM5⟩
            case measure => simp [intOf]; omega
          · have t2 : (a.1.toList == p.toList) = false := by rw [bytesEq]; exact decide_eq_false he
            have HE2 : Hid (ownL (l.take (k + 1)) p = ownL (l.take k) p) := Lib.hid (by rw [HSN.out, if_neg he, List.append_nil])
            clear HSN he
            go_wp2_with fail
            go_roundw
            case rel => exact ⟨k + 1, by omega, by go_num, by rw [HE2.out]; exact HM⟩
            case measure => simp [intOf]; omega
        · obtain rfl : k = n := by omega
          rw [List.take_of_length_le (by rw [Hn.out]; exact Nat.le_refl _)] at HM
          have HO2 : Hid (∀ a ∈ ownL l p, aOk a) := Lib.hid (fun a ha => HOK.out a (List.mem_filter.1 ha).1)
          have HL2 : Hid ((ownL l p).length ≤ 1000) := Lib.hid (by have h1 : (ownL l p).length ≤ l.length := List.length_filter_le _ _; rw [Hn.out] at h1; omega)
          have HOA := Lib.hid (own_adds l p)
          generalize ownL l p = ys at *
          obtain ⟨yb, yc, rfl, -, -, hyi⟩ := HM.out.read aLen (by omega)
          have HYI := Lib.hid hyi
          clear hyi
          have CC := Lib.hid (made_any x HX.out b cap l wr (HIW.out.bel HM.out.bl) (by rw [Hn.out]; omega) HOK.out)
          rw [Hn.out] at CC
          obtain ⟨m, hm'⟩ : ∃ m, ys.length = m := ⟨_, rfl⟩
          have HM' := Lib.hid hm'
          rw [hm']
          clear hm'
          go_wp2_with fail
          refine CC.out.mono ?_
          rintro e W7 ⟨s, rfl, h7⟩
          have H7 := Lib.hid h7
          replace CC := Lib.hid (made_any x HX.out yb yc ys W7 (HYI.out.bel h7.bel) HL2.out HO2.out)
          rw [HM'.out] at CC
          clear h7
          go_wp2_with fail
          refine CC.out.mono ?_
          rintro e W8 ⟨o, rfl, h8⟩
          have h8' := H7.out.adopt h8
          rw [HOA.out] at h8'
          have hA : (addsT [] l).length ≤ 1000 := by have := adds_len l []; rw [Hn.out] at this; simp at this; omega
          have H8 := Lib.hid h8'
          have HAL := Lib.hid hA
          clear h8 h8' H7 CC hA
          have HLA : Hid ((allS (gapOf x) (ofP (addsT [] l) p)).length ≤ 1000) := Lib.hid (Nat.le_trans (all_le _ _) (Nat.le_trans (List.length_filter_le _ _) HAL.out))
          have HLU : Hid ((allS (gapOf x) (uptoT (addsT [] l) p now)).length ≤ 1000) := Lib.hid (Nat.le_trans (all_le _ _) (Nat.le_trans (List.length_filter_le _ _) HAL.out))
          have HID := Lib.hid (ofP_idem (addsT [] l) p)
          have HUP := Lib.hid (upto_of (addsT [] l) p now)
          generalize addsT [] l = A at *
          generalize gapOf x = gap at *
          have CC := Lib.hid (h_sof H8.out (i := 0) rfl p HP.out)
          go_wp2_with fail
          refine CC.out.mono ?_
          rintro e W9 ⟨b9, c9, S9, rfl, q1, q2, q3, q4, q5⟩
          have hs9 : S9.length ≤ 1000 := by have h1 := congrArg List.length q4; rw [List.length_map] at h1; have h2 := HLA.out; omega
          have H9 := Lib.hid (H8.out.step_bel q5)
          have HQ9 := Lib.hid q4
          have HI9 := Lib.hid q3
          obtain ⟨n9, hn9⟩ : ∃ n, S9.length = n := ⟨_, rfl⟩
          have HN9 := Lib.hid hn9
          rw [hn9] at hs9 ⊢
          clear q1 q2 q3 q4 q5 CC hn9
          have CC := Lib.hid (told_any b9 c9 S9 W9 HI9.out (by rw [HN9.out]; omega))
          rw [HN9.out] at CC
          go_wp2_with fail
          refine CC.out.mono ?_
          rintro e W10 ⟨b10, c10, rfl, q1, q2⟩
          have H10 := Lib.hid (H9.out.step_bel q2)
          have HI10 := Lib.hid q1
          clear q1 q2 CC
          have CC := Lib.hid (h_sof H10.out (i := 1) rfl p HP.out)
          go_wp2_with fail
          refine CC.out.mono ?_
          rintro e W11 ⟨b11, c11, S11, rfl, q1, q2, q3, q4, q5⟩
          have hs11 : S11.length ≤ 1000 := by have h1 := congrArg List.length q4; rw [List.length_map] at h1; have h2 := (by rw [HID.out]; exact HLA.out : (allS gap (ofP (ofP A p) p)).length ≤ 1000); omega
          have H11 := Lib.hid (H10.out.step_bel q5)
          have HQ11 := Lib.hid q4
          have HI11 := Lib.hid q3
          replace HI10 := Lib.hid (HI10.out.bel q5)
          obtain ⟨n11, hn11⟩ : ∃ n, S11.length = n := ⟨_, rfl⟩
          have HN11 := Lib.hid hn11
          rw [hn11] at hs11 ⊢
          clear q1 q2 q3 q4 q5 CC hn11
          have CC := Lib.hid (told_any b11 c11 S11 W11 HI11.out (by rw [HN11.out]; omega))
          rw [HN11.out] at CC
          go_wp2_with fail
          refine CC.out.mono ?_
          rintro e W12 ⟨b12, c12, rfl, q1, q2⟩
          have H12 := Lib.hid (H11.out.step_bel q2)
          have HI12 := Lib.hid q1
          replace HI10 := Lib.hid (HI10.out.bel q2)
          clear q1 q2 CC
          have CC := Lib.hid (same_yes b10 b12 c10 c12 S9 S11 W12 HI10.out HI12.out (HQ9.out.trans (by rw [HQ11.out, HID.out])) (by rw [HN9.out]; unfold maxLen; omega))
          rw [HN9.out, HN11.out] at CC
          go_wp2_with fail
          refine CC.out.mono ?_
          rintro e W13 ⟨rfl, q1⟩
          have H13 := Lib.hid (H12.out.step_bel q1)
          clear q1 CC
          clear HI10 HI12 HI9 HI11 H9 H10 H11 H12 HQ9 HQ11
          have CC := Lib.hid (h_sall H13.out (i := 1) rfl)
          go_wp2_with fail
          refine CC.out.mono ?_
          rintro e W14 ⟨b14, c14, S14, rfl, q1, q2, q3, q4, q5⟩
          have hs14 : S14.length ≤ 1000 := by have h1 := congrArg List.length q4; rw [List.length_map] at h1; have h2 := HLA.out; omega
          have H14 := Lib.hid (H13.out.step_bel q5)
          have HQ14 := Lib.hid q4
          have HI14 := Lib.hid q3
          obtain ⟨n14, hn14⟩ : ∃ n, S14.length = n := ⟨_, rfl⟩
          have HN14 := Lib.hid hn14
          rw [hn14] at hs14 ⊢
          clear q1 q2 q3 q4 q5 CC hn14
          have CC := Lib.hid (told_any b14 c14 S14 W14 HI14.out (by rw [HN14.out]; omega))
          rw [HN14.out] at CC
          go_wp2_with fail
          refine CC.out.mono ?_
          rintro e W15 ⟨b15, c15, rfl, q1, q2⟩
          have H15 := Lib.hid (H14.out.step_bel q2)
          have HI15 := Lib.hid q1
          clear q1 q2 CC
          have CC := Lib.hid (h_sof H15.out (i := 1) rfl p HP.out)
          go_wp2_with fail
          refine CC.out.mono ?_
          rintro e W16 ⟨b16, c16, S16, rfl, q1, q2, q3, q4, q5⟩
          have hs16 : S16.length ≤ 1000 := by have h1 := congrArg List.length q4; rw [List.length_map] at h1; have h2 := (by rw [HID.out]; exact HLA.out : (allS gap (ofP (ofP A p) p)).length ≤ 1000); omega
          have H16 := Lib.hid (H15.out.step_bel q5)
          have HQ16 := Lib.hid q4
          have HI16 := Lib.hid q3
          replace HI15 := Lib.hid (HI15.out.bel q5)
          obtain ⟨n16, hn16⟩ : ∃ n, S16.length = n := ⟨_, rfl⟩
          have HN16 := Lib.hid hn16
          rw [hn16] at hs16 ⊢
          clear q1 q2 q3 q4 q5 CC hn16
          have CC := Lib.hid (told_any b16 c16 S16 W16 HI16.out (by rw [HN16.out]; omega))
          rw [HN16.out] at CC
          go_wp2_with fail
          refine CC.out.mono ?_
          rintro e W17 ⟨b17, c17, rfl, q1, q2⟩
          have H17 := Lib.hid (H16.out.step_bel q2)
          have HI17 := Lib.hid q1
          replace HI15 := Lib.hid (HI15.out.bel q2)
          clear q1 q2 CC
          have CC := Lib.hid (same_yes b15 b17 c15 c17 S14 S16 W17 HI15.out HI17.out (HQ14.out.trans (by rw [HQ16.out, HID.out])) (by rw [HN14.out]; unfold maxLen; omega))
          rw [HN14.out, HN16.out] at CC
          go_wp2_with fail
          refine CC.out.mono ?_
          rintro e W18 ⟨rfl, q1⟩
          have H18 := Lib.hid (H17.out.step_bel q1)
          clear q1 CC
          clear HI15 HI17 HI14 HI16 H14 H15 H16 H17 HQ14 HQ16
          obtain ⟨US, hUS⟩ : ∃ US, US = allS gap (uptoT A p now) := ⟨_, rfl⟩
          obtain ⟨bb, hbb⟩ : ∃ bb, bb = decide (US ≠ []) := ⟨_, rfl⟩
          have CC := Lib.hid (h_last2 H18.out (i := 0) rfl p now HP.out HT.out hUS hbb)
          have HU2 : Hid (US = allS gap (uptoT (ofP A p) p now)) := Lib.hid (by rw [HUP.out]; exact hUS)
          have HBB := Lib.hid hbb
          clear hUS hbb
          go_wp2_with fail
          refine CC.out.mono ?_
          rintro e W19 ⟨z1, rfl, q1, q2, q2b, q3, q4⟩
          have HZ1 : Hid (SvIn1 W19 z1) := Lib.hid ⟨q1, q2, q2b⟩
          have HE1 := Lib.hid q3
          obtain ⟨v1, hv1⟩ : ∃ v, z1.its.length = v := ⟨_, rfl⟩
          have HV1 := Lib.hid hv1
          have hh19 := h_box (H18.out.step_bel q4) (svC z1) 45
          obtain ⟨g1, hg1⟩ : ∃ g, W19.heap.size = g := ⟨_, rfl⟩
          rw [hg1] at hh19
          have H19 := Lib.hid hh19
          unfold svC at hh19
          rw [hv1] at hh19 ⊢
          have HH19 := Lib.hid hh19
          replace CC := Lib.hid (h_last2 HH19.out (i := 1) rfl p now HP.out HT.out HU2.out HBB.out)
          have HZ1b : Hid (SvIn1 (W19.alloc (.cells #[.string z1.p, .int .i64 z1.f, .int .i64 z1.t, .slice z1.ib v1 z1.ic] 45)) z1) := Lib.hid (HZ1.out.bel ((Below.refl _ _).alloc (Nat.le_refl _) _))
          clear q1 q2 q2b q3 q4 hh19 H19 HZ1 hv1
          go_wp2_with fail
          refine CC.out.mono ?_
          rintro e W20 ⟨z2, rfl, q1, q2, q2b, q3, q4⟩
          have HZ2 : Hid (SvIn1 W20 z2) := Lib.hid ⟨q1, q2, q2b⟩
          have HE : Hid (seOf z1 = seOf z2) := Lib.hid (HE1.out.trans q3.symm)
          have HZ1c := Lib.hid (HZ1b.out.bel q4)
          obtain ⟨v2, hv2⟩ : ∃ v, z2.its.length = v := ⟨_, rfl⟩
          have HV2 := Lib.hid hv2
          have hh20 := h_box (HH19.out.step_bel q4) [.string z2.p, .int .i64 z2.f, .int .i64 z2.t, .slice z2.ib v2 z2.ic] 45
          obtain ⟨g2, hg2⟩ : ∃ g, W20.heap.size = g := ⟨_, rfl⟩
          rw [hg2] at hh20
          have H20 : Hid (Here K12 wr (W20.alloc (.cells #[.string z2.p, .int .i64 z2.f, .int .i64 z2.t, .slice z2.ib v2 z2.ic] 45)) [.ses s gap A, .ses o gap (ofP A p), .box g1 [.string z1.p, .int .i64 z1.f, .int .i64 z1.t, .slice z1.ib v1 z1.ic] 45, .box g2 [.string z2.p, .int .i64 z2.f, .int .i64 z2.t, .slice z2.ib v2 z2.ic] 45]) := Lib.hid hh20
          rw [hv2]
          clear q1 q2 q2b q3 q4 hh20 HE1 hv2 CC HH19 HZ1b
          go_upto_region 16 with fail
          have HZ1d := Lib.hid (HZ1c.out.bel ((Below.refl W20.heap.size W20).alloc (Nat.le_refl _) (.cells #[.string z2.p, .int .i64 z2.f, .int .i64 z2.t, .slice z2.ib v2 z2.ic] 45)))
          have HZ2d := Lib.hid (HZ2.out.bel ((Below.refl W20.heap.size W20).alloc (Nat.le_refl _) (.cells #[.string z2.p, .int .i64 z2.f, .int .i64 z2.t, .slice z2.ib v2 z2.ic] 45)))
          clear HZ1c HZ2 hg1 hg2
          generalize W20.alloc _ = V at *
          have HC : Hid (∀ W, Below V.heap.size V W → (W.cell? ⟨g1, 0, none⟩ = some (.string z1.p) ∧ W.cell? ⟨g1, 1, none⟩ = some (.int .i64 z1.f) ∧ W.cell? ⟨g1, 2, none⟩ = some (.int .i64 z1.t) ∧ W.cell? ⟨g1, 3, none⟩ = some (.slice z1.ib v1 z1.ic) ∧ W.cell? ⟨g2, 0, none⟩ = some (.string z2.p) ∧ W.cell? ⟨g2, 1, none⟩ = some (.int .i64 z2.f) ∧ W.cell? ⟨g2, 2, none⟩ = some (.int .i64 z2.t) ∧ W.cell? ⟨g2, 3, none⟩ = some (.slice z2.ib v2 z2.ic))) := Lib.hid (fun W hW => by
            have k1 := (h_boxAt H20.out (i := 2) rfl).bel hW
            have k2 := (h_boxAt H20.out (i := 3) rfl).bel hW
            exact ⟨k1.cell 0, k1.cell 1, k1.cell 2, k1.cell 3, k2.cell 0, k2.cell 1, k2.cell 2, k2.cell 3⟩)
          have HT1 : Hid (∀ (W : World) (q : Nat), Below V.heap.size V W → Bk W q [.string z1.p, .int .i64 z1.f, .int .i64 z1.t, .slice z1.ib v1 z1.ic] 45 → Calls Try.prog 18 #[.slice (some ⟨q, 0, none⟩) 1 1] W fun e w' => ∃ (b' : Option Addr) (c' : Nat), e = .returned (.slice b' 1 c') ∧ SvIn w' b' [z1] ∧ Below W.heap.size W w') := Lib.hid (fun W q hW hk => told_any (some ⟨q, 0, none⟩) 1 [z1] W (sv_one (t := 45) (by unfold svC; rw [HV1.out]; exact hk) (HZ1d.out.bel hW).i ⟨HZ1d.out.l, HZ1d.out.m⟩) (by simp))
          have HT2 : Hid (∀ (W : World) (q : Nat), Below V.heap.size V W → Bk W q [.string z2.p, .int .i64 z2.f, .int .i64 z2.t, .slice z2.ib v2 z2.ic] 45 → Calls Try.prog 18 #[.slice (some ⟨q, 0, none⟩) 1 1] W fun e w' => ∃ (b' : Option Addr) (c' : Nat), e = .returned (.slice b' 1 c') ∧ SvIn w' b' [z2] ∧ Below W.heap.size W w') := Lib.hid (fun W q hW hk => told_any (some ⟨q, 0, none⟩) 1 [z2] W (sv_one (t := 45) (by unfold svC; rw [HV2.out]; exact hk) (HZ2d.out.bel hW).i ⟨HZ2d.out.l, HZ2d.out.m⟩) (by simp))
          have HS : Hid (∀ (W : World) (ba bb' : Option Addr) (ca cb : Nat), SvIn W ba [z1] → SvIn W bb' [z2] → Calls Try.prog 17 #[.slice ba 1 ca, .slice bb' 1 cb] W fun e w' => e = .returned (.bool true) ∧ Below W.heap.size W w') := Lib.hid (fun W ba bb' ca cb h1 h2 => same_yes ba bb' ca cb [z1] [z2] W h1 h2 (by simp [HE.out]) (by unfold maxLen; simp))
          have B0 := Below.refl V.heap.size V
          have bA : Below V.heap.size V (V.alloc (.cells #[.string z1.p, .int .i64 z1.f, .int .i64 z1.t, .slice z1.ib v1 z1.ic] 45)).drew := (B0.alloc (Nat.le_refl _) _).drew
          have bAB : Below V.heap.size V ((V.alloc (.cells #[.string z1.p, .int .i64 z1.f, .int .i64 z1.t, .slice z1.ib v1 z1.ic] 45)).alloc (.cells #[.string z2.p, .int .i64 z2.f, .int .i64 z2.t, .slice z2.ib v2 z2.ic] 45)).drew := ((B0.alloc (Nat.le_refl _) _).alloc (by simp) _).drew
          have bB : Below V.heap.size V (V.alloc (.cells #[.string z2.p, .int .i64 z2.f, .int .i64 z2.t, .slice z2.ib v2 z2.ic] 45)).drew := (B0.alloc (Nat.le_refl _) _).drew
          have bBA : Below V.heap.size V ((V.alloc (.cells #[.string z2.p, .int .i64 z2.f, .int .i64 z2.t, .slice z2.ib v2 z2.ic] 45)).alloc (.cells #[.string z1.p, .int .i64 z1.f, .int .i64 z1.t, .slice z1.ib v1 z1.ic] 45)).drew := ((B0.alloc (Nat.le_refl _) _).alloc (by simp) _).drew
          have kA : Bk (V.alloc (.cells #[.string z1.p, .int .i64 z1.f, .int .i64 z1.t, .slice z1.ib v1 z1.ic] 45)).drew V.heap.size [.string z1.p, .int .i64 z1.f, .int .i64 z1.t, .slice z1.ib v1 z1.ic] 45 := Bk.new V [.string z1.p, .int .i64 z1.f, .int .i64 z1.t, .slice z1.ib v1 z1.ic] 45
          have kA2 : Bk ((V.alloc (.cells #[.string z1.p, .int .i64 z1.f, .int .i64 z1.t, .slice z1.ib v1 z1.ic] 45)).alloc (.cells #[.string z2.p, .int .i64 z2.f, .int .i64 z2.t, .slice z2.ib v2 z2.ic] 45)).drew V.heap.size [.string z1.p, .int .i64 z1.f, .int .i64 z1.t, .slice z1.ib v1 z1.ic] 45 := (Bk.new V [.string z1.p, .int .i64 z1.f, .int .i64 z1.t, .slice z1.ib v1 z1.ic] 45).old _
          have kA3 : Bk ((V.alloc (.cells #[.string z2.p, .int .i64 z2.f, .int .i64 z2.t, .slice z2.ib v2 z2.ic] 45)).alloc (.cells #[.string z1.p, .int .i64 z1.f, .int .i64 z1.t, .slice z1.ib v1 z1.ic] 45)).drew (V.heap.size + 1) [.string z1.p, .int .i64 z1.f, .int .i64 z1.t, .slice z1.ib v1 z1.ic] 45 := Bk.new' V _ [.string z1.p, .int .i64 z1.f, .int .i64 z1.t, .slice z1.ib v1 z1.ic] 45
          have kB2 : Bk ((V.alloc (.cells #[.string z1.p, .int .i64 z1.f, .int .i64 z1.t, .slice z1.ib v1 z1.ic] 45)).alloc (.cells #[.string z2.p, .int .i64 z2.f, .int .i64 z2.t, .slice z2.ib v2 z2.ic] 45)).drew (V.heap.size + 1) [.string z2.p, .int .i64 z2.f, .int .i64 z2.t, .slice z2.ib v2 z2.ic] 45 := Bk.new' V _ [.string z2.p, .int .i64 z2.f, .int .i64 z2.t, .slice z2.ib v2 z2.ic] 45
          have kB3 : Bk ((V.alloc (.cells #[.string z2.p, .int .i64 z2.f, .int .i64 z2.t, .slice z2.ib v2 z2.ic] 45)).alloc (.cells #[.string z1.p, .int .i64 z1.f, .int .i64 z1.t, .slice z1.ib v1 z1.ic] 45)).drew V.heap.size [.string z2.p, .int .i64 z2.f, .int .i64 z2.t, .slice z2.ib v2 z2.ic] 45 := (Bk.new V [.string z2.p, .int .i64 z2.f, .int .i64 z2.t, .slice z2.ib v2 z2.ic] 45).old _
          have sA := HC.out _ bA
          have sAB := HC.out _ bAB
          have sB := HC.out _ bB
          have sBA := HC.out _ bBA
          have s0 := HC.out _ B0
          have KS := Lib.hid (And.intro bA (And.intro bAB (And.intro bBA (And.intro kA (And.intro kA2 (And.intro kA3 (And.intro kB2 kB3)))))))
          clear bA bAB bB bBA kA kA2 kA3 kB2 kB3 B0
          go_region_held3 (fun X => X.cell? ⟨g1, 0, none⟩ = some (.string z1.p) ∧ X.cell? ⟨g1, 1, none⟩ = some (.int .i64 z1.f) ∧ X.cell? ⟨g1, 2, none⟩ = some (.int .i64 z1.t) ∧ X.cell? ⟨g1, 3, none⟩ = some (.slice z1.ib v1 z1.ic) ∧ X.cell? ⟨g2, 0, none⟩ = some (.string z2.p) ∧ X.cell? ⟨g2, 1, none⟩ = some (.int .i64 z2.f) ∧ X.cell? ⟨g2, 2, none⟩ = some (.int .i64 z2.t) ∧ X.cell? ⟨g2, 3, none⟩ = some (.slice z2.ib v2 z2.ic)) (first | assumption | exact s0 | exact sA | exact sAB | exact sB | exact sBA | go_keep | fail)
            (first
              | (go_at_call 18
                 (with_reducible refine (HT1.out _ _ KS.out.1 KS.out.2.2.2.1).mono ?_)
                 rintro e wA ⟨b21, c21, rfl, r1, r2⟩
                 have hbA := (KS.out.1).trans (r2.mono (KS.out.1).size)
                 have HBA := Lib.hid hbA
                 have HRA := Lib.hid r1
                 have b4 : Below wA.heap.size wA (wA.alloc (.cells #[.string z2.p, .int .i64 z2.f, .int .i64 z2.t, .slice z2.ib v2 z2.ic] 45)) := (Below.refl _ _).alloc (Nat.le_refl _) _
                 have hSA := HC.out _ hbA
                 have HB4 := Lib.hid b4
                 have hSA2 := HC.out _ (hbA.trans (b4.mono hbA.size))
                 clear b4
                 clear r1 r2 hbA)
              | (go_at_call 18
                 (with_reducible refine (HT1.out _ _ KS.out.2.1 KS.out.2.2.2.2.1).mono ?_)
                 rintro e wA ⟨b21, c21, rfl, r1, r2⟩
                 have hbA := (KS.out.2.1).trans (r2.mono (KS.out.2.1).size)
                 have HBA := Lib.hid hbA
                 have HRA := Lib.hid r1
                 have HKB := Lib.hid (KS.out.2.2.2.2.2.2.1.bel r2)
                 have hSA := HC.out _ hbA
                 skip
                 clear r1 r2 hbA)
              | (go_at_call 18
                 (with_reducible refine (HT1.out _ _ KS.out.2.2.1 KS.out.2.2.2.2.2.1).mono ?_)
                 rintro e wA ⟨b21, c21, rfl, r1, r2⟩
                 have hbA := (KS.out.2.2.1).trans (r2.mono (KS.out.2.2.1).size)
                 have HBA := Lib.hid hbA
                 have HRA := Lib.hid r1
                 have HKB := Lib.hid (KS.out.2.2.2.2.2.2.2.bel r2)
                 have hSA := HC.out _ hbA
                 skip
                 clear r1 r2 hbA)
              | (go_at_call 18
                 (with_reducible refine (HT2.out _ _ (HBA.out.trans (HB4.out.mono HBA.out.size)) (Bk.new wA [.string z2.p, .int .i64 z2.f, .int .i64 z2.t, .slice z2.ib v2 z2.ic] 45)).mono ?_)
                 rintro e wB ⟨b22, c22, rfl, r1, r2⟩
                 have HRB := Lib.hid r1
                 have HRA2 := Lib.hid ((HRA.out.bel HB4.out).bel r2)
                 have hbB := ((HBA.out.trans (HB4.out.mono HBA.out.size))).trans (r2.mono ((HBA.out.trans (HB4.out.mono HBA.out.size))).size)
                 have HBB2 := Lib.hid hbB
                 have hSB := HC.out _ hbB
                 clear r1 r2 hbB)
              | (go_at_call 18
                 (with_reducible refine (HT2.out _ _ HBA.out HKB.out).mono ?_)
                 rintro e wB ⟨b22, c22, rfl, r1, r2⟩
                 have HRB := Lib.hid r1
                 have HRA2 := Lib.hid ((HRA.out).bel r2)
                 have hbB := (HBA.out).trans (r2.mono (HBA.out).size)
                 have HBB2 := Lib.hid hbB
                 have hSB := HC.out _ hbB
                 clear r1 r2 hbB)
              | (go_at_call 17
                 (with_reducible refine (HS.out _ _ _ _ _ HRA2.out HRB.out).mono ?_)
                 rintro e wC ⟨rfl, r1⟩
                 have hbC := HBB2.out.trans (r1.mono HBB2.out.size)
                 have HBC := Lib.hid hbC
                 have hSC := HC.out _ hbC
                 clear r1 hbC)
              | fail)
          all_goals
            go_wp2_with fail
            go_ret
            exact ⟨rfl, HM.out.bl.trans ((H20.out.bel.trans (HBC.out.mono H20.out.bel.size)).mono HM.out.bl.size)⟩

theorem own : ownKnob Try.prog.godebug = none := by kernel_rfl
theorem laidOut : laidOutB Try.prog = true := by kernel_rfl

set_option maxRecDepth 100000 in
theorem lifted (os : Os) (started : os.Started) (H : Type) (enc : TypeId × Value → H) :
    ReturnsInHanded {} Try.checked os 9 .any (Rows.sessionKeyedSpec.pre6 enc Try.prog Try.f9 Rows.sessionKeyedRow.domain false) (Rows.sessionKeyedSpec.post enc Try.prog Try.f9 false true false false) := by
  refine returnsInHanded_of_change (C := Try.checked) own started (by kernel_rfl) Try.func9
    (ChangeSpec.witness6 (enc := enc) (C := Try.checked) false ⟨#[], #[.int .i64 0, .slice none 0 0, .string ⟨#[]⟩, .int .i64 0], []⟩ 8 (by kernel_rfl) (by kernel_rfl) (by kernel_rfl) (by kernel_rfl)) ?_
  intro W base args ds gs before hval0 hW hcnd _
  have hval : ∀ (j : Nat) t v, Try.f9.params[j]? = some t → args[j]? = some v → Value.okWide Try.prog W .any base t v := hval0
  have hW' := hW
  obtain ⟨p, q, hA0, hV, rfl, hfz, hnd⟩ := hW
  have hA : DataW.TrodAll enc Try.prog W 0 (fun _ => true) true Try.f9.params.toList args.toList ds p := hA0
  rw [Try.params9] at hA hval
  obtain ⟨v0, vs0, d0, ds0, p0, q0, hargs, rfl, rfl, h0, r0⟩ := trodAll_cons hA
  obtain ⟨v1, vs1, d1, ds1, p1, q1, rfl, rfl, rfl, h1, r1⟩ := trodAll_cons r0
  obtain ⟨v2, vs2, d2, ds2, p2, q2, rfl, rfl, rfl, h2, r2⟩ := trodAll_cons r1
  obtain ⟨v3, vs3, d3, ds3, p3, q3, rfl, rfl, rfl, h3, r3⟩ := trodAll_cons r2
  obtain ⟨rfl, rfl, rfl⟩ := trodAll_nil r3
  obtain rfl : args = #[v0, v1, v2, v3] := by cases args; simp_all
  obtain ⟨rfl, rfl⟩ := trodVars_none hV
  have k0 := h0
  have lt0 : ∀ x ∈ p0, x.block < W.heap.size := by obtain ⟨m, hm⟩ := k0; exact DataW.trod_lt m _ _ _ hm
  obtain ⟨a0, rfl, rfl, rfl, w0⟩ := open_int Try.underlying3 (hval 0 3 v0 rfl rfl) h0
  have k1 := h1
  have lt1 : ∀ x ∈ p1, x.block < W.heap.size := by obtain ⟨m, hm⟩ := k1; exact DataW.trod_lt m _ _ _ hm
  obtain ⟨b1, c1, x1, rfl, l1, m1, i1, o1⟩ := open_adds (hval 1 22 v1 rfl rfl) h1
  have k2 := h2
  have lt2 : ∀ x ∈ p2, x.block < W.heap.size := by obtain ⟨m, hm⟩ := k2; exact DataW.trod_lt m _ _ _ hm
  obtain ⟨a2, rfl, rfl, rfl, w2⟩ := open_string Try.underlying9 (hval 2 9 v2 rfl rfl) h2
  have k3 := h3
  have lt3 : ∀ x ∈ p3, x.block < W.heap.size := by obtain ⟨m, hm⟩ := k3; exact DataW.trod_lt m _ _ _ hm
  obtain ⟨a3, rfl, rfl, rfl, w3⟩ := open_int Try.underlying3 (hval 3 3 v3 rfl rfl) h3
  clear hA0 hval0
  refine (walk W a0 w0 b1 c1 x1 l1 m1 i1 o1 a2 w2 a3 w3).mono fun e W' ⟨he, bel⟩ => ?_
  subst he
  exact ⟨_, rfl, _, _, _, [], _, [], hW', trodAll_mk1 (shut_bool Try.underlying4 _), (trodAll_cons_mk (Below.trod laidOut (by kernel_rfl) (of_decide_eq_true (by kernel_rfl)) k0 bel lt0) (trodAll_cons_mk (Below.trod laidOut (by kernel_rfl) (of_decide_eq_true (by kernel_rfl)) k1 bel lt1) (trodAll_cons_mk (Below.trod laidOut (by kernel_rfl) (of_decide_eq_true (by kernel_rfl)) k2 bel lt2) (trodAll_cons_mk (Below.trod laidOut (by kernel_rfl) (of_decide_eq_true (by kernel_rfl)) k3 bel lt3) trodAll_mk0)))), rfl, bel.frame _, fun h => by cases h⟩

theorem over : Rows.sessionKeyedRow.holds Try.pinned (OpenSpec.ofChange Rows.sessionKeyedSpec) :=
  OpenClaim.holds_of_wide 9 Try.f9 rfl rfl rfl rfl rfl rfl rfl ⟨rfl, rfl, rfl, rfl, rfl⟩ rfl rfl rfl rfl rfl (by kernel_rfl) Try.func9 (by kernel_rfl)
    (of_decide_eq_true (by kernel_rfl)) (by unfold Func.isWrapper; first | (rw [if_pos (by decide +kernel)]; kernel_rfl) | (rw [if_neg (by decide +kernel)]; exact ⟨rfl, rfl⟩))
    (fun os started H enc _ => lifted os started H enc)

theorem proved : Rows.SessionKeyedSaid := over
#print axioms proved
end Go.Proofs.Ytcnddbcdkpdkbaa.sessionKeyed

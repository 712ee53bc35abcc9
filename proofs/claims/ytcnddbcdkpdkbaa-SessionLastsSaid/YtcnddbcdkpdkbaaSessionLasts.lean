/- For every input ciceronelaw12.SessionLasts returns true, and its arguments read behind the call as before. No conditions. -/
import Derived.Test.YtcnddbcdkpdkbaaEDOf
import Derived.Test.YtcnddbcdkpdkbaaELast2
import Derived.Deep.DeepCutAuto
import Derived.Test.YtcnddbcdkpdkbaaRows
import Derived.ProofKit
import Derived.OpenShut
import Derived.ShutString
import Derived.ChangeOld
import Derived.Below
import Derived.Lib.SmallJoins
namespace Go.Proofs.Ytcnddbcdkpdkbaa.sessionLasts
open Go.ChangeShapes Go.WideShapes Go.ChangeAt Go.RowKit Go.Joins
open Go.ChangeMaps (open_string shut_string)
set_option linter.unusedVariables false

structure SvIn1 (w : World) (z : SV) : Prop where
  i : InW w z.ib 1 (z.its.map fun s => [.string s])
  l : z.its.length ≤ z.ic
  m : z.ic ≤ maxLen
theorem SvIn1.bel {w w' : World} {z : SV} (h : SvIn1 w z) (hb : Below w.heap.size w w') : SvIn1 w' z := ⟨h.i.bel hb, h.l, h.m⟩
theorem cell_bel {w W : World} {a : Nat} {k : Nat} {v : Value} (hW : Below w.heap.size w W) (h : w.cell? ⟨a, k, none⟩ = some v) : W.cell? ⟨a, k, none⟩ = some v := (hW.cell (p := ⟨a, k, none⟩) (World.block_lt_of_cell? w _ h)).trans h
set_option maxRecDepth 20000 in
set_option maxHeartbeats 8000000 in
theorem walk (w : World) (x : Int) (wx : (Lit.int .i64 x).wf = true) (b : Option Addr) (cap : Nat) (l : List Tri) (hlc : l.length ≤ cap) (hm : cap ≤ maxLen) (hi : InW w b 3 (l.map aC)) (ho : ∀ a ∈ l, aOk a) (p : ByteArray) (hp : p.size ≤ maxLen) (now : Int) (wt : (Lit.int .i64 now).wf = true) :
    Calls Try.prog 4 #[.int .i64 x, .slice b l.length cap, .string p, .int .i64 now] w fun e w' => e = .returned (.bool true) ∧ Below w.heap.size w w' := by
  have HX := Lib.hid (i64_wf wx)
  have HT := Lib.hid (i64_wf wt)
  have HP := Lib.hid hp
  have AW := Lib.hid (awake_any w)
  have HF : Hid (∀ W, Below w.heap.size w W → Calls Try.prog 12 #[.slice b l.length cap] W fun e w' => e = .returned (.bool (fewB l)) ∧ W = w') := Lib.hid (fun W hb => few_any b cap l W (InW.bel hi hb) hm hlc ho)
  have HIW := Lib.hid hi
  have HOK := Lib.hid ho
  unfold maxLen at hm hp
  clear wx wt hi ho
  cases hfw : fewB l with
  | false =>
    rw [hfw] at HF
    generalize l.length = n at *
    go_enter Try.func4, Try.ntmps4
    go_wp2_with fail
    refine AW.out.mono ?_
    rintro e w1 ⟨rfl, b1⟩
    have B1 := Lib.hid b1
    have F1 := Lib.hid (HF.out w1 b1)
    clear b1 HF AW
    go_wp2_with fail
    refine F1.out.mono ?_
    rintro e w2 ⟨rfl, rfl⟩
    clear F1
    go_wp2_with fail
    go_ret
    exact ⟨rfl, B1.out⟩
  | true =>
    rw [hfw] at HF
    obtain ⟨hn1, -⟩ := few_of hfw
    clear hfw
    obtain ⟨n, hn⟩ : ∃ n, l.length = n := ⟨_, rfl⟩
    have Hn := Lib.hid hn
    rw [hn] at hn1 hlc HF ⊢
    clear hn
    by_cases hbig : 100 < p.size
    · have t1 : decide ((100 : Int) < (p.size : Int)) = true := decide_eq_true (by omega)
      go_enter Try.func4, Try.ntmps4
      go_wp2_with fail
      refine AW.out.mono ?_
      rintro e w1 ⟨rfl, b1⟩
      have B1 := Lib.hid b1
      have F1 := Lib.hid (HF.out w1 b1)
      clear b1 HF AW
      go_wp2_with fail
      refine F1.out.mono ?_
      rintro e w2 ⟨rfl, rfl⟩
      clear F1
      go_wp2_with fail
      go_ret
      exact ⟨rfl, B1.out⟩
    have t1 : decide ((100 : Int) < (p.size : Int)) = false := decide_eq_false (by omega)
    go_enter Try.func4, Try.ntmps4
    go_wp2_with fail
    refine AW.out.mono ?_
    rintro e w1 ⟨rfl, b1⟩
    have B1 := Lib.hid b1
    have F1 := Lib.hid (HF.out w1 b1)
    clear b1 HF AW
    go_wp2_with fail
    refine F1.out.mono ?_
    rintro e w2 ⟨rfl, rfl⟩
    clear F1
    have HA1 : Hid (InW w1 b 3 (l.map aC)) := Lib.hid (HIW.out.bel B1.out)
    have CC := Lib.hid (made_any x HX.out b cap l w1 HA1.out (by rw [Hn.out]; omega) HOK.out)
    rw [Hn.out] at CC
    go_wp2_with fail
    refine CC.out.mono ?_
    rintro e W3 ⟨s, rfl, h3⟩
    have H3 := Lib.hid h3
    have HND := Lib.hid (h_dnew H3.out x HX.out)
    clear CC h3 HIW
    go_wp2_with fail
    refine HND.out.mono ?_
    rintro e W4 ⟨rfl, h2⟩
    have H2 : Hid (Here K12 w1 W4 [.ses s (gapOf x) (addsT [] l), .doc W3.heap.size (gapOf x) []]) := Lib.hid h2
    clear HND h2 H3
    generalize W3.heap.size = m at *
    generalize gapOf x = gap at *
    have HLN0 : Hid (∀ i, (addsT [] (l.take i)).length ≤ 101) := Lib.hid (fun i => by have := adds_len (l.take i) []; rw [List.length_take, Hn.out] at this; simp at this; omega)
    go_wp2_with fail
    go_loopw [11] (fun c wr => ∃ i : Nat, i ≤ n ∧ c = .int .i64 i ∧ Here K12 w1 wr [.ses s gap (addsT [] l), .doc m gap (addsT [] (l.take i))]) (fun c _ => n - (intOf c).toNat)
    case atStart => exact ⟨0, by omega, rfl, H2.out⟩
    case round =>
      obtain ⟨i, hi, rfl, hh⟩ := hrel
      have HH := Lib.hid hh
      clear hh H2
      by_cases hlt : i < n
      · obtain ⟨a, ha⟩ : ∃ a, l[i]? = some a := ⟨l[i]'(by rw [Hn.out]; exact hlt), List.getElem?_eq_getElem _⟩
        obtain ⟨B, off, rfl, hB, d0, d1, d2⟩ := aAt (HA1.out.bel HH.out.bel) ha
        have HAO := Lib.hid (HOK.out a (List.mem_of_getElem? ha))
        have hi0 : (0 : Int) ≤ (i : Int) := by omega
        have hi1 : (i : Int) < (n : Int) := by omega
        have HTK : Hid (addsT [] (l.take (i + 1)) = addT (addsT [] (l.take i)) a) := Lib.hid (by rw [List.take_add_one, ha]; exact addsT_snoc _ _ _)
        have HAD := Lib.hid (h_dadd HH.out (i := 1) rfl a HAO.out (by have := HLN0.out i; omega))
        clear ha
        go_wp2_with fail
        refine HAD.out.mono ?_
        rintro e W5 ⟨rfl, h5⟩
        have H5 : Hid (Here K12 w1 W5 [.ses s gap (addsT [] l), .doc m gap (addT (addsT [] (l.take i)) a)]) := Lib.hid h5
        clear h5
        go_wp2_with fail
        go_roundw
        case rel => exact ⟨i + 1, by omega, by go_num, by rw [HTK.out]; exact H5.out⟩
        case measure => simp [intOf]; omega
      · obtain rfl : n = i := by omega
        have htk : l.take n = l := List.take_of_length_le (by rw [Hn.out]; exact Nat.le_refl _)
        have hA0 := HLN0.out n
        rw [htk] at HH hA0
        clear htk HLN0
        generalize addsT [] l = A at *
        have HLU : Hid ((allS gap (uptoT A p now)).length ≤ 1000) := Lib.hid (Nat.le_trans (all_le _ _) (Nat.le_trans (List.length_filter_le _ _) (by omega)))
        obtain ⟨US, hUS⟩ : ∃ US, US = allS gap (uptoT A p now) := ⟨_, rfl⟩
        obtain ⟨bb, hbb⟩ : ∃ bb, bb = decide (US ≠ []) := ⟨_, rfl⟩
        have CC := Lib.hid (h_last2 HH.out (i := 0) rfl p now HP.out HT.out hUS hbb)
        have HUS := Lib.hid hUS
        have HBB := Lib.hid hbb
        clear hUS hbb
        go_wp2_with fail
        refine CC.out.mono ?_
        rintro e W19 ⟨z1, rfl, q1, q2, q2b, q3, q4⟩
        have HZ1 : Hid (SvIn1 W19 z1) := Lib.hid ⟨q1, q2, q2b⟩
        have HE1 := Lib.hid q3
        obtain ⟨v1, hv1⟩ : ∃ v, z1.its.length = v := ⟨_, rfl⟩
        have HV1 := Lib.hid hv1
        have hh19 := h_box (HH.out.step_bel q4) (svC z1) 45
        obtain ⟨g1, hg1⟩ : ∃ g, W19.heap.size = g := ⟨_, rfl⟩
        rw [hg1] at hh19
        unfold svC at hh19
        rw [hv1] at hh19 ⊢
        have HH19 : Hid (Here K12 w1 (W19.alloc (.cells #[.string z1.p, .int .i64 z1.f, .int .i64 z1.t, .slice z1.ib v1 z1.ic] 45)) [.ses s gap A, .doc m gap A, .box g1 [.string z1.p, .int .i64 z1.f, .int .i64 z1.t, .slice z1.ib v1 z1.ic] 45]) := Lib.hid hh19
        have HZ1b : Hid (SvIn1 (W19.alloc (.cells #[.string z1.p, .int .i64 z1.f, .int .i64 z1.t, .slice z1.ib v1 z1.ic] 45)) z1) := Lib.hid (HZ1.out.bel ((Below.refl _ _).alloc (Nat.le_refl _) _))
        clear q1 q2 q2b q3 q4 hh19 HZ1 hv1 CC HH
        have CC := Lib.hid (h_dof HH19.out (i := 1) rfl p now HP.out HT.out)
        go_wp2_with fail
        refine CC.out.mono ?_
        rintro e W13 ⟨b13, c13, S13, rfl, q1, q2, q3, q4, q5⟩
        have hs13 : S13.length ≤ 1000 := by have h1 := congrArg List.length q4; rw [List.length_map] at h1; have h2 := HLU.out; omega
        have H13 := Lib.hid (HH19.out.step_bel q5)
        have HQ13 := Lib.hid q4
        have HI13 := Lib.hid q3
        replace HZ1b := Lib.hid (HZ1b.out.bel q5)
        obtain ⟨n13, hn13⟩ : ∃ n, S13.length = n := ⟨_, rfl⟩
        have HN13 := Lib.hid hn13
        rw [hn13] at hs13 ⊢
        clear q1 q2 q3 q4 q5 CC hn13
        have hbx := h_boxAt H13.out (i := 2) rfl
        have k0 : W13.cell? ⟨g1, 0, none⟩ = some (.string z1.p) := hbx.cell 0
        have k1 : W13.cell? ⟨g1, 1, none⟩ = some (.int .i64 z1.f) := hbx.cell 1
        have k2 : W13.cell? ⟨g1, 2, none⟩ = some (.int .i64 z1.t) := hbx.cell 2
        have k3 : W13.cell? ⟨g1, 3, none⟩ = some (.slice z1.ib v1 z1.ic) := hbx.cell 3
        have hb14 : Below W13.heap.size W13 (W13.alloc (.cells #[.string z1.p, .int .i64 z1.f, .int .i64 z1.t, .slice z1.ib v1 z1.ic] 45)) := (Below.refl _ _).alloc (Nat.le_refl _) _
        have HT1 : Hid (Calls Try.prog 18 #[.slice (some ⟨W13.heap.size, 0, none⟩) 1 1] (W13.alloc (.cells #[.string z1.p, .int .i64 z1.f, .int .i64 z1.t, .slice z1.ib v1 z1.ic] 45)) fun e w' => ∃ (b' : Option Addr) (c' : Nat), e = .returned (.slice b' 1 c') ∧ SvIn w' b' [z1] ∧ Below (W13.alloc (.cells #[.string z1.p, .int .i64 z1.f, .int .i64 z1.t, .slice z1.ib v1 z1.ic] 45)).heap.size (W13.alloc (.cells #[.string z1.p, .int .i64 z1.f, .int .i64 z1.t, .slice z1.ib v1 z1.ic] 45)) w') := Lib.hid (told_any (some ⟨W13.heap.size, 0, none⟩) 1 [z1] _ (sv_one (t := 45) (by unfold svC; rw [HV1.out]; exact Bk.new W13 [.string z1.p, .int .i64 z1.f, .int .i64 z1.t, .slice z1.ib v1 z1.ic] 45) (HZ1b.out.bel hb14).i ⟨HZ1b.out.l, HZ1b.out.m⟩) (by simp))
        have HB14 := Lib.hid hb14
        clear hbx hb14
        go_wp2_with fail
        refine HT1.out.mono ?_
        rintro e W15 ⟨b15, c15, rfl, r1, r2⟩
        have hb15 := HB14.out.trans (r2.mono HB14.out.size)
        have H15 := Lib.hid (H13.out.step_bel hb15)
        have HI15 := Lib.hid r1
        have HI13b := Lib.hid (HI13.out.bel hb15)
        have HZ15 := Lib.hid (HZ1b.out.bel hb15)
        clear HT1 r1 r2 hb15 HB14 k0 k1 k2 k3 HZ1b HI13 H13 HH19 hg1
        obtain ⟨B5, o5, rfl, -, e0, e1, e2, e3⟩ := svAt HI15.out.i (i := 0) (a := z1) rfl
        simp only [Nat.zero_mul, Nat.add_zero] at e0 e1 e2 e3
        rw [HV1.out] at e3
        rcases List.eq_nil_or_concat S13 with hS | ⟨S', y, hS⟩
        · subst hS
          obtain rfl : n13 = 0 := by rw [← HN13.out]; rfl
          have hus : US = [] := by rw [HUS.out, ← HQ13.out]; rfl
          obtain rfl : bb = false := by rw [HBB.out, hus]; rfl
          have hz := HE1.out
          rw [hus] at hz
          have hzz : z1.p = ⟨#[]⟩ ∧ z1.f = 0 ∧ z1.t = 0 ∧ z1.its = [] := by
            unfold seOf lastS at hz
            simp only [List.getLast?_nil, Option.getD_none, zeroSe, Se.mk.injEq] at hz
            exact hz
          obtain ⟨z0, zf, zt, zi⟩ := hzz
          obtain rfl : v1 = 0 := by rw [← HV1.out, zi]; rfl
          rw [z0] at e0
          rw [zf] at e1
          rw [zt] at e2
          have CC : Hid (Calls Try.prog 25 #[.agg #[.string ⟨#[]⟩, .int .i64 0, .int .i64 0, .slice z1.ib 0 z1.ic], .agg #[.string ⟨#[]⟩, .int .i64 0, .int .i64 0, .slice none 0 0]] W15 fun e w' => e = .returned (.bool true) ∧ Below W15.heap.size W15 w') := Lib.hid (one_yes ⟨#[]⟩ 0 0 [] z1.ib none z1.ic 0 W15 (.inl rfl) (.inl rfl) (Nat.zero_le _))
          clear hus hz z0 zf zt zi
          go_wp2_with fail
          refine CC.out.mono ?_
          rintro e W16 ⟨rfl, q1⟩
          have H16 := Lib.hid (H15.out.step_bel q1)
          clear q1 CC
          go_wp2_with fail
          go_ret
          exact ⟨rfl, B1.out.trans (H16.out.bel.mono B1.out.size)⟩
        · rw [List.concat_eq_append] at hS
          subst hS
          obtain ⟨kk, hkk⟩ : ∃ kk, S'.length = kk := ⟨_, rfl⟩
          obtain rfl : n13 = kk + 1 := by rw [← HN13.out, List.length_append, hkk]; rfl
          have hus : US = S'.map seOf ++ [seOf y] := by rw [HUS.out, ← HQ13.out, List.map_append]; rfl
          obtain rfl : bb = true := by rw [HBB.out, hus]; simp
          have hz := HE1.out
          rw [hus] at hz
          unfold lastS at hz
          simp only [List.getLast?_append, List.getLast?_singleton, Option.some_or, Option.getD_some] at hz
          obtain ⟨z0, zf, zt, zi⟩ := seOf_eq hz
          obtain ⟨B3, o3, rfl, -, f0, f1, f2, f3⟩ := svAt HI13b.out.i (i := kk) (a := y) (by rw [← hkk]; simp)
          have HYI := Lib.hid (HI13b.out.it y (by simp))
          have hyv : y.its.length = v1 := by rw [← zi]; exact HV1.out
          rw [hyv] at f3
          rw [z0] at e0
          rw [zf] at e1
          rw [zt] at e2
          have HONE : Hid (∀ W, Below W15.heap.size W15 W → Calls Try.prog 25 #[.agg #[.string y.p, .int .i64 y.f, .int .i64 y.t, .slice z1.ib v1 z1.ic], .agg #[.string y.p, .int .i64 y.f, .int .i64 y.t, .slice y.ib v1 y.ic]] W fun e w' => e = .returned (.bool true) ∧ Below W.heap.size W w') := Lib.hid (fun W hW => by
            have := one_yes y.p y.f y.t y.its z1.ib y.ib z1.ic y.ic W (by rw [← zi]; exact HZ15.out.i.bel hW) (HYI.out.1.bel hW) (Nat.le_trans HYI.out.2.1 HYI.out.2.2)
            rwa [hyv] at this)
          have qk : IntKind.i64.wrap (kk : Int) = (kk : Int) := IntWalk.i64_in _ (by omega)
          have hkk0 : (0 : Int) ≤ (kk : Int) := by omega
          have hkk1 : (kk : Int) < (kk : Int) + 1 := by omega
          have hb0 : ((kk : Int) + 1 == 0) = false := by simp; omega
          have HSY : Hid (∀ X, Below W15.heap.size W15 X → (X.cell? ⟨B5, o5, none⟩ = some (.string y.p) ∧ X.cell? ⟨B5, o5 + 1, none⟩ = some (.int .i64 y.f) ∧ X.cell? ⟨B5, o5 + 2, none⟩ = some (.int .i64 y.t) ∧ X.cell? ⟨B5, o5 + 3, none⟩ = some (.slice z1.ib v1 z1.ic) ∧ X.cell? ⟨B3, o3 + kk * 4, none⟩ = some (.string y.p) ∧ X.cell? ⟨B3, o3 + kk * 4 + 1, none⟩ = some (.int .i64 y.f) ∧ X.cell? ⟨B3, o3 + kk * 4 + 2, none⟩ = some (.int .i64 y.t) ∧ X.cell? ⟨B3, o3 + kk * 4 + 3, none⟩ = some (.slice y.ib v1 y.ic))) := Lib.hid (fun X hX => ⟨cell_bel hX e0, cell_bel hX e1, cell_bel hX e2, cell_bel hX e3, cell_bel hX f0, cell_bel hX f1, cell_bel hX f2, cell_bel hX f3⟩)
          clear hus hz z0 zf zt zi hyv hkk
          go_wp2_with fail
          go_region_held3 (fun X => X.cell? ⟨B5, o5, none⟩ = some (.string y.p) ∧ X.cell? ⟨B5, o5 + 1, none⟩ = some (.int .i64 y.f) ∧ X.cell? ⟨B5, o5 + 2, none⟩ = some (.int .i64 y.t) ∧ X.cell? ⟨B5, o5 + 3, none⟩ = some (.slice z1.ib v1 z1.ic) ∧ X.cell? ⟨B3, o3 + kk * 4, none⟩ = some (.string y.p) ∧ X.cell? ⟨B3, o3 + kk * 4 + 1, none⟩ = some (.int .i64 y.f) ∧ X.cell? ⟨B3, o3 + kk * 4 + 2, none⟩ = some (.int .i64 y.t) ∧ X.cell? ⟨B3, o3 + kk * 4 + 3, none⟩ = some (.slice y.ib v1 y.ic)) (first | assumption | go_keep | fail)
            (first
              | (go_at_call 25
                 (with_reducible refine (HONE.out _ (Below.refl _ _).drew).mono ?_)
                 rintro e w2 ⟨rfl, h2⟩
                 have hb2 : Below W15.heap.size W15 w2 := (Below.refl W15.heap.size W15).drew.trans h2
                 have H16 := Lib.hid (H15.out.step_bel hb2)
                 have hS2 : w2.cell? ⟨B5, o5, none⟩ = some (.string y.p) ∧ w2.cell? ⟨B5, o5 + 1, none⟩ = some (.int .i64 y.f) ∧ w2.cell? ⟨B5, o5 + 2, none⟩ = some (.int .i64 y.t) ∧ w2.cell? ⟨B5, o5 + 3, none⟩ = some (.slice z1.ib v1 z1.ic) ∧ w2.cell? ⟨B3, o3 + kk * 4, none⟩ = some (.string y.p) ∧ w2.cell? ⟨B3, o3 + kk * 4 + 1, none⟩ = some (.int .i64 y.f) ∧ w2.cell? ⟨B3, o3 + kk * 4 + 2, none⟩ = some (.int .i64 y.t) ∧ w2.cell? ⟨B3, o3 + kk * 4 + 3, none⟩ = some (.slice y.ib v1 y.ic) := HSY.out w2 hb2
                 clear h2 hb2)
              | fail)
          go_wp2_with fail
          go_ret
          exact ⟨rfl, B1.out.trans (H16.out.bel.mono B1.out.size)⟩

theorem own : ownKnob Try.prog.godebug = none := by kernel_rfl
theorem laidOut : laidOutB Try.prog = true := by kernel_rfl

set_option maxRecDepth 100000 in
theorem lifted (os : Os) (started : os.Started) (H : Type) (enc : TypeId × Value → H) :
    ReturnsInHanded {} Try.checked os 4 .any (Rows.sessionLastsSpec.pre6 enc Try.prog Try.f4 Rows.sessionLastsRow.domain false) (Rows.sessionLastsSpec.post enc Try.prog Try.f4 false true false false) := by
  refine returnsInHanded_of_change (C := Try.checked) own started (by kernel_rfl) Try.func4
    (ChangeSpec.witness6 (enc := enc) (C := Try.checked) false ⟨#[], #[.int .i64 0, .slice none 0 0, .string ⟨#[]⟩, .int .i64 0], []⟩ 8 (by kernel_rfl) (by kernel_rfl) (by kernel_rfl) (by kernel_rfl)) ?_
  intro W base args ds gs before hval0 hW hcnd _
  have hval : ∀ (j : Nat) t v, Try.f4.params[j]? = some t → args[j]? = some v → Value.okWide Try.prog W .any base t v := hval0
  have hW' := hW
  obtain ⟨p, q, hA0, hV, rfl, hfz, hnd⟩ := hW
  have hA : DataW.TrodAll enc Try.prog W 0 (fun _ => true) true Try.f4.params.toList args.toList ds p := hA0
  rw [Try.params4] at hA hval
  obtain ⟨v0, vs0, d0, ds0, p0, q0, hargs, rfl, rfl, h0, r0⟩ := trodAll_cons hA
  obtain ⟨v1, vs1, d1, ds1, p1, q1, rfl, rfl, rfl, h1, r1⟩ := trodAll_cons r0
  obtain ⟨v2, vs2, d2, ds2, p2, q2, rfl, rfl, rfl, h2, r2⟩ := trodAll_cons r1
  obtain ⟨v3, vs3, d3, ds3, p3, q3, rfl, rfl, rfl, h3, r3⟩ := trodAll_cons r2
  obtain ⟨rfl, rfl, rfl⟩ := trodAll_nil r3
  obtain rfl : args = #[v0, v1, v2, v3] := by cases args; simp_all
  obtain ⟨rfl, rfl⟩ := trodVars_none hV
  have k0 := h0
  have lt0 : ∀ x ∈ p0, x.block < W.heap.size := by obtain ⟨m, hm⟩ := k0; exact DataW.trod_lt m _ _ _ hm
  obtain ⟨a0, rfl, rfl, rfl, w0⟩ := open_int Try.underlying3 (hval 0 3 v0 rfl rfl) h0
  have k1 := h1
  have lt1 : ∀ x ∈ p1, x.block < W.heap.size := by obtain ⟨m, hm⟩ := k1; exact DataW.trod_lt m _ _ _ hm
  obtain ⟨b1, c1, x1, rfl, l1, m1, i1, o1⟩ := open_adds (hval 1 22 v1 rfl rfl) h1
  have k2 := h2
  have lt2 : ∀ x ∈ p2, x.block < W.heap.size := by obtain ⟨m, hm⟩ := k2; exact DataW.trod_lt m _ _ _ hm
  obtain ⟨a2, rfl, rfl, rfl, w2⟩ := open_string Try.underlying9 (hval 2 9 v2 rfl rfl) h2
  have k3 := h3
  have lt3 : ∀ x ∈ p3, x.block < W.heap.size := by obtain ⟨m, hm⟩ := k3; exact DataW.trod_lt m _ _ _ hm
  obtain ⟨a3, rfl, rfl, rfl, w3⟩ := open_int Try.underlying3 (hval 3 3 v3 rfl rfl) h3
  clear hA0 hval0
  refine (walk W a0 w0 b1 c1 x1 l1 m1 i1 o1 a2 w2 a3 w3).mono fun e W' ⟨he, bel⟩ => ?_
  subst he
  exact ⟨_, rfl, _, _, _, [], _, [], hW', trodAll_mk1 (shut_bool Try.underlying4 _), (trodAll_cons_mk (Below.trod laidOut (by kernel_rfl) (of_decide_eq_true (by kernel_rfl)) k0 bel lt0) (trodAll_cons_mk (Below.trod laidOut (by kernel_rfl) (of_decide_eq_true (by kernel_rfl)) k1 bel lt1) (trodAll_cons_mk (Below.trod laidOut (by kernel_rfl) (of_decide_eq_true (by kernel_rfl)) k2 bel lt2) (trodAll_cons_mk (Below.trod laidOut (by kernel_rfl) (of_decide_eq_true (by kernel_rfl)) k3 bel lt3) trodAll_mk0)))), rfl, bel.frame _, fun h => by cases h⟩

theorem over : Rows.sessionLastsRow.holds Try.pinned (OpenSpec.ofChange Rows.sessionLastsSpec) :=
  OpenClaim.holds_of_wide 4 Try.f4 rfl rfl rfl rfl rfl rfl rfl ⟨rfl, rfl, rfl, rfl, rfl⟩ rfl rfl rfl rfl rfl (by kernel_rfl) Try.func4 (by kernel_rfl)
    (of_decide_eq_true (by kernel_rfl)) (by unfold Func.isWrapper; first | (rw [if_pos (by decide +kernel)]; kernel_rfl) | (rw [if_neg (by decide +kernel)]; exact ⟨rfl, rfl⟩))
    (fun os started H enc _ => lifted os started H enc)

theorem proved : Rows.SessionLastsSaid := over
#print axioms proved
end Go.Proofs.Ytcnddbcdkpdkbaa.sessionLasts

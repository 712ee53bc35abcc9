/- For every input ciceronelaw04.DiskNames returns true, and its arguments read behind the call as before. No conditions. -/
import Derived.Test.YtemfnchiedepoaaRfPlay
import Derived.Test.YtemfnchiedepoaaRows
import Derived.ProofKit
import Derived.OpenShut
import Derived.ShutString
import Derived.ChangeOld
import Derived.Below
import Derived.Lib.SmallJoins
namespace Go.Proofs.Ytemfnchiedepoaa.diskNames
open Go.ChangeShapes Go.WideShapes Go.ChangeAt Go.RowKit Go.Joins
open Go.ChangeMaps (open_string shut_string)
set_option linter.unusedVariables false

theorem ok_bel {w w' : World} {a : OpD} (h : OpOk w a) (hb : Below w.heap.size w w') : OpOk w' a := ⟨h.kind, h.n, h.name, h.s, h.kl, h.kc, InW.bel h.kin hb, h.kx⟩
theorem read_in {X : Dk} (hok : DkOk X) {i : Nat} {p : ByteArray × Fl} (hp : X.L[i]? = some p) : (readD X p.1).2 = if X.down then 8 else 0 := by
  have hm := List.mem_of_getElem? hp
  have hg := get_of_mem hok.rise.nodup (a := p.1) (v := p.2) hm
  have hn := hok.name p hm
  unfold readD
  cases hd : X.down with
  | true => simp
  | false => simp [hn, hg]
theorem rise_at {L : Fs} (h : RiseF L) {i : Nat} {p r : ByteArray × Fl} (hp : L[i]? = some p) (hr : L[i + 1]? = some r) : ltB p.1 r.1 := by
  have h1 : (fnames L)[i]? = some p.1 := by unfold fnames; rw [List.getElem?_map, hp]; rfl
  have h2 : (fnames L)[i + 1]? = some r.1 := by unfold fnames; rw [List.getElem?_map, hr]; rfl
  obtain ⟨a1, a2⟩ := List.getElem?_eq_some_iff.1 h1
  obtain ⟨b1, b2⟩ := List.getElem?_eq_some_iff.1 h2
  have := List.pairwise_iff_getElem.1 h i (i + 1) a1 b1 (by omega)
  rw [a2, b2] at this
  exact this
set_option maxRecDepth 100000 in
set_option maxHeartbeats 1000000 in
theorem walk (w : World) (b : Option Addr) (cap : Nat) (l : List OpD) (hlc : l.length ≤ cap) (hm : cap ≤ maxLen) (hi : InW w b 5 (l.map opC)) (ho : ∀ a ∈ l, OpOk w a) :
    Calls Try.prog 10 #[.slice b l.length cap] w fun e w' => e = .returned (.bool true) ∧ Below w.heap.size w w' := by
  have AW := Lib.hid (fun W => awake_any W)
  have HL := Lib.hid (long_any b cap l w hi hm hlc ho)
  obtain ⟨X, hX⟩ : ∃ X, playL l = X := ⟨_, rfl⟩
  have HPL : Hid (longB l = false → ∀ W, Below w.heap.size w W → Calls Try.prog 23 #[.slice b l.length cap] W fun e w' => ∃ d u, e = .returned (.tuple #[.pointer (some ⟨d, 0, none⟩), .agg #[u, .int .i64 X.fuse, .bool X.down]]) ∧ Here K04 W w' [.disk d X, .row u 80 4 X.L.length (X.L.flatMap flC)]) := Lib.hid (fun hlo W hb => play_any b cap l W (InW.bel hi hb) hm hlc (fun a ha => ok_bel (ho a ha) hb) hlo X hX _ rfl)
  unfold maxLen at hm
  clear hi ho hX
  generalize l.length = n at *
  cases hlong : longB l with
  | true =>
    rw [hlong] at HL
    clear hlong HPL
    go_enter Try.func10, Try.ntmps10
    go_wp2_with fail
    refine HL.out.mono ?_
    rintro e w1 ⟨rfl, b1⟩
    have B1 := Lib.hid b1
    clear b1 HL
    go_wp2_with fail
    refine (AW.out _).mono ?_
    rintro e w7 ⟨rfl, b7⟩
    have HB := Lib.hid (B1.out.trans (b7.mono B1.out.size))
    clear b7
    go_wp2_with fail
    go_ret
    exact ⟨rfl, HB.out⟩
  | false =>
    rw [hlong] at HL
    go_enter Try.func10, Try.ntmps10
    go_wp2_with fail
    refine HL.out.mono ?_
    rintro e w1 ⟨rfl, b1⟩
    have HP := Lib.hid (HPL.out hlong w1 b1)
    have B1 := Lib.hid b1
    clear b1 HL HPL hlong
    go_wp2_with fail
    refine HP.out.mono ?_
    rintro e w2 ⟨d, u, rfl, h2⟩
    obtain ⟨ub, uc, hu, huc, _, _⟩ := h_rowIn h2 (i := 1) rfl
    obtain ⟨al, hal⟩ : ∃ al, al = X.L.length := ⟨_, rfl⟩
    rw [← hal] at hu
    subst hu
    have H3 : Hid (Here K04 w1 (w2.alloc (.cells #[.slice ub al uc, .int .i64 X.fuse, .bool X.down] 48)) [.disk d X]) := Lib.hid ((Here.init (os := [Ob.disk d X]) (us := [_]) h2).step_bel ((Below.refl _ _).alloc (Nat.le_refl _) _))
    have HOK := Lib.hid (h_ok h2 (i := 0) rfl)
    have HNM := Lib.hid (h_names H3.out (i := 0) rfl)
    have hfl : (fnames X.L).length = X.L.length := by simp [fnames]
    have hxl := HOK.out.len
    rw [← hal] at hfl hxl
    have HFL := Lib.hid hfl
    have HAL := Lib.hid hal
    clear h2 hal huc HP hfl H3
    go_wp2_with fail
    refine HNM.out.mono ?_
    rintro e w3 ⟨v, rfl, m3, h3⟩
    obtain ⟨nb, nc, hv, hnc, hnm, hst⟩ := m3.tx.strs
    rw [HFL.out] at hv hnc
    subst hv
    unfold maxLen at hnm
    have HST := Lib.hid hst
    have H4 := Lib.hid h3
    clear m3 h3 hst HNM
    go_wp2_with fail
    go_loopw [24] (fun c wr => ∃ i : Nat, i ≤ al ∧ c = .int .i64 i ∧ Here K04 w1 wr [.disk d X] ∧ Below w3.heap.size w3 wr) (fun c _ => al - (intOf c).toNat)
    case atStart => exact ⟨0, by omega, rfl, H4.out, Below.refl _ _⟩
    case round =>
      obtain ⟨i, hi, rfl, hH, hb⟩ := hrel
      have HH := Lib.hid hH
      have HBB := Lib.hid hb
      clear H4
      by_cases hlt : i < al
      · obtain ⟨p, hp⟩ : ∃ p, X.L[i]? = some p := ⟨X.L[i]'(by rw [← HAL.out]; exact hlt), List.getElem?_eq_getElem _⟩
        obtain ⟨NB, noff, rfl, hNB, hnc0⟩ := HST.out.at (i := i) (s := p.1) (by unfold fnames; rw [List.getElem?_map, hp]; rfl)
        have n0 := (hb.cell (p := ⟨NB, noff + i, none⟩) hNB).trans hnc0
        have hns := HOK.out.name p (List.mem_of_getElem? hp)
        unfold nameD at hns
        simp at hns
        have HR := Lib.hid (h_read hH (i := 0) rfl p.1 (by omega))
        rw [read_in HOK.out hp] at HR
        have HDW : Hid (∀ W, Here K04 w1 W [.disk d X] → Calls Try.prog 14 #[.pointer (some ⟨d, 0, none⟩)] W fun e w' => e = .returned (.bool X.down) ∧ W = w') := Lib.hid (fun W hW => h_down hW (i := 0) rfl)
        have hi0 : (0 : Int) ≤ (i : Int) := by omega
        have hi1 : (i : Int) < (al : Int) := by omega
        have u1 : decide ((p.1.size : Int) < 1) = false := decide_eq_false (by omega)
        have u2 : decide ((64 : Int) < (p.1.size : Int)) = false := decide_eq_false (by omega)
        have HPV : Hid (∀ j, i = j + 1 → ∃ r : ByteArray, (∀ W, Below w3.heap.size w3 W → W.cell? ⟨NB, noff + j, none⟩ = some (.string r)) ∧ (Op.bytesLess p.1.toList r.toList || p.1.toList == r.toList) = false) := Lib.hid (fun j hj => by
          subst hj
          obtain ⟨r, hr⟩ : ∃ r, X.L[j]? = some r := ⟨X.L[j]'(by have := HAL.out; omega), List.getElem?_eq_getElem _⟩
          obtain ⟨NB2, noff2, e2, hNB2, hn2⟩ := HST.out.at (i := j) (s := r.1) (by unfold fnames; rw [List.getElem?_map, hr]; rfl)
          cases e2
          refine ⟨r.1, fun W hW => (hW.cell (p := ⟨NB, noff + j, none⟩) hNB2).trans hn2, ?_⟩
          rw [leqB]
          exact decide_eq_false (fun c => c (rise_at HOK.out.rise hr hp)))
        clear hp hnc0 hH hb hns
        generalize X.down = dn at *
        generalize (readD X p.1).1 = rs at *
        generalize p.1 = pn at *
        cases i with
        | zero =>
          rw [Nat.add_zero] at n0
          go_wp2_with fail
          refine HR.out.mono ?_
          rintro e w4 ⟨v4, rfl, m4, h4⟩
          obtain ⟨b4, c4, rfl, _, _, _⟩ := m4.sl
          have HB4 := Lib.hid (HBB.out.trans (m4.bl.mono HBB.out.size))
          have H5 := Lib.hid h4
          have HDD := Lib.hid (HDW.out w4 h4)
          clear m4 h4 HR HDW HPV HH HBB
          cases dn with
          | true =>
            go_wp2_with fail
            refine HDD.out.mono ?_
            rintro e wx ⟨rfl, rfl⟩
            clear HDD
            go_wp2_with fail
            go_roundw
            case rel => exact ⟨1, by omega, by go_num, H5.out, HB4.out⟩
            case measure => simp [intOf]; omega
          | false =>
            go_wp2_with fail
            refine HDD.out.mono ?_
            rintro e wx ⟨rfl, rfl⟩
            clear HDD
            go_wp2_with fail
            go_roundw
            case rel => exact ⟨1, by omega, by go_num, H5.out, HB4.out⟩
            case measure => simp [intOf]; omega
        | succ j =>
          obtain ⟨r, hrc, hrl⟩ := HPV.out j rfl
          have HRC := Lib.hid hrc
          have t4 : decide ((0 : Int) < ((j + 1 : Nat) : Int)) = true := decide_eq_true (by omega)
          have q5 : (((j + 1 : Nat) : Int)) - 1 = (j : Int) := by omega
          have hj0 : (0 : Int) ≤ (j : Int) := by omega
          have hj1 : (j : Int) < (al : Int) := by omega
          clear hrc
          go_wp2_with fail
          refine HR.out.mono ?_
          rintro e w4 ⟨v4, rfl, m4, h4⟩
          obtain ⟨b4, c4, rfl, _, _, _⟩ := m4.sl
          have HB4 := Lib.hid (HBB.out.trans (m4.bl.mono HBB.out.size))
          have H5 := Lib.hid h4
          have HDD := Lib.hid (HDW.out w4 h4)
          have rc := HRC.out w4 HB4.out
          clear m4 h4 HR HDW HPV HH HBB
          cases dn with
          | true =>
            go_wp2_with fail
            refine HDD.out.mono ?_
            rintro e wx ⟨rfl, rfl⟩
            clear HDD
            go_wp2_with fail
            go_roundw
            case rel => exact ⟨j + 2, by omega, by go_num, H5.out, HB4.out⟩
            case measure => simp [intOf]; omega
          | false =>
            go_wp2_with fail
            refine HDD.out.mono ?_
            rintro e wx ⟨rfl, rfl⟩
            clear HDD
            go_wp2_with fail
            go_roundw
            case rel => exact ⟨j + 2, by omega, by go_num, H5.out, HB4.out⟩
            case measure => simp [intOf]; omega
      · obtain rfl : i = al := by omega
        clear hH hb
        go_wp2_with fail
        refine (AW.out _).mono ?_
        rintro e w7 ⟨rfl, b7⟩
        have HB := Lib.hid (B1.out.trans ((HH.out.step_bel b7).bel.mono B1.out.size))
        clear b7
        go_wp2_with fail
        go_ret
        exact ⟨rfl, HB.out⟩

theorem own : ownKnob Try.prog.godebug = none := by kernel_rfl
theorem laidOut : laidOutB Try.prog = true := by kernel_rfl

set_option maxRecDepth 100000 in
theorem lifted (os : Os) (started : os.Started) (H : Type) (enc : TypeId × Value → H) :
    ReturnsInHanded {} Try.checked os 10 .any (Rows.diskNamesSpec.pre6 enc Try.prog Try.f10 Rows.diskNamesRow.domain false) (Rows.diskNamesSpec.post enc Try.prog Try.f10 false true false false) := by
  refine returnsInHanded_of_change (C := Try.checked) own started (by kernel_rfl) Try.func10
    (ChangeSpec.witness6 (enc := enc) (C := Try.checked) false ⟨#[], #[.slice none 0 0], []⟩ 8 (by kernel_rfl) (by kernel_rfl) (by kernel_rfl) (by kernel_rfl)) ?_
  intro W base args ds gs before hval0 hW hcnd _
  have hval : ∀ (j : Nat) t v, Try.f10.params[j]? = some t → args[j]? = some v → Value.okWide Try.prog W .any base t v := hval0
  have hW' := hW
  obtain ⟨p, q, hA0, hV, rfl, hfz, hnd⟩ := hW
  have hA : DataW.TrodAll enc Try.prog W 0 (fun _ => true) true Try.f10.params.toList args.toList ds p := hA0
  rw [Try.params10] at hA hval
  obtain ⟨v0, vs0, d0, ds0, p0, q0, hargs, rfl, rfl, h0, r0⟩ := trodAll_cons hA
  obtain ⟨rfl, rfl, rfl⟩ := trodAll_nil r0
  obtain rfl : args = #[v0] := by cases args; simp_all
  obtain ⟨rfl, rfl⟩ := trodVars_none hV
  have k0 := h0
  have lt0 : ∀ x ∈ p0, x.block < W.heap.size := by obtain ⟨m, hm⟩ := k0; exact DataW.trod_lt m _ _ _ hm
  obtain ⟨b0, c0, x0, rfl, l0, m0, i0, o0⟩ := open_ops (hval 0 40 v0 rfl rfl) h0
  clear hA0 hval0
  refine (walk W b0 c0 x0 l0 m0 i0 o0).mono fun e W' ⟨he, bel⟩ => ?_
  subst he
  exact ⟨_, rfl, _, _, _, [], _, [], hW', trodAll_mk1 (shut_bool Try.underlying4 _), (trodAll_cons_mk (Below.trod laidOut (by kernel_rfl) (of_decide_eq_true (by kernel_rfl)) k0 bel lt0) trodAll_mk0), rfl, bel.frame _, fun h => by cases h⟩

theorem over : Rows.diskNamesRow.holds Try.pinned (OpenSpec.ofChange Rows.diskNamesSpec) :=
  OpenClaim.holds_of_wide 10 Try.f10 rfl rfl rfl rfl rfl rfl rfl ⟨rfl, rfl, rfl, rfl, rfl⟩ rfl rfl rfl rfl rfl (by kernel_rfl) Try.func10 (by kernel_rfl)
    (of_decide_eq_true (by kernel_rfl)) (by unfold Func.isWrapper; first | (rw [if_pos (by decide +kernel)]; kernel_rfl) | (rw [if_neg (by decide +kernel)]; exact ⟨rfl, rfl⟩))
    (fun os started H enc _ => lifted os started H enc)

theorem proved : Rows.DiskNamesSaid := over
#print axioms proved
end Go.Proofs.Ytemfnchiedepoaa.diskNames

/- For every input ciceronelaw44.SeasonEven returns true, and its arguments read behind the call as before. No conditions. -/
import Derived.Test.YtlmonbclloamiaaSOpen
import Derived.Test.YtlmonbclloamiaaRows
import Derived.ProofKit
import Derived.OpenShut
import Derived.ShutString
import Derived.ChangeOld
import Derived.Below
import Derived.Lib.SmallJoins
namespace Go.Proofs.Ytlmonbclloamiaa.seasonEven
open Go.ChangeShapes Go.WideShapes Go.ChangeAt Go.RowKit Go.Joins
open Go.ChangeMaps (open_string shut_string)
set_option linter.unusedVariables false

/-- what was added: n in each of the first j Periods ago -/
def evA (pe wd bg n : Int) : Nat → List Ad
  | 0 => []
  | j + 1 => evA pe wd bg n j ++ [(ta, agoQ pe wd bg j, n)]
theorem evA_len (pe wd bg n : Int) (j : Nat) : (evA pe wd bg n j).length = j := by
  induction j with
  | zero => rfl
  | succ j ih => simp [evA, ih]
theorem evA_none {pe wd bg n : Int} (k : ByteArray) (q : Int) : ∀ (j : Nat), (∀ i : Nat, i < j → agoQ pe wd bg i ≠ q) → sget (evA pe wd bg n j) k q = 0
  | 0, _ => rfl
  | j + 1, h => by
    rw [evA, sget_snoc, evA_none k q j (fun i hi => h i (by omega)), if_neg (fun c => h j (by omega) c.2)]; rfl
theorem agoQ_inj {pe wd bg : Int} (hm : 1 ≤ pe / wd) {i j : Int} (h : agoQ pe wd bg i = agoQ pe wd bg j) : i = j := by
  unfold agoQ at h
  have : i * (pe / wd) = j * (pe / wd) := by omega
  exact Int.eq_of_mul_eq_mul_right (by omega) this
theorem evA_at {pe wd bg n : Int} (hm : 1 ≤ pe / wd) : ∀ (j i : Nat), i < j → sget (evA pe wd bg n j) ta (agoQ pe wd bg i) = n
  | 0, i, h => by omega
  | j + 1, i, h => by
    rw [evA, sget_snoc]
    by_cases e : i = j
    · subst e
      rw [evA_none ta _ i (fun i' hi' c => by have := agoQ_inj hm c; omega), if_pos ⟨rfl, rfl⟩]; omega
    · rw [evA_at hm j i (by omega), if_neg (fun c => e (by have := agoQ_inj hm c.2; omega))]; omega
theorem evA_le {pe wd bg n : Int} (hm : 1 ≤ pe / wd) (hn : 0 ≤ n) (k : ByteArray) (q : Int) : ∀ (j : Nat), sget (evA pe wd bg n j) k q ≤ n
  | 0 => by simpa [evA, sget] using hn
  | j + 1 => by
    rw [evA, sget_snoc]
    by_cases e : ta = k ∧ agoQ pe wd bg j = q
    · rw [if_pos e, evA_none k q j (fun i hi c => by have := agoQ_inj hm (c.trans e.2.symm); omega)]; omega
    · rw [if_neg e]; have := evA_le (bg := bg) hm hn k q j; omega
theorem evA_other {pe wd bg n : Int} (k : ByteArray) (hk : k ≠ ta) (q : Int) : ∀ (j : Nat), sget (evA pe wd bg n j) k q = 0
  | 0 => rfl
  | j + 1 => by rw [evA, sget_snoc, evA_other k hk q j, if_neg (fun c => hk c.1.symm)]; rfl
theorem evA_then {pe wd bg n : Int} (hm : 1 ≤ pe / wd) (N : Nat) : ∀ (j : Nat), j < N → thenS (evA pe wd bg n N) ta pe wd bg j = j * n
  | 0, _ => by simp [thenS]
  | j + 1, h => by
    have h1 := evA_at (bg := bg) (n := n) hm N (j + 1) h
    rw [thenS, evA_then hm N j (by omega)]
    rw [show ((j : Int) + 1) = ((j + 1 : Nat) : Int) by omega, h1]
    rw [show ((j + 1 : Nat) : Int) = (j : Int) + 1 by omega, Int.add_mul]; omega
theorem evA_odd {pe wd bg n : Int} {N : Nat} (hr : rightS pe N wd bg = true) (hm : 1 ≤ pe / wd) (hn : 0 ≤ n) {ks : List ByteArray} (h : OddsV (evA pe wd bg n (N + 1)) pe N wd bg 0 ks) : ks = [] := by
  unfold OddsV at h
  rw [if_pos hr] at h
  refine List.eq_nil_iff_forall_not_mem.2 (fun k hk => ?_)
  obtain ⟨h1, h2⟩ := (h.2 k).1 hk
  by_cases e : k = ta
  · subst e
    unfold oddB nowS at h2
    rw [← agoQ_zero pe wd bg, show (0 : Int) = ((0 : Nat) : Int) by rfl, evA_at hm (N + 1) 0 (by omega), show ((N : Int)).toNat = N by rfl, evA_then hm (N + 1) N (by omega)] at h2
    simp only [Bool.and_eq_true, decide_eq_true_eq] at h2
    have h3 : 0 ≤ (N : Int) * n := Int.mul_nonneg (by omega) hn
    have h4 : n * (N : Int) = (N : Int) * n := Int.mul_comm _ _
    omega
  · exact h1 (evA_other k e _ _)
theorem evA_high {pe bk wd bg n now : Int} {N : Nat} (hm : 1 ≤ pe / wd) (hn : 0 ≤ n) (hn2 : n ≤ 255) {ks : List ByteArray} (h : OddsV (evA pe wd bg n N) pe bk wd now 1000 ks) : ks = [] := by
  unfold OddsV at h
  split at h
  · refine List.eq_nil_iff_forall_not_mem.2 (fun k hk => ?_)
    obtain ⟨_, h2⟩ := (h.2 k).1 hk
    unfold oddB nowS at h2
    simp only [Bool.and_eq_true, decide_eq_true_eq] at h2
    have := evA_le (bg := bg) hm hn k (now / wd) N
    omega
  · exact h
theorem u8_wf {q : Int} (h : (Lit.int .u8 q).wf = true) : 0 ≤ q ∧ q ≤ 255 := by
  simp only [Lit.wf, Bool.and_eq_true, decide_eq_true_eq] at h
  exact h
theorem u16_wf {q : Int} (h : (Lit.int .u16 q).wf = true) : 0 ≤ q ∧ q ≤ 65535 := by
  simp only [Lit.wf, Bool.and_eq_true, decide_eq_true_eq] at h
  exact h
theorem mul_small {a b A B : Int} (ha : 1 ≤ a) (hb : 1 ≤ b) (hA : a ≤ A) (hB : b ≤ B) : 1 ≤ a * b ∧ a * b ≤ A * B :=
  ⟨by have := Int.mul_le_mul ha hb (by omega) (by omega); omega, Int.mul_le_mul hA hB (by omega) (by omega)⟩
set_option maxRecDepth 100000 in
set_option maxHeartbeats 8000000 in
theorem walk (a0 : Int) (w0 : (Lit.int .u8 a0).wf = true) (a1 : Int) (w1 : (Lit.int .u8 a1).wf = true) (a2 : Int) (w2 : (Lit.int .u8 a2).wf = true) (a3 : Int) (w3 : (Lit.int .u16 a3).wf = true) (n : Int) (w4 : (Lit.int .u8 n).wf = true) (a5 : Int) (w5 : (Lit.int .u16 a5).wf = true) (w : World) :
    Calls Try.prog 6 #[.int .u8 a0, .int .u8 a1, .int .u8 a2, .int .u16 a3, .int .u8 n, .int .u16 a5] w fun e w' => e = .returned (.bool true) ∧ Below w.heap.size w w' := by
  have h0 := u8_wf w0
  have h1 := u8_wf w1
  have h2 := u8_wf w2
  have h3 := u16_wf w3
  have h4 := u8_wf w4
  have h5 := u16_wf w5
  clear w0 w1 w2 w3 w4 w5
  have m0 : 1 ≤ 1 + a0 % 20 ∧ 1 + a0 % 20 ≤ 20 := by omega
  have m1 : 1 ≤ 1 + a1 % 9 ∧ 1 + a1 % 9 ≤ 9 := by omega
  have m2 : 1 ≤ 1 + a2 % 20 ∧ 1 + a2 % 20 ≤ 20 := by omega
  have mp := mul_small m0.1 m1.1 m0.2 m1.2
  have q1 : IntKind.i64.wrap ((1 + a0 % 20) * (1 + a1 % 9)) = (1 + a0 % 20) * (1 + a1 % 9) := IntWalk.i64_in _ (by omega)
  go_enter Try.func6, Try.ntmps6
  go_wp2_with fail
  have hpm : ((1 + a0 % 20) * (1 + a1 % 9)) % (1 + a0 % 20) = 0 := Int.mul_emod_right _ _
  have hpd : ((1 + a0 % 20) * (1 + a1 % 9)) / (1 + a0 % 20) = 1 + a1 % 9 := Int.mul_ediv_cancel_left _ (by omega)
  clear q1
  generalize (1 + a0 % 20) * (1 + a1 % 9) = pe at *
  generalize 1 + a0 % 20 = wd at *
  generalize 1 + a1 % 9 = t at *
  generalize 1 + a2 % 20 = bk at *
  obtain ⟨N, rfl⟩ : ∃ N : Nat, bk = N := ⟨bk.toNat, by omega⟩
  have HPM := Lib.hid hpm
  have HPD := Lib.hid hpd
  clear hpm hpd
  have hb1 := h_box (Here.nil (K := K44) (Below.refl w.heap.size w)) [.int .i64 pe, .int .i64 (N : Int)] 23
  obtain ⟨Bx, hBx⟩ : ∃ Bx, w.heap.size = Bx := ⟨_, rfl⟩
  have HBX := Lib.hid hBx
  rw [hBx] at hb1
  have NW := Lib.hid (h_new hb1 wd (by unfold I64; omega))
  rw [show wdOf wd = wd by unfold wdOf; omega] at NW
  clear hb1 hBx
  rw [HBX.out]
  refine NW.out.mono ?_
  rintro e x1 ⟨rfl, g1⟩
  generalize (World.heap _).size + 2 = p at *
  have H1 : Hid (Here K44 w x1 [.box Bx [.int .i64 pe, .int .i64 (N : Int)] 23, .pane p wd 0 (evA pe wd (a3 + pe * N) n 0)]) := Lib.hid g1
  have hk1 := h_boxAt g1 (i := 0) rfl
  have c0 := hk1.cell 0
  have c1 := hk1.cell 1
  have hMY := may_s pe N wd x1 (by unfold I64; omega) (by unfold I64; omega) (by unfold I64; omega)
  rw [(mayS_iff pe N wd).2 ⟨by omega, by omega, by omega, HPM.out, by omega, by omega⟩] at hMY
  have MY := Lib.hid hMY
  clear hMY hk1 g1 NW
  go_wp2_with fail
  refine MY.out.mono ?_
  rintro e x2 ⟨rfl, b2⟩
  have g2 := H1.out.step_bel b2
  have hk2 := h_boxAt g2 (i := 0) rfl
  have d0 := hk2.cell 0
  have d1 := hk2.cell 1
  have H2 := Lib.hid g2
  clear MY b2 g2 hk2 c0 c1 H1
  have mb := mul_small (a := pe) (b := (N : Int)) (by omega) (by omega) (show pe ≤ 180 by omega) (show (N : Int) ≤ 20 by omega)
  have q2 : IntKind.i64.wrap (pe * (N : Int)) = pe * (N : Int) := IntWalk.i64_in _ (by omega)
  have HR : Hid (rightS pe N wd (a3 + pe * (N : Int)) = true) := Lib.hid ((rightS_iff _ _ _ _).2 ⟨⟨by omega, by omega, by omega, HPM.out, by omega, by omega⟩, by omega, by omega⟩)
  have hm1 : 1 ≤ pe / wd := by rw [HPD.out]; omega
  have HM1 := Lib.hid hm1
  clear hm1
  obtain ⟨bg, hbg⟩ : ∃ bg, a3 + pe * (N : Int) = bg := ⟨_, rfl⟩
  have hbb : pe * (N : Int) ≤ bg ∧ bg ≤ 69135 := by omega
  rw [hbg] at H2 HR
  have HBG := Lib.hid hbg
  clear hbg
  go_wp2_with fail
  rw [HBG.out]
  go_loopw [55] (fun c wr => ∃ j : Nat, j ≤ N + 1 ∧ c = .int .i64 j ∧ Here K44 w wr [.box Bx [.int .i64 pe, .int .i64 (N : Int)] 23, .pane p wd j (evA pe wd bg n j)]) (fun c _ => N + 1 - (intOf c).toNat)
  case atStart => exact ⟨0, by omega, rfl, H2.out⟩
  case round =>
    obtain ⟨j, hj, rfl, hh⟩ := hrel
    have HH := Lib.hid hh
    have hk := h_boxAt hh (i := 0) rfl
    have e0 := hk.cell 0
    have e1 := hk.cell 1
    clear hk d0 d1 q2
    by_cases hlt : j < N + 1
    · have hjp : 0 ≤ (j : Int) * pe ∧ (j : Int) * pe ≤ pe * (N : Int) := ⟨Int.mul_nonneg (by omega) (by omega), by rw [Int.mul_comm pe]; exact Int.mul_le_mul_of_nonneg_right (by omega) (by omega)⟩
      have q3 : IntKind.i64.wrap ((j : Int) * pe) = (j : Int) * pe := IntWalk.i64_in _ (by omega)
      have hlt' : (j : Int) < (N : Int) + 1 := by omega
      have hAD := h_add hh (i := 1) rfl ta (bg - (j : Int) * pe) n (by decide) (by unfold I64; omega) (by unfold I64; omega)
      have hmay : mayAdd ta (bg - (j : Int) * pe) n j = true := by
        simp only [mayAdd, Bool.and_eq_true, decide_eq_true_eq]
        exact ⟨⟨⟨⟨⟨⟨by decide, by decide⟩, by omega⟩, by omega⟩, by omega⟩, by omega⟩, by omega⟩
      have hq : (bg - (j : Int) * pe) / wd = agoQ pe wd bg j := by
        have e2 : pe = wd * (pe / wd) := by have := Int.mul_ediv_add_emod pe wd; have := HPM.out; omega
        unfold agoQ
        have e3 : bg - (j : Int) * pe = bg + wd * (-((j : Int) * (pe / wd))) := by
          have : (j : Int) * pe = wd * ((j : Int) * (pe / wd)) := by
            conv => lhs; rw [e2]
            rw [← Int.mul_assoc, Int.mul_comm (j : Int) wd, Int.mul_assoc]
          rw [this, Int.mul_neg]; omega
        rw [e3, Int.add_mul_ediv_left _ _ (by omega)]; omega
      have hto : addTo wd j (evA pe wd bg n j) ta (bg - (j : Int) * pe) n = ((j : Int) + 1, evA pe wd bg n (j + 1)) := by
        unfold addTo; rw [hmay, hq]; rfl
      rw [hmay, hto] at hAD
      have AD := Lib.hid hAD
      clear hAD hmay hq hto hh
      go_wp2_with fail
      refine AD.out.mono ?_
      rintro e x3 ⟨rfl, g3⟩
      have G3 : Hid (Here K44 w x3 [.box Bx [.int .i64 pe, .int .i64 (N : Int)] 23, .pane p wd ((j + 1 : Nat) : Int) (evA pe wd bg n (j + 1))]) := Lib.hid g3
      clear AD g3
      go_wp2_with fail
      go_roundw
      case rel => exact ⟨j + 1, by omega, by go_num, G3.out⟩
      case measure => simp [intOf]; omega
    · obtain rfl : j = N + 1 := by omega
      have hlen := evA_len pe wd bg n (N + 1)
      have HOK : Hid (True) := Lib.hid trivial
      have hUS := h_usual HH.out (i := 1) rfl (by omega) pe N bg ta (by decide) (by unfold I64; omega) (by unfold I64; omega) (by unfold I64; omega)
      have eU1 : usuN (evA pe wd bg n (N + 1)) pe N wd bg ta = (N : Int) * n := by
        unfold usuN; rw [HR.out, if_pos rfl, show ((N : Int)).toNat = N by rfl, evA_then HM1.out (N + 1) N (by omega)]
      have eU2 : usuD pe N wd bg = (N : Int) := by unfold usuD; rw [HR.out]; rfl
      have eN : nowV (evA pe wd bg n (N + 1)) pe N wd bg ta = n := by
        unfold nowV nowS; rw [HR.out, if_pos rfl, ← agoQ_zero pe wd bg, show (0 : Int) = ((0 : Nat) : Int) by rfl, evA_at HM1.out (N + 1) 0 (by omega)]
      rw [eU1, eU2] at hUS
      have US := Lib.hid hUS
      have EN := Lib.hid eN
      have HAW : Hid (∀ W, Calls Try.prog 9 #[] W fun e w' => e = .returned (.bool true) ∧ Below W.heap.size W w') := Lib.hid (fun W => awake_any W)
      have hnn : 0 ≤ (N : Int) * n ∧ (N : Int) * n ≤ 5100 := ⟨Int.mul_nonneg (by omega) (by omega), Int.le_trans (Int.mul_le_mul (show (N : Int) ≤ 20 by omega) (show n ≤ 255 by omega) (by omega) (by omega)) (by decide)⟩
      have q5 : IntKind.i64.wrap (n * (N : Int)) = (N : Int) * n := by rw [Int.mul_comm]; exact IntWalk.i64_in _ (by omega)
      have q6 : n * (N : Int) = (N : Int) * n := Int.mul_comm _ _
      clear hUS eU1 eU2 eN hlt hh
      have HQ6 := Lib.hid q6
      have HLEN := Lib.hid hlen
      clear q6 hlen
      go_wp2_with fail
      refine US.out.mono ?_
      rintro e y1 ⟨rfl, b1⟩
      have g1 := HH.out.step_bel b1
      obtain ⟨Ux, hUx⟩ : ∃ Ux, y1.heap.size = Ux := ⟨_, rfl⟩
      have g2 := h_box g1 [.int .i64 ((N : Int) * n), .int .i64 (N : Int)] 28
      rw [hUx] at g2
      have HUX := Lib.hid hUx
      have G2 : Hid (Here K44 w (y1.alloc (.cells #[.int .i64 ((N : Int) * n), .int .i64 (N : Int)] 28)) [.box Bx [.int .i64 pe, .int .i64 (N : Int)] 23, .pane p wd ((N + 1 : Nat) : Int) (evA pe wd bg n (N + 1)), .box Ux [.int .i64 ((N : Int) * n), .int .i64 (N : Int)] 28]) := Lib.hid g2
      have HCE : Hid (∀ (W : World), Here K44 w W [.box Bx [.int .i64 pe, .int .i64 (N : Int)] 23, .pane p wd ((N + 1 : Nat) : Int) (evA pe wd bg n (N + 1)), .box Ux [.int .i64 ((N : Int) * n), .int .i64 (N : Int)] 28] → (W.cell? ⟨Bx, 0, none⟩ = some (.int .i64 pe) ∧ W.cell? ⟨Bx, 1, none⟩ = some (.int .i64 (N : Int))) ∧ W.cell? ⟨Ux, 0, none⟩ = some (.int .i64 ((N : Int) * n)) ∧ W.cell? ⟨Ux, 1, none⟩ = some (.int .i64 (N : Int))) := Lib.hid (fun W h => ⟨⟨(h_boxAt h (i := 0) rfl).cell 0, (h_boxAt h (i := 0) rfl).cell 1⟩, (h_boxAt h (i := 2) rfl).cell 0, (h_boxAt h (i := 2) rfl).cell 1⟩)
      have hk1 := h_boxAt g1 (i := 0) rfl
      have k0 := hk1.cell 0
      have k1 := hk1.cell 1
      clear hUx g1 g2 b1 US hk1 e0 e1
      have hNW := h_now G2.out (i := 1) rfl pe N bg ta (by decide) (by unfold I64; omega) (by unfold I64; omega) (by unfold I64; omega)
      rw [EN.out] at hNW
      have NW := Lib.hid hNW
      obtain ⟨⟨k0', k1'⟩, _, _⟩ := HCE.out _ G2.out
      obtain ⟨y2, hy2⟩ : ∃ y2, y1.alloc (.cells #[.int .i64 ((N : Int) * n), .int .i64 (N : Int)] 28) = y2 := ⟨_, rfl⟩
      rw [hy2] at G2 NW
      have HY2 := Lib.hid hy2
      have HA := Lib.hid hNW
      clear hNW hy2 HA
      go_wp2_with fail
      rw [HUX.out, HY2.out]
      refine NW.out.mono ?_
      rintro e y3 ⟨rfl, b3⟩
      have G3 := Lib.hid (G2.out.step_bel b3)
      obtain ⟨⟨l0, l1⟩, l2, l3⟩ := HCE.out _ G3.out
      have O1 := Lib.hid (h_odd G3.out (i := 1) rfl (by have := HLEN.out; omega) pe N bg 0 (by unfold I64; omega) (by unfold I64; omega) (by unfold I64; omega) (by unfold I64; omega))
      have t9 : decide (n ≤ n) = true := by simp
      have t10 : decide ((N : Int) * n ≤ (N : Int) * n) = true := by simp
      clear NW b3 k0 k1 k0' k1'
      go_wp2_with fail
      refine O1.out.mono ?_
      rintro e y4 ⟨v4, k4, rfl, o4, t4, b4⟩
      have e4 := evA_odd HR.out HM1.out (by omega) o4
      subst e4
      obtain ⟨bv4, cv4, rfl, _, _, _⟩ := t4.strs
      have G4 := Lib.hid (G3.out.step_bel b4)
      obtain ⟨⟨p0, p1⟩, _, _⟩ := HCE.out _ G4.out
      have O2 := Lib.hid (h_odd G4.out (i := 1) rfl (by have := HLEN.out; omega) pe N a5 1000 (by unfold I64; omega) (by unfold I64; omega) (by unfold I64; omega) (by unfold I64; omega))
      clear O1 b4 o4 t4 l0 l1 l2 l3
      go_wp2_with fail
      refine O2.out.mono ?_
      rintro e y5 ⟨v5, k5, rfl, o5, t5, b5⟩
      have e5 := evA_high HM1.out (by omega) (by omega) o5
      subst e5
      obtain ⟨bv5, cv5, rfl, _, _, _⟩ := t5.strs
      have G5 := Lib.hid (G4.out.step_bel b5)
      clear O2 b5 o5 t5 p0 p1
      go_wp2_with fail
      refine (HAW.out _).mono ?_
      rintro e y6 ⟨rfl, b6⟩
      have HB := Lib.hid (G5.out.step_bel b6).bel
      clear b6
      go_wp2_with fail
      go_ret
      exact ⟨rfl, HB.out⟩

theorem own : ownKnob Try.prog.godebug = none := by kernel_rfl
theorem laidOut : laidOutB Try.prog = true := by kernel_rfl

set_option maxRecDepth 100000 in
theorem lifted (os : Os) (started : os.Started) (H : Type) (enc : TypeId × Value → H) :
    ReturnsInHanded {} Try.checked os 6 .any (Rows.seasonEvenSpec.pre6 enc Try.prog Try.f6 Rows.seasonEvenRow.domain false) (Rows.seasonEvenSpec.post enc Try.prog Try.f6 false true false false) := by
  refine returnsInHanded_of_change (C := Try.checked) own started (by kernel_rfl) Try.func6
    (ChangeSpec.witness6 (enc := enc) (C := Try.checked) false ⟨#[], #[.int .u8 0, .int .u8 0, .int .u8 0, .int .u16 0, .int .u8 0, .int .u16 0], []⟩ 8 (by kernel_rfl) (by kernel_rfl) (by kernel_rfl) (by kernel_rfl)) ?_
  intro W base args ds gs before hval0 hW hcnd _
  have hval : ∀ (j : Nat) t v, Try.f6.params[j]? = some t → args[j]? = some v → Value.okWide Try.prog W .any base t v := hval0
  have hW' := hW
  obtain ⟨p, q, hA0, hV, rfl, hfz, hnd⟩ := hW
  have hA : DataW.TrodAll enc Try.prog W 0 (fun _ => true) true Try.f6.params.toList args.toList ds p := hA0
  rw [Try.params6] at hA hval
  obtain ⟨v0, vs0, d0, ds0, p0, q0, hargs, rfl, rfl, h0, r0⟩ := trodAll_cons hA
  obtain ⟨v1, vs1, d1, ds1, p1, q1, rfl, rfl, rfl, h1, r1⟩ := trodAll_cons r0
  obtain ⟨v2, vs2, d2, ds2, p2, q2, rfl, rfl, rfl, h2, r2⟩ := trodAll_cons r1
  obtain ⟨v3, vs3, d3, ds3, p3, q3, rfl, rfl, rfl, h3, r3⟩ := trodAll_cons r2
  obtain ⟨v4, vs4, d4, ds4, p4, q4, rfl, rfl, rfl, h4, r4⟩ := trodAll_cons r3
  obtain ⟨v5, vs5, d5, ds5, p5, q5, rfl, rfl, rfl, h5, r5⟩ := trodAll_cons r4
  obtain ⟨rfl, rfl, rfl⟩ := trodAll_nil r5
  obtain rfl : args = #[v0, v1, v2, v3, v4, v5] := by cases args; simp_all
  obtain ⟨rfl, rfl⟩ := trodVars_none hV
  have k0 := h0
  have lt0 : ∀ x ∈ p0, x.block < W.heap.size := by obtain ⟨m, hm⟩ := k0; exact DataW.trod_lt m _ _ _ hm
  obtain ⟨a0, rfl, rfl, rfl, w0⟩ := open_int Try.underlying5 (hval 0 5 v0 rfl rfl) h0
  have k1 := h1
  have lt1 : ∀ x ∈ p1, x.block < W.heap.size := by obtain ⟨m, hm⟩ := k1; exact DataW.trod_lt m _ _ _ hm
  obtain ⟨a1, rfl, rfl, rfl, w1⟩ := open_int Try.underlying5 (hval 1 5 v1 rfl rfl) h1
  have k2 := h2
  have lt2 : ∀ x ∈ p2, x.block < W.heap.size := by obtain ⟨m, hm⟩ := k2; exact DataW.trod_lt m _ _ _ hm
  obtain ⟨a2, rfl, rfl, rfl, w2⟩ := open_int Try.underlying5 (hval 2 5 v2 rfl rfl) h2
  have k3 := h3
  have lt3 : ∀ x ∈ p3, x.block < W.heap.size := by obtain ⟨m, hm⟩ := k3; exact DataW.trod_lt m _ _ _ hm
  obtain ⟨a3, rfl, rfl, rfl, w3⟩ := open_int Try.underlying45 (hval 3 45 v3 rfl rfl) h3
  have k4 := h4
  have lt4 : ∀ x ∈ p4, x.block < W.heap.size := by obtain ⟨m, hm⟩ := k4; exact DataW.trod_lt m _ _ _ hm
  obtain ⟨a4, rfl, rfl, rfl, w4⟩ := open_int Try.underlying5 (hval 4 5 v4 rfl rfl) h4
  have k5 := h5
  have lt5 : ∀ x ∈ p5, x.block < W.heap.size := by obtain ⟨m, hm⟩ := k5; exact DataW.trod_lt m _ _ _ hm
  obtain ⟨a5, rfl, rfl, rfl, w5⟩ := open_int Try.underlying45 (hval 5 45 v5 rfl rfl) h5
  clear hA0 hval0
  refine (walk a0 w0 a1 w1 a2 w2 a3 w3 a4 w4 a5 w5 W).mono fun e W' ⟨he, bel⟩ => ?_
  subst he
  exact ⟨_, rfl, _, _, _, [], _, [], hW', trodAll_mk1 (shut_bool Try.underlying4 _), (trodAll_cons_mk (Below.trod laidOut (by kernel_rfl) (of_decide_eq_true (by kernel_rfl)) k0 bel lt0) (trodAll_cons_mk (Below.trod laidOut (by kernel_rfl) (of_decide_eq_true (by kernel_rfl)) k1 bel lt1) (trodAll_cons_mk (Below.trod laidOut (by kernel_rfl) (of_decide_eq_true (by kernel_rfl)) k2 bel lt2) (trodAll_cons_mk (Below.trod laidOut (by kernel_rfl) (of_decide_eq_true (by kernel_rfl)) k3 bel lt3) (trodAll_cons_mk (Below.trod laidOut (by kernel_rfl) (of_decide_eq_true (by kernel_rfl)) k4 bel lt4) (trodAll_cons_mk (Below.trod laidOut (by kernel_rfl) (of_decide_eq_true (by kernel_rfl)) k5 bel lt5) trodAll_mk0)))))), rfl, bel.frame _, fun h => by cases h⟩

theorem over : Rows.seasonEvenRow.holds Try.pinned (OpenSpec.ofChange Rows.seasonEvenSpec) :=
  OpenClaim.holds_of_wide 6 Try.f6 rfl rfl rfl rfl rfl rfl rfl ⟨rfl, rfl, rfl, rfl, rfl⟩ rfl rfl rfl rfl rfl (by kernel_rfl) Try.func6 (by kernel_rfl)
    (of_decide_eq_true (by kernel_rfl)) (by unfold Func.isWrapper; first | (rw [if_pos (by decide +kernel)]; kernel_rfl) | (rw [if_neg (by decide +kernel)]; exact ⟨rfl, rfl⟩))
    (fun os started H enc _ => lifted os started H enc)

theorem proved : Rows.SeasonEvenSaid := over
#print axioms proved
end Go.Proofs.Ytlmonbclloamiaa.seasonEven

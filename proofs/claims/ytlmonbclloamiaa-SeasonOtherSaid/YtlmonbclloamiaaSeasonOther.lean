/- For every input ciceronelaw44.SeasonOther returns true, and its arguments read behind the call as before. No conditions. -/
import Derived.Test.YtlmonbclloamiaaSOpen
import Derived.Test.YtlmonbclloamiaaRows
import Derived.ProofKit
import Derived.OpenShut
import Derived.ShutString
import Derived.ChangeOld
import Derived.Below
import Derived.Lib.SmallJoins
namespace Go.Proofs.Ytlmonbclloamiaa.seasonOther
open Go.ChangeShapes Go.WideShapes Go.ChangeAt Go.RowKit Go.Joins
open Go.ChangeMaps (open_string shut_string)
set_option linter.unusedVariables false

theorem h_store2 {w0 w : World} {os : List Ob} (h : Here K44 w0 w os) {i b : Nat} {c0 c1 : Value} {t : TypeId} (hi : os[i]? = some (.box b [c0, c1] t)) (u v : Value) : Here K44 w0 ((w.setCell ⟨b, 0, none⟩ u).setCell ⟨b, 1, none⟩ v) (os.set i (.box b [u, v] t)) := by
  obtain ⟨B, ⟨h1, rfl⟩, _, h3, _⟩ := h.use hi
  refine h3 _ (.box b [u, v] t) [b] ⟨(h1.set 0 u).set 1 v, rfl⟩ (((Fr.refl _ w).setCell b 0 u (.inr (by simp))).setCell b 1 v (.inr (by simp))) (fun b hb => .inl hb)
theorem sget_far (A : List Ad) (k0 : ByteArray) (q0 v : Int) (k : ByteArray) {q : Int} (h : q ≠ q0) : sget (A ++ [(k0, q0, v)]) k q = sget A k q := by
  rw [sget_snoc, if_neg (fun c => h c.2.symm), Int.add_zero]
theorem thenS_far {A : List Ad} {k0 : ByteArray} {q0 v pe wd now : Int} (k : ByteArray) : ∀ (m : Nat), (∀ n : Nat, 1 ≤ n → n ≤ m → agoQ pe wd now n ≠ q0) → thenS (A ++ [(k0, q0, v)]) k pe wd now m = thenS A k pe wd now m
  | 0, _ => rfl
  | m + 1, h => by
    simp only [thenS]
    rw [thenS_far k m (fun n h1 h2 => h n h1 (by omega)), sget_far _ _ _ _ _ (by have := h (m + 1) (by omega) (by omega); simpa using this)]
theorem far_same {pe bk wd now at_ ad : Int} {A : List Ad} {key : ByteArray} (hr : rightS pe bk wd now = true) (hf : ∀ n : Int, 0 ≤ n → n ≤ bk → agoQ pe wd now n ≠ at_ / wd) : ∀ k, nowS (addTo wd ad A key at_ 1000).2 k wd now = nowS A k wd now ∧ thenS (addTo wd ad A key at_ 1000).2 k pe wd now bk.toNat = thenS A k pe wd now bk.toNat := fun k => by
  obtain ⟨⟨_, _, _, _, r5, _⟩, _⟩ := (rightS_iff _ _ _ _).1 hr
  unfold addTo
  split
  · refine ⟨sget_far _ _ _ _ _ (by have := hf 0 (by omega) (by omega); rw [agoQ_zero] at this; exact this), thenS_far k _ (fun n h1 h2 => hf n (by omega) (by omega))⟩
  · exact ⟨rfl, rfl⟩
theorem far_of {pe bk wd now at_ : Int} (hr : rightS pe bk wd now = true) (h : ¬ (0 ≤ now / wd - at_ / wd ∧ (now / wd - at_ / wd) % (pe / wd) = 0 ∧ (now / wd - at_ / wd) / (pe / wd) ≤ bk)) : ∀ n : Int, 0 ≤ n → n ≤ bk → agoQ pe wd now n ≠ at_ / wd := fun n h0 h1 e => by
  obtain ⟨⟨r1, r2, r3, r4, r5, r6⟩, r7, r8⟩ := (rightS_iff _ _ _ _).1 hr
  have e2 : pe = wd * (pe / wd) := by have := Int.mul_ediv_add_emod pe wd; omega
  have hm : 1 ≤ pe / wd := by
    have h0 : 0 ≤ pe / wd := Int.ediv_nonneg (by omega) (by omega)
    rcases Int.lt_or_eq_of_le h0 with h | h
    · omega
    · rw [← h] at e2; simp at e2; omega
  have e3 : now / wd - at_ / wd = n * (pe / wd) := by unfold agoQ at e; omega
  apply h
  rw [e3]
  exact ⟨Int.mul_nonneg h0 (by omega), Int.mul_emod_left _ _, by rw [Int.mul_ediv_cancel _ (by omega)]; exact h1⟩
set_option maxRecDepth 100000 in
set_option maxHeartbeats 16000000 in
theorem walk (w : World) (x : Int) (wx : (Lit.int .i64 x).wf = true) (b : Option Addr) (cap : Nat) (l : List Add10) (hlc : l.length ≤ cap) (hm : cap ≤ maxLen) (hi : InW w b 3 (l.map a10C)) (ho : ∀ a ∈ l, a10Ok a)
    (pe bk : Int) (wpe : (Lit.int .i64 pe).wf = true) (wbk : (Lit.int .i64 bk).wf = true) (now : Int) (wnow : (Lit.int .i64 now).wf = true) (key : ByteArray) (hkey : key.size ≤ maxLen) (at_ : Int) (wat : (Lit.int .i64 at_).wf = true) :
    Calls Try.prog 7 #[.int .i64 x, .slice b l.length cap, .agg #[.int .i64 pe, .int .i64 bk], .int .i64 now, .string key, .int .i64 at_] w fun e w' => e = .returned (.bool true) ∧ Below w.heap.size w w' := by
  have hx := i64_wf wx
  have h1 := i64_wf wpe
  have h2 := i64_wf wbk
  have h4 := i64_wf wnow
  have oat := i64_wf wat
  clear wx wpe wbk wnow wat
  unfold maxLen at hkey
  obtain ⟨W1, hW1, hh1⟩ := begin44 pe bk w
  obtain ⟨N, hN⟩ : ∃ N, w.heap.size = N := ⟨_, rfl⟩
  rw [hN] at hh1
  have HN := Lib.hid hN
  have HW1 := Lib.hid hW1
  have H1 := Lib.hid hh1
  have HS : Hid (∀ (W : World) (os : List Ob), Here K44 w W os → os[0]? = some (.box N [.int .i64 pe, .int .i64 bk] 23) → W.cell? ⟨N, 0, none⟩ = some (.int .i64 pe) ∧ W.cell? ⟨N, 1, none⟩ = some (.int .i64 bk)) := Lib.hid (fun W os h hi => ⟨(h_boxAt h hi).cell 0, (h_boxAt h hi).cell 1⟩)
  have HLO : Hid (∀ W, Below w.heap.size w W → Calls Try.prog 15 #[.slice b l.length cap, .agg #[.int .i64 pe, .int .i64 bk]] W fun e w' => e = .returned (.bool (longB l bk)) ∧ Below W.heap.size W w') := Lib.hid (fun W hb => long_any b cap l pe bk W (InW.bel hi hb) hm hlc ho)
  have LO := Lib.hid (HLO.out W1 hh1.bel)
  have HAW : Hid (∀ W, Calls Try.prog 9 #[] W fun e w' => e = .returned (.bool true) ∧ Below W.heap.size W w') := Lib.hid (fun W => awake_any W)
  have s1 := HS.out _ _ hh1 rfl
  obtain ⟨s10, s11⟩ := s1
  unfold maxLen at hm
  clear hW1 hN hh1 HLO
  cases hlong : longB l bk with
  | true =>
    rw [hlong] at LO
    clear hlong hi ho
    generalize l.length = n at *
    go_enter Try.func7, Try.ntmps7
    go_wp2_with fail
    rw [HN.out, HW1.out]
    refine LO.out.mono ?_
    rintro e w2 ⟨rfl, b2⟩
    have H2 := Lib.hid (H1.out.step_bel b2)
    clear b2 LO
    go_wp2_with fail
    refine (HAW.out _).mono ?_
    rintro e w9 ⟨rfl, b9⟩
    have HB9 := Lib.hid (H2.out.step_bel b9).bel
    clear b9
    go_wp2_with fail
    go_ret
    exact ⟨rfl, HB9.out⟩
  | false =>
    rw [hlong] at LO
    obtain ⟨hl40, hk60⟩ := long_of hlong
    have HFI : Hid (∀ W, Below w.heap.size w W → Calls Try.prog 16 #[.int .i64 x, .slice b l.length cap] W fun e w' => ∃ p, e = .returned (.pointer (some ⟨p, 0, none⟩)) ∧ Here K44 W w' [.pane p (wdOf x) (addsS (wdOf x) l).length (addsS (wdOf x) l)]) := Lib.hid (fun W hb => fill_any x hx b cap l W (InW.bel hi hb) hl40 hk60 ho)
    have hAl := addsS_length (wdOf x) l
    have hwd := wdOf_in x
    have HAO := Lib.hid (addsS_ok (wdOf x) hwd.1 l)
    have HIW := Lib.hid hi
    have HO := Lib.hid ho
    have HK6 := Lib.hid hk60
    clear hlong hi ho hk60
    by_cases hbad : key.size ≤ 60 ∧ 0 ≤ at_ ∧ at_ ≤ 1099511627776
    · obtain ⟨hk60, ha0, ha1⟩ := hbad
      have tf5 : decide ((60 : Int) < (key.size : Int)) = false := by simp; omega
      have tf6 : decide (at_ < 0) = false := decide_eq_false (by omega)
      have tf7 : decide (1099511627776 < at_) = false := decide_eq_false (by omega)
      have HRI : Hid (∀ W, Calls Try.prog 17 #[.agg #[.int .i64 pe, .int .i64 bk], .int .i64 (wdOf x), .int .i64 now] W fun e w' => e = .returned (.bool (rightS pe bk (wdOf x) now)) ∧ Below W.heap.size W w') := Lib.hid (fun W => rright_any pe bk (wdOf x) now W h1 h2 (by unfold I64; omega) h4)
      generalize addsS (wdOf x) l = A at *
      generalize wdOf x = wd at *
      generalize l.length = n at *
      go_enter Try.func7, Try.ntmps7
      go_wp2_with fail
      rw [HN.out, HW1.out]
      refine LO.out.mono ?_
      rintro e w2 ⟨rfl, b2⟩
      have H2 := Lib.hid (H1.out.step_bel b2)
      have hs2 := HS.out _ _ H2.out rfl
      obtain ⟨s20, s21⟩ := hs2
      clear b2 LO s10 s11 H1
      have FI := Lib.hid (HFI.out w2 H2.out.bel)
      go_wp2_with fail
      refine FI.out.mono ?_
      rintro e w3 ⟨p, rfl, h3⟩
      have H3 := Lib.hid (H2.out.adopt h3)
      have hs3 := HS.out _ _ H3.out rfl
      obtain ⟨s30, s31⟩ := hs3
      clear h3 FI s20 s21 HFI H2
      have WI := Lib.hid (h_width H3.out (i := 1) rfl)
      go_wp2_with fail
      refine WI.out.mono ?_
      rintro e wx' ⟨rfl, rfl⟩
      clear WI
      cases hright : rightS pe bk wd now with
      | false =>
        rw [hright] at HRI
        go_wp2_with fail
        refine (HRI.out _).mono ?_
        rintro e w5 ⟨rfl, b5⟩
        have H5 := Lib.hid (H3.out.step_bel b5)
        clear b5
        go_wp2_with fail
        refine (HAW.out _).mono ?_
        rintro e w9 ⟨rfl, b9⟩
        have HB9 := Lib.hid (H5.out.step_bel b9).bel
        clear b9
        go_wp2_with fail
        go_ret
        exact ⟨rfl, HB9.out⟩
      | true =>
        rw [hright] at HRI
        have HRT := Lib.hid hright
        obtain ⟨⟨r1, r2, r3, r4, r5, r6⟩, r7, r8⟩ := (rightS_iff _ _ _ _).1 hright
        clear hright
        go_wp2_with fail
        refine (HRI.out _).mono ?_
        rintro e w5 ⟨rfl, b5⟩
        have H5 := Lib.hid (H3.out.step_bel b5)
        have hs5 := HS.out _ _ H5.out rfl
        obtain ⟨s50, s51⟩ := hs5
        clear b5 s30 s31 HRI H3
        have hqn := ediv_small now wd r1 r7 r8
        have hqa := ediv_small at_ wd r1 ha0 ha1
        have hqp := ediv_small pe wd r1 (by omega) r3
        have e2 : pe = wd * (pe / wd) := by have := Int.mul_ediv_add_emod pe wd; omega
        have hm1 : 1 ≤ pe / wd := by
          rcases Int.lt_or_eq_of_le hqp.1 with h | h
          · omega
          · rw [← h] at e2; simp at e2; omega
        have p1 : now.tdiv wd = now / wd := Int.tdiv_eq_ediv_of_nonneg r7
        have p2 : at_.tdiv wd = at_ / wd := Int.tdiv_eq_ediv_of_nonneg ha0
        have p3 : pe.tdiv wd = pe / wd := Int.tdiv_eq_ediv_of_nonneg (by omega)
        have hz : (wd == 0) = false := by simp; omega
        have hz' : wd ≠ 0 := by omega
        have FARO := Lib.hid (far_of (at_ := at_) HRT.out)
        clear e2
        generalize hQN : now / wd = QN at *
        generalize hQA : at_ / wd = QA at *
        generalize hm' : pe / wd = m at *
        have HQN := Lib.hid hQN
        have HQA := Lib.hid hQA
        have HQM := Lib.hid hm'
        clear hQN hQA hm'
        have u1 : IntKind.i64.wrap QN = QN := IntWalk.i64_in _ (by omega)
        have u2 : IntKind.i64.wrap QA = QA := IntWalk.i64_in _ (by omega)
        have u3 : IntKind.i64.wrap m = m := IntWalk.i64_in _ (by omega)
        have u4 : IntKind.i64.wrap (QN - QA) = QN - QA := IntWalk.i64_in _ (by omega)
        go_wp2_with fail
        go_quiet (fail)
        have H6 := Lib.hid (H5.out.drewN nq)
        have g60 : (w5.drewN nq).cell? ⟨N, 0, none⟩ = some (.int .i64 pe) := s50
        have g61 : (w5.drewN nq).cell? ⟨N, 1, none⟩ = some (.int .i64 bk) := s51
        clear s50 s51 H5 u1 u2 u4 p1 p2
        generalize w5.drewN nq = wr0 at *
        obtain ⟨D, hD⟩ : ∃ D, QN - QA = D := ⟨_, rfl⟩
        rw [hD] at FARO ⊢
        have hDb : -1099511627776 ≤ D ∧ D ≤ 1099511627776 := by omega
        clear hD hqn hqa
        have mz : (m == 0) = false := by simp; omega
        have mz' : m ≠ 0 := by omega
        by_cases d0 : 0 ≤ D
        · have z0' : decide (0 ≤ D) = true := decide_eq_true d0
          have y1 : D.tmod m = D % m := Int.tmod_eq_emod_of_nonneg d0
          have y2 : D.tdiv m = D / m := Int.tdiv_eq_ediv_of_nonneg d0
          have y3 := ediv_small D m hm1 d0 hDb.2
          have y4 : 0 ≤ D % m ∧ D % m < m := ⟨Int.emod_nonneg _ mz', Int.emod_lt_of_pos _ (by omega)⟩
          have y5 : IntKind.i64.wrap (D % m) = D % m := IntWalk.i64_in _ (by omega)
          have y6 : IntKind.i64.wrap (D / m) = D / m := IntWalk.i64_in _ (by omega)
          by_cases d1 : D % m = 0
          · have z1' : (D % m == 0) = true := by simpa using d1
            by_cases d2 : D / m ≤ bk
            · have z2' : decide (D / m ≤ bk) = true := decide_eq_true d2
              go_wp2_with fail
              go_quiet (fail)
              have H7 := Lib.hid (H6.out.drewN nq)
              generalize wr0.drewN nq = wq at *
              go_wp2_with fail
              refine (HAW.out _).mono ?_
              rintro e w9 ⟨rfl, b9⟩
              have HB9 := Lib.hid (H7.out.step_bel b9).bel
              clear b9
              go_wp2_with fail
              go_ret
              exact ⟨rfl, HB9.out⟩
            · have z2' : decide (D / m ≤ bk) = false := decide_eq_false d2
              have FAR : Hid (∀ n : Int, 0 ≤ n → n ≤ bk → agoQ pe wd now n ≠ at_ / wd) := Lib.hid (by rw [HQA.out]; exact FARO.out (fun c => d2 c.2.2))
              go_wp2_with fail
              go_quiet (fail)
              have HQ0 := Lib.hid (H6.out.drewN nq)
              clear H6 g60 g61
              generalize wr0.drewN nq = wq at *
              clear y1 y2 y5 y6 z0' z1' z2' mz hz u3 p3
              have hAl40 : A.length ≤ 40 := by omega
              obtain ⟨ad, had⟩ : ∃ ad : Int, (A.length : Int) = ad := ⟨_, rfl⟩
              rw [had] at HQ0
              have HQ := Lib.hid HQ0.out
              clear had HQ0
              obtain ⟨XN, hXN⟩ : ∃ X, nowV A pe bk wd now key = X := ⟨_, rfl⟩
              obtain ⟨UN, hUN⟩ : ∃ X, usuN A pe bk wd now key = X := ⟨_, rfl⟩
              obtain ⟨UD, hUD⟩ : ∃ X, usuD pe bk wd now = X := ⟨_, rfl⟩
              have HXN := Lib.hid hXN
              have HXU := Lib.hid (And.intro hUN hUD)
              have HNO : Hid (∀ W, Below wq.heap.size wq W → Calls Try.prog 12 #[.pointer (some ⟨p, 0, none⟩), .agg #[.int .i64 pe, .int .i64 bk], .string key, .int .i64 now] W fun e w' => e = .returned (.int .i64 XN) ∧ Below W.heap.size W w') := Lib.hid (fun W hb => by
                have := h_now (HQ.out.step_bel hb) (i := 1) rfl pe bk now key (by omega) h1 h2 h4
                rw [hXN] at this
                exact this)
              have HUS : Hid (∀ W, Below wq.heap.size wq W → Calls Try.prog 13 #[.pointer (some ⟨p, 0, none⟩), .agg #[.int .i64 pe, .int .i64 bk], .string key, .int .i64 now] W fun e w' => e = .returned (.agg #[.int .i64 UN, .int .i64 UD]) ∧ Below W.heap.size W w') := Lib.hid (fun W hb => by
                have := h_usual (HQ.out.step_bel hb) (i := 1) rfl (by omega) pe bk now key (by omega) h1 h2 h4
                rw [hUN, hUD] at this
                exact this)
              have HOD : Hid (∀ W, Below wq.heap.size wq W → Calls Try.prog 14 #[.pointer (some ⟨p, 0, none⟩), .agg #[.int .i64 pe, .int .i64 bk], .int .i64 now, .int .i64 1] W fun e w' => ∃ v ks, e = .returned v ∧ OddsV A pe bk wd now 1 ks ∧ TextsAt w' v ks ∧ (∀ b, v.ownBlock = some b → W.heap.size ≤ b) ∧ Below W.heap.size W w') := Lib.hid (fun W hb => h_oddN (HQ.out.step_bel hb) (i := 1) rfl (by omega) pe bk now 1 h1 h2 h4 (by unfold I64; omega))
              have HSW : Hid (∀ W, Below wq.heap.size wq W → W.cell? ⟨N, 0, none⟩ = some (.int .i64 pe) ∧ W.cell? ⟨N, 1, none⟩ = some (.int .i64 bk)) := Lib.hid (fun W hb => HS.out _ _ (HQ.out.step_bel hb) rfl)
              have G0 : Hid (Below wq.heap.size wq wq.drew) := Lib.hid (Below.refl _ _).drew
              have G1 : Hid (Below wq.heap.size wq (wq.alloc (.cells #[.int .i64 0, .int .i64 0] 28)).drew) := Lib.hid ((Below.refl _ _).alloc (Nat.le_refl _) _).drew
              have HZ0 : Hid (Bk (wq.alloc (.cells #[.int .i64 0, .int .i64 0] 28)).drew wq.heap.size [.int .i64 0, .int .i64 0] 28) := Lib.hid ((Bk.new wq [.int .i64 0, .int .i64 0] 28).fr (Fr.refl none' _).drew id)
              have sq0 := HSW.out _ G0.out
              have sq1 := HSW.out _ G1.out
              clear hXN hUN hUD
              have HFA : Hid (∀ k, nowS (addTo wd ad A key at_ 1000).2 k wd now = nowS A k wd now ∧ thenS (addTo wd ad A key at_ 1000).2 k pe wd now bk.toNat = thenS A k pe wd now bk.toNat) := Lib.hid (far_same HRT.out (FAR.out))
              obtain ⟨A2, hA2⟩ : ∃ A2, (addTo wd ad A key at_ 1000).2 = A2 := ⟨_, rfl⟩
              obtain ⟨ad2, hd2⟩ : ∃ ad2, (addTo wd ad A key at_ 1000).1 = ad2 := ⟨_, rfl⟩
              have hl2 : A2.length ≤ 41 := by rw [← hA2]; unfold addTo; split <;> simp <;> omega
              rw [hA2] at HFA
              have HAT1 := Lib.hid hd2
              have HAT2 := Lib.hid hA2
              have HNV : Hid (nowV A2 pe bk wd now key = nowV A pe bk wd now key) := Lib.hid (by unfold nowV; rw [(HFA.out key).1])
              have HUV : Hid (usuN A2 pe bk wd now key = usuN A pe bk wd now key) := Lib.hid (by unfold usuN; rw [(HFA.out key).2])
              clear hA2 hd2
              go_wp2_with fail
              go_region_held3 (fun X => X.cell? ⟨N, 0, none⟩ = some (.int .i64 pe) ∧ X.cell? ⟨N, 1, none⟩ = some (.int .i64 bk)) (first | assumption | go_keep)
                (first
                  | (go_at_call 12
                     (with_reducible refine (HNO.out _ (by first | exact G0.out | exact G1.out)).mono ?_)
                     rintro e w4 ⟨rfl, b4⟩
                     have G4 : Hid (Below wq.heap.size wq w4) := Lib.hid (by first | exact G0.out.trans (b4.mono G0.out.size) | exact G1.out.trans (b4.mono G1.out.size))
                     have G4A := Lib.hid (G4.out.alloc G4.out.size (.cells #[.int .i64 0, .int .i64 0] 28))
                     have hS4 := HSW.out _ G4.out
                     have hS4A := HSW.out _ G4A.out
                     (try (have hz4 := HZ0.out.bel b4; have HZ4 := Lib.hid hz4; clear hz4))
                     have B4 := Lib.hid b4
                     clear b4)
                  | (go_at_call 13
                     (with_reducible refine (HUS.out _ (by first | exact G4.out | exact G4A.out)).mono ?_)
                     rintro e w5 ⟨rfl, b5⟩
                     have G5 : Hid (Below wq.heap.size wq w5) := Lib.hid (by first | exact G4.out.trans (b5.mono G4.out.size) | exact G4A.out.trans (b5.mono G4A.out.size))
                     have G5A := Lib.hid (G5.out.alloc G5.out.size (.cells #[.int .i64 0, .int .i64 0] 28))
                     have hS5 := HSW.out _ G5.out
                     have hS5A := HSW.out _ G5A.out
                     (try (have hz5 := HZ4.out.bel b5; have HZ5 := Lib.hid hz5; clear hz5))
                     (try (have hz5 := (Bk.new w4 [.int .i64 0, .int .i64 0] 28).bel b5; have HZ5 := Lib.hid hz5; clear hz5))
                     have B5 := Lib.hid b5
                     clear b5)
                  | (go_at_call 14
                     (with_reducible refine (HOD.out _ (by first | exact G5.out | exact G5A.out)).mono ?_)
                     rintro e w6 ⟨v6, k6, rfl, o6, t6, n6, b6⟩
                     have G6 : Hid (Below wq.heap.size wq w6) := Lib.hid (by first | exact G5.out.trans (b6.mono G5.out.size) | exact G5A.out.trans (b6.mono G5A.out.size))
                     have hS6 := HSW.out _ G6.out
                     have hS6A := HSW.out _ (G6.out.alloc G6.out.size (.cells #[.int .i64 0, .int .i64 0] 28))
                     have hS7a := HSW.out ((w6.setCell ⟨wq.heap.size, 0, none⟩ (.int .i64 UN)).setCell ⟨wq.heap.size, 1, none⟩ (.int .i64 UD)) ((G6.out.setCell (by simp) _).setCell (by simp) _)
                     have hS7b := HSW.out ((w6.setCell ⟨w4.heap.size, 0, none⟩ (.int .i64 UN)).setCell ⟨w4.heap.size, 1, none⟩ (.int .i64 UD)) ((G6.out.setCell (by have := G4.out.size; simp; omega) _).setCell (by have := G4.out.size; simp; omega) _)
                     have hS7c := HSW.out ((w6.setCell ⟨w5.heap.size, 0, none⟩ (.int .i64 UN)).setCell ⟨w5.heap.size, 1, none⟩ (.int .i64 UD)) ((G6.out.setCell (by have := G5.out.size; simp; omega) _).setCell (by have := G5.out.size; simp; omega) _)
                     have hS7d := HSW.out (w6.alloc (.cells #[.int .i64 UN, .int .i64 UD] 28)) (G6.out.alloc G6.out.size _)
                     (try (have hz6 := HZ5.out.bel b6; have HZ6 := Lib.hid hz6; clear hz6))
                     (try (have hz6 := (Bk.new w5 [.int .i64 0, .int .i64 0] 28).bel b6; have HZ6 := Lib.hid hz6; clear hz6))
                     (try (have z0 := HZ6.out.cell 0; have z1 := HZ6.out.cell 1; have zf0 := HZ6.out.free 0; have zf1 := HZ6.out.free 1))
                     have B6 := Lib.hid b6
                     have O6 := Lib.hid o6
                     have T6 := Lib.hid t6
                     have N6 := Lib.hid n6
                     clear b6 o6 t6 n6)
                  | fail)
              all_goals first
                | (obtain ⟨V, hV⟩ : ∃ V, ((w6.setCell ⟨wq.heap.size, 0, none⟩ (.int .i64 UN)).setCell ⟨wq.heap.size, 1, none⟩ (.int .i64 UD)) = V := ⟨_, rfl⟩
                   have hv8 : ∃ os i j, Here K44 w V os ∧ os[0]? = some (.box N [.int .i64 pe, .int .i64 bk] 23) ∧ os[1]? = some (.pane p wd ad A) ∧ os[i]? = some (.box wq.heap.size [.int .i64 UN, .int .i64 UD] 28) ∧ os[j]? = some (.texts v6 k6) ∧ i ≠ 1 ∧ j ≠ 1 := by
                     rw [← hV]
                     exact ⟨_, 2, 3, h_store2 (h_texts ((((h_box HQ.out [.int .i64 0, .int .i64 0] 28).drew.step_bel B4.out).step_bel B5.out)) B6.out T6.out N6.out) (i := 2) rfl (.int .i64 UN) (.int .i64 UD), rfl, rfl, rfl, rfl, by decide, by decide⟩
                   rw [hV]
                   generalize wq.heap.size = a8 at hv8 ⊢
                   have HV8 := Lib.hid hv8
                   clear hV hv8)
                | (obtain ⟨V, hV⟩ : ∃ V, ((w6.setCell ⟨w4.heap.size, 0, none⟩ (.int .i64 UN)).setCell ⟨w4.heap.size, 1, none⟩ (.int .i64 UD)) = V := ⟨_, rfl⟩
                   have hv8 : ∃ os i j, Here K44 w V os ∧ os[0]? = some (.box N [.int .i64 pe, .int .i64 bk] 23) ∧ os[1]? = some (.pane p wd ad A) ∧ os[i]? = some (.box w4.heap.size [.int .i64 UN, .int .i64 UD] 28) ∧ os[j]? = some (.texts v6 k6) ∧ i ≠ 1 ∧ j ≠ 1 := by
                     rw [← hV]
                     exact ⟨_, 2, 3, h_store2 (h_texts ((h_box (HQ.out.drew.step_bel B4.out) [.int .i64 0, .int .i64 0] 28).step_bel B5.out) B6.out T6.out N6.out) (i := 2) rfl (.int .i64 UN) (.int .i64 UD), rfl, rfl, rfl, rfl, by decide, by decide⟩
                   rw [hV]
                   generalize w4.heap.size = a8 at hv8 ⊢
                   have HV8 := Lib.hid hv8
                   clear hV hv8)
                | (obtain ⟨V, hV⟩ : ∃ V, ((w6.setCell ⟨w5.heap.size, 0, none⟩ (.int .i64 UN)).setCell ⟨w5.heap.size, 1, none⟩ (.int .i64 UD)) = V := ⟨_, rfl⟩
                   have hv8 : ∃ os i j, Here K44 w V os ∧ os[0]? = some (.box N [.int .i64 pe, .int .i64 bk] 23) ∧ os[1]? = some (.pane p wd ad A) ∧ os[i]? = some (.box w5.heap.size [.int .i64 UN, .int .i64 UD] 28) ∧ os[j]? = some (.texts v6 k6) ∧ i ≠ 1 ∧ j ≠ 1 := by
                     rw [← hV]
                     exact ⟨_, 2, 3, h_store2 (h_texts (h_box ((HQ.out.drew.step_bel B4.out).step_bel B5.out) [.int .i64 0, .int .i64 0] 28) B6.out T6.out N6.out) (i := 2) rfl (.int .i64 UN) (.int .i64 UD), rfl, rfl, rfl, rfl, by decide, by decide⟩
                   rw [hV]
                   generalize w5.heap.size = a8 at hv8 ⊢
                   have HV8 := Lib.hid hv8
                   clear hV hv8)
                | (obtain ⟨V, hV⟩ : ∃ V, w6.alloc (.cells #[.int .i64 UN, .int .i64 UD] 28) = V := ⟨_, rfl⟩
                   have hv8 : ∃ os i j, Here K44 w V os ∧ os[0]? = some (.box N [.int .i64 pe, .int .i64 bk] 23) ∧ os[1]? = some (.pane p wd ad A) ∧ os[i]? = some (.box w6.heap.size [.int .i64 UN, .int .i64 UD] 28) ∧ os[j]? = some (.texts v6 k6) ∧ i ≠ 1 ∧ j ≠ 1 := by
                     rw [← hV]
                     exact ⟨_, 3, 2, h_box (h_texts ((HQ.out.drew.step_bel B4.out).step_bel B5.out) B6.out T6.out N6.out) [.int .i64 UN, .int .i64 UD] 28, rfl, rfl, rfl, rfl, by decide, by decide⟩
                   rw [hV]
                   generalize w6.heap.size = a8 at hv8 ⊢
                   have HV8 := Lib.hid hv8
                   clear hV hv8)
                | fail
              all_goals
                (try clear z0 z1 zf0 zf1)
                clear hS4 hS4A hS5 hS5A hS6 hS6A hS7a hS7b hS7c hS7d
                obtain ⟨os, i, j, hv, i0, i1, i2, i3, ne1, ne2⟩ := HV8.out
                have hAD := h_add hv i1 key at_ 1000 (by omega) oat (by unfold I64; omega)
                have hset : ∀ o', (os.set 1 o')[0]? = some (.box N [.int .i64 pe, .int .i64 bk] 23) ∧ (os.set 1 o')[1]? = some o' ∧ (os.set 1 o')[i]? = some (.box a8 [.int .i64 UN, .int .i64 UD] 28) ∧ (os.set 1 o')[j]? = some (.texts v6 k6) := fun o' => by
                  have hl := (List.getElem?_eq_some_iff.1 i1).1
                  refine ⟨by rw [List.getElem?_set_ne (by decide)]; exact i0, List.getElem?_set_self hl, by rw [List.getElem?_set_ne (fun c => ne1 c.symm)]; exact i2, by rw [List.getElem?_set_ne (fun c => ne2 c.symm)]; exact i3⟩
                rw [HAT1.out, HAT2.out] at hAD
                have AD := Lib.hid hAD
                have HSET := Lib.hid hset
                clear hAD hset hv i0 i1 i2 i3 HV8
                generalize mayAdd key at_ 1000 ad = r at *
                go_wp2_with fail
                refine AD.out.mono ?_
                rintro e wa ⟨rfl, ha⟩
                obtain ⟨j0, j1, j2, j3⟩ := HSET.out (.pane p wd ad2 A2)
                generalize os.set 1 (.pane p wd ad2 A2) = us at *
                have HA := Lib.hid ha
                have HJ := Lib.hid (And.intro j0 (And.intro j1 (And.intro j2 j3)))
                have HS3 : Hid (∀ W, Here K44 w W us → W.cell? ⟨N, 0, none⟩ = some (.int .i64 pe) ∧ W.cell? ⟨N, 1, none⟩ = some (.int .i64 bk) ∧ W.cell? ⟨a8, 0, none⟩ = some (.int .i64 UN) ∧ W.cell? ⟨a8, 1, none⟩ = some (.int .i64 UD)) := Lib.hid (fun W h => ⟨(h_boxAt h j0).cell 0, (h_boxAt h j0).cell 1, (h_boxAt h j2).cell 0, (h_boxAt h j2).cell 1⟩)
                have NW2 := Lib.hid (h_now ha.drew j1 pe bk now key (by omega) h1 h2 h4)
                rw [HNV.out, HXN.out] at NW2
                have sA := HS3.out _ ha.drew
                clear AD HSET ha j0 j1 j2 j3
                go_wp2_with fail
                go_region_held3 (fun X => X.cell? ⟨N, 0, none⟩ = some (.int .i64 pe) ∧ X.cell? ⟨N, 1, none⟩ = some (.int .i64 bk) ∧ X.cell? ⟨a8, 0, none⟩ = some (.int .i64 UN) ∧ X.cell? ⟨a8, 1, none⟩ = some (.int .i64 UD)) (first | assumption | go_keep)
                  (first
                    | (go_at_call 12
                       (with_reducible refine NW2.out.mono ?_)
                       rintro e x1 ⟨rfl, c1⟩
                       have g1 := HA.out.drew.step_bel c1
                       have G1' := Lib.hid g1
                       have t1 := HS3.out _ g1
                       have hus := h_usual g1 HJ.out.2.1 (by omega) pe bk now key (by omega) h1 h2 h4
                       rw [HUV.out, HXU.out.1, HXU.out.2] at hus
                       have US2 := Lib.hid hus
                       clear g1 c1 hus)
                    | (go_at_call 13
                       (with_reducible refine US2.out.mono ?_)
                       rintro e x2 ⟨rfl, c2⟩
                       have g2 := G1'.out.step_bel c2
                       have G2' := Lib.hid g2
                       have t2 := HS3.out _ g2
                       have OD2 := Lib.hid (h_odd g2 HJ.out.2.1 (by omega) pe bk now 1 h1 h2 h4 (by unfold I64; omega))
                       clear g2 c2)
                    | (go_at_call 14
                       (with_reducible refine OD2.out.mono ?_)
                       rintro e x3 ⟨v9, k9, rfl, o9, t9, c3⟩
                       have g3 := G2'.out.step_bel c3
                       have G3' := Lib.hid g3
                       have t3 := HS3.out _ g3
                       have e9 := OddsV.uniq o9 O6.out HFA.out
                       have hkl := OddsV.len HAO.out O6.out
                       have t6' := h_textsAt g3 HJ.out.2.2.2
                       subst e9
                       have q9 := t9.strs
                       obtain ⟨ba, ca, hv9, _, _, sa9⟩ := q9
                       have q6 := t6'.strs
                       obtain ⟨bb, cb, hv6, _, _, sb6⟩ := q6
                       have htx := same16_any ba bb k9.length k9.length ca cb k9 k9 x3 sa9 sb6 rfl rfl (by omega) (by omega)
                       rw [decide_eq_true rfl, ← hv9, ← hv6] at htx
                       have TX := Lib.hid htx
                       clear g3 o9 t9 c3 t6' sa9 sb6 hv9 hv6 htx)
                    | (go_at_call 21
                       (with_reducible refine TX.out.mono ?_)
                       rintro e x4 ⟨rfl, q4, hx4⟩
                       have g4 := G3'.out.drewN q4
                       rw [← hx4] at g4
                       have G4' := Lib.hid g4
                       have t4 := HS3.out _ g4
                       clear g4 hx4)
                    | (go_at_call 9
                       (with_reducible refine (HAW.out _).mono ?_)
                       rintro e x5 ⟨rfl, c5⟩
                       have g5 := G4'.out.step_bel c5
                       have G5' := Lib.hid g5
                       have t5 := HS3.out _ g5
                       clear g5 c5)
                    | fail)
                go_wp2_with fail
                go_ret
                exact ⟨rfl, G5'.out.bel⟩
          · have z1' : (D % m == 0) = false := by simpa using d1
            have FAR : Hid (∀ n : Int, 0 ≤ n → n ≤ bk → agoQ pe wd now n ≠ at_ / wd) := Lib.hid (by rw [HQA.out]; exact FARO.out (fun c => d1 c.2.1))
            go_wp2_with fail
            go_quiet (fail)
            have HQ0 := Lib.hid (H6.out.drewN nq)
            clear H6 g60 g61
            generalize wr0.drewN nq = wq at *
            clear y1 y2 y5 y6 z0' z1' mz hz u3 p3
            have hAl40 : A.length ≤ 40 := by omega
            obtain ⟨ad, had⟩ : ∃ ad : Int, (A.length : Int) = ad := ⟨_, rfl⟩
            rw [had] at HQ0
            have HQ := Lib.hid HQ0.out
            clear had HQ0
            obtain ⟨XN, hXN⟩ : ∃ X, nowV A pe bk wd now key = X := ⟨_, rfl⟩
            obtain ⟨UN, hUN⟩ : ∃ X, usuN A pe bk wd now key = X := ⟨_, rfl⟩
            obtain ⟨UD, hUD⟩ : ∃ X, usuD pe bk wd now = X := ⟨_, rfl⟩
            have HXN := Lib.hid hXN
            have HXU := Lib.hid (And.intro hUN hUD)
            have HNO : Hid (∀ W, Below wq.heap.size wq W → Calls Try.prog 12 #[.pointer (some ⟨p, 0, none⟩), .agg #[.int .i64 pe, .int .i64 bk], .string key, .int .i64 now] W fun e w' => e = .returned (.int .i64 XN) ∧ Below W.heap.size W w') := Lib.hid (fun W hb => by
              have := h_now (HQ.out.step_bel hb) (i := 1) rfl pe bk now key (by omega) h1 h2 h4
              rw [hXN] at this
              exact this)
            have HUS : Hid (∀ W, Below wq.heap.size wq W → Calls Try.prog 13 #[.pointer (some ⟨p, 0, none⟩), .agg #[.int .i64 pe, .int .i64 bk], .string key, .int .i64 now] W fun e w' => e = .returned (.agg #[.int .i64 UN, .int .i64 UD]) ∧ Below W.heap.size W w') := Lib.hid (fun W hb => by
              have := h_usual (HQ.out.step_bel hb) (i := 1) rfl (by omega) pe bk now key (by omega) h1 h2 h4
              rw [hUN, hUD] at this
              exact this)
            have HOD : Hid (∀ W, Below wq.heap.size wq W → Calls Try.prog 14 #[.pointer (some ⟨p, 0, none⟩), .agg #[.int .i64 pe, .int .i64 bk], .int .i64 now, .int .i64 1] W fun e w' => ∃ v ks, e = .returned v ∧ OddsV A pe bk wd now 1 ks ∧ TextsAt w' v ks ∧ (∀ b, v.ownBlock = some b → W.heap.size ≤ b) ∧ Below W.heap.size W w') := Lib.hid (fun W hb => h_oddN (HQ.out.step_bel hb) (i := 1) rfl (by omega) pe bk now 1 h1 h2 h4 (by unfold I64; omega))
            have HSW : Hid (∀ W, Below wq.heap.size wq W → W.cell? ⟨N, 0, none⟩ = some (.int .i64 pe) ∧ W.cell? ⟨N, 1, none⟩ = some (.int .i64 bk)) := Lib.hid (fun W hb => HS.out _ _ (HQ.out.step_bel hb) rfl)
            have G0 : Hid (Below wq.heap.size wq wq.drew) := Lib.hid (Below.refl _ _).drew
            have G1 : Hid (Below wq.heap.size wq (wq.alloc (.cells #[.int .i64 0, .int .i64 0] 28)).drew) := Lib.hid ((Below.refl _ _).alloc (Nat.le_refl _) _).drew
            have HZ0 : Hid (Bk (wq.alloc (.cells #[.int .i64 0, .int .i64 0] 28)).drew wq.heap.size [.int .i64 0, .int .i64 0] 28) := Lib.hid ((Bk.new wq [.int .i64 0, .int .i64 0] 28).fr (Fr.refl none' _).drew id)
            have sq0 := HSW.out _ G0.out
            have sq1 := HSW.out _ G1.out
            clear hXN hUN hUD
            have HFA : Hid (∀ k, nowS (addTo wd ad A key at_ 1000).2 k wd now = nowS A k wd now ∧ thenS (addTo wd ad A key at_ 1000).2 k pe wd now bk.toNat = thenS A k pe wd now bk.toNat) := Lib.hid (far_same HRT.out (FAR.out))
            obtain ⟨A2, hA2⟩ : ∃ A2, (addTo wd ad A key at_ 1000).2 = A2 := ⟨_, rfl⟩
            obtain ⟨ad2, hd2⟩ : ∃ ad2, (addTo wd ad A key at_ 1000).1 = ad2 := ⟨_, rfl⟩
            have hl2 : A2.length ≤ 41 := by rw [← hA2]; unfold addTo; split <;> simp <;> omega
            rw [hA2] at HFA
            have HAT1 := Lib.hid hd2
            have HAT2 := Lib.hid hA2
            have HNV : Hid (nowV A2 pe bk wd now key = nowV A pe bk wd now key) := Lib.hid (by unfold nowV; rw [(HFA.out key).1])
            have HUV : Hid (usuN A2 pe bk wd now key = usuN A pe bk wd now key) := Lib.hid (by unfold usuN; rw [(HFA.out key).2])
            clear hA2 hd2
            go_wp2_with fail
            go_region_held3 (fun X => X.cell? ⟨N, 0, none⟩ = some (.int .i64 pe) ∧ X.cell? ⟨N, 1, none⟩ = some (.int .i64 bk)) (first | assumption | go_keep)
              (first
                | (go_at_call 12
                   (with_reducible refine (HNO.out _ (by first | exact G0.out | exact G1.out)).mono ?_)
                   rintro e w4 ⟨rfl, b4⟩
                   have G4 : Hid (Below wq.heap.size wq w4) := Lib.hid (by first | exact G0.out.trans (b4.mono G0.out.size) | exact G1.out.trans (b4.mono G1.out.size))
                   have G4A := Lib.hid (G4.out.alloc G4.out.size (.cells #[.int .i64 0, .int .i64 0] 28))
                   have hS4 := HSW.out _ G4.out
                   have hS4A := HSW.out _ G4A.out
                   (try (have hz4 := HZ0.out.bel b4; have HZ4 := Lib.hid hz4; clear hz4))
                   have B4 := Lib.hid b4
                   clear b4)
                | (go_at_call 13
                   (with_reducible refine (HUS.out _ (by first | exact G4.out | exact G4A.out)).mono ?_)
                   rintro e w5 ⟨rfl, b5⟩
                   have G5 : Hid (Below wq.heap.size wq w5) := Lib.hid (by first | exact G4.out.trans (b5.mono G4.out.size) | exact G4A.out.trans (b5.mono G4A.out.size))
                   have G5A := Lib.hid (G5.out.alloc G5.out.size (.cells #[.int .i64 0, .int .i64 0] 28))
                   have hS5 := HSW.out _ G5.out
                   have hS5A := HSW.out _ G5A.out
                   (try (have hz5 := HZ4.out.bel b5; have HZ5 := Lib.hid hz5; clear hz5))
                   (try (have hz5 := (Bk.new w4 [.int .i64 0, .int .i64 0] 28).bel b5; have HZ5 := Lib.hid hz5; clear hz5))
                   have B5 := Lib.hid b5
                   clear b5)
                | (go_at_call 14
                   (with_reducible refine (HOD.out _ (by first | exact G5.out | exact G5A.out)).mono ?_)
                   rintro e w6 ⟨v6, k6, rfl, o6, t6, n6, b6⟩
                   have G6 : Hid (Below wq.heap.size wq w6) := Lib.hid (by first | exact G5.out.trans (b6.mono G5.out.size) | exact G5A.out.trans (b6.mono G5A.out.size))
                   have hS6 := HSW.out _ G6.out
                   have hS6A := HSW.out _ (G6.out.alloc G6.out.size (.cells #[.int .i64 0, .int .i64 0] 28))
                   have hS7a := HSW.out ((w6.setCell ⟨wq.heap.size, 0, none⟩ (.int .i64 UN)).setCell ⟨wq.heap.size, 1, none⟩ (.int .i64 UD)) ((G6.out.setCell (by simp) _).setCell (by simp) _)
                   have hS7b := HSW.out ((w6.setCell ⟨w4.heap.size, 0, none⟩ (.int .i64 UN)).setCell ⟨w4.heap.size, 1, none⟩ (.int .i64 UD)) ((G6.out.setCell (by have := G4.out.size; simp; omega) _).setCell (by have := G4.out.size; simp; omega) _)
                   have hS7c := HSW.out ((w6.setCell ⟨w5.heap.size, 0, none⟩ (.int .i64 UN)).setCell ⟨w5.heap.size, 1, none⟩ (.int .i64 UD)) ((G6.out.setCell (by have := G5.out.size; simp; omega) _).setCell (by have := G5.out.size; simp; omega) _)
                   have hS7d := HSW.out (w6.alloc (.cells #[.int .i64 UN, .int .i64 UD] 28)) (G6.out.alloc G6.out.size _)
                   (try (have hz6 := HZ5.out.bel b6; have HZ6 := Lib.hid hz6; clear hz6))
                   (try (have hz6 := (Bk.new w5 [.int .i64 0, .int .i64 0] 28).bel b6; have HZ6 := Lib.hid hz6; clear hz6))
                   (try (have z0 := HZ6.out.cell 0; have z1 := HZ6.out.cell 1; have zf0 := HZ6.out.free 0; have zf1 := HZ6.out.free 1))
                   have B6 := Lib.hid b6
                   have O6 := Lib.hid o6
                   have T6 := Lib.hid t6
                   have N6 := Lib.hid n6
                   clear b6 o6 t6 n6)
                | fail)
            all_goals first
              | (obtain ⟨V, hV⟩ : ∃ V, ((w6.setCell ⟨wq.heap.size, 0, none⟩ (.int .i64 UN)).setCell ⟨wq.heap.size, 1, none⟩ (.int .i64 UD)) = V := ⟨_, rfl⟩
                 have hv8 : ∃ os i j, Here K44 w V os ∧ os[0]? = some (.box N [.int .i64 pe, .int .i64 bk] 23) ∧ os[1]? = some (.pane p wd ad A) ∧ os[i]? = some (.box wq.heap.size [.int .i64 UN, .int .i64 UD] 28) ∧ os[j]? = some (.texts v6 k6) ∧ i ≠ 1 ∧ j ≠ 1 := by
                   rw [← hV]
                   exact ⟨_, 2, 3, h_store2 (h_texts ((((h_box HQ.out [.int .i64 0, .int .i64 0] 28).drew.step_bel B4.out).step_bel B5.out)) B6.out T6.out N6.out) (i := 2) rfl (.int .i64 UN) (.int .i64 UD), rfl, rfl, rfl, rfl, by decide, by decide⟩
                 rw [hV]
                 generalize wq.heap.size = a8 at hv8 ⊢
                 have HV8 := Lib.hid hv8
                 clear hV hv8)
              | (obtain ⟨V, hV⟩ : ∃ V, ((w6.setCell ⟨w4.heap.size, 0, none⟩ (.int .i64 UN)).setCell ⟨w4.heap.size, 1, none⟩ (.int .i64 UD)) = V := ⟨_, rfl⟩
                 have hv8 : ∃ os i j, Here K44 w V os ∧ os[0]? = some (.box N [.int .i64 pe, .int .i64 bk] 23) ∧ os[1]? = some (.pane p wd ad A) ∧ os[i]? = some (.box w4.heap.size [.int .i64 UN, .int .i64 UD] 28) ∧ os[j]? = some (.texts v6 k6) ∧ i ≠ 1 ∧ j ≠ 1 := by
                   rw [← hV]
                   exact ⟨_, 2, 3, h_store2 (h_texts ((h_box (HQ.out.drew.step_bel B4.out) [.int .i64 0, .int .i64 0] 28).step_bel B5.out) B6.out T6.out N6.out) (i := 2) rfl (.int .i64 UN) (.int .i64 UD), rfl, rfl, rfl, rfl, by decide, by decide⟩
                 rw [hV]
                 generalize w4.heap.size = a8 at hv8 ⊢
                 have HV8 := Lib.hid hv8
                 clear hV hv8)
              | (obtain ⟨V, hV⟩ : ∃ V, ((w6.setCell ⟨w5.heap.size, 0, none⟩ (.int .i64 UN)).setCell ⟨w5.heap.size, 1, none⟩ (.int .i64 UD)) = V := ⟨_, rfl⟩
                 have hv8 : ∃ os i j, Here K44 w V os ∧ os[0]? = some (.box N [.int .i64 pe, .int .i64 bk] 23) ∧ os[1]? = some (.pane p wd ad A) ∧ os[i]? = some (.box w5.heap.size [.int .i64 UN, .int .i64 UD] 28) ∧ os[j]? = some (.texts v6 k6) ∧ i ≠ 1 ∧ j ≠ 1 := by
                   rw [← hV]
                   exact ⟨_, 2, 3, h_store2 (h_texts (h_box ((HQ.out.drew.step_bel B4.out).step_bel B5.out) [.int .i64 0, .int .i64 0] 28) B6.out T6.out N6.out) (i := 2) rfl (.int .i64 UN) (.int .i64 UD), rfl, rfl, rfl, rfl, by decide, by decide⟩
                 rw [hV]
                 generalize w5.heap.size = a8 at hv8 ⊢
                 have HV8 := Lib.hid hv8
                 clear hV hv8)
              | (obtain ⟨V, hV⟩ : ∃ V, w6.alloc (.cells #[.int .i64 UN, .int .i64 UD] 28) = V := ⟨_, rfl⟩
                 have hv8 : ∃ os i j, Here K44 w V os ∧ os[0]? = some (.box N [.int .i64 pe, .int .i64 bk] 23) ∧ os[1]? = some (.pane p wd ad A) ∧ os[i]? = some (.box w6.heap.size [.int .i64 UN, .int .i64 UD] 28) ∧ os[j]? = some (.texts v6 k6) ∧ i ≠ 1 ∧ j ≠ 1 := by
                   rw [← hV]
                   exact ⟨_, 3, 2, h_box (h_texts ((HQ.out.drew.step_bel B4.out).step_bel B5.out) B6.out T6.out N6.out) [.int .i64 UN, .int .i64 UD] 28, rfl, rfl, rfl, rfl, by decide, by decide⟩
                 rw [hV]
                 generalize w6.heap.size = a8 at hv8 ⊢
                 have HV8 := Lib.hid hv8
                 clear hV hv8)
              | fail
            all_goals
              (try clear z0 z1 zf0 zf1)
              clear hS4 hS4A hS5 hS5A hS6 hS6A hS7a hS7b hS7c hS7d
              obtain ⟨os, i, j, hv, i0, i1, i2, i3, ne1, ne2⟩ := HV8.out
              have hAD := h_add hv i1 key at_ 1000 (by omega) oat (by unfold I64; omega)
              have hset : ∀ o', (os.set 1 o')[0]? = some (.box N [.int .i64 pe, .int .i64 bk] 23) ∧ (os.set 1 o')[1]? = some o' ∧ (os.set 1 o')[i]? = some (.box a8 [.int .i64 UN, .int .i64 UD] 28) ∧ (os.set 1 o')[j]? = some (.texts v6 k6) := fun o' => by
                have hl := (List.getElem?_eq_some_iff.1 i1).1
                refine ⟨by rw [List.getElem?_set_ne (by decide)]; exact i0, List.getElem?_set_self hl, by rw [List.getElem?_set_ne (fun c => ne1 c.symm)]; exact i2, by rw [List.getElem?_set_ne (fun c => ne2 c.symm)]; exact i3⟩
              rw [HAT1.out, HAT2.out] at hAD
              have AD := Lib.hid hAD
              have HSET := Lib.hid hset
              clear hAD hset hv i0 i1 i2 i3 HV8
              generalize mayAdd key at_ 1000 ad = r at *
              go_wp2_with fail
              refine AD.out.mono ?_
              rintro e wa ⟨rfl, ha⟩
              obtain ⟨j0, j1, j2, j3⟩ := HSET.out (.pane p wd ad2 A2)
              generalize os.set 1 (.pane p wd ad2 A2) = us at *
              have HA := Lib.hid ha
              have HJ := Lib.hid (And.intro j0 (And.intro j1 (And.intro j2 j3)))
              have HS3 : Hid (∀ W, Here K44 w W us → W.cell? ⟨N, 0, none⟩ = some (.int .i64 pe) ∧ W.cell? ⟨N, 1, none⟩ = some (.int .i64 bk) ∧ W.cell? ⟨a8, 0, none⟩ = some (.int .i64 UN) ∧ W.cell? ⟨a8, 1, none⟩ = some (.int .i64 UD)) := Lib.hid (fun W h => ⟨(h_boxAt h j0).cell 0, (h_boxAt h j0).cell 1, (h_boxAt h j2).cell 0, (h_boxAt h j2).cell 1⟩)
              have NW2 := Lib.hid (h_now ha.drew j1 pe bk now key (by omega) h1 h2 h4)
              rw [HNV.out, HXN.out] at NW2
              have sA := HS3.out _ ha.drew
              clear AD HSET ha j0 j1 j2 j3
              go_wp2_with fail
              go_region_held3 (fun X => X.cell? ⟨N, 0, none⟩ = some (.int .i64 pe) ∧ X.cell? ⟨N, 1, none⟩ = some (.int .i64 bk) ∧ X.cell? ⟨a8, 0, none⟩ = some (.int .i64 UN) ∧ X.cell? ⟨a8, 1, none⟩ = some (.int .i64 UD)) (first | assumption | go_keep)
                (first
                  | (go_at_call 12
                     (with_reducible refine NW2.out.mono ?_)
                     rintro e x1 ⟨rfl, c1⟩
                     have g1 := HA.out.drew.step_bel c1
                     have G1' := Lib.hid g1
                     have t1 := HS3.out _ g1
                     have hus := h_usual g1 HJ.out.2.1 (by omega) pe bk now key (by omega) h1 h2 h4
                     rw [HUV.out, HXU.out.1, HXU.out.2] at hus
                     have US2 := Lib.hid hus
                     clear g1 c1 hus)
                  | (go_at_call 13
                     (with_reducible refine US2.out.mono ?_)
                     rintro e x2 ⟨rfl, c2⟩
                     have g2 := G1'.out.step_bel c2
                     have G2' := Lib.hid g2
                     have t2 := HS3.out _ g2
                     have OD2 := Lib.hid (h_odd g2 HJ.out.2.1 (by omega) pe bk now 1 h1 h2 h4 (by unfold I64; omega))
                     clear g2 c2)
                  | (go_at_call 14
                     (with_reducible refine OD2.out.mono ?_)
                     rintro e x3 ⟨v9, k9, rfl, o9, t9, c3⟩
                     have g3 := G2'.out.step_bel c3
                     have G3' := Lib.hid g3
                     have t3 := HS3.out _ g3
                     have e9 := OddsV.uniq o9 O6.out HFA.out
                     have hkl := OddsV.len HAO.out O6.out
                     have t6' := h_textsAt g3 HJ.out.2.2.2
                     subst e9
                     have q9 := t9.strs
                     obtain ⟨ba, ca, hv9, _, _, sa9⟩ := q9
                     have q6 := t6'.strs
                     obtain ⟨bb, cb, hv6, _, _, sb6⟩ := q6
                     have htx := same16_any ba bb k9.length k9.length ca cb k9 k9 x3 sa9 sb6 rfl rfl (by omega) (by omega)
                     rw [decide_eq_true rfl, ← hv9, ← hv6] at htx
                     have TX := Lib.hid htx
                     clear g3 o9 t9 c3 t6' sa9 sb6 hv9 hv6 htx)
                  | (go_at_call 21
                     (with_reducible refine TX.out.mono ?_)
                     rintro e x4 ⟨rfl, q4, hx4⟩
                     have g4 := G3'.out.drewN q4
                     rw [← hx4] at g4
                     have G4' := Lib.hid g4
                     have t4 := HS3.out _ g4
                     clear g4 hx4)
                  | (go_at_call 9
                     (with_reducible refine (HAW.out _).mono ?_)
                     rintro e x5 ⟨rfl, c5⟩
                     have g5 := G4'.out.step_bel c5
                     have G5' := Lib.hid g5
                     have t5 := HS3.out _ g5
                     clear g5 c5)
                  | fail)
              go_wp2_with fail
              go_ret
              exact ⟨rfl, G5'.out.bel⟩
        · have z0' : decide (0 ≤ D) = false := decide_eq_false d0
          have FAR : Hid (∀ n : Int, 0 ≤ n → n ≤ bk → agoQ pe wd now n ≠ at_ / wd) := Lib.hid (by rw [HQA.out]; exact FARO.out (fun c => d0 c.1))
          go_wp2_with fail
          go_quiet (fail)
          have HQ0 := Lib.hid (H6.out.drewN nq)
          clear H6 g60 g61
          generalize wr0.drewN nq = wq at *
          clear z0' mz hz u3 p3
          have hAl40 : A.length ≤ 40 := by omega
          obtain ⟨ad, had⟩ : ∃ ad : Int, (A.length : Int) = ad := ⟨_, rfl⟩
          rw [had] at HQ0
          have HQ := Lib.hid HQ0.out
          clear had HQ0
          obtain ⟨XN, hXN⟩ : ∃ X, nowV A pe bk wd now key = X := ⟨_, rfl⟩
          obtain ⟨UN, hUN⟩ : ∃ X, usuN A pe bk wd now key = X := ⟨_, rfl⟩
          obtain ⟨UD, hUD⟩ : ∃ X, usuD pe bk wd now = X := ⟨_, rfl⟩
          have HXN := Lib.hid hXN
          have HXU := Lib.hid (And.intro hUN hUD)
          have HNO : Hid (∀ W, Below wq.heap.size wq W → Calls Try.prog 12 #[.pointer (some ⟨p, 0, none⟩), .agg #[.int .i64 pe, .int .i64 bk], .string key, .int .i64 now] W fun e w' => e = .returned (.int .i64 XN) ∧ Below W.heap.size W w') := Lib.hid (fun W hb => by
            have := h_now (HQ.out.step_bel hb) (i := 1) rfl pe bk now key (by omega) h1 h2 h4
            rw [hXN] at this
            exact this)
          have HUS : Hid (∀ W, Below wq.heap.size wq W → Calls Try.prog 13 #[.pointer (some ⟨p, 0, none⟩), .agg #[.int .i64 pe, .int .i64 bk], .string key, .int .i64 now] W fun e w' => e = .returned (.agg #[.int .i64 UN, .int .i64 UD]) ∧ Below W.heap.size W w') := Lib.hid (fun W hb => by
            have := h_usual (HQ.out.step_bel hb) (i := 1) rfl (by omega) pe bk now key (by omega) h1 h2 h4
            rw [hUN, hUD] at this
            exact this)
          have HOD : Hid (∀ W, Below wq.heap.size wq W → Calls Try.prog 14 #[.pointer (some ⟨p, 0, none⟩), .agg #[.int .i64 pe, .int .i64 bk], .int .i64 now, .int .i64 1] W fun e w' => ∃ v ks, e = .returned v ∧ OddsV A pe bk wd now 1 ks ∧ TextsAt w' v ks ∧ (∀ b, v.ownBlock = some b → W.heap.size ≤ b) ∧ Below W.heap.size W w') := Lib.hid (fun W hb => h_oddN (HQ.out.step_bel hb) (i := 1) rfl (by omega) pe bk now 1 h1 h2 h4 (by unfold I64; omega))
          have HSW : Hid (∀ W, Below wq.heap.size wq W → W.cell? ⟨N, 0, none⟩ = some (.int .i64 pe) ∧ W.cell? ⟨N, 1, none⟩ = some (.int .i64 bk)) := Lib.hid (fun W hb => HS.out _ _ (HQ.out.step_bel hb) rfl)
          have G0 : Hid (Below wq.heap.size wq wq.drew) := Lib.hid (Below.refl _ _).drew
          have G1 : Hid (Below wq.heap.size wq (wq.alloc (.cells #[.int .i64 0, .int .i64 0] 28)).drew) := Lib.hid ((Below.refl _ _).alloc (Nat.le_refl _) _).drew
          have HZ0 : Hid (Bk (wq.alloc (.cells #[.int .i64 0, .int .i64 0] 28)).drew wq.heap.size [.int .i64 0, .int .i64 0] 28) := Lib.hid ((Bk.new wq [.int .i64 0, .int .i64 0] 28).fr (Fr.refl none' _).drew id)
          have sq0 := HSW.out _ G0.out
          have sq1 := HSW.out _ G1.out
          clear hXN hUN hUD
          have HFA : Hid (∀ k, nowS (addTo wd ad A key at_ 1000).2 k wd now = nowS A k wd now ∧ thenS (addTo wd ad A key at_ 1000).2 k pe wd now bk.toNat = thenS A k pe wd now bk.toNat) := Lib.hid (far_same HRT.out (FAR.out))
          obtain ⟨A2, hA2⟩ : ∃ A2, (addTo wd ad A key at_ 1000).2 = A2 := ⟨_, rfl⟩
          obtain ⟨ad2, hd2⟩ : ∃ ad2, (addTo wd ad A key at_ 1000).1 = ad2 := ⟨_, rfl⟩
          have hl2 : A2.length ≤ 41 := by rw [← hA2]; unfold addTo; split <;> simp <;> omega
          rw [hA2] at HFA
          have HAT1 := Lib.hid hd2
          have HAT2 := Lib.hid hA2
          have HNV : Hid (nowV A2 pe bk wd now key = nowV A pe bk wd now key) := Lib.hid (by unfold nowV; rw [(HFA.out key).1])
          have HUV : Hid (usuN A2 pe bk wd now key = usuN A pe bk wd now key) := Lib.hid (by unfold usuN; rw [(HFA.out key).2])
          clear hA2 hd2
          go_wp2_with fail
          go_region_held3 (fun X => X.cell? ⟨N, 0, none⟩ = some (.int .i64 pe) ∧ X.cell? ⟨N, 1, none⟩ = some (.int .i64 bk)) (first | assumption | go_keep)
            (first
              | (go_at_call 12
                 (with_reducible refine (HNO.out _ (by first | exact G0.out | exact G1.out)).mono ?_)
                 rintro e w4 ⟨rfl, b4⟩
                 have G4 : Hid (Below wq.heap.size wq w4) := Lib.hid (by first | exact G0.out.trans (b4.mono G0.out.size) | exact G1.out.trans (b4.mono G1.out.size))
                 have G4A := Lib.hid (G4.out.alloc G4.out.size (.cells #[.int .i64 0, .int .i64 0] 28))
                 have hS4 := HSW.out _ G4.out
                 have hS4A := HSW.out _ G4A.out
                 (try (have hz4 := HZ0.out.bel b4; have HZ4 := Lib.hid hz4; clear hz4))
                 have B4 := Lib.hid b4
                 clear b4)
              | (go_at_call 13
                 (with_reducible refine (HUS.out _ (by first | exact G4.out | exact G4A.out)).mono ?_)
                 rintro e w5 ⟨rfl, b5⟩
                 have G5 : Hid (Below wq.heap.size wq w5) := Lib.hid (by first | exact G4.out.trans (b5.mono G4.out.size) | exact G4A.out.trans (b5.mono G4A.out.size))
                 have G5A := Lib.hid (G5.out.alloc G5.out.size (.cells #[.int .i64 0, .int .i64 0] 28))
                 have hS5 := HSW.out _ G5.out
                 have hS5A := HSW.out _ G5A.out
                 (try (have hz5 := HZ4.out.bel b5; have HZ5 := Lib.hid hz5; clear hz5))
                 (try (have hz5 := (Bk.new w4 [.int .i64 0, .int .i64 0] 28).bel b5; have HZ5 := Lib.hid hz5; clear hz5))
                 have B5 := Lib.hid b5
                 clear b5)
              | (go_at_call 14
                 (with_reducible refine (HOD.out _ (by first | exact G5.out | exact G5A.out)).mono ?_)
                 rintro e w6 ⟨v6, k6, rfl, o6, t6, n6, b6⟩
                 have G6 : Hid (Below wq.heap.size wq w6) := Lib.hid (by first | exact G5.out.trans (b6.mono G5.out.size) | exact G5A.out.trans (b6.mono G5A.out.size))
                 have hS6 := HSW.out _ G6.out
                 have hS6A := HSW.out _ (G6.out.alloc G6.out.size (.cells #[.int .i64 0, .int .i64 0] 28))
                 have hS7a := HSW.out ((w6.setCell ⟨wq.heap.size, 0, none⟩ (.int .i64 UN)).setCell ⟨wq.heap.size, 1, none⟩ (.int .i64 UD)) ((G6.out.setCell (by simp) _).setCell (by simp) _)
                 have hS7b := HSW.out ((w6.setCell ⟨w4.heap.size, 0, none⟩ (.int .i64 UN)).setCell ⟨w4.heap.size, 1, none⟩ (.int .i64 UD)) ((G6.out.setCell (by have := G4.out.size; simp; omega) _).setCell (by have := G4.out.size; simp; omega) _)
                 have hS7c := HSW.out ((w6.setCell ⟨w5.heap.size, 0, none⟩ (.int .i64 UN)).setCell ⟨w5.heap.size, 1, none⟩ (.int .i64 UD)) ((G6.out.setCell (by have := G5.out.size; simp; omega) _).setCell (by have := G5.out.size; simp; omega) _)
                 have hS7d := HSW.out (w6.alloc (.cells #[.int .i64 UN, .int .i64 UD] 28)) (G6.out.alloc G6.out.size _)
                 (try (have hz6 := HZ5.out.bel b6; have HZ6 := Lib.hid hz6; clear hz6))
                 (try (have hz6 := (Bk.new w5 [.int .i64 0, .int .i64 0] 28).bel b6; have HZ6 := Lib.hid hz6; clear hz6))
                 (try (have z0 := HZ6.out.cell 0; have z1 := HZ6.out.cell 1; have zf0 := HZ6.out.free 0; have zf1 := HZ6.out.free 1))
                 have B6 := Lib.hid b6
                 have O6 := Lib.hid o6
                 have T6 := Lib.hid t6
                 have N6 := Lib.hid n6
                 clear b6 o6 t6 n6)
              | fail)
          all_goals first
            | (obtain ⟨V, hV⟩ : ∃ V, ((w6.setCell ⟨wq.heap.size, 0, none⟩ (.int .i64 UN)).setCell ⟨wq.heap.size, 1, none⟩ (.int .i64 UD)) = V := ⟨_, rfl⟩
               have hv8 : ∃ os i j, Here K44 w V os ∧ os[0]? = some (.box N [.int .i64 pe, .int .i64 bk] 23) ∧ os[1]? = some (.pane p wd ad A) ∧ os[i]? = some (.box wq.heap.size [.int .i64 UN, .int .i64 UD] 28) ∧ os[j]? = some (.texts v6 k6) ∧ i ≠ 1 ∧ j ≠ 1 := by
                 rw [← hV]
                 exact ⟨_, 2, 3, h_store2 (h_texts ((((h_box HQ.out [.int .i64 0, .int .i64 0] 28).drew.step_bel B4.out).step_bel B5.out)) B6.out T6.out N6.out) (i := 2) rfl (.int .i64 UN) (.int .i64 UD), rfl, rfl, rfl, rfl, by decide, by decide⟩
               rw [hV]
               generalize wq.heap.size = a8 at hv8 ⊢
               have HV8 := Lib.hid hv8
               clear hV hv8)
            | (obtain ⟨V, hV⟩ : ∃ V, ((w6.setCell ⟨w4.heap.size, 0, none⟩ (.int .i64 UN)).setCell ⟨w4.heap.size, 1, none⟩ (.int .i64 UD)) = V := ⟨_, rfl⟩
               have hv8 : ∃ os i j, Here K44 w V os ∧ os[0]? = some (.box N [.int .i64 pe, .int .i64 bk] 23) ∧ os[1]? = some (.pane p wd ad A) ∧ os[i]? = some (.box w4.heap.size [.int .i64 UN, .int .i64 UD] 28) ∧ os[j]? = some (.texts v6 k6) ∧ i ≠ 1 ∧ j ≠ 1 := by
                 rw [← hV]
                 exact ⟨_, 2, 3, h_store2 (h_texts ((h_box (HQ.out.drew.step_bel B4.out) [.int .i64 0, .int .i64 0] 28).step_bel B5.out) B6.out T6.out N6.out) (i := 2) rfl (.int .i64 UN) (.int .i64 UD), rfl, rfl, rfl, rfl, by decide, by decide⟩
               rw [hV]
               generalize w4.heap.size = a8 at hv8 ⊢
               have HV8 := Lib.hid hv8
               clear hV hv8)
            | (obtain ⟨V, hV⟩ : ∃ V, ((w6.setCell ⟨w5.heap.size, 0, none⟩ (.int .i64 UN)).setCell ⟨w5.heap.size, 1, none⟩ (.int .i64 UD)) = V := ⟨_, rfl⟩
               have hv8 : ∃ os i j, Here K44 w V os ∧ os[0]? = some (.box N [.int .i64 pe, .int .i64 bk] 23) ∧ os[1]? = some (.pane p wd ad A) ∧ os[i]? = some (.box w5.heap.size [.int .i64 UN, .int .i64 UD] 28) ∧ os[j]? = some (.texts v6 k6) ∧ i ≠ 1 ∧ j ≠ 1 := by
                 rw [← hV]
                 exact ⟨_, 2, 3, h_store2 (h_texts (h_box ((HQ.out.drew.step_bel B4.out).step_bel B5.out) [.int .i64 0, .int .i64 0] 28) B6.out T6.out N6.out) (i := 2) rfl (.int .i64 UN) (.int .i64 UD), rfl, rfl, rfl, rfl, by decide, by decide⟩
               rw [hV]
               generalize w5.heap.size = a8 at hv8 ⊢
               have HV8 := Lib.hid hv8
               clear hV hv8)
            | (obtain ⟨V, hV⟩ : ∃ V, w6.alloc (.cells #[.int .i64 UN, .int .i64 UD] 28) = V := ⟨_, rfl⟩
               have hv8 : ∃ os i j, Here K44 w V os ∧ os[0]? = some (.box N [.int .i64 pe, .int .i64 bk] 23) ∧ os[1]? = some (.pane p wd ad A) ∧ os[i]? = some (.box w6.heap.size [.int .i64 UN, .int .i64 UD] 28) ∧ os[j]? = some (.texts v6 k6) ∧ i ≠ 1 ∧ j ≠ 1 := by
                 rw [← hV]
                 exact ⟨_, 3, 2, h_box (h_texts ((HQ.out.drew.step_bel B4.out).step_bel B5.out) B6.out T6.out N6.out) [.int .i64 UN, .int .i64 UD] 28, rfl, rfl, rfl, rfl, by decide, by decide⟩
               rw [hV]
               generalize w6.heap.size = a8 at hv8 ⊢
               have HV8 := Lib.hid hv8
               clear hV hv8)
            | fail
          all_goals
            (try clear z0 z1 zf0 zf1)
            clear hS4 hS4A hS5 hS5A hS6 hS6A hS7a hS7b hS7c hS7d
            obtain ⟨os, i, j, hv, i0, i1, i2, i3, ne1, ne2⟩ := HV8.out
            have hAD := h_add hv i1 key at_ 1000 (by omega) oat (by unfold I64; omega)
            have hset : ∀ o', (os.set 1 o')[0]? = some (.box N [.int .i64 pe, .int .i64 bk] 23) ∧ (os.set 1 o')[1]? = some o' ∧ (os.set 1 o')[i]? = some (.box a8 [.int .i64 UN, .int .i64 UD] 28) ∧ (os.set 1 o')[j]? = some (.texts v6 k6) := fun o' => by
              have hl := (List.getElem?_eq_some_iff.1 i1).1
              refine ⟨by rw [List.getElem?_set_ne (by decide)]; exact i0, List.getElem?_set_self hl, by rw [List.getElem?_set_ne (fun c => ne1 c.symm)]; exact i2, by rw [List.getElem?_set_ne (fun c => ne2 c.symm)]; exact i3⟩
            rw [HAT1.out, HAT2.out] at hAD
            have AD := Lib.hid hAD
            have HSET := Lib.hid hset
            clear hAD hset hv i0 i1 i2 i3 HV8
            generalize mayAdd key at_ 1000 ad = r at *
            go_wp2_with fail
            refine AD.out.mono ?_
            rintro e wa ⟨rfl, ha⟩
            obtain ⟨j0, j1, j2, j3⟩ := HSET.out (.pane p wd ad2 A2)
            generalize os.set 1 (.pane p wd ad2 A2) = us at *
            have HA := Lib.hid ha
            have HJ := Lib.hid (And.intro j0 (And.intro j1 (And.intro j2 j3)))
            have HS3 : Hid (∀ W, Here K44 w W us → W.cell? ⟨N, 0, none⟩ = some (.int .i64 pe) ∧ W.cell? ⟨N, 1, none⟩ = some (.int .i64 bk) ∧ W.cell? ⟨a8, 0, none⟩ = some (.int .i64 UN) ∧ W.cell? ⟨a8, 1, none⟩ = some (.int .i64 UD)) := Lib.hid (fun W h => ⟨(h_boxAt h j0).cell 0, (h_boxAt h j0).cell 1, (h_boxAt h j2).cell 0, (h_boxAt h j2).cell 1⟩)
            have NW2 := Lib.hid (h_now ha.drew j1 pe bk now key (by omega) h1 h2 h4)
            rw [HNV.out, HXN.out] at NW2
            have sA := HS3.out _ ha.drew
            clear AD HSET ha j0 j1 j2 j3
            go_wp2_with fail
            go_region_held3 (fun X => X.cell? ⟨N, 0, none⟩ = some (.int .i64 pe) ∧ X.cell? ⟨N, 1, none⟩ = some (.int .i64 bk) ∧ X.cell? ⟨a8, 0, none⟩ = some (.int .i64 UN) ∧ X.cell? ⟨a8, 1, none⟩ = some (.int .i64 UD)) (first | assumption | go_keep)
              (first
                | (go_at_call 12
                   (with_reducible refine NW2.out.mono ?_)
                   rintro e x1 ⟨rfl, c1⟩
                   have g1 := HA.out.drew.step_bel c1
                   have G1' := Lib.hid g1
                   have t1 := HS3.out _ g1
                   have hus := h_usual g1 HJ.out.2.1 (by omega) pe bk now key (by omega) h1 h2 h4
                   rw [HUV.out, HXU.out.1, HXU.out.2] at hus
                   have US2 := Lib.hid hus
                   clear g1 c1 hus)
                | (go_at_call 13
                   (with_reducible refine US2.out.mono ?_)
                   rintro e x2 ⟨rfl, c2⟩
                   have g2 := G1'.out.step_bel c2
                   have G2' := Lib.hid g2
                   have t2 := HS3.out _ g2
                   have OD2 := Lib.hid (h_odd g2 HJ.out.2.1 (by omega) pe bk now 1 h1 h2 h4 (by unfold I64; omega))
                   clear g2 c2)
                | (go_at_call 14
                   (with_reducible refine OD2.out.mono ?_)
                   rintro e x3 ⟨v9, k9, rfl, o9, t9, c3⟩
                   have g3 := G2'.out.step_bel c3
                   have G3' := Lib.hid g3
                   have t3 := HS3.out _ g3
                   have e9 := OddsV.uniq o9 O6.out HFA.out
                   have hkl := OddsV.len HAO.out O6.out
                   have t6' := h_textsAt g3 HJ.out.2.2.2
                   subst e9
                   have q9 := t9.strs
                   obtain ⟨ba, ca, hv9, _, _, sa9⟩ := q9
                   have q6 := t6'.strs
                   obtain ⟨bb, cb, hv6, _, _, sb6⟩ := q6
                   have htx := same16_any ba bb k9.length k9.length ca cb k9 k9 x3 sa9 sb6 rfl rfl (by omega) (by omega)
                   rw [decide_eq_true rfl, ← hv9, ← hv6] at htx
                   have TX := Lib.hid htx
                   clear g3 o9 t9 c3 t6' sa9 sb6 hv9 hv6 htx)
                | (go_at_call 21
                   (with_reducible refine TX.out.mono ?_)
                   rintro e x4 ⟨rfl, q4, hx4⟩
                   have g4 := G3'.out.drewN q4
                   rw [← hx4] at g4
                   have G4' := Lib.hid g4
                   have t4 := HS3.out _ g4
                   clear g4 hx4)
                | (go_at_call 9
                   (with_reducible refine (HAW.out _).mono ?_)
                   rintro e x5 ⟨rfl, c5⟩
                   have g5 := G4'.out.step_bel c5
                   have G5' := Lib.hid g5
                   have t5 := HS3.out _ g5
                   clear g5 c5)
                | fail)
            go_wp2_with fail
            go_ret
            exact ⟨rfl, G5'.out.bel⟩
    · clear HFI HAO HIW HO HK6 hAl
      generalize l.length = n at *
      by_cases c1 : key.size ≤ 60
      · have tf5 : decide ((60 : Int) < (key.size : Int)) = false := by simp; omega
        by_cases c2 : 0 ≤ at_
        · have tf6 : decide (at_ < 0) = false := decide_eq_false (by omega)
          have tf7 : decide (1099511627776 < at_) = true := decide_eq_true (by omega)
          clear hbad
          go_enter Try.func7, Try.ntmps7
          go_wp2_with fail
          rw [HN.out, HW1.out]
          refine LO.out.mono ?_
          rintro e w2 ⟨rfl, b2⟩
          have H2 := Lib.hid (H1.out.step_bel b2)
          have hs2 := HS.out _ _ H2.out rfl
          obtain ⟨s20, s21⟩ := hs2
          clear b2 LO s10 s11 H1
          go_wp2_with fail
          refine (HAW.out _).mono ?_
          rintro e w9 ⟨rfl, b9⟩
          have HB9 := Lib.hid (H2.out.step_bel b9).bel
          clear b9
          go_wp2_with fail
          go_ret
          exact ⟨rfl, HB9.out⟩
        · have tf6 : decide (at_ < 0) = true := decide_eq_true (by omega)
          clear hbad
          go_enter Try.func7, Try.ntmps7
          go_wp2_with fail
          rw [HN.out, HW1.out]
          refine LO.out.mono ?_
          rintro e w2 ⟨rfl, b2⟩
          have H2 := Lib.hid (H1.out.step_bel b2)
          have hs2 := HS.out _ _ H2.out rfl
          obtain ⟨s20, s21⟩ := hs2
          clear b2 LO s10 s11 H1
          go_wp2_with fail
          refine (HAW.out _).mono ?_
          rintro e w9 ⟨rfl, b9⟩
          have HB9 := Lib.hid (H2.out.step_bel b9).bel
          clear b9
          go_wp2_with fail
          go_ret
          exact ⟨rfl, HB9.out⟩
      · have tf5 : decide ((60 : Int) < (key.size : Int)) = true := by simp; omega
        clear hbad
        go_enter Try.func7, Try.ntmps7
        go_wp2_with fail
        rw [HN.out, HW1.out]
        refine LO.out.mono ?_
        rintro e w2 ⟨rfl, b2⟩
        have H2 := Lib.hid (H1.out.step_bel b2)
        have hs2 := HS.out _ _ H2.out rfl
        obtain ⟨s20, s21⟩ := hs2
        clear b2 LO s10 s11 H1
        go_wp2_with fail
        refine (HAW.out _).mono ?_
        rintro e w9 ⟨rfl, b9⟩
        have HB9 := Lib.hid (H2.out.step_bel b9).bel
        clear b9
        go_wp2_with fail
        go_ret
        exact ⟨rfl, HB9.out⟩

theorem own : ownKnob Try.prog.godebug = none := by kernel_rfl
theorem laidOut : laidOutB Try.prog = true := by kernel_rfl

set_option maxRecDepth 100000 in
theorem lifted (os : Os) (started : os.Started) (H : Type) (enc : TypeId × Value → H) :
    ReturnsInHanded {} Try.checked os 7 .any (Rows.seasonOtherSpec.pre6 enc Try.prog Try.f7 Rows.seasonOtherRow.domain false) (Rows.seasonOtherSpec.post enc Try.prog Try.f7 false true false false) := by
  refine returnsInHanded_of_change (C := Try.checked) own started (by kernel_rfl) Try.func7
    (ChangeSpec.witness6 (enc := enc) (C := Try.checked) false ⟨#[], #[.int .i64 0, .slice none 0 0, .agg #[.int .i64 0, .int .i64 0], .int .i64 0, .string ⟨#[]⟩, .int .i64 0], []⟩ 8 (by kernel_rfl) (by kernel_rfl) (by kernel_rfl) (by kernel_rfl)) ?_
  intro W base args ds gs before hval0 hW hcnd _
  have hval : ∀ (j : Nat) t v, Try.f7.params[j]? = some t → args[j]? = some v → Value.okWide Try.prog W .any base t v := hval0
  have hW' := hW
  obtain ⟨p, q, hA0, hV, rfl, hfz, hnd⟩ := hW
  have hA : DataW.TrodAll enc Try.prog W 0 (fun _ => true) true Try.f7.params.toList args.toList ds p := hA0
  rw [Try.params7] at hA hval
  obtain ⟨v0, vs0, d0, ds0, p0, q0, hargs, rfl, rfl, h0, r0⟩ := trodAll_cons hA
  obtain ⟨v1, vs1, d1, ds1, p1, q1, rfl, rfl, rfl, h1, r1⟩ := trodAll_cons r0
  obtain ⟨v2, vs2, d2, ds2, p2, q2, rfl, rfl, rfl, h2, r2⟩ := trodAll_cons r1
  obtain ⟨v3, vs3, d3, ds3, p3, q3, rfl, rfl, rfl, h3, r3⟩ := trodAll_cons r2
  obtain ⟨v4, vs4, d4, ds4, p4, q4, rfl, rfl, rfl, h4, r4⟩ := trodAll_cons r3
  obtain ⟨v5, vs5, d5, ds5, p5, q5, rfl, rfl, rfl, h5, r5⟩ := trodAll_cons r4
  obtain ⟨rfl, rfl, rfl⟩ := trodAll_nil r5
  obtain rfl : args = #[v0, v1, v2, v3, v4, v5] := by cases args; simp_all
  obtain ⟨rfl, rfl⟩ := trodVars_none hV
  have k0 := h0
  have lt0 : ∀ x ∈ p0, x.block < W.heap.size := by obtain ⟨m, hm⟩ := k0; exact DataW.trod_lt m _ _ _ hm
  obtain ⟨a0, rfl, rfl, rfl, w0⟩ := open_int Try.underlying3 (hval 0 3 v0 rfl rfl) h0
  have k1 := h1
  have lt1 : ∀ x ∈ p1, x.block < W.heap.size := by obtain ⟨m, hm⟩ := k1; exact DataW.trod_lt m _ _ _ hm
  obtain ⟨b1, c1, x1, rfl, l1, m1, i1, o1⟩ := open_adds (hval 1 33 v1 rfl rfl) h1
  have k2 := h2
  have lt2 : ∀ x ∈ p2, x.block < W.heap.size := by obtain ⟨m, hm⟩ := k2; exact DataW.trod_lt m _ _ _ hm
  obtain ⟨c20, c21, y20, y21, m2, rfl, hd2, hp2, hy20, hy21⟩ := open_agg2 Try.underlying23 (by kernel_rfl) (by kernel_rfl) (hval 2 23 v2 rfl rfl) h2
  obtain ⟨a2, e20, _, w20⟩ := DataW.trod_int Try.underlying3 hy20
  obtain ⟨b2, e21, _, w21⟩ := DataW.trod_int Try.underlying3 hy21
  simp at e20 e21
  subst e20 e21
  have k3 := h3
  have lt3 : ∀ x ∈ p3, x.block < W.heap.size := by obtain ⟨m, hm⟩ := k3; exact DataW.trod_lt m _ _ _ hm
  obtain ⟨a3, rfl, rfl, rfl, w3⟩ := open_int Try.underlying3 (hval 3 3 v3 rfl rfl) h3
  have k4 := h4
  have lt4 : ∀ x ∈ p4, x.block < W.heap.size := by obtain ⟨m, hm⟩ := k4; exact DataW.trod_lt m _ _ _ hm
  obtain ⟨a4, rfl, rfl, rfl, w4⟩ := open_string Try.underlying9 (hval 4 9 v4 rfl rfl) h4
  have k5 := h5
  have lt5 : ∀ x ∈ p5, x.block < W.heap.size := by obtain ⟨m, hm⟩ := k5; exact DataW.trod_lt m _ _ _ hm
  obtain ⟨a5, rfl, rfl, rfl, w5⟩ := open_int Try.underlying3 (hval 5 3 v5 rfl rfl) h5
  clear hA0 hval0
  refine (walk W a0 w0 b1 c1 x1 l1 m1 i1 o1 a2 b2 w20 w21 a3 w3 a4 w4 a5 w5).mono fun e W' ⟨he, bel⟩ => ?_
  subst he
  exact ⟨_, rfl, _, _, _, [], _, [], hW', trodAll_mk1 (shut_bool Try.underlying4 _), (trodAll_cons_mk (Below.trod laidOut (by kernel_rfl) (of_decide_eq_true (by kernel_rfl)) k0 bel lt0) (trodAll_cons_mk (Below.trod laidOut (by kernel_rfl) (of_decide_eq_true (by kernel_rfl)) k1 bel lt1) (trodAll_cons_mk (Below.trod laidOut (by kernel_rfl) (of_decide_eq_true (by kernel_rfl)) k2 bel lt2) (trodAll_cons_mk (Below.trod laidOut (by kernel_rfl) (of_decide_eq_true (by kernel_rfl)) k3 bel lt3) (trodAll_cons_mk (Below.trod laidOut (by kernel_rfl) (of_decide_eq_true (by kernel_rfl)) k4 bel lt4) (trodAll_cons_mk (Below.trod laidOut (by kernel_rfl) (of_decide_eq_true (by kernel_rfl)) k5 bel lt5) trodAll_mk0)))))), rfl, bel.frame _, fun h => by cases h⟩

theorem over : Rows.seasonOtherRow.holds Try.pinned (OpenSpec.ofChange Rows.seasonOtherSpec) :=
  OpenClaim.holds_of_wide 7 Try.f7 rfl rfl rfl rfl rfl rfl rfl ⟨rfl, rfl, rfl, rfl, rfl⟩ rfl rfl rfl rfl rfl (by kernel_rfl) Try.func7 (by kernel_rfl)
    (of_decide_eq_true (by kernel_rfl)) (by unfold Func.isWrapper; first | (rw [if_pos (by decide +kernel)]; kernel_rfl) | (rw [if_neg (by decide +kernel)]; exact ⟨rfl, rfl⟩))
    (fun os started H enc _ => lifted os started H enc)

theorem proved : Rows.SeasonOtherSaid := over
#print axioms proved
end Go.Proofs.Ytlmonbclloamiaa.seasonOther

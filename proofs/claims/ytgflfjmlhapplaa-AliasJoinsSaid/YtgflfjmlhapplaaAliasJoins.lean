/- For every input ciceronelaw45.AliasJoins returns true, and its arguments read behind the call as before. No conditions. -/
import Derived.Test.YtgflfjmlhapplaaAOpen
import Derived.Test.YtgflfjmlhapplaaRows
import Derived.ProofKit
import Derived.OpenShut
import Derived.ShutString
import Derived.ChangeOld
import Derived.Below
import Derived.Lib.SmallJoins
namespace Go.Proofs.Ytgflfjmlhapplaa.aliasJoins
open Go.ChangeShapes Go.WideShapes Go.ChangeAt Go.RowKit Go.Joins
open Go.ChangeMaps (open_string shut_string)
set_option linter.unusedVariables false

set_option maxRecDepth 100000 in
set_option maxHeartbeats 8000000 in
theorem walk (w : World) (b : Option Addr) (cap : Nat) (l : List Two) (hlc : l.length ≤ cap) (hm : cap ≤ maxLen) (hi : InW w b 2 (l.map twoC)) (ho : ∀ a ∈ l, twoOk a) (x : ByteArray) (hx : x.size ≤ maxLen) :
    Calls Try.prog 3 #[.slice b l.length cap, .string x] w fun e w' => e = .returned (.bool true) ∧ Below w.heap.size w w' := by
  unfold maxLen at hx
  have LV := Lib.hid (lives_any w)
  have HVY : Hid (∀ W, Below w.heap.size w W → Calls Try.prog 9 #[.slice b l.length cap, .int .i64 16] W fun e w' => e = .returned (.bool (heavyB l 16)) ∧ W = w') := Lib.hid (fun W hb => heavy_any b cap l 16 W (InW.bel hi hb) hlc hm ho)
  cases hhv : heavyB l 16 with
  | true =>
    rw [hhv] at HVY
    clear hhv hi ho
    generalize l.length = n at *
    go_enter Try.func3, Try.ntmps3
    go_wp2_with fail
    refine LV.out.mono ?_
    rintro e w1 ⟨rfl, b1⟩
    have H1 := Lib.hid (Here.nil (K := K45) b1)
    have HE := Lib.hid (HVY.out w1 b1)
    clear b1 LV HVY
    go_wp2_with fail
    refine HE.out.mono ?_
    rintro e wx ⟨rfl, rfl⟩
    clear HE
    go_wp2_with fail
    go_ret
    exact ⟨rfl, H1.out.bel⟩
  | false =>
    rw [hhv] at HVY
    obtain ⟨hl16, hok⟩ := ok_of_heavy (most := 16) hhv
    clear hhv ho
    by_cases hxs : 100 < x.size
    · have t1 : decide ((100 : Int) < (x.size : Int)) = true := decide_eq_true (by omega)
      clear hi hok
      generalize l.length = n at *
      go_enter Try.func3, Try.ntmps3
      go_wp2_with fail
      refine LV.out.mono ?_
      rintro e w1 ⟨rfl, b1⟩
      have H1 := Lib.hid (Here.nil (K := K45) b1)
      have HE := Lib.hid (HVY.out w1 b1)
      clear b1 LV HVY
      go_wp2_with fail
      refine HE.out.mono ?_
      rintro e wx ⟨rfl, rfl⟩
      clear HE
      go_wp2_with fail
      go_ret
      exact ⟨rfl, H1.out.bel⟩
    · have t1 : decide ((100 : Int) < (x.size : Int)) = false := decide_eq_false (by omega)
      have HIW := Lib.hid hi
      have HOK := Lib.hid hok
      have EV : Hid (∀ (W : World) (p : Nat) (Bl : List Nat), AlAt W p Bl l → Below w.heap.size w W → Calls Try.prog 15 #[.pointer (some ⟨p, 0, none⟩), .slice b l.length cap, .string x] W fun e w' => e = .returned (.bool true) ∧ Below W.heap.size W w') := Lib.hid (fun W p Bl ha hb => even_any p Bl b cap l x W ha (InW.bel hi hb) (by omega) hok (by omega))
      have HEND : Hid (l.take l.length = l) := Lib.hid (List.take_length)
      have GR : Hid (∀ W (i : Nat) z, Below w.heap.size w W → i ≤ l.length → z.size ≤ 1000 → Calls Try.prog 13 #[.slice b i cap, .string z] W fun e w' => ∃ v, e = .returned v ∧ MkT W w' v (groupR (l.take i) z)) := Lib.hid (fun W i z hb hil hz => by
        have := rgroup_any b cap (l.take i) z W (InW.take' (InW.bel hi hb) i) (by rw [List.length_take]; omega) (fun p hp => hok p (List.mem_of_mem_take hp)) hz
        rw [List.length_take, Nat.min_eq_left hil] at this
        exact this)
      have hsl := fun W i (h : i ≤ cap) => run_slice_to (P := Try.prog) W 22 29 b l.length cap i 2 Try.underlying22 sizeTwo h
      have HSL := Lib.hid hsl
      clear hi hok hsl
      generalize hn : l.length = n at *
      have Hn := Lib.hid hn
      clear hn
      go_enter Try.func3, Try.ntmps3
      go_wp2_with fail
      refine LV.out.mono ?_
      rintro e w1 ⟨rfl, b1⟩
      have H1 := Lib.hid (Here.nil (K := K45) b1)
      have HE := Lib.hid (HVY.out w1 b1)
      clear b1 LV HVY
      go_wp2_with fail
      refine HE.out.mono ?_
      rintro e wx ⟨rfl, rfl⟩
      clear HE
      have NW := Lib.hid (h_new H1.out)
      go_wp2_with fail
      refine NW.out.mono ?_
      rintro e w2 ⟨p, rfl, h2⟩
      have H2 : Hid (Here K45 w w2 [.alias p (l.take 0)]) := Lib.hid h2
      clear h2 NW H1
      go_wp2_with fail
      go_loopw [6, 7] (fun c _ wr => ∃ i : Nat, i ≤ n ∧ c = .int .i64 i ∧ Here K45 w wr [.alias p (l.take i)]) (fun c _ _ => n - (intOf c).toNat)
      case atStart => exact ⟨0, by omega, rfl, H2.out⟩
      case round =>
        obtain ⟨i, hi, rfl, hh⟩ := hrel
        have HH := Lib.hid hh
        clear hh
        by_cases hlt : i < n
        · obtain ⟨q, hq⟩ : ∃ p, l[i]? = some p := ⟨l[i]'(by rw [Hn.out]; exact hlt), List.getElem?_eq_getElem _⟩
          have hop := HOK.out q (List.mem_of_getElem? hq)
          unfold okTwo at hop
          obtain ⟨B, off, rfl, hB, d0, d1⟩ := twos_at HIW.out hq
          have HCW : Hid (∀ W, Below w.heap.size w W → W.cell? ⟨B, off + i * 2, none⟩ = some (.string q.1) ∧ W.cell? ⟨B, off + i * 2 + 1, none⟩ = some (.string q.2)) := Lib.hid (fun W hb => ⟨(hb.cell (p := ⟨B, off + i * 2, none⟩) hB).trans d0, (hb.cell (p := ⟨B, off + i * 2 + 1, none⟩) hB).trans d1⟩)
          obtain ⟨c0, c1⟩ := HCW.out wr HH.out.bel
          have hi0 : (0 : Int) ≤ (i : Int) := by omega
          have hi1 : (i : Int) < (n : Int) := by omega
          have HSN : Hid (l.take (i + 1) = l.take i ++ [(q.1, q.2)]) := Lib.hid (by rw [List.take_add_one, hq]; rfl)
          have NX : Hid (∀ W, Calls Try.prog 11 #[.string q.1] W fun e w' => e = .returned (.bool (nameB q.1)) ∧ w' = W) := Lib.hid (fun W => (rname_any q.1 W (by omega)).mono fun _ _ h => ⟨h.1, h.2.symm⟩)
          have NY : Hid (∀ W, Calls Try.prog 11 #[.string q.2] W fun e w' => e = .returned (.bool (nameB q.2)) ∧ w' = W) := Lib.hid (fun W => (rname_any q.2 W (by omega)).mono fun _ _ h => ⟨h.1, h.2.symm⟩)
          clear hq d0 d1
          cases ex : nameB q.1 with
          | false =>
            have HCB : Hid (canB (l.take i) q.1 q.2 = false) := Lib.hid (by unfold canB; rw [ex]; rfl)
            rw [ex] at NX
            clear ex NY
            go_wp2_with fail
            go_quiet (first | (go_at_call 11; refine Calls.quiet_of_same (NX.out _)) | fail)
            have HH2 := Lib.hid (HH.out.drewN nq)
            generalize wr.drewN nq = WQ at *
            clear c0 c1
            have JN := Lib.hid (h_join HH2.out.drew (i := 0) rfl q.1 q.2 hop.1 hop.2)
            rw [HCB.out] at JN
            have sd := HCW.out _ HH2.out.drew.bel
            go_wp2_with fail
            go_region_held3 (fun X => X.cell? ⟨B, off + i * 2, none⟩ = some (.string q.1) ∧ X.cell? ⟨B, off + i * 2 + 1, none⟩ = some (.string q.2)) (first | assumption | go_keep)
              (first
                | (go_at_call 14
                   (with_reducible refine JN.out.mono ?_)
                   rintro e w3 ⟨rfl, h3⟩
                   have H3 : Hid (Here K45 w w3 [.alias p (l.take i ++ [(q.1, q.2)])]) := Lib.hid h3
                   have hS3 := HCW.out w3 h3.bel
                   clear h3)
                | fail)
            go_wp2_with fail
            go_roundw
            case rel => exact ⟨i + 1, by omega, by go_num, by rw [HSN.out]; exact H3.out⟩
            case measure => simp [intOf]; omega
          | true =>
            rw [ex] at NX
            cases ey : nameB q.2 with
            | false =>
              have HCB : Hid (canB (l.take i) q.1 q.2 = false) := Lib.hid (by unfold canB; rw [ex, ey]; rfl)
              have NZ : Hid (∀ W z r, ((z = q.1 ∧ r = true) ∨ (z = q.2 ∧ r = false)) → Calls Try.prog 11 #[.string z] W fun e w' => e = .returned (.bool r) ∧ w' = W) := Lib.hid (fun W z r hz => by
                rw [ey] at NY
                rcases hz with ⟨rfl, rfl⟩ | ⟨rfl, rfl⟩
                · exact NX.out W
                · exact NY.out W)
              clear ex ey
              clear NX NY
              go_wp2_with fail
              go_quiet ((go_at_call 11; refine Calls.quiet_of_same (NZ.out _ _ _ (by first | exact .inl ⟨rfl, rfl⟩ | exact .inr ⟨rfl, rfl⟩))))
              clear NZ
              have HH2 := Lib.hid (HH.out.drewN nq)
              generalize wr.drewN nq = WQ at *
              clear c0 c1
              have JN := Lib.hid (h_join HH2.out.drew (i := 0) rfl q.1 q.2 hop.1 hop.2)
              rw [HCB.out] at JN
              have sd := HCW.out _ HH2.out.drew.bel
              go_wp2_with fail
              go_region_held3 (fun X => X.cell? ⟨B, off + i * 2, none⟩ = some (.string q.1) ∧ X.cell? ⟨B, off + i * 2 + 1, none⟩ = some (.string q.2)) (first | assumption | go_keep)
                (first
                  | (go_at_call 14
                     (with_reducible refine JN.out.mono ?_)
                     rintro e w3 ⟨rfl, h3⟩
                     have H3 : Hid (Here K45 w w3 [.alias p (l.take i ++ [(q.1, q.2)])]) := Lib.hid h3
                     have hS3 := HCW.out w3 h3.bel
                     clear h3)
                  | fail)
              go_wp2_with fail
              go_roundw
              case rel => exact ⟨i + 1, by omega, by go_num, by rw [HSN.out]; exact H3.out⟩
              case measure => simp [intOf]; omega
            | true =>
              rw [ey] at NY
              have G1 := Lib.hid (GR.out wr.drew i q.1 HH.out.drew.bel hi hop.1)
              have HCB : Hid (canB (l.take i) q.1 q.2 = !memB (groupR (l.take i) q.1) q.2) := Lib.hid (by unfold canB; rw [ex, ey]; rfl)
              have hgl := group_len (l.take i) q.1
              have hti : (l.take i).length ≤ 16 := by rw [List.length_take, Hn.out]; omega
              have hsl := fun W => HSL.out W i (by omega)
              have s0 := HCW.out wr.drew HH.out.drew.bel
              clear ex ey c0 c1
              generalize groupR (l.take i) q.1 = g at *
              obtain ⟨mb, hmb⟩ : ∃ mb, memB g q.2 = mb := ⟨_, rfl⟩
              rw [hmb] at HCB
              have HMB := Lib.hid hmb
              clear hmb
              cases mb
              all_goals
                go_wp2_with fail
                go_region_held3 (fun X => X.cell? ⟨B, off + i * 2, none⟩ = some (.string q.1) ∧ X.cell? ⟨B, off + i * 2 + 1, none⟩ = some (.string q.2)) (first | assumption | go_keep)
                  (first
                    | (go_at_call 11
                       (with_reducible refine (NX.out _).mono ?_)
                       rintro e wx ⟨rfl, rfl⟩)
                    | (go_at_call 11
                       (with_reducible refine (NY.out _).mono ?_)
                       rintro e wx ⟨rfl, rfl⟩)
                    | (go_at_call 13
                       (with_reducible refine G1.out.mono ?_)
                       rintro e w5 ⟨v5, rfl, m5⟩
                       have hq5 := m5.tx.strs
                       obtain ⟨gb, gc, e5, _, _, gs⟩ := hq5
                       have hin := in08_any gb gc g q.2 w5 gs (by omega)
                       rw [← e5, HMB.out] at hin
                       have IN5 := Lib.hid hin
                       have H5 := Lib.hid (HH.out.drew.step_bel m5.bl)
                       have hS5 := HCW.out w5 H5.out.bel
                       clear m5 gs e5 hin)
                    | (go_at_call 12
                       (with_reducible refine IN5.out.mono ?_)
                       rintro e wx ⟨rfl, rfl⟩)
                    | fail)
                clear s0 IN5 G1
                have JN := Lib.hid (h_join H5.out.drew (i := 0) rfl q.1 q.2 hop.1 hop.2)
                rw [HCB.out] at JN
                have sd := HCW.out _ H5.out.drew.bel
                go_wp2_with fail
                go_region_held3 (fun X => X.cell? ⟨B, off + i * 2, none⟩ = some (.string q.1) ∧ X.cell? ⟨B, off + i * 2 + 1, none⟩ = some (.string q.2)) (first | assumption | go_keep)
                  (first
                    | (go_at_call 14
                       (with_reducible refine JN.out.mono ?_)
                       rintro e w3 ⟨rfl, h3⟩
                       have H3 : Hid (Here K45 w w3 [.alias p (l.take i ++ [(q.1, q.2)])]) := Lib.hid h3
                       have hS3 := HCW.out w3 h3.bel
                       clear h3)
                    | fail)
                go_wp2_with fail
                go_roundw
                case rel => exact ⟨i + 1, by omega, by go_num, by rw [HSN.out]; exact H3.out⟩
                case measure => simp [intOf]; omega
        · obtain rfl : i = n := by omega
          rw [HEND.out] at HH
          obtain ⟨Bl, ha⟩ := h_at HH.out (i := 0) rfl
          have EV1 := Lib.hid (EV.out wr p Bl ha HH.out.bel)
          clear ha EV
          go_wp2_with fail
          refine EV1.out.mono ?_
          rintro e w9 ⟨rfl, b9⟩
          have HB := Lib.hid (HH.out.step_bel b9).bel
          clear b9
          go_wp2_with fail
          go_ret
          exact ⟨rfl, HB.out⟩

theorem own : ownKnob Try.prog.godebug = none := by kernel_rfl
theorem laidOut : laidOutB Try.prog = true := by kernel_rfl

set_option maxRecDepth 100000 in
theorem lifted (os : Os) (started : os.Started) (H : Type) (enc : TypeId × Value → H) :
    ReturnsInHanded {} Try.checked os 3 .any (Rows.aliasJoinsSpec.pre6 enc Try.prog Try.f3 Rows.aliasJoinsRow.domain false) (Rows.aliasJoinsSpec.post enc Try.prog Try.f3 false true false false) := by
  refine returnsInHanded_of_change (C := Try.checked) own started (by kernel_rfl) Try.func3
    (ChangeSpec.witness6 (enc := enc) (C := Try.checked) false ⟨#[], #[.slice none 0 0, .string ⟨#[]⟩], []⟩ 8 (by kernel_rfl) (by kernel_rfl) (by kernel_rfl) (by kernel_rfl)) ?_
  intro W base args ds gs before hval0 hW hcnd _
  have hval : ∀ (j : Nat) t v, Try.f3.params[j]? = some t → args[j]? = some v → Value.okWide Try.prog W .any base t v := hval0
  have hW' := hW
  obtain ⟨p, q, hA0, hV, rfl, hfz, hnd⟩ := hW
  have hA : DataW.TrodAll enc Try.prog W 0 (fun _ => true) true Try.f3.params.toList args.toList ds p := hA0
  rw [Try.params3] at hA hval
  obtain ⟨v0, vs0, d0, ds0, p0, q0, hargs, rfl, rfl, h0, r0⟩ := trodAll_cons hA
  obtain ⟨v1, vs1, d1, ds1, p1, q1, rfl, rfl, rfl, h1, r1⟩ := trodAll_cons r0
  obtain ⟨rfl, rfl, rfl⟩ := trodAll_nil r1
  obtain rfl : args = #[v0, v1] := by cases args; simp_all
  obtain ⟨rfl, rfl⟩ := trodVars_none hV
  have k0 := h0
  have lt0 : ∀ x ∈ p0, x.block < W.heap.size := by obtain ⟨m, hm⟩ := k0; exact DataW.trod_lt m _ _ _ hm
  obtain ⟨b0, c0, x0, rfl, l0, m0, i0, o0⟩ := open_twos (hval 0 22 v0 rfl rfl) h0
  have k1 := h1
  have lt1 : ∀ x ∈ p1, x.block < W.heap.size := by obtain ⟨m, hm⟩ := k1; exact DataW.trod_lt m _ _ _ hm
  obtain ⟨a1, rfl, rfl, rfl, w1⟩ := open_string Try.underlying9 (hval 1 9 v1 rfl rfl) h1
  clear hA0 hval0
  refine (walk W b0 c0 x0 l0 m0 i0 o0 a1 w1).mono fun e W' ⟨he, bel⟩ => ?_
  subst he
  exact ⟨_, rfl, _, _, _, [], _, [], hW', trodAll_mk1 (shut_bool Try.underlying4 _), (trodAll_cons_mk (Below.trod laidOut (by kernel_rfl) (of_decide_eq_true (by kernel_rfl)) k0 bel lt0) (trodAll_cons_mk (Below.trod laidOut (by kernel_rfl) (of_decide_eq_true (by kernel_rfl)) k1 bel lt1) trodAll_mk0)), rfl, bel.frame _, fun h => by cases h⟩

theorem over : Rows.aliasJoinsRow.holds Try.pinned (OpenSpec.ofChange Rows.aliasJoinsSpec) :=
  OpenClaim.holds_of_wide 3 Try.f3 rfl rfl rfl rfl rfl rfl rfl ⟨rfl, rfl, rfl, rfl, rfl⟩ rfl rfl rfl rfl rfl (by kernel_rfl) Try.func3 (by kernel_rfl)
    (of_decide_eq_true (by kernel_rfl)) (by unfold Func.isWrapper; first | (rw [if_pos (by decide +kernel)]; kernel_rfl) | (rw [if_neg (by decide +kernel)]; exact ⟨rfl, rfl⟩))
    (fun os started H enc _ => lifted os started H enc)

theorem proved : Rows.AliasJoinsSaid := over
#print axioms proved
end Go.Proofs.Ytgflfjmlhapplaa.aliasJoins

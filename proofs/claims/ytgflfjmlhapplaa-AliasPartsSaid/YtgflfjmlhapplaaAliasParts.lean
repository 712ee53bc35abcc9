/- For every input ciceronelaw45.AliasParts returns true, and its arguments read behind the call as before. No conditions. -/
import Derived.Test.YtgflfjmlhapplaaAOpen
import Derived.Test.YtgflfjmlhapplaaHeld
import Derived.Test.YtgflfjmlhapplaaRows
import Derived.ProofKit
import Derived.OpenShut
import Derived.ShutString
import Derived.ChangeOld
import Derived.Below
import Derived.Lib.SmallJoins
namespace Go.Proofs.Ytgflfjmlhapplaa.aliasParts
open Go.ChangeShapes Go.WideShapes Go.ChangeAt Go.RowKit Go.Joins
open Go.ChangeMaps (open_string shut_string)
set_option linter.unusedVariables false

set_option linter.unusedSimpArgs false
theorem parts_facts {w : World} {p : Nat} {B : List Nat} {l : List Two} (h : AlAt w p B l) {x : ByteArray} (hx : nameB x = true) :
    (groupR l x)[0]? = some (nameR l x) ∧ nameR l (nameR l x) = nameR l x ∧ x ∈ groupR l x ∧ (∀ z ∈ groupR l x, nameR l z = nameR l x) ∧ Rise (groupR l x) ∧ ∀ y, nameR l x = nameR l y ↔ y ∈ groupR l x := by
  obtain ⟨m, M, r, rfl, h1, h2, h3⟩ := h
  have hg := groupR_of l x
  have hh := group_head h3 h2 hx hg
  unfold GroupOf at hg
  rw [if_pos hx] at hg
  have hc : ∀ z, z ∈ groupR l x ↔ r z = r x := fun z => by rw [hg.2, h3.cls]
  refine ⟨by rw [nameR_eq h3 h2]; exact hh, ?_, (hc x).2 rfl, fun z hz => ?_, hg.1, fun y => ?_⟩
  · rw [nameR_eq h3 h2, nameR_eq h3 h2, h2.idem]
  · rw [nameR_eq h3 h2, nameR_eq h3 h2]; exact (hc z).1 hz
  · rw [nameR_eq h3 h2, nameR_eq h3 h2, hc]; exact ⟨Eq.symm, Eq.symm⟩
set_option maxRecDepth 100000 in
set_option maxHeartbeats 8000000 in
theorem walk (w : World) (b : Option Addr) (cap : Nat) (l : List Two) (hlc : l.length ≤ cap) (hm : cap ≤ maxLen) (hi : InW w b 2 (l.map twoC)) (ho : ∀ a ∈ l, twoOk a) (x : ByteArray) (hx : x.size ≤ maxLen) (y : ByteArray) (hy : y.size ≤ maxLen) :
    Calls Try.prog 5 #[.slice b l.length cap, .string x, .string y] w fun e w' => e = .returned (.bool true) ∧ Below w.heap.size w w' := by
  unfold maxLen at hx hy
  have LV := Lib.hid (lives_any w)
  have HVY : Hid (∀ W, Below w.heap.size w W → Calls Try.prog 9 #[.slice b l.length cap, .int .i64 16] W fun e w' => e = .returned (.bool (heavyB l 16)) ∧ W = w') := Lib.hid (fun W hb => heavy_any b cap l 16 W (InW.bel hi hb) hlc hm ho)
  cases hhv : heavyB l 16 with
  | true =>
    rw [hhv] at HVY
    clear hhv hi ho
    generalize l.length = n at *
    go_enter Try.func5, Try.ntmps5
    go_wp2_with fail
    refine LV.out.mono ?_
    rintro e w1 ⟨rfl, b1⟩
    have H1 := Lib.hid (Here.nil (K := K45) b1)
    have HE := Lib.hid (HVY.out w1 b1)
    clear b1 LV HVY
    go_wp2_with fail
    refine HE.out.mono ?_
    rintro e wx ⟨rfl, rfl⟩
    clear HE
    go_wp2_with fail
    go_ret
    exact ⟨rfl, H1.out.bel⟩
  | false =>
    rw [hhv] at HVY
    obtain ⟨hl16, hok⟩ := ok_of_heavy (most := 16) hhv
    clear hhv ho
    by_cases hxs : 100 < x.size
    · have t1 : decide ((100 : Int) < (x.size : Int)) = true := decide_eq_true (by omega)
      clear hi hok
      generalize l.length = n at *
      go_enter Try.func5, Try.ntmps5
      go_wp2_with fail
      refine LV.out.mono ?_
      rintro e w1 ⟨rfl, b1⟩
      have H1 := Lib.hid (Here.nil (K := K45) b1)
      have HE := Lib.hid (HVY.out w1 b1)
      clear b1 LV HVY
      go_wp2_with fail
      refine HE.out.mono ?_
      rintro e wx ⟨rfl, rfl⟩
      clear HE
      go_wp2_with fail
      go_ret
      exact ⟨rfl, H1.out.bel⟩
    · have t1 : decide ((100 : Int) < (x.size : Int)) = false := decide_eq_false (by omega)
      by_cases hys : 100 < y.size
      · have t2 : decide ((100 : Int) < (y.size : Int)) = true := decide_eq_true (by omega)
        clear hi hok
        generalize l.length = n at *
        go_enter Try.func5, Try.ntmps5
        go_wp2_with fail
        refine LV.out.mono ?_
        rintro e w1 ⟨rfl, b1⟩
        have H1 := Lib.hid (Here.nil (K := K45) b1)
        have HE := Lib.hid (HVY.out w1 b1)
        clear b1 LV HVY
        go_wp2_with fail
        refine HE.out.mono ?_
        rintro e wx ⟨rfl, rfl⟩
        clear HE
        go_wp2_with fail
        go_ret
        exact ⟨rfl, H1.out.bel⟩
      · have t2 : decide ((100 : Int) < (y.size : Int)) = false := decide_eq_false (by omega)
        have HOK := Lib.hid hok
        have JO : Hid (∀ W, Below w.heap.size w W → Calls Try.prog 16 #[.slice b l.length cap] W fun e w' => ∃ p, e = .returned (.pointer (some ⟨p, 0, none⟩)) ∧ Here K45 W w' [.alias p l]) := Lib.hid (fun W hb => joined_any b cap l W (InW.bel hi hb) (by omega) hok)
        have NX : Hid (∀ W, Calls Try.prog 11 #[.string x] W fun e w' => e = .returned (.bool (nameB x)) ∧ W = w') := Lib.hid (fun W => rname_any x W (by omega))
        have NY : Hid (∀ W, Calls Try.prog 11 #[.string y] W fun e w' => e = .returned (.bool (nameB y)) ∧ W = w') := Lib.hid (fun W => rname_any y W (by omega))
        have hgl := group_len l x
        have HSZ : Hid (∀ z, z.size ≤ 1000 → (nameR l z).size ≤ 1000) := Lib.hid (fun z hz => nameR_size hok hz)
        clear hi hok
        generalize hn : l.length = n at *
        have Hn := Lib.hid hn
        clear hn
        cases ex : nameB x with
        | false =>
          rw [ex] at NX
          have hg0 : groupR l x = [] := by unfold groupR; rw [ex]; rfl
          have HG0 := Lib.hid hg0
          clear ex hg0 NY
          go_enter Try.func5, Try.ntmps5
          go_wp2_with fail
          refine LV.out.mono ?_
          rintro e w1 ⟨rfl, b1⟩
          have H1 := Lib.hid (Here.nil (K := K45) b1)
          have HE := Lib.hid (HVY.out w1 b1)
          clear b1 LV HVY
          go_wp2_with fail
          refine HE.out.mono ?_
          rintro e wx ⟨rfl, rfl⟩
          clear HE
          have NJ := Lib.hid (JO.out w1 H1.out.bel)
          go_wp2_with fail
          refine NJ.out.mono ?_
          rintro e w2 ⟨p, rfl, h2⟩
          have H2 := Lib.hid (H1.out.adopt h2)
          obtain ⟨Bl, ha⟩ := h_at h2 (i := 0) rfl
          have HAL := Lib.hid ha
          have G2 := Lib.hid (group_at ha (by have := Hn.out; omega) x (by omega))
          clear h2 ha NJ H1
          go_wp2_with fail
          refine G2.out.mono ?_
          rintro e w3 ⟨v3, rfl, m3⟩
          have M3 := Lib.hid m3
          have H3 := Lib.hid (H2.out.step_bel m3.bl)
          clear G2 m3 H2
          go_wp2_with fail
          refine (NX.out _).mono ?_
          rintro e wx ⟨rfl, rfl⟩
          have hm3 := M3.out
          rw [HG0.out] at hm3
          obtain ⟨b3, c3, rfl, _, _, _⟩ := hm3.tx.strs
          clear hm3
          have t3 : (((([] : List ByteArray).length : Nat) : Int) == 0) = true := rfl
          simp only [List.length_nil] at *
          go_wp2_with fail
          go_ret
          exact ⟨rfl, H3.out.bel⟩
        | true =>
          rw [ex] at NX
          have HEX := Lib.hid ex
          cases ey : nameB y with
          | false =>
            rw [ey] at NY
            clear ex ey
            go_enter Try.func5, Try.ntmps5
            go_wp2_with fail
            refine LV.out.mono ?_
            rintro e w1 ⟨rfl, b1⟩
            have H1 := Lib.hid (Here.nil (K := K45) b1)
            have HE := Lib.hid (HVY.out w1 b1)
            clear b1 LV HVY
            go_wp2_with fail
            refine HE.out.mono ?_
            rintro e wx ⟨rfl, rfl⟩
            clear HE
            have NJ := Lib.hid (JO.out w1 H1.out.bel)
            go_wp2_with fail
            refine NJ.out.mono ?_
            rintro e w2 ⟨p, rfl, h2⟩
            have H2 := Lib.hid (H1.out.adopt h2)
            obtain ⟨Bl, ha⟩ := h_at h2 (i := 0) rfl
            have HAL := Lib.hid ha
            have G2 := Lib.hid (group_at ha (by have := Hn.out; omega) x (by omega))
            clear h2 ha NJ H1
            go_wp2_with fail
            refine G2.out.mono ?_
            rintro e w3 ⟨v3, rfl, m3⟩
            have M3 := Lib.hid m3
            have H3 := Lib.hid (H2.out.step_bel m3.bl)
            clear G2 m3 H2
            go_wp2_with fail
            refine (NX.out _).mono ?_
            rintro e wx ⟨rfl, rfl⟩
            go_wp2_with fail
            refine (NY.out _).mono ?_
            rintro e wx ⟨rfl, rfl⟩
            obtain ⟨f1, f2, f3, f4, f5, f6⟩ := parts_facts HAL.out HEX.out
            obtain ⟨b3, c3, rfl, _, _, _⟩ := M3.out.tx.strs
            have hpos : 0 < (groupR l x).length := List.length_pos_of_mem f3
            clear f1 f2 f3 f4 f5 f6
            have t3 : (((groupR l x).length : Int) == 0) = false := beq_eq_false_iff_ne.2 (by omega)
            generalize (groupR l x).length = ng at *
            go_wp2_with fail
            refine (NX.out _).mono ?_
            rintro e wx ⟨rfl, rfl⟩
            go_wp2_with fail
            go_ret
            exact ⟨rfl, H3.out.bel⟩
          | true =>
            rw [ey] at NY
            clear ex ey
            go_enter Try.func5, Try.ntmps5
            go_wp2_with fail
            refine LV.out.mono ?_
            rintro e w1 ⟨rfl, b1⟩
            have H1 := Lib.hid (Here.nil (K := K45) b1)
            have HE := Lib.hid (HVY.out w1 b1)
            clear b1 LV HVY
            go_wp2_with fail
            refine HE.out.mono ?_
            rintro e wx ⟨rfl, rfl⟩
            clear HE
            have NJ := Lib.hid (JO.out w1 H1.out.bel)
            go_wp2_with fail
            refine NJ.out.mono ?_
            rintro e w2 ⟨p, rfl, h2⟩
            have H2 := Lib.hid (H1.out.adopt h2)
            obtain ⟨Bl, ha⟩ := h_at h2 (i := 0) rfl
            have HAL := Lib.hid ha
            have G2 := Lib.hid (group_at ha (by have := Hn.out; omega) x (by omega))
            clear h2 ha NJ H1
            go_wp2_with fail
            refine G2.out.mono ?_
            rintro e w3 ⟨v3, rfl, m3⟩
            have M3 := Lib.hid m3
            have H3 := Lib.hid (H2.out.step_bel m3.bl)
            clear G2 m3 H2
            go_wp2_with fail
            refine (NX.out _).mono ?_
            rintro e wx ⟨rfl, rfl⟩
            go_wp2_with fail
            refine (NY.out _).mono ?_
            rintro e wx ⟨rfl, rfl⟩
            obtain ⟨f1, f2, f3, f4, f5, f6⟩ := parts_facts HAL.out HEX.out
            have hal3 := HAL.out.bel M3.out.bl
            have hpos : 0 < (groupR l x).length := List.length_pos_of_mem f3
            have NA : Hid (∀ W z r, Below w3.heap.size w3 W → z.size ≤ 1000 → nameR l z = r → Calls Try.prog 18 #[.pointer (some ⟨p, 0, none⟩), .string z] W fun e w' => e = .returned (.string r) ∧ w' = W) := Lib.hid (fun W z r hb hz hr => by
              subst hr
              exact (name_at (hal3.bel hb) z hz).mono fun _ _ h => ⟨h.1, h.2.symm⟩)
            obtain ⟨b3, c3, rfl, _, _, s3⟩ := M3.out.tx.strs
            have IN3 : Hid (∀ W z r, Below w3.heap.size w3 W → memB (groupR l x) z = r → Calls Try.prog 12 #[.slice b3 (groupR l x).length c3, .string z] W fun e w' => e = .returned (.bool r) ∧ w' = W) := Lib.hid (fun W z r hb hr => by
              subst hr
              exact (in08_any b3 c3 (groupR l x) z W (s3.bel hb) (by omega)).mono fun _ _ h => ⟨h.1, h.2.symm⟩)
            have HS3 := Lib.hid s3
            have F4 : Hid (∀ z ∈ groupR l x, nameR l z = nameR l x) := Lib.hid f4
            have F5 := Lib.hid f5
            have hmx := (memB_iff _ _).2 f3
            have hnx := HSZ.out x (by omega)
            have HMX := Lib.hid hmx
            have HF2 := Lib.hid f2
            have HF6 : Hid (decide (nameR l x = nameR l y) = memB (groupR l x) y) := Lib.hid (by
              cases e : memB (groupR l x) y with
              | true => exact decide_eq_true ((f6 y).2 ((memB_iff _ _).1 e))
              | false => exact decide_eq_false (fun c => by rw [(memB_iff _ _).2 ((f6 y).1 c)] at e; cases e))
            obtain ⟨B, off, hb3, _, g0⟩ := s3.at f1
            subst hb3
            rw [Nat.add_zero] at g0
            have HGS : Hid (∀ z ∈ groupR l x, z.size ≤ 1000) := Lib.hid (fun z hz => by
              have hm := hz
              unfold groupR at hm
              rw [HEX.out] at hm
              have := growN_ends l x _ z hm
              rcases List.mem_cons.1 this with rfl | h
              · omega
              · rcases List.mem_append.1 h with h | h
                · obtain ⟨q, hq, rfl⟩ := List.mem_map.1 h; exact (HOK.out q hq).1
                · obtain ⟨q, hq, rfl⟩ := List.mem_map.1 h; exact (HOK.out q hq).2)
            clear f1 f2 f3 f4 f5 f6 s3 hmx hal3 NX NY M3 HAL
            have t3 : (((groupR l x).length : Int) == 0) = false := beq_eq_false_iff_ne.2 (by omega)
            obtain ⟨g, hg⟩ : ∃ g, groupR l x = g := ⟨_, rfl⟩
            rw [hg] at IN3 HS3 F4 F5 HMX HF6 t3 hgl hpos HGS ⊢
            clear hg
            obtain ⟨nx, hnxe⟩ : ∃ nx, nameR l x = nx := ⟨_, rfl⟩
            rw [hnxe] at F4 HF2 HF6 hnx g0
            have HNX := Lib.hid hnxe
            clear hnxe
            generalize hng : g.length = ng at *
            have Hng := Lib.hid hng
            clear hng
            have hng0 : (0 : Int) < (ng : Int) := by omega
            have N1 : Hid (∀ k z, (z = x ∨ z = nx) → Calls Try.prog 18 #[.pointer (some ⟨p, 0, none⟩), .string z] (w3.drewN k) fun e w' => e = .returned (.string nx) ∧ w' = w3.drewN k) := Lib.hid (fun k z hz => NA.out _ z nx (bdrewN (Below.refl _ _) k) (by rcases hz with rfl | rfl <;> omega) (by rcases hz with rfl | rfl; exact HNX.out; exact HF2.out))
            have I1 : Hid (∀ k, Calls Try.prog 12 #[.slice (some ⟨B, off, none⟩) ng c3, .string x] (w3.drewN k) fun e w' => e = .returned (.bool true) ∧ w' = w3.drewN k) := Lib.hid (fun k => IN3.out _ x true (bdrewN (Below.refl _ _) k) HMX.out)
            go_wp2_with fail
            go_quiet (first | (go_at_call 18; refine Calls.quiet_of_same (N1.out _ _ (by first | exact .inl rfl | exact .inr rfl))) | (go_at_call 12; refine Calls.quiet_of_same (I1.out _)) | fail)
            go_wp2_with fail
            go_loopw [9] (fun c wr => ∃ (i : Nat) (k : Nat), i ≤ ng ∧ c = .int .i64 i ∧ wr = w3.drewN k) (fun c _ => ng - (intOf c).toNat)
            case atStart => exact ⟨0, nq, by omega, rfl, rfl⟩
            case round =>
              obtain ⟨i, k, hi, rfl, rfl⟩ := hrel
              by_cases hlt : i < ng
              · obtain ⟨z, hz⟩ : ∃ z, g[i]? = some z := ⟨g[i]'(by rw [Hng.out]; exact hlt), List.getElem?_eq_getElem _⟩
                have hzm := List.mem_of_getElem? hz
                have hzs := HGS.out z hzm
                have hzn := F4.out z hzm
                obtain ⟨B', off', hb', _, c0⟩ := HS3.out.at hz
                have hbb : B' = B ∧ off' = off := by cases hb'; exact ⟨rfl, rfl⟩
                obtain ⟨rfl, rfl⟩ := hbb
                have hi0 : (0 : Int) ≤ (i : Int) := by omega
                have hi1 : (i : Int) < (ng : Int) := by omega
                have N2 : Hid (∀ j, Calls Try.prog 18 #[.pointer (some ⟨p, 0, none⟩), .string z] ((w3.drewN k).drewN j) fun e w' => e = .returned (.string nx) ∧ w' = (w3.drewN k).drewN j) := Lib.hid (fun j => NA.out _ z nx (bdrewN (bdrewN (Below.refl _ _) k) j) hzs hzn)
                have N3 : Hid (Calls Try.prog 18 #[.pointer (some ⟨p, 0, none⟩), .string z] (w3.drewN (k + 1)) fun e w' => e = .returned (.string nx) ∧ w' = w3.drewN (k + 1)) := Lib.hid (NA.out _ z nx (bdrewN (Below.refl _ _) (k + 1)) hzs hzn)
                by_cases hip : 0 < i
                · obtain ⟨j, rfl⟩ : ∃ j, i = j + 1 := ⟨i - 1, by omega⟩
                  obtain ⟨y', hy'⟩ : ∃ z, g[j]? = some z := ⟨g[j]'(by rw [Hng.out]; omega), List.getElem?_eq_getElem _⟩
                  obtain ⟨B2, off2, hb2, _, c1⟩ := HS3.out.at hy'
                  have hbb : B2 = B' ∧ off2 = off' := by cases hb2; exact ⟨rfl, rfl⟩
                  obtain ⟨rfl, rfl⟩ := hbb
                  have t5 : Op.bytesLess y'.toList z.toList = true := by
                    rw [bytesLess_lt]
                    refine decide_eq_true ?_
                    have e1 := List.getElem?_eq_some_iff.1 hy'
                    have e2 := List.getElem?_eq_some_iff.1 hz
                    have := List.pairwise_iff_getElem.1 F5.out j (j + 1) e1.1 e2.1 (by omega)
                    rw [e1.2, e2.2] at this
                    exact this
                  have t6 : decide ((0 : Int) < (j : Int) + 1) = true := decide_eq_true (by omega)
                  have qj : IntKind.i64.wrap (j : Int) = (j : Int) := IntWalk.i64_in _ (by omega)
                  have hk0 : (0 : Int) ≤ (j : Int) + 1 := by omega
                  have hk1 : (j : Int) + 1 < (ng : Int) := by omega
                  clear hi0 hi1
                  have hj0 : (0 : Int) ≤ (j : Int) := by omega
                  have hj1 : (j : Int) < (ng : Int) := by omega
                  clear hz hy' hzm hzn hb2 hb'
                  go_wp2_with fail
                  go_region_held3 (fun X => X.cell? ⟨B2, off2 + (j + 1), none⟩ = some (.string z) ∧ X.cell? ⟨B2, off2 + j, none⟩ = some (.string y') ∧ X.cell? ⟨B2, off2, none⟩ = some (.string nx)) (first | assumption | go_keep)
                    (first
                      | (go_at_call 18
                         (with_reducible refine N3.out.mono ?_)
                         rintro e wx ⟨rfl, rfl⟩)
                      | fail)
                  go_wp2_with fail
                  go_roundw
                  case rel => exact ⟨j + 1 + 1, k + 1, by omega, by go_num, by simp⟩
                  case measure => simp [intOf]; omega
                · have t6 : decide (0 < i) = false := decide_eq_false hip
                  have t6' : decide ((0 : Int) < (i : Int)) = false := decide_eq_false (by omega)
                  clear hz hzm hzn hb'
                  go_wp2_with fail
                  refine wp_region_held_drew (S := fun X => X.cell? ⟨B', off' + i, none⟩ = some (.string z) ∧ X.cell? ⟨B', off', none⟩ = some (.string nx)) (by kernel_rfl) ⟨c0, g0⟩ (fun hHeld => ?_)
                  refine take_at (i := 0) (v := ?_) (some 79) rfl rfl (by kernel_rfl) (by kernel_rfl) (by kernel_rfl) (fun _ _ _ h => h) (by rfl) ?_ (by assumption) ?_
                  rotate_left
                  · intro w hSw
                    (try dsimp only at hSw)
                    go_simp
                    try (with_reducible rfl)
                  (try simp only [Act.put, List.setIfInBounds_toArray, List.set_cons_zero, List.set_cons_succ])
                  refine take_at (i := 1) (v := ?_) (some 80) rfl rfl (by kernel_rfl) (by kernel_rfl) (by kernel_rfl) (fun _ _ _ h => h) (by rfl) ?_ (by assumption) ?_
                  rotate_left
                  · intro w hSw
                    (try dsimp only at hSw)
                    go_simp
                    try (with_reducible rfl)
                  (try simp only [Act.put, List.setIfInBounds_toArray, List.set_cons_zero, List.set_cons_succ])
                  refine take_at (i := 2) (v := ?_) (some 81) rfl rfl (by kernel_rfl) (by kernel_rfl) (by kernel_rfl) (fun _ _ _ h => h) (by rfl) ?_ (by assumption) ?_
                  rotate_left
                  · intro w hSw
                    (try dsimp only at hSw)
                    go_simp
                    try (with_reducible rfl)
                  (try simp only [Act.put, List.setIfInBounds_toArray, List.set_cons_zero, List.set_cons_succ])
                  refine skip_at (i := 3) (some 82) rfl rfl (by kernel_rfl) (by kernel_rfl) (by kernel_rfl) (fun _ _ _ h => h) (by rfl) (by assumption) ?_
                  (try simp only [Act.put, List.setIfInBounds_toArray, List.set_cons_zero, List.set_cons_succ])
                  refine skip_at (i := 4) (some 83) rfl rfl (by kernel_rfl) (by kernel_rfl) (by kernel_rfl) (fun _ _ _ h => h) (by rfl) (by assumption) ?_
                  (try simp only [Act.put, List.setIfInBounds_toArray, List.set_cons_zero, List.set_cons_succ])
                  refine skip_at (i := 5) (some 84) rfl rfl (by kernel_rfl) (by kernel_rfl) (by kernel_rfl) (fun _ _ _ h => h) (by rfl) (by assumption) ?_
                  (try simp only [Act.put, List.setIfInBounds_toArray, List.set_cons_zero, List.set_cons_succ])
                  refine skip_at (i := 6) (some 85) rfl rfl (by kernel_rfl) (by kernel_rfl) (by kernel_rfl) (fun _ _ _ h => h) (by rfl) (by assumption) ?_
                  (try simp only [Act.put, List.setIfInBounds_toArray, List.set_cons_zero, List.set_cons_succ])
                  refine skip_at (i := 7) (some 86) rfl rfl (by kernel_rfl) (by kernel_rfl) (by kernel_rfl) (fun _ _ _ h => h) (by rfl) (by assumption) ?_
                  (try simp only [Act.put, List.setIfInBounds_toArray, List.set_cons_zero, List.set_cons_succ])
                  refine skip_at (i := 8) (some 87) rfl rfl (by kernel_rfl) (by kernel_rfl) (by kernel_rfl) (fun _ _ _ h => h) (by rfl) (by assumption) ?_
                  (try simp only [Act.put, List.setIfInBounds_toArray, List.set_cons_zero, List.set_cons_succ])
                  refine skip_at (i := 9) (some 88) rfl rfl (by kernel_rfl) (by kernel_rfl) (by kernel_rfl) (fun _ _ _ h => h) (by rfl) (by assumption) ?_
                  (try simp only [Act.put, List.setIfInBounds_toArray, List.set_cons_zero, List.set_cons_succ])
                  refine skip_at (i := 10) (some 89) rfl rfl (by kernel_rfl) (by kernel_rfl) (by kernel_rfl) (fun _ _ _ h => h) (by rfl) (by assumption) ?_
                  (try simp only [Act.put, List.setIfInBounds_toArray, List.set_cons_zero, List.set_cons_succ])
                  refine skip_at (i := 11) (some 90) rfl rfl (by kernel_rfl) (by kernel_rfl) (by kernel_rfl) (fun _ _ _ h => h) (by rfl) (by assumption) ?_
                  (try simp only [Act.put, List.setIfInBounds_toArray, List.set_cons_zero, List.set_cons_succ])
                  refine skip_at (i := 12) (some 91) rfl rfl (by kernel_rfl) (by kernel_rfl) (by kernel_rfl) (fun _ _ _ h => h) (by rfl) (by assumption) ?_
                  (try simp only [Act.put, List.setIfInBounds_toArray, List.set_cons_zero, List.set_cons_succ])
                  refine take_at (i := 13) (v := ?_) (some 92) rfl rfl (by kernel_rfl) (by kernel_rfl) (by kernel_rfl) (fun _ _ _ h => h) (by rfl) ?_ (by assumption) ?_
                  rotate_left
                  · intro w hSw
                    (try dsimp only at hSw)
                    go_simp
                    try (with_reducible rfl)
                  (try simp only [Act.put, List.setIfInBounds_toArray, List.set_cons_zero, List.set_cons_succ])
                  refine take_at (i := 14) (v := ?_) (some 93) rfl rfl (by kernel_rfl) (by kernel_rfl) (by kernel_rfl) (fun _ _ _ h => h) (by rfl) ?_ (by assumption) ?_
                  rotate_left
                  · intro w hSw
                    (try dsimp only at hSw)
                    go_simp
                    try (with_reducible rfl)
                  (try simp only [Act.put, List.setIfInBounds_toArray, List.set_cons_zero, List.set_cons_succ])
                  refine take_at (i := 15) (v := ?_) (some 94) rfl rfl (by kernel_rfl) (by kernel_rfl) (by kernel_rfl) (fun _ _ _ h => h) (by rfl) ?_ (by assumption) ?_
                  rotate_left
                  · intro w hSw
                    (try dsimp only at hSw)
                    go_simp
                    try (with_reducible rfl)
                  (try simp only [Act.put, List.setIfInBounds_toArray, List.set_cons_zero, List.set_cons_succ])
                  refine take_at (i := 16) (v := ?_) (some 95) rfl rfl (by kernel_rfl) (by kernel_rfl) (by kernel_rfl) (fun _ _ _ h => h) (by rfl) ?_ (by assumption) ?_
                  rotate_left
                  · intro w hSw
                    (try dsimp only at hSw)
                    go_simp
                    try (with_reducible rfl)
                  (try simp only [Act.put, List.setIfInBounds_toArray, List.set_cons_zero, List.set_cons_succ])
                  refine take_at (i := 17) (v := ?_) (some 96) rfl rfl (by kernel_rfl) (by kernel_rfl) (by kernel_rfl) (fun _ _ _ h => h) (by rfl) ?_ (by assumption) ?_
                  rotate_left
                  · intro w hSw
                    (try dsimp only at hSw)
                    go_simp
                    try (with_reducible rfl)
                  (try simp only [Act.put, List.setIfInBounds_toArray, List.set_cons_zero, List.set_cons_succ])
                  refine take_at (i := 18) (v := ?_) (some 97) rfl rfl (by kernel_rfl) (by kernel_rfl) (by kernel_rfl) (fun _ _ _ h => h) (by rfl) ?_ (by assumption) ?_
                  rotate_left
                  · intro w hSw
                    (try dsimp only at hSw)
                    go_simp
                    try (with_reducible rfl)
                  (try simp only [Act.put, List.setIfInBounds_toArray, List.set_cons_zero, List.set_cons_succ])
                  refine take_at (i := 19) (v := ?_) (some 98) rfl rfl (by kernel_rfl) (by kernel_rfl) (by kernel_rfl) (fun _ _ _ h => h) (by rfl) ?_ (by assumption) ?_
                  rotate_left
                  · intro w hSw
                    (try dsimp only at hSw)
                    go_simp
                    try (with_reducible rfl)
                  (try simp only [Act.put, List.setIfInBounds_toArray, List.set_cons_zero, List.set_cons_succ])
                  refine take_at (i := 21) (v := ?_) (some 100) rfl rfl (by kernel_rfl) (by kernel_rfl) (by kernel_rfl) (fun _ _ _ h => h) (by rfl) ?_ (by assumption) ?_
                  rotate_left
                  · intro w hSw
                    (try dsimp only at hSw)
                    go_simp
                    try (with_reducible rfl)
                  (try simp only [Act.put, List.setIfInBounds_toArray, List.set_cons_zero, List.set_cons_succ])
                  refine take_at (i := 22) (v := ?_) (some 101) rfl rfl (by kernel_rfl) (by kernel_rfl) (by kernel_rfl) (fun _ _ _ h => h) (by rfl) ?_ (by assumption) ?_
                  rotate_left
                  · intro w hSw
                    (try dsimp only at hSw)
                    go_simp
                    try (with_reducible rfl)
                  (try simp only [Act.put, List.setIfInBounds_toArray, List.set_cons_zero, List.set_cons_succ])
                  refine take_at (i := 23) (v := ?_) (some 102) rfl rfl (by kernel_rfl) (by kernel_rfl) (by kernel_rfl) (fun _ _ _ h => h) (by rfl) ?_ (by assumption) ?_
                  rotate_left
                  · intro w hSw
                    (try dsimp only at hSw)
                    go_simp
                    try (with_reducible rfl)
                  (try simp only [Act.put, List.setIfInBounds_toArray, List.set_cons_zero, List.set_cons_succ])
                  refine call_at (i := 20) (by kernel_rfl) rfl (fun K hK => ?_)
                  go_simp
                  refine N3.out.mono ?_
                  rintro e wx ⟨rfl, rfl⟩
                  (try go_wp2_with fail)
                  refine hK.out _ _ ⟨c0, g0⟩ (fun hHeld => ?_)
                  clear hK K
                  (try simp only [Act.put, List.setIfInBounds_toArray, List.set_cons_zero, List.set_cons_succ])
                  refine take_at (i := 24) (v := ?_) (some 103) rfl rfl (by kernel_rfl) (by kernel_rfl) (by kernel_rfl) (fun _ _ _ h => h) (by rfl) ?_ (by assumption) ?_
                  rotate_left
                  · intro w hSw
                    (try dsimp only at hSw)
                    go_simp
                    try (with_reducible rfl)
                  (try simp only [Act.put, List.setIfInBounds_toArray, List.set_cons_zero, List.set_cons_succ])
                  refine take_at (i := 25) (v := ?_) (some 104) rfl rfl (by kernel_rfl) (by kernel_rfl) (by kernel_rfl) (fun _ _ _ h => h) (by rfl) ?_ (by assumption) ?_
                  rotate_left
                  · intro w hSw
                    (try dsimp only at hSw)
                    go_simp
                    try (with_reducible rfl)
                  (try simp only [Act.put, List.setIfInBounds_toArray, List.set_cons_zero, List.set_cons_succ])
                  refine wpAnyH_done (by kernel_rfl) ?_ _
                  go_wp2_with fail
                  go_roundw
                  case rel => exact ⟨i + 1, k + 1, by omega, by go_num, by simp⟩
                  case measure => simp [intOf]; omega
              · obtain rfl : i = ng := by omega
                obtain ⟨ny, hny⟩ : ∃ ny, nameR l y = ny := ⟨_, rfl⟩
                have hf6 := HF6.out
                rw [hny] at hf6
                obtain ⟨mb, hmb⟩ : ∃ mb, memB g y = mb := ⟨_, rfl⟩
                rw [hmb] at hf6
                have t7 : (nx.toList == ny.toList) = mb := by rw [bytesEq]; exact hf6
                have hbk := bdrewN (Below.refl w3.heap.size w3) k
                have A1 := Lib.hid (NA.out (w3.drewN k) x nx hbk (by omega) HNX.out)
                have A2 := Lib.hid (NA.out (w3.drewN k) y ny hbk (by omega) hny)
                have A3 := Lib.hid (IN3.out (w3.drewN k) y mb hbk hmb)
                have HB := Lib.hid (H3.out.step_bel hbk).bel
                clear hf6 hmb hny hbk HF6 F4 NA IN3
                cases mb
                all_goals
                  go_wp2_with fail
                  refine A1.out.mono ?_
                  rintro e wx ⟨rfl, rfl⟩
                  go_wp2_with fail
                  refine A2.out.mono ?_
                  rintro e wx ⟨rfl, rfl⟩
                  go_wp2_with fail
                  refine A3.out.mono ?_
                  rintro e wx ⟨rfl, rfl⟩
                  go_wp2_with fail
                  go_ret
                  exact ⟨rfl, HB.out⟩

theorem own : ownKnob Try.prog.godebug = none := by kernel_rfl
theorem laidOut : laidOutB Try.prog = true := by kernel_rfl

set_option maxRecDepth 100000 in
theorem lifted (os : Os) (started : os.Started) (H : Type) (enc : TypeId × Value → H) :
    ReturnsInHanded {} Try.checked os 5 .any (Rows.aliasPartsSpec.pre6 enc Try.prog Try.f5 Rows.aliasPartsRow.domain false) (Rows.aliasPartsSpec.post enc Try.prog Try.f5 false true false false) := by
  refine returnsInHanded_of_change (C := Try.checked) own started (by kernel_rfl) Try.func5
    (ChangeSpec.witness6 (enc := enc) (C := Try.checked) false ⟨#[], #[.slice none 0 0, .string ⟨#[]⟩, .string ⟨#[]⟩], []⟩ 8 (by kernel_rfl) (by kernel_rfl) (by kernel_rfl) (by kernel_rfl)) ?_
  intro W base args ds gs before hval0 hW hcnd _
  have hval : ∀ (j : Nat) t v, Try.f5.params[j]? = some t → args[j]? = some v → Value.okWide Try.prog W .any base t v := hval0
  have hW' := hW
  obtain ⟨p, q, hA0, hV, rfl, hfz, hnd⟩ := hW
  have hA : DataW.TrodAll enc Try.prog W 0 (fun _ => true) true Try.f5.params.toList args.toList ds p := hA0
  rw [Try.params5] at hA hval
  obtain ⟨v0, vs0, d0, ds0, p0, q0, hargs, rfl, rfl, h0, r0⟩ := trodAll_cons hA
  obtain ⟨v1, vs1, d1, ds1, p1, q1, rfl, rfl, rfl, h1, r1⟩ := trodAll_cons r0
  obtain ⟨v2, vs2, d2, ds2, p2, q2, rfl, rfl, rfl, h2, r2⟩ := trodAll_cons r1
  obtain ⟨rfl, rfl, rfl⟩ := trodAll_nil r2
  obtain rfl : args = #[v0, v1, v2] := by cases args; simp_all
  obtain ⟨rfl, rfl⟩ := trodVars_none hV
  have k0 := h0
  have lt0 : ∀ x ∈ p0, x.block < W.heap.size := by obtain ⟨m, hm⟩ := k0; exact DataW.trod_lt m _ _ _ hm
  obtain ⟨b0, c0, x0, rfl, l0, m0, i0, o0⟩ := open_twos (hval 0 22 v0 rfl rfl) h0
  have k1 := h1
  have lt1 : ∀ x ∈ p1, x.block < W.heap.size := by obtain ⟨m, hm⟩ := k1; exact DataW.trod_lt m _ _ _ hm
  obtain ⟨a1, rfl, rfl, rfl, w1⟩ := open_string Try.underlying9 (hval 1 9 v1 rfl rfl) h1
  have k2 := h2
  have lt2 : ∀ x ∈ p2, x.block < W.heap.size := by obtain ⟨m, hm⟩ := k2; exact DataW.trod_lt m _ _ _ hm
  obtain ⟨a2, rfl, rfl, rfl, w2⟩ := open_string Try.underlying9 (hval 2 9 v2 rfl rfl) h2
  clear hA0 hval0
  refine (walk W b0 c0 x0 l0 m0 i0 o0 a1 w1 a2 w2).mono fun e W' ⟨he, bel⟩ => ?_
  subst he
  exact ⟨_, rfl, _, _, _, [], _, [], hW', trodAll_mk1 (shut_bool Try.underlying4 _), (trodAll_cons_mk (Below.trod laidOut (by kernel_rfl) (of_decide_eq_true (by kernel_rfl)) k0 bel lt0) (trodAll_cons_mk (Below.trod laidOut (by kernel_rfl) (of_decide_eq_true (by kernel_rfl)) k1 bel lt1) (trodAll_cons_mk (Below.trod laidOut (by kernel_rfl) (of_decide_eq_true (by kernel_rfl)) k2 bel lt2) trodAll_mk0))), rfl, bel.frame _, fun h => by cases h⟩

theorem over : Rows.aliasPartsRow.holds Try.pinned (OpenSpec.ofChange Rows.aliasPartsSpec) :=
  OpenClaim.holds_of_wide 5 Try.f5 rfl rfl rfl rfl rfl rfl rfl ⟨rfl, rfl, rfl, rfl, rfl⟩ rfl rfl rfl rfl rfl (by kernel_rfl) Try.func5 (by kernel_rfl)
    (of_decide_eq_true (by kernel_rfl)) (by unfold Func.isWrapper; first | (rw [if_pos (by decide +kernel)]; kernel_rfl) | (rw [if_neg (by decide +kernel)]; exact ⟨rfl, rfl⟩))
    (fun os started H enc _ => lifted os started H enc)

theorem proved : Rows.AliasPartsSaid := over
#print axioms proved
end Go.Proofs.Ytgflfjmlhapplaa.aliasParts

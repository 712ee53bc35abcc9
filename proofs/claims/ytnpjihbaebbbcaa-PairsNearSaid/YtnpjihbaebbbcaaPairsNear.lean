/- For every input ciceronelaw17.PairsNear returns true, and its arguments read behind the call as before. No conditions. -/
import Derived.Test.YtnpjihbaebbbcaaQOpen
import Derived.Test.YtnpjihbaebbbcaaHeld
import Derived.Test.YtnpjihbaebbbcaaRows
import Derived.ProofKit
import Derived.OpenShut
import Derived.ShutString
import Derived.ChangeOld
import Derived.Below
import Derived.Lib.SmallJoins
namespace Go.Proofs.Ytnpjihbaebbbcaa.pairsNear
open Go.ChangeShapes Go.WideShapes Go.ChangeAt Go.RowKit Go.Joins
open Go.ChangeMaps (open_string shut_string)
set_option linter.unusedVariables false

theorem nodup_at {l : List ByteArray} (h : l.Nodup) {i j : Nat} {x : ByteArray} (hi : l[i]? = some x) (hj : l[j]? = some x) : i = j := by
  obtain ⟨a, ea⟩ := List.getElem?_eq_some_iff.1 hi
  obtain ⟨b, eb⟩ := List.getElem?_eq_some_iff.1 hj
  rcases Nat.lt_trichotomy i j with c | c | c
  · exact absurd (ea.trans eb.symm) (List.pairwise_iff_getElem.1 h i j a b c)
  · exact c
  · exact absurd (eb.trans ea.symm) (List.pairwise_iff_getElem.1 h j i b a c)
theorem cntB_comm (l : List Sv) (x y : ByteArray) : cntB l x y = cntB l y x := by
  unfold cntB
  refine List.countP_congr fun s _ => ?_
  unfold hasB
  rw [Bool.and_comm]
theorem cntF_drop {l : List Sv} {k : Nat} {x : Sv} (h : l[k]? = some x) : bumpAll (cntF (l.drop k)) x.its (-1) = cntF (l.drop (k + 1)) := by
  have hd : l.drop k = x :: l.drop (k + 1) := by
    obtain ⟨hk, rfl⟩ := List.getElem?_eq_some_iff.1 h
    exact List.drop_eq_getElem_cons hk
  funext a b
  rw [bumpAll_is, cntF_is, cntF_is, hd]
  unfold cntB
  rw [List.countP_cons]
  by_cases h : hasB x a b = true
  · simp [h]; omega
  · simp [h]
theorem can_drop {l : List Sv} {k : Nat} {x : Sv} (h : l[k]? = some x) : canB (cntF (l.drop k)) x.its = true := by
  rw [canB_iff]
  intro a ha b hb
  rw [cntF_is]
  have : 0 < cntB (l.drop k) a b := by
    unfold cntB
    rw [List.countP_pos_iff]
    refine ⟨x, ?_, ?_⟩
    · refine List.mem_of_getElem? (i := 0) ?_
      rw [List.getElem?_drop]; exact h
    · unfold hasB
      rw [Bool.and_eq_true]
      exact ⟨(memB_iff _ _).2 ha, (memB_iff _ _).2 hb⟩
  omega
theorem near_sym {l : List Sv} {y z : ByteArray} {n1 n2 : List ByteArray} (h1 : NearOf l z n1) (h2 : NearOf l y n2) : memB n1 y = memB n2 z := by
  rw [Bool.eq_iff_iff, memB_iff, memB_iff, h1.2, h2.2, cntB_comm l y z]
  exact and_congr_left fun _ => ⟨fun c e => c e.symm, fun c e => c e.symm⟩
theorem near_cnt {l : List Sv} {y z : ByteArray} {n1 : List ByteArray} (h1 : NearOf l z n1) (hne : y ≠ z) : memB n1 y = decide ((0 : Int) < ((cntB l z y : Nat) : Int)) := by
  rw [Bool.eq_iff_iff, memB_iff, h1.2, decide_eq_true_eq]
  exact ⟨fun c => by have := c.2; omega, fun c => ⟨hne, by omega⟩⟩
theorem near_not {l : List Sv} {z : ByteArray} {n1 : List ByteArray} (h1 : NearOf l z n1) : memB n1 z = false := memB_no (fun c => ((h1.2 z).1 c).1 rfl)
set_option linter.unusedSimpArgs false
set_option maxRecDepth 20000 in
set_option maxHeartbeats 8000000 in
theorem walk (w : World) (b : Option Addr) (cap : Nat) (l : List Sv) (hlc : l.length ≤ cap) (hm : cap ≤ maxLen) (hi : InW w b 4 (l.map svC)) (ho : ∀ a ∈ l, SvOk w a) :
    Calls Try.prog 6 #[.slice b l.length cap] w fun e w' => e = .returned (.bool true) ∧ Below w.heap.size w w' := by
  have LV := Lib.hid (lives_any w)
  have HSV : Hid (SvIn w b l) := Lib.hid ⟨hi, ho⟩
  have HV : Hid (∀ W, Below w.heap.size w W → Calls Try.prog 9 #[.slice b l.length cap, .int .i64 16] W fun e w' => e = .returned (.bool (heavyB l 16)) ∧ w' = W) := Lib.hid (fun W hb => heavy_any b cap l 16 W (HSV.out.bel hb) hm hlc (by omega))
  clear hi ho
  have hm' := hm
  unfold maxLen at hm
  by_cases hfw : heavyB l 16 = true
  · rw [hfw] at HV
    generalize l.length = n at *
    go_enter Try.func6, Try.ntmps6
    go_wp2_with fail
    refine LV.out.mono ?_
    rintro e w1 ⟨rfl, b1⟩
    have B1 := Lib.hid b1
    have F1 := Lib.hid (HV.out w1 b1)
    clear b1 HV LV
    go_wp2_with fail
    refine F1.out.mono ?_
    rintro e w2 ⟨rfl, rfl⟩
    clear F1
    go_wp2_with fail
    go_ret
    exact ⟨rfl, B1.out⟩
  rw [Bool.not_eq_true] at hfw
  rw [hfw] at HV
  obtain ⟨hn24, hits⟩ := heavy_no hfw
  clear hfw
  have HLI : Hid (Light l) := Lib.hid ⟨by omega, fun s hs => by have := (hits s hs).1; omega⟩
  have OF : Hid (∀ W, Below w.heap.size w W → Calls Try.prog 14 #[.slice b l.length cap] W fun e w' => ∃ p t, e = .returned (.pointer (some ⟨p, 0, none⟩)) ∧ Here K17 W w' [.tab t (cntF l), .box p [.pointer (some ⟨t, 0, none⟩), .bool false] 52]) := Lib.hid (fun W hb => of_any b cap l W (HSV.out.bel hb) HLI.out hm' hlc)
  have HIT := Lib.hid hits
  clear hits
  obtain ⟨n, hn⟩ : ∃ n, l.length = n := ⟨_, rfl⟩
  have HN := Lib.hid hn
  rw [hn] at hn24 hlc HV OF ⊢
  clear hn hm'
  go_enter Try.func6, Try.ntmps6
  go_wp2_with fail
  refine LV.out.mono ?_
  rintro e w1 ⟨rfl, b1⟩
  have B1 := Lib.hid b1
  have F1 := Lib.hid (HV.out w1 b1)
  clear b1 HV LV
  go_wp2_with fail
  refine F1.out.mono ?_
  rintro e w2 ⟨rfl, rfl⟩
  clear F1
  have O1 := Lib.hid (OF.out w2 B1.out)
  go_wp2_with fail
  refine O1.out.mono ?_
  rintro e w3 ⟨p, t, rfl, h3⟩
  have h3' : Here K17 w w3 [.tab t (cntF l), .box p [.pointer (some ⟨t, 0, none⟩), .bool false] 52] := (Here.nil (K := K17) B1.out).adopts h3
  have H3 := Lib.hid h3'
  have HP := Lib.hid (pr_here h3 (i := 1) (j := 0) rfl rfl)
  have B3 := Lib.hid h3'.bel
  have TP : Hid (Tells (cntF l) l) := Lib.hid (fun u v => cntF_is l u v)
  have PI := Lib.hid (pitems_any HP.out (allIts l) (fun z hz => (allIts_mem l z).2 ((cnt_self l z).1 (by rw [← TP.out]; exact hz))) (by have := allIts_len HLI.out; omega))
  have PN : Hid (∀ W, Below w3.heap.size w3 W → ∀ x : ByteArray, x.size ≤ maxLen → Calls Try.prog 20 #[.pointer (some ⟨p, 0, none⟩), .string x] W fun e w' => ∃ (v : Value) (ks : List ByteArray), e = .returned v ∧ NearOf l x ks ∧ Texts17 W w' v ks ∧ ks.length ≤ 10000) := Lib.hid (fun W hb x hx => (pnear_any (HP.out.bel hb) x hx (allIts l) (fun z hz => (allIts_mem l z).2 (by
    rw [TP.out] at hz
    have h0 : 0 < cntB l x z := by omega
    obtain ⟨s, hs, h2⟩ := List.countP_pos_iff.1 h0
    unfold hasB at h2
    rw [Bool.and_eq_true] at h2
    exact ⟨s, hs, (memB_iff _ _).1 h2.2⟩)) (by have := allIts_len HLI.out; omega)).mono (by
    rintro e w' ⟨v, ks, rfl, h1, h2, h3⟩
    have hN : NearOf l x ks := ⟨h1, fun z => by rw [h2, TP.out]; exact and_congr_right fun _ => by omega⟩
    refine ⟨v, ks, rfl, hN, h3, ?_⟩
    have := nodup_len h1.nodup (m := allIts l) (fun z hz => (allIts_mem l z).2 (by
      obtain ⟨s, hs, h2⟩ := List.countP_pos_iff.1 ((hN.2 z).1 hz).2
      unfold hasB at h2
      rw [Bool.and_eq_true] at h2
      exact ⟨s, hs, (memB_iff _ _).1 h2.2⟩))
    have := allIts_len HLI.out
    omega))
  have PC : Hid (∀ W, Below w3.heap.size w3 W → ∀ x z : ByteArray, x.size ≤ maxLen → z.size ≤ maxLen → Calls Try.prog 12 #[.pointer (some ⟨p, 0, none⟩), .string x, .string z] W fun e w' => e = .returned (.int .i64 (cntB l x z : Nat)) ∧ w' = W) := Lib.hid (fun W hb x z hx hz => by
    have := pcount_any (HP.out.bel hb) x z hx hz
    rw [TP.out] at this; exact this)
  have PS : Hid (∀ W, Below w3.heap.size w3 W → ∀ z : ByteArray, z.size ≤ maxLen → Calls Try.prog 15 #[.pointer (some ⟨p, 0, none⟩), .string z] W fun e w' => e = .returned (.int .i64 (cntB l z z : Nat)) ∧ w' = W) := Lib.hid (fun W hb z hz => by
    have := psingle_any (HP.out.bel hb) z hz
    rw [TP.out] at this; exact this)
  clear h3 h3' O1
  go_wp2_with fail
  refine PI.out.mono ?_
  rintro e w4 ⟨v4, ks, rfl, k1, k2, k3⟩
  have HIK : Hid (ItemsOf l ks) := Lib.hid ⟨k1, fun z => by rw [k2, TP.out, cnt_self]⟩
  obtain ⟨b4, c4, rfl, _, _, st4⟩ := k3.1.strs
  have S4 := Lib.hid st4
  have B4 := Lib.hid k3.2.2
  have HSZ : Hid (∀ z ∈ ks, z.size ≤ maxLen) := Lib.hid (fun z hz => by
    obtain ⟨s, hs, h2⟩ := (HIK.out.2 z).1 hz
    exact (HSV.out.o s hs).sz z h2)
  have HP1 : Hid (∀ z ∈ ks, 1 ≤ cntB l z z) := Lib.hid (fun z hz => by
    have := (cnt_self l z).2 ((HIK.out.2 z).1 hz)
    omega)
  generalize hM : ks.length = m at *
  have HM := Lib.hid hM
  have hmx : m ≤ 10000 := by
    rw [← HM.out]
    have := nodup_len HIK.out.1.nodup (m := allIts l) (fun z hz => (allIts_mem l z).2 ((HIK.out.2 z).1 hz))
    have := allIts_len HLI.out
    omega
  have BL0 := Lib.hid (Below.refl w4.heap.size w4)
  clear k1 k2 k3 st4 PI hM
  go_wp2_with fail
  go_loopw [5] (fun c wr => ∃ i : Nat, i ≤ m ∧ c = .int .i64 i ∧ Hid (Below w4.heap.size w4 wr)) (fun c _ => m - (intOf c).toNat)
  case atStart => exact ⟨0, by omega, rfl, BL0⟩
  case round =>
    obtain ⟨i, hi, rfl, HR⟩ := hrel
    clear BL0
    by_cases hlt : i < m
    · obtain ⟨z, hz⟩ : ∃ z, ks[i]? = some z := ⟨ks[i]'(by have := HM.out; omega), List.getElem?_eq_getElem _⟩
      obtain ⟨Bz, off, rfl, hBz, cz⟩ := (S4.out.bel HR.out).at hz
      have hzm := List.mem_of_getElem? hz
      have HZ := Lib.hid hz
      have HZS : Hid (z.size ≤ maxLen) := Lib.hid (HSZ.out z hzm)
      have hi0 : (0 : Int) ≤ (i : Int) := by omega
      have hi1 : (i : Int) < (m : Int) := by omega
      have hr3 : Below w3.heap.size w3 wr := B4.out.trans (HR.out.mono B4.out.size)
      have N1 := Lib.hid (PN.out wr hr3 z HZS.out)
      have hp1 := HP1.out z hzm
      clear hz hzm hBz
      go_wp2_with fail
      refine N1.out.mono ?_
      rintro e w5 ⟨v5, n1, rfl, j1, j2, j3⟩
      obtain ⟨b5, c5, rfl, _, _, st5⟩ := j2.1.strs
      have B5 := Lib.hid (Below.trans' HR.out j2.2.2)
      have hr5 : Below w3.heap.size w3 w5 := B4.out.trans (B5.out.mono B4.out.size)
      have cz5 := (j2.2.2.cell (p := ⟨Bz, off + i, none⟩) (World.block_lt_of_cell? _ _ cz)).trans cz
      have C1 := Lib.hid (PS.out w5 hr5 z HZS.out)
      have I1 := Lib.hid (in08_any b5 c5 n1 z w5 st5 (by omega))
      rw [near_not j1] at I1
      have J1 := Lib.hid j1
      have ST5 := Lib.hid st5
      have t35 : decide (((cntB l z z : Nat) : Int) < 1) = false := decide_eq_false (by omega)
      generalize ((cntB l z z : Nat) : Int) = g1 at *
      have HL1 : Hid (n1.length ≤ 10000) := Lib.hid j3
      generalize hL : n1.length = k1 at *
      have HLN := Lib.hid hL
      clear hL
      have BL5 := Lib.hid (Below.refl w5.heap.size w5)
      clear j1 j2 j3 st5 N1 hp1 hr3 hr5
      go_wp2_with fail
      refine C1.out.mono ?_
      rintro e w5 ⟨rfl, rfl⟩
      go_wp2_with fail
      refine I1.out.mono ?_
      rintro e w5 ⟨rfl, rfl⟩
      clear C1 I1
      go_wp2_with fail
      go_loopw [7] (fun c wr => ∃ k : Nat, k ≤ m ∧ c = .int .i64 k ∧ Hid (Below w5.heap.size w5 wr)) (fun c _ => m - (intOf c).toNat)
      case atStart => exact ⟨0, by omega, rfl, BL5⟩
      case round =>
        obtain ⟨k, hk, rfl, HRK⟩ := hrel
        clear BL5
        by_cases hkt : k < m
        · obtain ⟨y, hy⟩ : ∃ y, ks[k]? = some y := ⟨ks[k]'(by have := HM.out; omega), List.getElem?_eq_getElem _⟩
          have hrk : Below w4.heap.size w4 wr := HRK.out.mono B5.out.size |> B5.out.trans
          have hr3 : Below w3.heap.size w3 wr := B4.out.trans (hrk.mono B4.out.size)
          obtain ⟨By, offy, hby, hBy, cy⟩ := (S4.out.bel hrk).at hy
          cases hby
          have czk : wr.cell? ⟨Bz, off + i, none⟩ = some (.string z) := (HRK.out.cell (p := ⟨Bz, off + i, none⟩) (World.block_lt_of_cell? _ _ cz5)).trans cz5
          have hym := List.mem_of_getElem? hy
          have hys := HSZ.out y hym
          have hk0 : (0 : Int) ≤ (k : Int) := by omega
          have hk1 : (k : Int) < (m : Int) := by omega
          have hd3 : Below w3.heap.size w3 wr.drew := hr3.drew
          have hd5 : Below w5.heap.size w5 wr.drew := HRK.out.drew
          have HB8 := Lib.hid HRK.out.drew
          have IY := Lib.hid (in08_any b5 c5 n1 y wr.drew (ST5.out.bel hd5) (by have := HL1.out; have := HLN.out; omega))
          rw [HLN.out] at IY
          have CY := Lib.hid (PC.out wr.drew hd3 z y HZS.out hys)
          have NY := Lib.hid (PN.out wr.drew hd3 y hys)
          have IZ : Hid (∀ (n2 : List ByteArray), NearOf l y n2 → memB n1 y = memB n2 z) := Lib.hid (fun n2 hn2 => near_sym J1.out hn2)
          by_cases hki : k = i
          · subst hki
            have hyz : y = z := Option.some.inj (hy.symm.trans HZ.out)
            subst hyz
            have tki : ((k : Int) == (k : Int)) = true := by simp
            have tki' : ((k : Int) != (k : Int)) = false := by simp
            rw [near_not J1.out] at IY
            have IZ2 : Hid (∀ (n2 : List ByteArray), NearOf l y n2 → memB n2 y = false) := Lib.hid (fun n2 hn2 => near_not hn2)
            have kk0 : wr.drew.cell? ⟨Bz, off + k, none⟩ = some (.string y) := cy
            clear hy hym hys hBy hrk hr3 hd3 hd5 HRK IZ CY czk
            go_wp2_with fail
            refine wp_region_held_drew (S := fun X => X.cell? ⟨Bz, off + k, none⟩ = some (.string y)) (by kernel_rfl) kk0 (fun hHeld => ?_)
            refine take_at (i := 0) (v := ?_) (some 50) rfl rfl (by kernel_rfl) (by kernel_rfl) (by kernel_rfl) (fun _ _ _ h => h) (by rfl) ?_ (by assumption) ?_
            rotate_left
            · intro w hSw
              (try dsimp only at hSw)
              go_simp
              try (with_reducible rfl)
            (try simp only [Act.put, List.setIfInBounds_toArray, List.set_cons_zero, List.set_cons_succ])
            refine take_at (i := 1) (v := ?_) (some 51) rfl rfl (by kernel_rfl) (by kernel_rfl) (by kernel_rfl) (fun _ _ _ h => h) (by rfl) ?_ (by assumption) ?_
            rotate_left
            · intro w hSw
              (try dsimp only at hSw)
              go_simp
              try (with_reducible rfl)
            (try simp only [Act.put, List.setIfInBounds_toArray, List.set_cons_zero, List.set_cons_succ])
            refine take_at (i := 2) (v := ?_) (some 52) rfl rfl (by kernel_rfl) (by kernel_rfl) (by kernel_rfl) (fun _ _ _ h => h) (by rfl) ?_ (by assumption) ?_
            rotate_left
            · intro w hSw
              (try dsimp only at hSw)
              go_simp
              try (with_reducible rfl)
            (try simp only [Act.put, List.setIfInBounds_toArray, List.set_cons_zero, List.set_cons_succ])
            refine take_at (i := 3) (v := ?_) (some 53) rfl rfl (by kernel_rfl) (by kernel_rfl) (by kernel_rfl) (fun _ _ _ h => h) (by rfl) ?_ (by assumption) ?_
            rotate_left
            · intro w hSw
              (try dsimp only at hSw)
              go_simp
              try (with_reducible rfl)
            (try simp only [Act.put, List.setIfInBounds_toArray, List.set_cons_zero, List.set_cons_succ])
            refine skip_at (i := 4) (some 54) rfl rfl (by kernel_rfl) (by kernel_rfl) (by kernel_rfl) (fun _ _ _ h => h) (by rfl) (by assumption) ?_
            (try simp only [Act.put, List.setIfInBounds_toArray, List.set_cons_zero, List.set_cons_succ])
            refine skip_at (i := 5) (some 55) rfl rfl (by kernel_rfl) (by kernel_rfl) (by kernel_rfl) (fun _ _ _ h => h) (by rfl) (by assumption) ?_
            (try simp only [Act.put, List.setIfInBounds_toArray, List.set_cons_zero, List.set_cons_succ])
            refine skip_at (i := 6) (some 56) rfl rfl (by kernel_rfl) (by kernel_rfl) (by kernel_rfl) (fun _ _ _ h => h) (by rfl) (by assumption) ?_
            (try simp only [Act.put, List.setIfInBounds_toArray, List.set_cons_zero, List.set_cons_succ])
            refine skip_at (i := 7) (some 57) rfl rfl (by kernel_rfl) (by kernel_rfl) (by kernel_rfl) (fun _ _ _ h => h) (by rfl) (by assumption) ?_
            (try simp only [Act.put, List.setIfInBounds_toArray, List.set_cons_zero, List.set_cons_succ])
            refine skip_at (i := 8) (some 58) rfl rfl (by kernel_rfl) (by kernel_rfl) (by kernel_rfl) (fun _ _ _ h => h) (by rfl) (by assumption) ?_
            (try simp only [Act.put, List.setIfInBounds_toArray, List.set_cons_zero, List.set_cons_succ])
            refine skip_at (i := 10) (some 60) rfl rfl (by kernel_rfl) (by kernel_rfl) (by kernel_rfl) (fun _ _ _ h => h) (by rfl) (by assumption) ?_
            (try simp only [Act.put, List.setIfInBounds_toArray, List.set_cons_zero, List.set_cons_succ])
            refine skip_at (i := 11) (some 61) rfl rfl (by kernel_rfl) (by kernel_rfl) (by kernel_rfl) (fun _ _ _ h => h) (by rfl) (by assumption) ?_
            (try simp only [Act.put, List.setIfInBounds_toArray, List.set_cons_zero, List.set_cons_succ])
            refine skip_at (i := 12) (some 62) rfl rfl (by kernel_rfl) (by kernel_rfl) (by kernel_rfl) (fun _ _ _ h => h) (by rfl) (by assumption) ?_
            (try simp only [Act.put, List.setIfInBounds_toArray, List.set_cons_zero, List.set_cons_succ])
            refine skip_at (i := 13) (some 63) rfl rfl (by kernel_rfl) (by kernel_rfl) (by kernel_rfl) (fun _ _ _ h => h) (by rfl) (by assumption) ?_
            (try simp only [Act.put, List.setIfInBounds_toArray, List.set_cons_zero, List.set_cons_succ])
            refine skip_at (i := 14) (some 64) rfl rfl (by kernel_rfl) (by kernel_rfl) (by kernel_rfl) (fun _ _ _ h => h) (by rfl) (by assumption) ?_
            (try simp only [Act.put, List.setIfInBounds_toArray, List.set_cons_zero, List.set_cons_succ])
            refine skip_at (i := 15) (some 65) rfl rfl (by kernel_rfl) (by kernel_rfl) (by kernel_rfl) (fun _ _ _ h => h) (by rfl) (by assumption) ?_
            (try simp only [Act.put, List.setIfInBounds_toArray, List.set_cons_zero, List.set_cons_succ])
            refine skip_at (i := 16) (some 66) rfl rfl (by kernel_rfl) (by kernel_rfl) (by kernel_rfl) (fun _ _ _ h => h) (by rfl) (by assumption) ?_
            (try simp only [Act.put, List.setIfInBounds_toArray, List.set_cons_zero, List.set_cons_succ])
            refine skip_at (i := 17) (some 67) rfl rfl (by kernel_rfl) (by kernel_rfl) (by kernel_rfl) (fun _ _ _ h => h) (by rfl) (by assumption) ?_
            (try simp only [Act.put, List.setIfInBounds_toArray, List.set_cons_zero, List.set_cons_succ])
            refine skip_at (i := 18) (some 68) rfl rfl (by kernel_rfl) (by kernel_rfl) (by kernel_rfl) (fun _ _ _ h => h) (by rfl) (by assumption) ?_
            (try simp only [Act.put, List.setIfInBounds_toArray, List.set_cons_zero, List.set_cons_succ])
            refine pass_at (i := 9) (some 59) (by kernel_rfl) rfl rfl (by rfl) kk0 ?_
            (try simp only [Act.put, List.setIfInBounds_toArray, List.set_cons_zero, List.set_cons_succ])
            refine pass_at (i := 19) (some 69) (by kernel_rfl) rfl rfl (by rfl) kk0 ?_
            (try simp only [Act.put, List.setIfInBounds_toArray, List.set_cons_zero, List.set_cons_succ])
            refine skip_at (i := 20) (some 70) rfl rfl (by kernel_rfl) (by kernel_rfl) (by kernel_rfl) (fun _ _ _ h => h) (by rfl) (by assumption) ?_
            (try simp only [Act.put, List.setIfInBounds_toArray, List.set_cons_zero, List.set_cons_succ])
            refine skip_at (i := 21) (some 71) rfl rfl (by kernel_rfl) (by kernel_rfl) (by kernel_rfl) (fun _ _ _ h => h) (by rfl) (by assumption) ?_
            (try simp only [Act.put, List.setIfInBounds_toArray, List.set_cons_zero, List.set_cons_succ])
            refine take_at (i := 22) (v := ?_) (some 72) rfl rfl (by kernel_rfl) (by kernel_rfl) (by kernel_rfl) (fun _ _ _ h => h) (by rfl) ?_ (by assumption) ?_
            rotate_left
            · intro w hSw
              (try dsimp only at hSw)
              go_simp
              try (with_reducible rfl)
            (try simp only [Act.put, List.setIfInBounds_toArray, List.set_cons_zero, List.set_cons_succ])
            refine take_at (i := 23) (v := ?_) (some 73) rfl rfl (by kernel_rfl) (by kernel_rfl) (by kernel_rfl) (fun _ _ _ h => h) (by rfl) ?_ (by assumption) ?_
            rotate_left
            · intro w hSw
              (try dsimp only at hSw)
              go_simp
              try (with_reducible rfl)
            (try simp only [Act.put, List.setIfInBounds_toArray, List.set_cons_zero, List.set_cons_succ])
            refine take_at (i := 24) (v := ?_) (some 74) rfl rfl (by kernel_rfl) (by kernel_rfl) (by kernel_rfl) (fun _ _ _ h => h) (by rfl) ?_ (by assumption) ?_
            rotate_left
            · intro w hSw
              (try dsimp only at hSw)
              go_simp
              try (with_reducible rfl)
            (try simp only [Act.put, List.setIfInBounds_toArray, List.set_cons_zero, List.set_cons_succ])
            refine take_at (i := 25) (v := ?_) (some 75) rfl rfl (by kernel_rfl) (by kernel_rfl) (by kernel_rfl) (fun _ _ _ h => h) (by rfl) ?_ (by assumption) ?_
            rotate_left
            · intro w hSw
              (try dsimp only at hSw)
              go_simp
              try (with_reducible rfl)
            (try simp only [Act.put, List.setIfInBounds_toArray, List.set_cons_zero, List.set_cons_succ])
            refine take_at (i := 26) (v := ?_) (some 76) rfl rfl (by kernel_rfl) (by kernel_rfl) (by kernel_rfl) (fun _ _ _ h => h) (by rfl) ?_ (by assumption) ?_
            rotate_left
            · intro w hSw
              (try dsimp only at hSw)
              go_simp
              try (with_reducible rfl)
            (try simp only [Act.put, List.setIfInBounds_toArray, List.set_cons_zero, List.set_cons_succ])
            refine take_at (i := 27) (v := ?_) (some 77) rfl rfl (by kernel_rfl) (by kernel_rfl) (by kernel_rfl) (fun _ _ _ h => h) (by rfl) ?_ (by assumption) ?_
            rotate_left
            · intro w hSw
              (try dsimp only at hSw)
              go_simp
              try (with_reducible rfl)
            (try simp only [Act.put, List.setIfInBounds_toArray, List.set_cons_zero, List.set_cons_succ])
            refine take_at (i := 28) (v := ?_) (some 78) rfl rfl (by kernel_rfl) (by kernel_rfl) (by kernel_rfl) (fun _ _ _ h => h) (by rfl) ?_ (by assumption) ?_
            rotate_left
            · intro w hSw
              (try dsimp only at hSw)
              go_simp
              try (with_reducible rfl)
            (try simp only [Act.put, List.setIfInBounds_toArray, List.set_cons_zero, List.set_cons_succ])
            refine take_at (i := 30) (v := ?_) (some 80) rfl rfl (by kernel_rfl) (by kernel_rfl) (by kernel_rfl) (fun _ _ _ h => h) (by rfl) ?_ (by assumption) ?_
            rotate_left
            · intro w hSw
              (try dsimp only at hSw)
              go_simp
              try (with_reducible rfl)
            (try simp only [Act.put, List.setIfInBounds_toArray, List.set_cons_zero, List.set_cons_succ])
            refine take_at (i := 31) (v := ?_) (some 81) rfl rfl (by kernel_rfl) (by kernel_rfl) (by kernel_rfl) (fun _ _ _ h => h) (by rfl) ?_ (by assumption) ?_
            rotate_left
            · intro w hSw
              (try dsimp only at hSw)
              go_simp
              try (with_reducible rfl)
            (try simp only [Act.put, List.setIfInBounds_toArray, List.set_cons_zero, List.set_cons_succ])
            refine take_at (i := 32) (v := ?_) (some 82) rfl rfl (by kernel_rfl) (by kernel_rfl) (by kernel_rfl) (fun _ _ _ h => h) (by rfl) ?_ (by assumption) ?_
            rotate_left
            · intro w hSw
              (try dsimp only at hSw)
              go_simp
              try (with_reducible rfl)
            (try simp only [Act.put, List.setIfInBounds_toArray, List.set_cons_zero, List.set_cons_succ])
            refine take_at (i := 33) (v := ?_) (some 83) rfl rfl (by kernel_rfl) (by kernel_rfl) (by kernel_rfl) (fun _ _ _ h => h) (by rfl) ?_ (by assumption) ?_
            rotate_left
            · intro w hSw
              (try dsimp only at hSw)
              go_simp
              try (with_reducible rfl)
            (try simp only [Act.put, List.setIfInBounds_toArray, List.set_cons_zero, List.set_cons_succ])
            refine take_at (i := 34) (v := ?_) (some 84) rfl rfl (by kernel_rfl) (by kernel_rfl) (by kernel_rfl) (fun _ _ _ h => h) (by rfl) ?_ (by assumption) ?_
            rotate_left
            · intro w hSw
              (try dsimp only at hSw)
              go_simp
              try (with_reducible rfl)
            (try simp only [Act.put, List.setIfInBounds_toArray, List.set_cons_zero, List.set_cons_succ])
            refine take_at (i := 36) (v := ?_) (some 86) rfl rfl (by kernel_rfl) (by kernel_rfl) (by kernel_rfl) (fun _ _ _ h => h) (by rfl) ?_ (by assumption) ?_
            rotate_left
            · intro w hSw
              (try dsimp only at hSw)
              go_simp
              try (with_reducible rfl)
            (try simp only [Act.put, List.setIfInBounds_toArray, List.set_cons_zero, List.set_cons_succ])
            refine take_at (i := 37) (v := ?_) (some 87) rfl rfl (by kernel_rfl) (by kernel_rfl) (by kernel_rfl) (fun _ _ _ h => h) (by rfl) ?_ (by assumption) ?_
            rotate_left
            · intro w hSw
              (try dsimp only at hSw)
              go_simp
              try (with_reducible rfl)
            (try simp only [Act.put, List.setIfInBounds_toArray, List.set_cons_zero, List.set_cons_succ])
            refine take_at (i := 38) (v := ?_) (some 88) rfl rfl (by kernel_rfl) (by kernel_rfl) (by kernel_rfl) (fun _ _ _ h => h) (by rfl) ?_ (by assumption) ?_
            rotate_left
            · intro w hSw
              (try dsimp only at hSw)
              go_simp
              try (with_reducible rfl)
            (try simp only [Act.put, List.setIfInBounds_toArray, List.set_cons_zero, List.set_cons_succ])
            refine take_at (i := 39) (v := ?_) (some 89) rfl rfl (by kernel_rfl) (by kernel_rfl) (by kernel_rfl) (fun _ _ _ h => h) (by rfl) ?_ (by assumption) ?_
            rotate_left
            · intro w hSw
              (try dsimp only at hSw)
              go_simp
              try (with_reducible rfl)
            (try simp only [Act.put, List.setIfInBounds_toArray, List.set_cons_zero, List.set_cons_succ])
            refine call_at (i := 29) (by kernel_rfl) rfl (fun K hK => ?_)
            go_simp
            refine IY.out.mono ?_
            rintro e wA ⟨rfl, rfl⟩
            (try go_wp2_with fail)
            refine hK.out _ _ kk0 (fun hHeld => ?_)
            clear hK K
            (try simp only [Act.put, List.setIfInBounds_toArray, List.set_cons_zero, List.set_cons_succ])
            refine call_at (i := 35) (by kernel_rfl) rfl (fun K hK => ?_)
            go_simp
            refine NY.out.mono ?_
            rintro e w7 ⟨v7, n2, rfl, l1, l2, l3⟩
            obtain ⟨b7, m7, c7, rfl⟩ : ∃ b n c, v7 = .slice b n c := (by obtain ⟨b', cap', h, _⟩ := l2.1.strs; exact ⟨_, _, _, h⟩)
            have HN2 := Lib.hid (And.intro l1 (And.intro l2 l3))
            have kk7 : w7.cell? ⟨Bz, off + k, none⟩ = some (.string y) := (l2.2.2.cell (p := ⟨Bz, off + k, none⟩) (World.block_lt_of_cell? _ _ kk0)).trans kk0
            have IZ3 : Hid (Calls Try.prog 21 #[.slice b7 m7 c7, .string y] w7 fun e w' => e = .returned (.bool false) ∧ w7 = w') := Lib.hid (by
              obtain ⟨b', c', he, _, _, st⟩ := l2.1.strs
              have h := in08_any b' c' n2 y w7 st (by omega)
              rw [IZ2.out n2 l1, ← he] at h
              exact h)
            clear l1 l2 l3
            (try go_wp2_with fail)
            refine hK.out _ _ kk7 (fun hHeld => ?_)
            clear hK K
            (try simp only [Act.put, List.setIfInBounds_toArray, List.set_cons_zero, List.set_cons_succ])
            refine call_at (i := 40) (by kernel_rfl) rfl (fun K hK => ?_)
            go_simp
            refine IZ3.out.mono ?_
            rintro e wA ⟨rfl, rfl⟩
            (try go_wp2_with fail)
            refine hK.out _ _ kk7 (fun hHeld => ?_)
            clear hK K
            (try simp only [Act.put, List.setIfInBounds_toArray, List.set_cons_zero, List.set_cons_succ])
            refine take_at (i := 41) (v := ?_) (some 91) rfl rfl (by kernel_rfl) (by kernel_rfl) (by kernel_rfl) (fun _ _ _ h => h) (by rfl) ?_ (by assumption) ?_
            rotate_left
            · intro w hSw
              (try dsimp only at hSw)
              go_simp
              try (with_reducible rfl)
            (try simp only [Act.put, List.setIfInBounds_toArray, List.set_cons_zero, List.set_cons_succ])
            refine take_at (i := 42) (v := ?_) (some 92) rfl rfl (by kernel_rfl) (by kernel_rfl) (by kernel_rfl) (fun _ _ _ h => h) (by rfl) ?_ (by assumption) ?_
            rotate_left
            · intro w hSw
              (try dsimp only at hSw)
              go_simp
              try (with_reducible rfl)
            (try simp only [Act.put, List.setIfInBounds_toArray, List.set_cons_zero, List.set_cons_succ])
            refine wpAnyH_done (by kernel_rfl) ?_ _

            have HB9 := Lib.hid (HB8.out.trans (HN2.out.2.1.2.2.mono HB8.out.size))
            clear HN2 IZ3 NY IY kk7
            go_wp2_with fail
            go_roundw
            case rel => exact ⟨k + 1, by omega, by go_num, HB9⟩
            case measure => simp [intOf]; omega
          · have hyz : y ≠ z := fun e => hki (by
              subst e
              exact nodup_at HIK.out.1.nodup hy HZ.out)
            have tki : ((k : Int) == (i : Int)) = false := by simp; omega
            have tki' : ((k : Int) != (i : Int)) = true := by simp [bne, tki]
            obtain ⟨r1, hr1⟩ : ∃ r1, memB n1 y = r1 := ⟨_, rfl⟩
            have t70 : decide ((0 : Int) < ((cntB l z y : Nat) : Int)) = r1 := by rw [← near_cnt J1.out hyz]; exact hr1
            rw [hr1] at IY
            have IZ2 : Hid (∀ (n2 : List ByteArray), NearOf l y n2 → memB n2 z = r1) := Lib.hid (fun n2 hn2 => by rw [← IZ.out n2 hn2, hr1])
            generalize ((cntB l z y : Nat) : Int) = g2 at *
            have t71 : (r1 != r1) = false := by simp
            have kk0 : wr.drew.cell? ⟨Bz, off + i, none⟩ = some (.string z) ∧ wr.drew.cell? ⟨Bz, off + k, none⟩ = some (.string y) := ⟨czk, cy⟩
            clear hy hym hys hBy hrk hr3 hd3 hd5 HRK IZ hr1 hyz hki
            go_wp2_with fail
            go_region_held3 (fun X => X.cell? ⟨Bz, off + i, none⟩ = some (.string z) ∧ X.cell? ⟨Bz, off + k, none⟩ = some (.string y)) (first | assumption | exact kk0 | exact kk7 | go_keep)
              (first
                | (go_at_call 21
                   (with_reducible refine IY.out.mono ?_)
                   rintro e wA ⟨rfl, rfl⟩)
                | (go_at_call 12
                   (with_reducible refine CY.out.mono ?_)
                   rintro e wA ⟨rfl, rfl⟩)
                | (go_at_call 20
                   (with_reducible refine NY.out.mono ?_)
                   rintro e w7 ⟨v7, n2, rfl, l1, l2, l3⟩
                   obtain ⟨b7, m7, c7, rfl⟩ : ∃ b n c, v7 = .slice b n c := (by obtain ⟨b', cap', h, _⟩ := l2.1.strs; exact ⟨_, _, _, h⟩)
                   have HN2 := Lib.hid (And.intro l1 (And.intro l2 l3))
                   have kk7 : w7.cell? ⟨Bz, off + i, none⟩ = some (.string z) ∧ w7.cell? ⟨Bz, off + k, none⟩ = some (.string y) := ⟨(l2.2.2.cell (p := ⟨Bz, off + i, none⟩) (World.block_lt_of_cell? _ _ kk0.1)).trans kk0.1, (l2.2.2.cell (p := ⟨Bz, off + k, none⟩) (World.block_lt_of_cell? _ _ kk0.2)).trans kk0.2⟩
                   have IZ3 : Hid (Calls Try.prog 21 #[.slice b7 m7 c7, .string z] w7 fun e w' => e = .returned (.bool r1) ∧ w7 = w') := Lib.hid (by
                     obtain ⟨b', c', he, _, _, st⟩ := l2.1.strs
                     have h := in08_any b' c' n2 z w7 st (by omega)
                     rw [IZ2.out n2 l1, ← he] at h
                     exact h)
                   clear l1 l2 l3)
                | (go_at_call 21
                   (with_reducible refine IZ3.out.mono ?_)
                   rintro e wA ⟨rfl, rfl⟩)
                | fail)
            have HB9 := Lib.hid (HB8.out.trans (HN2.out.2.1.2.2.mono HB8.out.size))
            clear HN2 IZ3 NY IY kk7
            go_wp2_with fail
            go_roundw
            case rel => exact ⟨k + 1, by omega, by go_num, HB9⟩
            case measure => simp [intOf]; omega
        · go_wp2_with fail
          go_roundw
          case rel => exact ⟨i + 1, by omega, by go_num, Lib.hid (B5.out.trans (HRK.out.mono B5.out.size))⟩
          case measure => simp [intOf]; omega
    · have BW := Lib.hid (B4.out.trans (HR.out.mono B4.out.size))
      have H9 : Hid (Here K17 w wr [.tab t (cntF (l.drop 0)), .box p [.pointer (some ⟨t, 0, none⟩), .bool false] 52]) := Lib.hid (H3.out.step_bel BW.out)
      clear HR
      go_wp2_with fail
      go_loopw [8] (fun c wr => ∃ k : Nat, k ≤ n ∧ c = .int .i64 k ∧ Hid (Here K17 w wr [.tab t (cntF (l.drop k)), .box p [.pointer (some ⟨t, 0, none⟩), .bool false] 52])) (fun c _ => n - (intOf c).toNat)
      case atStart => exact ⟨0, by omega, rfl, H9⟩
      case round =>
        obtain ⟨k, hk, rfl, HR⟩ := hrel
        clear H9
        by_cases hkt : k < n
        · obtain ⟨s, hs⟩ : ∃ s, l[k]? = some s := ⟨l[k]'(by have := HN.out; omega), List.getElem?_eq_getElem _⟩
          have hS := HSV.out.bel HR.out.bel
          obtain ⟨B, off, rfl, hB, d0, d1, d2, d3⟩ := svAt hS hs
          have hsm := List.mem_of_getElem? hs
          have HD := Lib.hid (cntF_drop hs)
          have hk0 : (0 : Int) ≤ (k : Int) := by omega
          have hk1 : (k : Int) < (n : Int) := by omega
          have RM := Lib.hid (q_remove_no (i := 1) (j := 0) HR.out rfl rfl (cntF_small (by rw [List.length_drop, HN.out]; omega)) s (hS.o s hsm).st (hS.o s hsm).sz (by have := (HIT.out s hsm).1; omega))
          rw [can_drop hs, if_pos rfl, HD.out] at RM
          clear hs hS hsm hB HD
          go_wp2_with fail
          refine RM.out.mono ?_
          rintro e w6 ⟨rfl, h6⟩
          have H6 := Lib.hid h6
          clear h6 RM HR d0 d1 d2 d3
          go_wp2_with fail
          go_roundw
          case rel => exact ⟨k + 1, by omega, by go_num, H6⟩
          case measure => simp [intOf]; omega
        · have hE : cntF (l.drop k) = zC := by
            rw [List.drop_eq_nil_of_le (by have := HN.out; omega)]; rfl
          have PE := Lib.hid (pitems_any (pr_here HR.out (i := 1) (j := 0) rfl rfl) [] (fun z hz => by rw [hE] at hz; exact absurd rfl hz) (by simp))
          have BE := Lib.hid HR.out.bel
          rw [hE] at PE
          clear HR hE
          go_wp2_with fail
          refine PE.out.mono ?_
          rintro e w6 ⟨v6, n6, rfl, q1, q2, q3⟩
          have h0 : n6 = [] := List.eq_nil_iff_forall_not_mem.2 (fun z hz => (q2 z).1 hz rfl)
          subst h0
          have BE2 := Lib.hid (Below.trans' BE.out q3.2.2)
          obtain ⟨b6, c6, rfl, _⟩ := q3.1.strs
          clear q1 q2 q3 PE
          simp only [List.length_nil]
          go_wp2_with fail
          go_ret
          exact ⟨rfl, BE2.out⟩

theorem own : ownKnob Try.prog.godebug = none := by kernel_rfl
theorem laidOut : laidOutB Try.prog = true := by kernel_rfl

set_option maxRecDepth 100000 in
theorem lifted (os : Os) (started : os.Started) (H : Type) (enc : TypeId × Value → H) :
    ReturnsInHanded {} Try.checked os 6 .any (Rows.pairsNearSpec.pre6 enc Try.prog Try.f6 Rows.pairsNearRow.domain false) (Rows.pairsNearSpec.post enc Try.prog Try.f6 false true false false) := by
  refine returnsInHanded_of_change (C := Try.checked) own started (by kernel_rfl) Try.func6
    (ChangeSpec.witness6 (enc := enc) (C := Try.checked) false ⟨#[], #[.slice none 0 0], []⟩ 8 (by kernel_rfl) (by kernel_rfl) (by kernel_rfl) (by kernel_rfl)) ?_
  intro W base args ds gs before hval0 hW hcnd _
  have hval : ∀ (j : Nat) t v, Try.f6.params[j]? = some t → args[j]? = some v → Value.okWide Try.prog W .any base t v := hval0
  have hW' := hW
  obtain ⟨p, q, hA0, hV, rfl, hfz, hnd⟩ := hW
  have hA : DataW.TrodAll enc Try.prog W 0 (fun _ => true) true Try.f6.params.toList args.toList ds p := hA0
  rw [Try.params6] at hA hval
  obtain ⟨v0, vs0, d0, ds0, p0, q0, hargs, rfl, rfl, h0, r0⟩ := trodAll_cons hA
  obtain ⟨rfl, rfl, rfl⟩ := trodAll_nil r0
  obtain rfl : args = #[v0] := by cases args; simp_all
  obtain ⟨rfl, rfl⟩ := trodVars_none hV
  have k0 := h0
  have lt0 : ∀ x ∈ p0, x.block < W.heap.size := by obtain ⟨m, hm⟩ := k0; exact DataW.trod_lt m _ _ _ hm
  obtain ⟨b0, c0, x0, rfl, l0, m0, i0, o0⟩ := open_svs (hval 0 22 v0 rfl rfl) h0
  clear hA0 hval0
  refine (walk W b0 c0 x0 l0 m0 i0 o0).mono fun e W' ⟨he, bel⟩ => ?_
  subst he
  exact ⟨_, rfl, _, _, _, [], _, [], hW', trodAll_mk1 (shut_bool Try.underlying4 _), (trodAll_cons_mk (Below.trod laidOut (by kernel_rfl) (of_decide_eq_true (by kernel_rfl)) k0 bel lt0) trodAll_mk0), rfl, bel.frame _, fun h => by cases h⟩

theorem over : Rows.pairsNearRow.holds Try.pinned (OpenSpec.ofChange Rows.pairsNearSpec) :=
  OpenClaim.holds_of_wide 6 Try.f6 rfl rfl rfl rfl rfl rfl rfl ⟨rfl, rfl, rfl, rfl, rfl⟩ rfl rfl rfl rfl rfl (by kernel_rfl) Try.func6 (by kernel_rfl)
    (of_decide_eq_true (by kernel_rfl)) (by unfold Func.isWrapper; first | (rw [if_pos (by decide +kernel)]; kernel_rfl) | (rw [if_neg (by decide +kernel)]; exact ⟨rfl, rfl⟩))
    (fun os started H enc _ => lifted os started H enc)

theorem proved : Rows.PairsNearSaid := over
#print axioms proved
end Go.Proofs.Ytnpjihbaebbbcaa.pairsNear

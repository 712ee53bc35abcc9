/- The law's own functions of layer 45: even, joined. -/
import Derived.Test.YtgflfjmlhapplaaAHere
namespace Go.Proofs.Ytgflfjmlhapplaa
open Go.RowKit Go.MapKept Go.Maps
set_option linter.unusedVariables false
set_option maxRecDepth 100000 in
set_option maxHeartbeats 8000000 in
theorem even_any (p : Nat) (Bl : List Nat) (b : Option Addr) (cap : Nat) (l : List Two) (x : ByteArray) (w : World) (ha : AlAt w p Bl l) (h : InW w b 2 (l.map twoC)) (hl : l.length ≤ 100) (ho : ∀ p ∈ l, okTwo p) (hx : x.size ≤ 1000) :
    Calls Try.prog 15 #[.pointer (some ⟨p, 0, none⟩), .slice b l.length cap, .string x] w fun e w' => e = .returned (.bool true) ∧ Below w.heap.size w w' := by
  obtain ⟨i0, hi0T, hz0, hz1, hz2⟩ := info_parts infoText
  have HIW := Lib.hid h
  have HO := Lib.hid ho
  have HES := Lib.hid (evenT_size hx ho)
  have HEL := Lib.hid (evenT_len x l)
  have NA : Hid (∀ W z, Below w.heap.size w W → z.size ≤ 1000 → Calls Try.prog 18 #[.pointer (some ⟨p, 0, none⟩), .string z] W fun e w' => e = .returned (.string (nameR l z)) ∧ W = w') := Lib.hid (fun W z hb hz => name_at (ha.bel hb) z hz)
  have NR : Hid (∀ W z, Below w.heap.size w W → z.size ≤ 1000 → Calls Try.prog 30 #[.slice b l.length cap, .string z] W fun e w' => e = .returned (.string (nameR l z)) ∧ Below W.heap.size W w') := Lib.hid (fun W z hb hz => rnm_any b cap l z W (InW.bel h hb) (by omega) ho hz)
  have GA : Hid (∀ W z, Below w.heap.size w W → z.size ≤ 1000 → Calls Try.prog 17 #[.pointer (some ⟨p, 0, none⟩), .string z] W fun e w' => ∃ v, e = .returned v ∧ MkT W w' v (groupR l z)) := Lib.hid (fun W z hb hz => group_at (ha.bel hb) (by omega) z hz)
  have GR : Hid (∀ W z, Below w.heap.size w W → z.size ≤ 1000 → Calls Try.prog 13 #[.slice b l.length cap, .string z] W fun e w' => ∃ v, e = .returned v ∧ MkT W w' v (groupR l z)) := Lib.hid (fun W z hb hz => rgroup_any b cap l z W (InW.bel h hb) (by omega) ho hz)
  have CA : Hid (∀ W, Below w.heap.size w W → Calls Try.prog 26 #[.pointer (some ⟨p, 0, none⟩)] W fun e w' => e = .returned (.int .i64 (countN l l).length) ∧ Below W.heap.size W w') := Lib.hid (fun W hb => count_at (ha.bel hb) (by omega))
  have CR : Hid (∀ W, Below w.heap.size w W → Calls Try.prog 31 #[.slice b l.length cap] W fun e w' => e = .returned (.int .i64 (countN l l).length) ∧ Below W.heap.size W w') := Lib.hid (fun W hb => rcount_any b cap l W (InW.bel h hb) (by omega) ho)
  have HGL := Lib.hid (fun z => group_len l z)
  have HMK : Hid (MkT w (w.alloc (.cells #[.string x] 9)) (.slice (some ⟨w.heap.size, 0, none⟩) 1 1) (evenT x (l.take 0))) := Lib.hid ⟨row_of_bk (Bk.new w [.string x] 9) rfl (Nat.le_refl _) (by unfold maxLen; omega) rfl, own_at (Nat.le_refl _), (Below.refl w.heap.size w).alloc (Nat.le_refl _) (.cells #[.string x] 9)⟩
  have HEND : Hid (l.take l.length = l) := Lib.hid (List.take_length)
  clear ha h ho
  generalize (countN l l).length = cn at *
  generalize hn : l.length = n at *
  have Hn := Lib.hid hn
  clear hn
  go_enter Try.func15, Try.ntmps15
  go_wp2_with fail
  go_loopw [7, 8] (fun u c wr => ∃ i : Nat, i ≤ n ∧ c = .int .i64 i ∧ MkT w wr u (evenT x (l.take i))) (fun _ c _ => n - (intOf c).toNat)
  case atStart => exact ⟨0, by omega, rfl, HMK.out⟩
  case round =>
    obtain ⟨i, hi, rfl, hmi⟩ := hrel
    have HMI := Lib.hid hmi
    clear hmi
    by_cases hlt : i < n
    · obtain ⟨q, hq⟩ : ∃ p, l[i]? = some p := ⟨l[i]'(by rw [Hn.out]; exact hlt), List.getElem?_eq_getElem _⟩
      obtain ⟨B, off, rfl, hB, d0, d1⟩ := twos_at HIW.out hq
      have c0 := (HMI.out.bl.cell (p := ⟨B, off + i * 2, none⟩) hB).trans d0
      have c1 := (HMI.out.bl.cell (p := ⟨B, off + i * 2 + 1, none⟩) hB).trans d1
      have hi0 : (0 : Int) ≤ (i : Int) := by omega
      have hi1 : (i : Int) < (n : Int) := by omega
      have HSN : Hid (evenT x (l.take (i + 1)) = evenT x (l.take i) ++ [q.1, q.2]) := Lib.hid (by
        rw [List.take_add_one, hq]
        exact evenT_snoc _ _ _)
      have hel : (evenT x (l.take i)).length ≤ 1 + 2 * n := by rw [evenT_len, List.length_take]; omega
      have HLN : Hid ((evenT x (l.take i)).length + [q.1, q.2].length ≤ 1000000) := Lib.hid (by simp only [List.length_cons, List.length_nil]; omega)
      have HROW : Hid ((wr.alloc (.cells #[.string q.1, .string q.2] 9)).drew.ownsRow 0 9 1 u7 (evenT x (l.take i)).length ((evenT x (l.take i)).flatMap tC)) := Lib.hid (HMI.out.alloc _).drew.tx.flat
      have HM2 := Lib.hid (HMI.out.alloc (.cells #[.string q.1, .string q.2] 9)).drew
      have HIN : Hid (InW (wr.alloc (.cells #[.string q.1, .string q.2] 9)).drew (some ⟨wr.heap.size, 0, none⟩) 1 ([q.1, q.2].map tC)) := Lib.hid (.inr ⟨wr.heap.size, 0, rfl, by simp, fun i' c hc j u hj => by
        have hb := Bk.new wr [.string q.1, .string q.2] 9
        match i', hc with
        | 0, hc => cases hc; match j, hj with
                   | 0, hj => cases hj; exact hb.cell 0
        | 1, hc => cases hc; match j, hj with
                   | 0, hj => cases hj; exact hb.cell 1⟩)
      have HCW : Hid (∀ W, Below w.heap.size w W → W.cell? ⟨B, off + i * 2, none⟩ = some (.string q.1) ∧ W.cell? ⟨B, off + i * 2 + 1, none⟩ = some (.string q.2)) := Lib.hid (fun W hb => ⟨(hb.cell (p := ⟨B, off + i * 2, none⟩) hB).trans d0, (hb.cell (p := ⟨B, off + i * 2 + 1, none⟩) hB).trans d1⟩)
      clear hq d0 d1 hel
      generalize evenT x (l.take i) = o at *
      go_wp2_with fail
      go_region_held3 (fun X => X.cell? ⟨B, off + i * 2, none⟩ = some (.string q.1) ∧ X.cell? ⟨B, off + i * 2 + 1, none⟩ = some (.string q.2)) (first | assumption | go_keep)
        ((refine step_append_m tLen tOne (by rfl) _ _ _ (by rfl) 9 i0 _ 16 Try.underlying31 hi0T hz0 hz1 hz2 rfl (by decide) (by omega) u7 o [q.1, q.2] (by rfl) HROW.out (some ⟨wr.heap.size, 0, none⟩) 2 2 (by rfl) rfl HIN.out HLN.out ?_
          intro v5 w5 o5 f5 h5
          have HM5 := Lib.hid (HM2.out.more o5 f5 h5)
          have hS5 : w5.cell? ⟨B, off + i * 2, none⟩ = some (.string q.1) ∧ w5.cell? ⟨B, off + i * 2 + 1, none⟩ = some (.string q.2) := HCW.out w5 HM5.out.bl
          clear o5 f5 h5))
      go_wp2_with fail
      go_roundw
      case rel => exact ⟨i + 1, by omega, by go_num, by rw [HSN.out]; exact HM5.out⟩
      case measure => simp [intOf]; omega
    · obtain rfl : i = n := by omega
      rw [HEND.out] at HMI
      have HIW := 0
      clear HMK HEND
      obtain ⟨al, hal⟩ : ∃ al, evenT x l = al := ⟨_, rfl⟩
      rw [hal] at HMI HES HEL
      clear hal
      obtain ⟨ub, uc, hu7, _, _, _⟩ := HMI.out.tx.strs
      rw [HEL.out] at hu7
      subst hu7
      go_wp2_with fail
      go_loopw [9] (fun c wr => ∃ j : Nat, j ≤ 1 + 2 * i ∧ c = .int .i64 j ∧ MkT w wr (.slice ub (1 + 2 * i) uc) al) (fun c _ => 1 + 2 * i - (intOf c).toNat)
      case atStart => exact ⟨0, by omega, rfl, HMI.out⟩
      case round =>
        obtain ⟨j, hj, rfl, hmj⟩ := hrel
        have HMJ := Lib.hid hmj
        clear hmj
        by_cases hlt2 : j < 1 + 2 * i
        · obtain ⟨z, hz⟩ : ∃ z, al[j]? = some z := ⟨al[j]'(by rw [HEL.out]; exact hlt2), List.getElem?_eq_getElem _⟩
          have hzs := HES.out z (List.mem_of_getElem? hz)
          have hgl := HGL.out z
          obtain ⟨B, c', hub, hB, d0⟩ := HMJ.out.tx.at' hz
          have HCW : Hid (∀ W, Below wr.heap.size wr W → W.cell? ⟨B, j, none⟩ = some (.string z)) := Lib.hid (fun W hb => (hb.cell (p := ⟨B, j, none⟩) hB).trans d0)
          have hub2 : ub = some ⟨B, 0, none⟩ := by simp only [Value.slice.injEq] at hub; exact hub.1
          subst hub2
          have hdr := bdrewN (Below.refl wr.heap.size wr) 1
          have e0 := HCW.out wr.drew hdr
          have hj0 : (0 : Int) ≤ (j : Int) := by omega
          have hj1 : (j : Int) < 1 + 2 * (i : Int) := by omega
          have A1 := Lib.hid (NA.out wr.drew z HMJ.out.drew.bl hzs)
          have A2 := Lib.hid (NR.out wr.drew z HMJ.out.drew.bl hzs)
          clear hz hub d0
          generalize nameR l z = nz at *
          go_wp2_with fail
          go_region_held3 (fun X => X.cell? ⟨B, j, none⟩ = some (.string z)) (first | assumption | go_keep)
            (first
              | (go_at_call 18
                 (with_reducible refine A1.out.mono ?_)
                 rintro e wx ⟨rfl, rfl⟩)
              | (go_at_call 30
                 (with_reducible refine A2.out.mono ?_)
                 rintro e w1 ⟨rfl, b1⟩
                 have M1 := Lib.hid (HMJ.out.drew.bel b1)
                 have B1 := Lib.hid (hdr.trans (b1.mono hdr.size))
                 have hS1 := HCW.out w1 B1.out
                 have A3 := Lib.hid (GA.out w1 z M1.out.bl hzs)
                 clear b1)
              | (go_at_call 17
                 (with_reducible refine A3.out.mono ?_)
                 rintro e w2 ⟨v2, rfl, m2⟩
                 have G2 := Lib.hid m2
                 have M2 := Lib.hid (M1.out.bel m2.bl)
                 have B2 := Lib.hid (B1.out.trans (m2.bl.mono B1.out.size))
                 have hS2 := HCW.out w2 B2.out
                 have A4 := Lib.hid (GR.out w2 z M2.out.bl hzs)
                 clear m2)
              | (go_at_call 13
                 (with_reducible refine A4.out.mono ?_)
                 rintro e w3 ⟨v3, rfl, m3⟩
                 have g2' := G2.out.tx.bel m3.bl
                 have hq2 := g2'.strs
                 have hq3 := m3.tx.strs
                 obtain ⟨gb2, gc2, e2, _, _, s2⟩ := hq2
                 obtain ⟨gb3, gc3, e3, _, _, s3⟩ := hq3
                 have htx := texts_any gb2 gb3 (groupR l z).length (groupR l z).length gc2 gc3 (groupR l z) (groupR l z) w3 s2 s3 rfl rfl (by omega) (by omega)
                 rw [decide_eq_true rfl, ← e2, ← e3] at htx
                 have TX := Lib.hid htx
                 have M3 := Lib.hid (M2.out.bel m3.bl)
                 have B3 := Lib.hid (B2.out.trans (m3.bl.mono B2.out.size))
                 have hS3 := HCW.out w3 B3.out
                 clear m3 g2' s2 s3 e2 e3 htx)
              | (go_at_call 25
                 (with_reducible refine TX.out.mono ?_)
                 rintro e w4 ⟨rfl, q4, hw4⟩
                 have m4 := M3.out.drewN q4
                 rw [← hw4] at m4
                 have b4 := bdrewN B3.out q4
                 rw [← hw4] at b4
                 have M4 := Lib.hid m4
                 have hS4 := HCW.out w4 b4
                 clear m4 b4 hw4)
              | fail)
          go_wp2_with fail
          go_roundw
          case rel => exact ⟨j + 1, by omega, by go_num, M4.out⟩
          case measure => simp [intOf]; omega
        · obtain rfl : j = 1 + 2 * i := by omega
          have A1 := Lib.hid (CA.out wr HMJ.out.bl)
          have t1 : decide (((1 + 2 * i : Nat) : Int) < ((1 + 2 * i : Nat) : Int)) = false := decide_eq_false (by omega)
          go_wp2_with fail
          refine A1.out.mono ?_
          rintro e w1 ⟨rfl, b1⟩
          have M1 := Lib.hid (HMJ.out.bel b1)
          have A2 := Lib.hid (CR.out w1 M1.out.bl)
          clear b1 A1
          go_wp2_with fail
          refine A2.out.mono ?_
          rintro e w2 ⟨rfl, b2⟩
          have M2 := Lib.hid (M1.out.bel b2)
          clear b2 A2
          go_wp2_with fail
          go_ret
          exact ⟨rfl, M2.out.bl⟩
set_option maxHeartbeats 2000000 in
theorem joined_any (b : Option Addr) (cap : Nat) (l : List Two) (w : World) (h : InW w b 2 (l.map twoC)) (hl : l.length ≤ 1000) (ho : ∀ p ∈ l, okTwo p) :
    Calls Try.prog 16 #[.slice b l.length cap] w fun e w' => ∃ p, e = .returned (.pointer (some ⟨p, 0, none⟩)) ∧ Here K45 w w' [.alias p l] := by
  have HIW := Lib.hid h
  have HO := Lib.hid ho
  have NW := Lib.hid (h_new (Here.nil (K := K45) (Below.refl w.heap.size w)))
  have HEND : Hid (l.take l.length = l) := Lib.hid (List.take_length)
  clear h ho
  generalize hn : l.length = n at *
  have Hn := Lib.hid hn
  clear hn
  go_enter Try.func16, Try.ntmps16
  go_wp2_with fail
  refine NW.out.mono ?_
  rintro e w1 ⟨p, rfl, h1⟩
  have H1 : Hid (Here K45 w w1 [.alias p (l.take 0)]) := Lib.hid h1
  clear h1 NW
  go_wp2_with fail
  go_loopw [4] (fun c wr => ∃ i : Nat, i ≤ n ∧ c = .int .i64 i ∧ Here K45 w wr [.alias p (l.take i)]) (fun c _ => n - (intOf c).toNat)
  case atStart => exact ⟨0, by omega, rfl, H1.out⟩
  case round =>
    obtain ⟨i, hi, rfl, hh⟩ := hrel
    have HH := Lib.hid hh
    clear hh
    by_cases hlt : i < n
    · obtain ⟨q, hq⟩ : ∃ p, l[i]? = some p := ⟨l[i]'(by rw [Hn.out]; exact hlt), List.getElem?_eq_getElem _⟩
      have hop := HO.out q (List.mem_of_getElem? hq)
      unfold okTwo at hop
      obtain ⟨B, off, rfl, hB, d0, d1⟩ := twos_at (InW.bel HIW.out HH.out.bel) hq
      have hi0 : (0 : Int) ≤ (i : Int) := by omega
      have hi1 : (i : Int) < (n : Int) := by omega
      have HSN : Hid (l.take (i + 1) = l.take i ++ [(q.1, q.2)]) := Lib.hid (by rw [List.take_add_one, hq]; rfl)
      have JN := Lib.hid (h_join HH.out.drew (i := 0) rfl q.1 q.2 hop.1 hop.2)
      clear hq
      generalize canB (l.take i) q.1 q.2 = cb at *
      go_wp2_with fail
      go_still_tail 11, (by kernel_rfl)
      change wpList _ _ _ _ _ wr.drew
      clear d0 d1
      generalize wr.drew = W2 at *
      go_wp2_with fail
      refine JN.out.mono ?_
      rintro e w3 ⟨rfl, h3⟩
      have H3 : Hid (Here K45 w w3 [.alias p (l.take i ++ [(q.1, q.2)])]) := Lib.hid h3
      clear h3 JN
      go_wp2_with fail
      go_roundw
      case rel => exact ⟨i + 1, by omega, by go_num, by rw [HSN.out]; exact H3.out⟩
      case measure => simp [intOf]; omega
    · obtain rfl : i = n := by omega
      rw [HEND.out] at HH
      go_wp2_with fail
      go_ret
      exact ⟨p, rfl, HH.out⟩
end Go.Proofs.Ytgflfjmlhapplaa

/- Contract of the document's Keys: the walk. -/
import Derived.Test.YtdmcbndkfnlcjaaPRef4
import Derived.Test.YtdmcbndkfnlcjaaInsR
namespace Go.Proofs.Ytdmcbndkfnlcjaa
open Go.RowKit Go.MapKept Go.Maps
set_option linter.unusedVariables false
theorem putB_in {ks : List ByteArray} {k : ByteArray} {be : Nat} (h : belowB ks k = be) (hy : ks[be]? ≠ some k) : putB ks k = (([] ++ ks.take be) ++ [k]) ++ ks.drop be := by
  unfold putB; rw [h, if_neg hy]; simp
structure KeysIn (w wr : World) (A : List Ad) (lo hi : Int) (i : Nat) (u : Value) (ks : List ByteArray) : Prop where
  so : SoFar A lo hi i ks
  tx : TextsAt wr u ks
  nw : ∀ b, u.ownBlock = some b → w.heap.size ≤ b
  bl : Below w.heap.size w wr
theorem KeysIn.skip {w wr : World} {A : List Ad} {lo hi : Int} {i : Nat} {u : Value} {ks : List ByteArray} {a : Ad} (h : KeysIn w wr A lo hi i u ks) (ha : A[i]? = some a) (q : Nat) (hs : psum A a.1 lo hi ≠ 0 → a.1 ∈ ks) : KeysIn w (wr.drewN q) A lo hi (i + 1) u ks :=
  ⟨h.so.skip ha hs, ((Fr.refl none' wr).drewN q).row h.tx (fun _ _ => id), h.nw, bdrewN h.bl q⟩
theorem KeysIn.put {w wr V w7 : World} {A : List Ad} {lo hi : Int} {i : Nat} {u v7 : Value} {ks : List ByteArray} {a : Ad} {be : Nat} (h : KeysIn w wr A lo hi i u ks) (ha : A[i]? = some a) {q : Nat} (hV : wr.drewN q = V) (hs : psum A a.1 lo hi ≠ 0) (hb : belowB ks a.1 = be) (hy : ks[be]? ≠ some a.1)
    (o7 : w7.ownsRow 0 9 1 v7 ((([] ++ ks.take be) ++ [a.1]) ++ ks.drop be).length (((([] ++ ks.take be) ++ [a.1]) ++ ks.drop be).flatMap tC)) (f7 : Fr (fun b => V.heap.size ≤ b) V w7) (n7 : ∀ b, v7.ownBlock = some b → V.heap.size ≤ b) : KeysIn w w7 A lo hi (i + 1) v7 (putB ks a.1) := by
  have hz := h.bl.size
  have hv : V.heap.size = wr.heap.size := by rw [← hV]; rfl
  refine ⟨h.so.put ha hs, ?_, fun b hb => by have := n7 b hb; omega, Fr.belOf (by rw [← hV]; exact bdrewN h.bl q) f7 (fun b hb => by omega)⟩
  unfold TextsAt
  rw [putB_in hb hy, ← tC_flat]
  exact o7
set_option maxRecDepth 100000 in
set_option maxHeartbeats 16000000 in
theorem rkeys_any (m : Nat) (v : Value) (wd cnt : Int) (A : List Ad) (f t : Int) (w : World) (h : RefAt w m v wd cnt A) (hlen : A.length ≤ 1000) (hf : I64 f) (ht : I64 t) :
    Calls Try.prog 24 #[.pointer (some ⟨m, 0, none⟩), .int .i64 f, .int .i64 t] w fun e w' => ∃ v ks, e = .returned v ∧ KeysOf A (f / wd) (t / wd) ks ∧ TextsAt w' v ks ∧ (∀ b, v.ownBlock = some b → w.heap.size ≤ b) ∧ Below w.heap.size w w' := by
  obtain ⟨bv, cv, rfl, _, _, _, _⟩ := inw_of_rowm adLen (by omega) h.row
  obtain ⟨i0, hi0, hz0, hz1, hz2⟩ := info_parts infoText
  have H := Lib.hid h
  have HVI : Hid (∀ W, Below w.heap.size w W → InW W bv 3 (A.map adC)) := Lib.hid (fun W hb => by
    obtain ⟨b', c', h1, _, _, h2, _⟩ := inw_of_rowm adLen (by omega) (h.bel hb).row
    cases h1
    exact h2)
  have HNN : Hid (∀ k lo hi, 0 ≤ psum A k lo hi) := Lib.hid (fun k lo hi => psum_nonneg h.ok k lo hi)
  have HOK := Lib.hid h.ok
  clear h
  generalize hal : A.length = al at *
  have HAL := Lib.hid hal
  clear hal
  obtain ⟨lo, hlo⟩ : ∃ lo, f / wd = lo := ⟨_, rfl⟩
  obtain ⟨hi, hhi⟩ : ∃ hi, t / wd = hi := ⟨_, rfl⟩
  rw [hlo, hhi]
  have HSU : Hid (∀ (k : ByteArray) (W : World), Below w.heap.size w W → Calls Try.prog 25 #[.pointer (some ⟨m, 0, none⟩), .string k, .int .i64 f, .int .i64 t] W fun e w' => e = .returned (.int .i64 (psum A k lo hi)) ∧ ∃ q, w' = W.drewN q) := Lib.hid (fun k W hb => by
    rw [← hlo, ← hhi]
    exact rsum_any m _ wd cnt A k f t W (H.out.bel hb) hf ht)
  clear hlo hhi
  go_enter Try.func24, Try.ntmps24
  go_wp2_with fail
  go_loopw [7, 8] (fun u c wr => ∃ (i : Nat) (ks : List ByteArray), i ≤ al ∧ c = .int .i64 i ∧ KeysIn w wr A lo hi i u ks) (fun _ c _ => al - (intOf c).toNat)
  case atStart => exact ⟨0, [], by omega, rfl, ⟨SoFar.nil A lo hi, own_nil _ _, by simp [Value.ownBlock], Below.refl _ _⟩⟩
  case round =>
    obtain ⟨i, ks, hin, rfl, hki⟩ := hrel
    obtain ⟨bu, cu, rfl, hu1, hu2, hst⟩ := hki.tx.strs
    have hkl := hki.so.len
    have HKI := Lib.hid hki
    have HST := Lib.hid hst
    clear hki hst
    obtain ⟨c0, c1, c2⟩ := (H.out.bel HKI.out.bl).cells
    generalize hkn : ks.length = kn at *
    have Hkn := Lib.hid hkn
    clear hkn
    by_cases hlt : i < al
    · obtain ⟨a, ha⟩ : ∃ a, A[i]? = some a := ⟨A[i]'(by rw [HAL.out]; exact hlt), List.getElem?_eq_getElem _⟩
      obtain ⟨B, off, rfl, d0, d1, d2⟩ := sums_at (HVI.out _ HKI.out.bl) ha
      have HA := Lib.hid ha
      have hi0' : (0 : Int) ≤ (i : Int) := by omega
      have hi1' : (i : Int) < (al : Int) := by omega
      clear ha d1 d2
      have hbel : belowB ks a.1 ≤ kn := by rw [← Hkn.out]; exact belowB_le ks a.1
      have HSUM := Lib.hid (HSU.out a.1 wr HKI.out.bl)
      have hZ0 := HNN.out a.1 lo hi
      generalize hbe : belowB ks a.1 = be at *
      have HBE := Lib.hid hbe
      clear hbe
      generalize hZ : psum A a.1 lo hi = Z at *
      have HZ := Lib.hid hZ
      clear hZ
      have HIN : Hid (∀ j, j < be → ∃ y By oy, bu = some ⟨By, oy, none⟩ ∧ wr.cell? ⟨By, oy + j, none⟩ = some (.string y) ∧ Op.bytesLess y.toList a.1.toList = true) := Lib.hid (fun j hj => by
        obtain ⟨y, hy⟩ : ∃ y, ks[j]? = some y := ⟨ks[j]'(by have := Hkn.out; omega), List.getElem?_eq_getElem _⟩
        obtain ⟨By, oy, e0, _, e1⟩ := HST.out.at hy
        exact ⟨y, By, oy, e0, e1, by rw [bytesLess_lt]; exact decide_eq_true (belowB_lt (by rw [HBE.out]; exact hj) hy)⟩)
      have HTK : Hid ((ks.take be).length = be) := Lib.hid (by rw [List.length_take, Hkn.out]; omega)
      have HDR : Hid ((ks.drop be).length = kn - be) := Lib.hid (by rw [List.length_drop, Hkn.out])
      have HLN : Hid (ks.length ≤ 900000) := Lib.hid (by rw [Hkn.out]; omega)
      have hs1 := fun W => run_slice_from (P := Try.prog) W 35 9 bu kn cu be 1 Try.underlying35 ⟨i0, hi0, hz1⟩ hbel
      have hs2 := fun W => run_slice_to (P := Try.prog) W 35 9 bu kn cu be 1 Try.underlying35 ⟨i0, hi0, hz1⟩ (by omega)
      have HS1 := Lib.hid hs1
      have HS2 := Lib.hid hs2
      clear hs1 hs2
      rcases Nat.lt_or_eq_of_le hbel with hbl | hbl
      · obtain ⟨y, hy⟩ : ∃ y, ks[be]? = some y := ⟨ks[be]'(by have := Hkn.out; omega), List.getElem?_eq_getElem _⟩
        obtain ⟨By, oy, rfl, _, e1y⟩ := HST.out.at hy
        have hnl : Op.bytesLess y.toList a.1.toList = false := by rw [bytesLess_lt]; exact decide_eq_false (belowB_at (by rw [HBE.out]; exact hy))
        have HY := Lib.hid hy
        clear hy
        have hb1 : (be : Int) < (kn : Int) := by omega
        have q1 : (be == kn) = false := by rw [beq_eq_false_iff_ne]; omega
        have q2 : ((be : Int) == (kn : Int)) = false := by rw [beq_eq_false_iff_ne]; omega
        by_cases hz : Z = 0
        · subst hz
          go_wp2_with fail
          go_loop [10] (fun c => ∃ j : Nat, j ≤ be ∧ c = .int .i64 j) (fun c => be - (intOf c).toNat)
          case atStart => exact ⟨0, by omega, rfl⟩
          case round =>
            obtain ⟨j, hj, rfl⟩ := hrel
            by_cases hjt : j < be
            · obtain ⟨y', By', oy', e0, e1, hless⟩ := HIN.out j hjt
              cases e0
              have hj0 : (0 : Int) ≤ (j : Int) := by omega
              have hj1 : (j : Int) < (kn : Int) := by omega
              go_wp2_with fail
              go_round
              case rel => exact ⟨j + 1, by omega, by go_num⟩
              case measure => simp [intOf]; omega
            · obtain rfl : j = be := by omega
              have hj0 : (0 : Int) ≤ (j : Int) := by omega
              clear hjt hj
              go_wp2_with fail
              refine HSUM.out.mono ?_
              rintro e wq ⟨rfl, q, rfl⟩
              go_wp2_with fail
              go_roundw
              case rel => exact ⟨i + 1, _, by omega, by go_num, HKI.out.skip HA.out q (fun h => absurd HZ.out h)⟩
              case measure => simp [intOf]; omega
        · have hzp : 0 < Z := by omega
          clear hz
          by_cases hya : y = a.1
          · rw [hya] at HY e1y hnl
            clear hya
            have q3 : (a.1.toList != a.1.toList) = false := by simp
            go_wp2_with fail
            go_loop [10] (fun c => ∃ j : Nat, j ≤ be ∧ c = .int .i64 j) (fun c => be - (intOf c).toNat)
            case atStart => exact ⟨0, by omega, rfl⟩
            case round =>
              obtain ⟨j, hj, rfl⟩ := hrel
              by_cases hjt : j < be
              · obtain ⟨y', By', oy', e0, e1, hless⟩ := HIN.out j hjt
                cases e0
                have hj0 : (0 : Int) ≤ (j : Int) := by omega
                have hj1 : (j : Int) < (kn : Int) := by omega
                go_wp2_with fail
                go_round
                case rel => exact ⟨j + 1, by omega, by go_num⟩
                case measure => simp [intOf]; omega
              · obtain rfl : j = be := by omega
                have hj0 : (0 : Int) ≤ (j : Int) := by omega
                clear hjt hj
                go_wp2_with fail
                refine HSUM.out.mono ?_
                rintro e wq ⟨rfl, q, rfl⟩
                go_wp2_with fail
                go_roundw
                case rel => exact ⟨i + 1, _, by omega, by go_num, HKI.out.skip HA.out q (fun _ => List.mem_of_getElem? HY.out)⟩
                case measure => simp [intOf]; omega
          · have q3 : (y.toList == a.1.toList) = false := by rw [bytesEq]; exact decide_eq_false hya
            have q4 : (y.toList != a.1.toList) = true := by simp [bne, q3]
            have HYN : Hid (ks[be]? ≠ some a.1) := Lib.hid (by rw [HY.out]; exact fun e => hya (Option.some.inj e))
            clear hya
            go_wp2_with fail
            go_loop [10] (fun c => ∃ j : Nat, j ≤ be ∧ c = .int .i64 j) (fun c => be - (intOf c).toNat)
            case atStart => exact ⟨0, by omega, rfl⟩
            case round =>
              obtain ⟨j, hj, rfl⟩ := hrel
              by_cases hjt : j < be
              · obtain ⟨y', By', oy', e0, e1, hless⟩ := HIN.out j hjt
                cases e0
                have hj0 : (0 : Int) ≤ (j : Int) := by omega
                have hj1 : (j : Int) < (kn : Int) := by omega
                go_wp2_with fail
                go_round
                case rel => exact ⟨j + 1, by omega, by go_num⟩
                case measure => simp [intOf]; omega
              · obtain rfl : j = be := by omega
                have hj0 : (0 : Int) ≤ (j : Int) := by omega
                clear hjt hj
                go_wp2_with fail
                refine HSUM.out.mono ?_
                rintro e wq ⟨rfl, q, rfl⟩
                go_wp2_with fail
                have HS0' : Hid (InW (wr.drewN q) (some ⟨By, oy, none⟩) 1 (ks.map tC)) := Lib.hid (InW.bel (show InW wr (some ⟨By, oy, none⟩) 1 (ks.map tC) from HST.out) (bdrewN (Below.refl _ wr) q))
                obtain ⟨V, hV⟩ : ∃ V, wr.drewN q = V := ⟨_, rfl⟩
                rw [hV] at HS0' ⊢
                have HV := Lib.hid hV
                have HS0 := Lib.hid HS0'.out
                clear hV HS0'
                have HSD : Hid (∀ W, Fr (fun b => V.heap.size ≤ b) V W → InW W (subB (some ⟨By, oy, none⟩) cu j 1) 1 ((ks.drop j).map tC)) := Lib.hid (fun W hF => by
                  rw [List.map_drop]
                  exact subB_inw (inw_fr HS0.out hF) (by rw [List.length_map, Hkn.out]; omega))
                have hs1 := HS1.out
                have hs2 := HS2.out
                generalize subB (some ⟨By, oy, none⟩) cu j 1 = sb at *
                clear c0 c1 c2 d0 HST HSUM HIN
                go_region_held3 (fun _ => True) (trivial)
                  (first
                    | (refine step_append_m tLen tOne (by rfl) (.tmp 62) (.tmp 65) _ (by rfl) 9 i0 _ 16 Try.underlying35 hi0 hz0 hz1 hz2 rfl (by decide) (by omega) (.slice (some ⟨V.heap.size, 0, none⟩) 0 0) [] (ks.take j) (by rfl) (row_empty ((Bk.new V [] 9).fr (Fr.refl none' _).drew id)) (some ⟨By, oy, none⟩) j cu (by rfl) HTK.out.symm (InW.take' (inw_fr HS0.out (((fr_new V).alloc (.cells #[] 9)).drew)) j) (ins_len1 HLN.out) ?_
                       intro v5 w5 o5 f5 h5
                       have O5 := Lib.hid o5
                       have hfa := fr_append (((fr_new V).alloc (.cells #[] 9)).drew) (own_at (by omega)) f5 h5
                       have FR5 := Lib.hid hfa.1
                       have N5 := Lib.hid hfa.2
                       clear o5 f5 h5 hfa)
                    | (refine step_append_m tLen tOne (by rfl) (.tmp 62) (.tmp 65) _ (by rfl) 9 i0 _ 16 Try.underlying35 hi0 hz0 hz1 hz2 rfl (by decide) (by omega) (.slice (some ⟨V.heap.size, 0, none⟩) 0 0) [] (ks.take j) (by rfl) (row_empty (((Bk.new V [] 9).old (.cells #[.string a.1] 9)).fr (Fr.refl none' _).drew id)) (some ⟨By, oy, none⟩) j cu (by rfl) HTK.out.symm (InW.take' (inw_fr HS0.out ((((fr_new V).alloc (.cells #[] 9)).alloc (.cells #[.string a.1] 9)).drew)) j) (ins_len1 HLN.out) ?_
                       intro v5 w5 o5 f5 h5
                       have O5 := Lib.hid o5
                       have hfa := fr_append ((((fr_new V).alloc (.cells #[] 9)).alloc (.cells #[.string a.1] 9)).drew) (own_at (by omega)) f5 h5
                       have FR5 := Lib.hid hfa.1
                       have N5 := Lib.hid hfa.2
                       have HC5 := Lib.hid (inw_one (f := tC) (sz := 1) (x := a.1) (Bk.fr ((Bk.new' V (.cells #[] 9) (tC a.1) 9).fr (Fr.refl none' _).drew id) f5 (by simp [Value.ownBlock])))
                       clear o5 f5 h5 hfa)
                    | (refine step_append_m tLen tOne (by rfl) (.tmp 62) (.tmp 65) _ (by rfl) 9 i0 _ 16 Try.underlying35 hi0 hz0 hz1 hz2 rfl (by decide) (by omega) (.slice (some ⟨V.heap.size + 1, 0, none⟩) 0 0) [] (ks.take j) (by rfl) (row_empty ((Bk.new' V (.cells #[.string a.1] 9) [] 9).fr (Fr.refl none' _).drew id)) (some ⟨By, oy, none⟩) j cu (by rfl) HTK.out.symm (InW.take' (inw_fr HS0.out ((((fr_new V).alloc (.cells #[.string a.1] 9)).alloc (.cells #[] 9)).drew)) j) (ins_len1 HLN.out) ?_
                       intro v5 w5 o5 f5 h5
                       have O5 := Lib.hid o5
                       have hfa := fr_append ((((fr_new V).alloc (.cells #[.string a.1] 9)).alloc (.cells #[] 9)).drew) (own_at (by omega)) f5 h5
                       have FR5 := Lib.hid hfa.1
                       have N5 := Lib.hid hfa.2
                       have HC5 := Lib.hid (inw_one (f := tC) (sz := 1) (x := a.1) (Bk.fr (((Bk.new V (tC a.1) 9).old (.cells #[] 9)).fr (Fr.refl none' _).drew id) f5 (by simp [Value.ownBlock])))
                       clear o5 f5 h5 hfa)
                    | (refine step_append_m tLen tOne (by rfl) (.tmp 66) (.tmp 68) _ (by rfl) 9 i0 _ 16 Try.underlying35 hi0 hz0 hz1 hz2 rfl (by decide) (by omega) v5 ([] ++ ks.take j) [a.1] (by rfl) O5.out (some ⟨V.heap.size + 1, 0, none⟩) 1 1 (by rfl) rfl HC5.out (ins_len2 HLN.out) ?_
                       intro v6 w6 o6 f6 h6
                       have O6 := Lib.hid o6
                       have hfa := fr_append FR5.out N5.out f6 h6
                       have FR6 := Lib.hid hfa.1
                       have N6 := Lib.hid hfa.2
                       clear o6 f6 h6 hfa)
                    | (refine step_append_m tLen tOne (by rfl) (.tmp 66) (.tmp 68) _ (by rfl) 9 i0 _ 16 Try.underlying35 hi0 hz0 hz1 hz2 rfl (by decide) (by omega) v5 ([] ++ ks.take j) [a.1] (by rfl) O5.out (some ⟨V.heap.size, 0, none⟩) 1 1 (by rfl) rfl HC5.out (ins_len2 HLN.out) ?_
                       intro v6 w6 o6 f6 h6
                       have O6 := Lib.hid o6
                       have hfa := fr_append FR5.out N5.out f6 h6
                       have FR6 := Lib.hid hfa.1
                       have N6 := Lib.hid hfa.2
                       clear o6 f6 h6 hfa)
                    | (refine step_append_m tLen tOne (by rfl) (.tmp 66) (.tmp 68) _ (by rfl) 9 i0 _ 16 Try.underlying35 hi0 hz0 hz1 hz2 rfl (by decide) (by omega) v5 ([] ++ ks.take j) [a.1] (by rfl) (((Fr.refl none' w5).alloc (.cells #[.string a.1] 9)).row O5.out (fun _ _ => id)) (some ⟨w5.heap.size, 0, none⟩) 1 1 (by rfl) rfl (inw_one (f := tC) (sz := 1) (x := a.1) (Bk.new w5 (tC a.1) 9)) (ins_len2 HLN.out) ?_
                       intro v6 w6 o6 f6 h6
                       have O6 := Lib.hid o6
                       have hfa := fr_append (FR5.out.alloc (.cells #[.string a.1] 9)) N5.out f6 h6
                       have FR6 := Lib.hid hfa.1
                       have N6 := Lib.hid hfa.2
                       clear o6 f6 h6 hfa)
                    | (refine step_append_m tLen tOne (by rfl) (.tmp 69) (.tmp 72) _ (by rfl) 9 i0 _ 16 Try.underlying35 hi0 hz0 hz1 hz2 rfl (by decide) (by omega) v6 (([] ++ ks.take j) ++ [a.1]) (ks.drop j) (by rfl) O6.out sb (kn - j) (cu - j) (by rfl) HDR.out.symm (HSD.out _ FR6.out) (ins_len3 HLN.out) ?_
                       intro v7 w7 o7 f7 h7
                       have O7 := Lib.hid o7
                       have hfa := fr_append FR6.out N6.out f7 h7
                       have FR7 := Lib.hid hfa.1
                       have N7 := Lib.hid hfa.2
                       have hv7 := inw_of_rowm tLen (by omega) o7
                       obtain ⟨b7, c7, hv7, _, _, _, hn7⟩ := hv7
                       generalize hl7 : ((([] ++ ks.take j) ++ [a.1]) ++ ks.drop j).length = l7 at hv7
                       have HL7 := Lib.hid hl7
                       subst hv7
                       clear o7 f7 h7 hfa hl7 hn7)
                    | fail)
                all_goals
                  clear hs1 hs2
                  go_wp2_with fail
                  go_roundw
                  case rel => exact ⟨i + 1, _, by omega, by go_num, HKI.out.put HA.out HV.out (by rw [HZ.out]; omega) HBE.out HYN.out O7.out FR7.out N7.out⟩
                  case measure => simp [intOf]; omega
      · obtain rfl : be = kn := hbl
        have HYN : Hid (ks[be]? ≠ some a.1) := Lib.hid (by rw [List.getElem?_eq_none (by rw [Hkn.out]; exact Nat.le_refl _)]; intro e; cases e)
        have q1 : decide (be < be) = false := by simp
        rw [Nat.sub_self] at HDR HS1
        clear hbel
        by_cases hz : Z = 0
        · subst hz
          go_wp2_with fail
          go_loop [10] (fun c => ∃ j : Nat, j ≤ be ∧ c = .int .i64 j) (fun c => be - (intOf c).toNat)
          case atStart => exact ⟨0, by omega, rfl⟩
          case round =>
            obtain ⟨j, hj, rfl⟩ := hrel
            by_cases hjt : j < be
            · obtain ⟨y', By', oy', e0, e1, hless⟩ := HIN.out j hjt
              subst e0
              have hj0 : (0 : Int) ≤ (j : Int) := by omega
              have hj1 : (j : Int) < (be : Int) := by omega
              go_wp2_with fail
              go_round
              case rel => exact ⟨j + 1, by omega, by go_num⟩
              case measure => simp [intOf]; omega
            · obtain rfl : j = be := by omega
              have hj0 : (0 : Int) ≤ (j : Int) := by omega
              clear hjt hj
              go_wp2_with fail
              refine HSUM.out.mono ?_
              rintro e wq ⟨rfl, q, rfl⟩
              go_wp2_with fail
              go_roundw
              case rel => exact ⟨i + 1, _, by omega, by go_num, HKI.out.skip HA.out q (fun h => absurd HZ.out h)⟩
              case measure => simp [intOf]; omega
        · have hzp : 0 < Z := by omega
          clear hz
          go_wp2_with fail
          go_loop [10] (fun c => ∃ j : Nat, j ≤ be ∧ c = .int .i64 j) (fun c => be - (intOf c).toNat)
          case atStart => exact ⟨0, by omega, rfl⟩
          case round =>
            obtain ⟨j, hj, rfl⟩ := hrel
            by_cases hjt : j < be
            · obtain ⟨y', By', oy', e0, e1, hless⟩ := HIN.out j hjt
              subst e0
              have hj0 : (0 : Int) ≤ (j : Int) := by omega
              have hj1 : (j : Int) < (be : Int) := by omega
              go_wp2_with fail
              go_round
              case rel => exact ⟨j + 1, by omega, by go_num⟩
              case measure => simp [intOf]; omega
            · obtain rfl : j = be := by omega
              have hj0 : (0 : Int) ≤ (j : Int) := by omega
              clear hjt hj
              go_wp2_with fail
              refine HSUM.out.mono ?_
              rintro e wq ⟨rfl, q, rfl⟩
              go_wp2_with fail
              have HS0' : Hid (InW (wr.drewN q) bu 1 (ks.map tC)) := Lib.hid (InW.bel (show InW wr bu 1 (ks.map tC) from HST.out) (bdrewN (Below.refl _ wr) q))
              obtain ⟨V, hV⟩ : ∃ V, wr.drewN q = V := ⟨_, rfl⟩
              rw [hV] at HS0' ⊢
              have HV := Lib.hid hV
              have HS0 := Lib.hid HS0'.out
              clear hV HS0'
              have HSD : Hid (∀ W, Fr (fun b => V.heap.size ≤ b) V W → InW W (subB bu cu j 1) 1 ((ks.drop j).map tC)) := Lib.hid (fun W hF => by
                rw [List.map_drop]
                exact subB_inw (inw_fr HS0.out hF) (by rw [List.length_map, Hkn.out]; omega))
              have hs1 := HS1.out
              have hs2 := HS2.out
              generalize subB bu cu j 1 = sb at *
              clear c0 c1 c2 d0 HST HSUM HIN
              go_region_held3 (fun _ => True) (trivial)
                (first
                  | (refine step_append_m tLen tOne (by rfl) (.tmp 62) (.tmp 65) _ (by rfl) 9 i0 _ 16 Try.underlying35 hi0 hz0 hz1 hz2 rfl (by decide) (by omega) (.slice (some ⟨V.heap.size, 0, none⟩) 0 0) [] (ks.take j) (by rfl) (row_empty ((Bk.new V [] 9).fr (Fr.refl none' _).drew id)) bu j cu (by rfl) HTK.out.symm (InW.take' (inw_fr HS0.out (((fr_new V).alloc (.cells #[] 9)).drew)) j) (ins_len1 HLN.out) ?_
                     intro v5 w5 o5 f5 h5
                     have O5 := Lib.hid o5
                     have hfa := fr_append (((fr_new V).alloc (.cells #[] 9)).drew) (own_at (by omega)) f5 h5
                     have FR5 := Lib.hid hfa.1
                     have N5 := Lib.hid hfa.2
                     clear o5 f5 h5 hfa)
                  | (refine step_append_m tLen tOne (by rfl) (.tmp 62) (.tmp 65) _ (by rfl) 9 i0 _ 16 Try.underlying35 hi0 hz0 hz1 hz2 rfl (by decide) (by omega) (.slice (some ⟨V.heap.size, 0, none⟩) 0 0) [] (ks.take j) (by rfl) (row_empty (((Bk.new V [] 9).old (.cells #[.string a.1] 9)).fr (Fr.refl none' _).drew id)) bu j cu (by rfl) HTK.out.symm (InW.take' (inw_fr HS0.out ((((fr_new V).alloc (.cells #[] 9)).alloc (.cells #[.string a.1] 9)).drew)) j) (ins_len1 HLN.out) ?_
                     intro v5 w5 o5 f5 h5
                     have O5 := Lib.hid o5
                     have hfa := fr_append ((((fr_new V).alloc (.cells #[] 9)).alloc (.cells #[.string a.1] 9)).drew) (own_at (by omega)) f5 h5
                     have FR5 := Lib.hid hfa.1
                     have N5 := Lib.hid hfa.2
                     have HC5 := Lib.hid (inw_one (f := tC) (sz := 1) (x := a.1) (Bk.fr ((Bk.new' V (.cells #[] 9) (tC a.1) 9).fr (Fr.refl none' _).drew id) f5 (by simp [Value.ownBlock])))
                     clear o5 f5 h5 hfa)
                  | (refine step_append_m tLen tOne (by rfl) (.tmp 62) (.tmp 65) _ (by rfl) 9 i0 _ 16 Try.underlying35 hi0 hz0 hz1 hz2 rfl (by decide) (by omega) (.slice (some ⟨V.heap.size + 1, 0, none⟩) 0 0) [] (ks.take j) (by rfl) (row_empty ((Bk.new' V (.cells #[.string a.1] 9) [] 9).fr (Fr.refl none' _).drew id)) bu j cu (by rfl) HTK.out.symm (InW.take' (inw_fr HS0.out ((((fr_new V).alloc (.cells #[.string a.1] 9)).alloc (.cells #[] 9)).drew)) j) (ins_len1 HLN.out) ?_
                     intro v5 w5 o5 f5 h5
                     have O5 := Lib.hid o5
                     have hfa := fr_append ((((fr_new V).alloc (.cells #[.string a.1] 9)).alloc (.cells #[] 9)).drew) (own_at (by omega)) f5 h5
                     have FR5 := Lib.hid hfa.1
                     have N5 := Lib.hid hfa.2
                     have HC5 := Lib.hid (inw_one (f := tC) (sz := 1) (x := a.1) (Bk.fr (((Bk.new V (tC a.1) 9).old (.cells #[] 9)).fr (Fr.refl none' _).drew id) f5 (by simp [Value.ownBlock])))
                     clear o5 f5 h5 hfa)
                  | (refine step_append_m tLen tOne (by rfl) (.tmp 66) (.tmp 68) _ (by rfl) 9 i0 _ 16 Try.underlying35 hi0 hz0 hz1 hz2 rfl (by decide) (by omega) v5 ([] ++ ks.take j) [a.1] (by rfl) O5.out (some ⟨V.heap.size + 1, 0, none⟩) 1 1 (by rfl) rfl HC5.out (ins_len2 HLN.out) ?_
                     intro v6 w6 o6 f6 h6
                     have O6 := Lib.hid o6
                     have hfa := fr_append FR5.out N5.out f6 h6
                     have FR6 := Lib.hid hfa.1
                     have N6 := Lib.hid hfa.2
                     clear o6 f6 h6 hfa)
                  | (refine step_append_m tLen tOne (by rfl) (.tmp 66) (.tmp 68) _ (by rfl) 9 i0 _ 16 Try.underlying35 hi0 hz0 hz1 hz2 rfl (by decide) (by omega) v5 ([] ++ ks.take j) [a.1] (by rfl) O5.out (some ⟨V.heap.size, 0, none⟩) 1 1 (by rfl) rfl HC5.out (ins_len2 HLN.out) ?_
                     intro v6 w6 o6 f6 h6
                     have O6 := Lib.hid o6
                     have hfa := fr_append FR5.out N5.out f6 h6
                     have FR6 := Lib.hid hfa.1
                     have N6 := Lib.hid hfa.2
                     clear o6 f6 h6 hfa)
                  | (refine step_append_m tLen tOne (by rfl) (.tmp 66) (.tmp 68) _ (by rfl) 9 i0 _ 16 Try.underlying35 hi0 hz0 hz1 hz2 rfl (by decide) (by omega) v5 ([] ++ ks.take j) [a.1] (by rfl) (((Fr.refl none' w5).alloc (.cells #[.string a.1] 9)).row O5.out (fun _ _ => id)) (some ⟨w5.heap.size, 0, none⟩) 1 1 (by rfl) rfl (inw_one (f := tC) (sz := 1) (x := a.1) (Bk.new w5 (tC a.1) 9)) (ins_len2 HLN.out) ?_
                     intro v6 w6 o6 f6 h6
                     have O6 := Lib.hid o6
                     have hfa := fr_append (FR5.out.alloc (.cells #[.string a.1] 9)) N5.out f6 h6
                     have FR6 := Lib.hid hfa.1
                     have N6 := Lib.hid hfa.2
                     clear o6 f6 h6 hfa)
                  | (refine step_append_m tLen tOne (by rfl) (.tmp 69) (.tmp 72) _ (by rfl) 9 i0 _ 16 Try.underlying35 hi0 hz0 hz1 hz2 rfl (by decide) (by omega) v6 (([] ++ ks.take j) ++ [a.1]) (ks.drop j) (by rfl) O6.out sb 0 (cu - j) (by rfl) HDR.out.symm (HSD.out _ FR6.out) (ins_len3 HLN.out) ?_
                     intro v7 w7 o7 f7 h7
                     have O7 := Lib.hid o7
                     have hfa := fr_append FR6.out N6.out f7 h7
                     have FR7 := Lib.hid hfa.1
                     have N7 := Lib.hid hfa.2
                     have hv7 := inw_of_rowm tLen (by omega) o7
                     obtain ⟨b7, c7, hv7, _, _, _, hn7⟩ := hv7
                     generalize hl7 : ((([] ++ ks.take j) ++ [a.1]) ++ ks.drop j).length = l7 at hv7
                     have HL7 := Lib.hid hl7
                     subst hv7
                     clear o7 f7 h7 hfa hl7 hn7)
                  | fail)
              all_goals
                clear hs1 hs2
                go_wp2_with fail
                go_roundw
                case rel => exact ⟨i + 1, _, by omega, by go_num, HKI.out.put HA.out HV.out (by rw [HZ.out]; omega) HBE.out HYN.out O7.out FR7.out N7.out⟩
                case measure => simp [intOf]; omega
    · obtain rfl : i = al := by omega
      go_wp2_with fail
      go_ret
      exact ⟨_, ks, rfl, HKI.out.so.all HAL.out, HKI.out.tx, HKI.out.nw, HKI.out.bl⟩
end Go.Proofs.Ytdmcbndkfnlcjaa

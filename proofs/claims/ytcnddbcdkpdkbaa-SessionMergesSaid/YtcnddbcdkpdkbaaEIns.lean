/- The document's insert: a text put into rising ones. -/
import Derived.Test.YtcnddbcdkpdkbaaELast2
namespace Go.Proofs.Ytcnddbcdkpdkbaa
open Go.RowKit Go.MapKept Go.Maps Go.ChangeShapes Go.WideShapes
set_option linter.unusedVariables false
set_option linter.unusedSimpArgs false
theorem sizeText : ∃ i, Try.prog.info? 9 = some i ∧ i.size = 1 := by
  obtain ⟨i0, hi0, hz0, hz1, hz2⟩ := info_parts infoText
  exact ⟨i0, hi0, hz1⟩
theorem ins_fin {w w7 : World} {b7 : Option Addr} {l7 c7 : Nat} {zs ys : List ByteArray} (hz : ys = zs) (hl : zs.length = l7) (o : w7.ownsRow 0 9 1 (.slice b7 l7 c7) zs.length (zs.flatMap tC)) (fr : Fr (fun b => w.heap.size ≤ b) w w7) (nn : ∀ b, (Value.slice b7 l7 c7).ownBlock = some b → w.heap.size ≤ b) : ∃ (b' : Option Addr) (c' : Nat), Ending.returned (.slice b7 l7 c7) = .returned (.slice b' ys.length c') ∧ ys.length ≤ c' ∧ c' ≤ maxLen ∧ InW w7 b' 1 (ys.map tC) ∧ (∀ B o, b' = some ⟨B, o, none⟩ → w.heap.size ≤ B) ∧ Below w.heap.size w w7 := by
  subst hz hl
  obtain ⟨b, cap, hv, h1, h2, h3, _⟩ := inw_of_rowm tLen (by omega) o
  simp only [Value.slice.injEq] at hv
  obtain ⟨rfl, -, rfl⟩ := hv
  exact ⟨b7, c7, rfl, h1, h2, h3, fun B o' e => nn B (by rw [e]; rfl), fr.below (Nat.le_refl _) (fun _ h => h)⟩
theorem putB_len (ks : List ByteArray) (k : ByteArray) : (putB ks k).length ≤ ks.length + 1 := by
  unfold putB
  split
  · omega
  · rw [List.length_append, List.length_cons, List.length_take, List.length_drop]; omega
set_option maxRecDepth 20000 in
set_option maxHeartbeats 4000000 in
theorem insert_old (b : Option Addr) (cap : Nat) (ks : List ByteArray) (k : ByteArray) (w : World) (h : InW w b 1 (ks.map tC)) (hl : ks.length ≤ 100000) (hc : ks.length ≤ cap) (hk : ks[belowB ks k]? = some k) :
    Calls Try.prog 35 #[.slice b ks.length cap, .string k] w fun e w' => e = .returned (.slice b ks.length cap) ∧ w = w' := by
  have HS := Lib.hid h
  have hbl := belowB_le ks k
  have HK := Lib.hid hk
  clear hk
  obtain ⟨n, hn⟩ : ∃ n, ks.length = n := ⟨_, rfl⟩
  have Hn := Lib.hid hn
  rw [hn] at hl hc hbl ⊢
  obtain ⟨be, hbe⟩ : ∃ be, belowB ks k = be := ⟨_, rfl⟩
  have HBE := Lib.hid hbe
  rw [hbe] at hbl
  have HX : Hid (∀ (W : World), Below w.heap.size w W → ∀ (i : Nat), i < be → ∃ x B off, ks[i]? = some x ∧ b = some ⟨B, off, none⟩ ∧ W.cell? ⟨B, off + i, none⟩ = some (.string x) ∧ Op.bytesLess x.toList k.toList = true) := Lib.hid (fun W hW i hi => by
    obtain ⟨x, hx⟩ : ∃ x, ks[i]? = some x := ⟨ks[i]'(by rw [Hn.out]; omega), List.getElem?_eq_getElem _⟩
    obtain ⟨B, off, hb, _, hcl⟩ := inw_at Value.string (HS.out.bel hW) hx
    exact ⟨x, B, off, hx, hb, hcl, by rw [bytesLess_lt]; exact decide_eq_true (belowB_lt (by rw [HBE.out]; exact hi) hx)⟩)
  have HX2 : Hid (∀ (W : World), Below w.heap.size w W → be < n → ∃ x B off, ks[be]? = some x ∧ b = some ⟨B, off, none⟩ ∧ W.cell? ⟨B, off + be, none⟩ = some (.string x) ∧ Op.bytesLess x.toList k.toList = false) := Lib.hid (fun W hW hi => by
    obtain ⟨x, hx⟩ : ∃ x, ks[be]? = some x := ⟨ks[be]'(by rw [Hn.out]; omega), List.getElem?_eq_getElem _⟩
    obtain ⟨B, off, hb, _, hcl⟩ := inw_at Value.string (HS.out.bel hW) hx
    exact ⟨x, B, off, hx, hb, hcl, by rw [bytesLess_lt]; exact decide_eq_false (belowB_at (by rw [HBE.out]; exact hx))⟩)
  clear h hn hbe
  have hbn : be < n := by
    have h1 := HK.out
    rw [HBE.out] at h1
    have := (List.getElem?_eq_some_iff.1 h1).1
    rwa [Hn.out] at this
  have HKX : Hid (∀ x, ks[be]? = some x → x = k) := Lib.hid (fun x hx => by
    have h1 := HK.out
    rw [HBE.out, hx] at h1
    exact Option.some.inj h1)
  go_enter Try.func35, Try.ntmps35
  go_wp2_with fail
  go_loop [5] (fun c => ∃ i : Nat, i ≤ be ∧ c = .int .i64 i) (fun c => be - (intOf c).toNat)
  case atStart => exact ⟨0, by omega, rfl⟩
  case round =>
    obtain ⟨i, hi, rfl⟩ := hrel
    by_cases hlt : i < be
    · obtain ⟨x, B, off, hx, rfl, c0, t1⟩ := HX.out w (Below.refl _ _) i hlt
      have hi0 : (0 : Int) ≤ (i : Int) := by omega
      have hi1 : (i : Int) < (n : Int) := by omega
      clear hx
      go_wp2_with fail
      go_round
      case rel => exact ⟨i + 1, by omega, by go_num⟩
      case measure => simp [intOf]; omega
    · obtain rfl : i = be := by omega
      clear HX
      obtain ⟨x, B, off, hx, rfl, c0, t1⟩ := HX2.out w (Below.refl _ _) hbn
      have t2 : (x.toList == k.toList) = true := by rw [bytesEq]; exact decide_eq_true (HKX.out x hx)
      have hi0 : (0 : Int) ≤ (i : Int) := by omega
      have hi1 : (i : Int) < (n : Int) := by omega
      clear hx HX2
      go_wp2_with fail
      go_ret
      exact ⟨rfl, rfl⟩
set_option maxRecDepth 20000 in
set_option maxHeartbeats 4000000 in
theorem insert_new (b : Option Addr) (cap : Nat) (ks : List ByteArray) (k : ByteArray) (w : World) (h : InW w b 1 (ks.map tC)) (hl : ks.length ≤ 100000) (hc : ks.length ≤ cap) (hk : ¬ ks[belowB ks k]? = some k) :
    Calls Try.prog 35 #[.slice b ks.length cap, .string k] w fun e w' => ∃ (b' : Option Addr) (c' : Nat), e = .returned (.slice b' (putB ks k).length c') ∧ (putB ks k).length ≤ c' ∧ c' ≤ maxLen ∧ InW w' b' 1 ((putB ks k).map tC) ∧ (∀ B o, b' = some ⟨B, o, none⟩ → w.heap.size ≤ B) ∧ Below w.heap.size w w' := by
  have HS := Lib.hid h
  have hbl := belowB_le ks k
  have HP : Hid (putB ks k = (([] ++ ks.take (belowB ks k)) ++ [k]) ++ ks.drop (belowB ks k)) := Lib.hid (by unfold putB; rw [if_neg hk]; simp)
  have HK := Lib.hid hk
  clear hk
  obtain ⟨n, hn⟩ : ∃ n, ks.length = n := ⟨_, rfl⟩
  have Hn := Lib.hid hn
  rw [hn] at hl hc hbl ⊢
  obtain ⟨be, hbe⟩ : ∃ be, belowB ks k = be := ⟨_, rfl⟩
  have HBE := Lib.hid hbe
  rw [hbe] at hbl
  have HX : Hid (∀ (W : World), Below w.heap.size w W → ∀ (i : Nat), i < be → ∃ x B off, ks[i]? = some x ∧ b = some ⟨B, off, none⟩ ∧ W.cell? ⟨B, off + i, none⟩ = some (.string x) ∧ Op.bytesLess x.toList k.toList = true) := Lib.hid (fun W hW i hi => by
    obtain ⟨x, hx⟩ : ∃ x, ks[i]? = some x := ⟨ks[i]'(by rw [Hn.out]; omega), List.getElem?_eq_getElem _⟩
    obtain ⟨B, off, hb, _, hcl⟩ := inw_at Value.string (HS.out.bel hW) hx
    exact ⟨x, B, off, hx, hb, hcl, by rw [bytesLess_lt]; exact decide_eq_true (belowB_lt (by rw [HBE.out]; exact hi) hx)⟩)
  have HX2 : Hid (∀ (W : World), Below w.heap.size w W → be < n → ∃ x B off, ks[be]? = some x ∧ b = some ⟨B, off, none⟩ ∧ W.cell? ⟨B, off + be, none⟩ = some (.string x) ∧ Op.bytesLess x.toList k.toList = false) := Lib.hid (fun W hW hi => by
    obtain ⟨x, hx⟩ : ∃ x, ks[be]? = some x := ⟨ks[be]'(by rw [Hn.out]; omega), List.getElem?_eq_getElem _⟩
    obtain ⟨B, off, hb, _, hcl⟩ := inw_at Value.string (HS.out.bel hW) hx
    exact ⟨x, B, off, hx, hb, hcl, by rw [bytesLess_lt]; exact decide_eq_false (belowB_at (by rw [HBE.out]; exact hx))⟩)
  clear h hn hbe
  rw [HBE.out] at HP
  have HKX : Hid (∀ x, ks[be]? = some x → x ≠ k) := Lib.hid (fun x hx e => by
    have h1 := HK.out
    rw [HBE.out, hx, e] at h1
    exact h1 rfl)
  obtain ⟨i0, hi0T, hz0, hz1, hz2⟩ := info_parts infoText
  go_enter Try.func35, Try.ntmps35
  go_wp2_with fail
  go_loop [5] (fun c => ∃ i : Nat, i ≤ be ∧ c = .int .i64 i) (fun c => be - (intOf c).toNat)
  case atStart => exact ⟨0, by omega, rfl⟩
  case round =>
    obtain ⟨i, hi, rfl⟩ := hrel
    by_cases hlt : i < be
    · obtain ⟨x, B, off, hx, rfl, c0, t1⟩ := HX.out w (Below.refl _ _) i hlt
      have hi0 : (0 : Int) ≤ (i : Int) := by omega
      have hi1 : (i : Int) < (n : Int) := by omega
      clear hx
      go_wp2_with fail
      go_round
      case rel => exact ⟨i + 1, by omega, by go_num⟩
      case measure => simp [intOf]; omega
    · obtain rfl : i = be := by omega
      clear HX
      by_cases hin : i < n
      · obtain ⟨x, B, off, hx, rfl, c0, t1⟩ := HX2.out w (Below.refl _ _) hin
        have t2 : (x.toList == k.toList) = false := by rw [bytesEq]; exact decide_eq_false (HKX.out x hx)
        have hi0 : (0 : Int) ≤ (i : Int) := by omega
        have hi1 : (i : Int) < (n : Int) := by omega
        clear hx HX2
        have hsl1 := fun W => run_slice_to (P := Try.prog) W 43 9 (some ⟨B, off, none⟩) n cap i 1 Try.underlying43 sizeText (by omega)
        have hsl2 := fun W => run_slice_from (P := Try.prog) W 43 9 (some ⟨B, off, none⟩) n cap i 1 Try.underlying43 sizeText (by omega)
        go_wp2_with fail
        have HS0 : Hid (InW w (some ⟨B, off, none⟩) 1 (ks.map tC)) := HS
        have HTK : Hid ((ks.take i).length = i) := Lib.hid (by rw [List.length_take, Hn.out]; omega)
        have HDR : Hid ((ks.drop i).length = n - i) := Lib.hid (by rw [List.length_drop, Hn.out])
        have HLN : Hid (ks.length ≤ 900000) := Lib.hid (by rw [Hn.out]; omega)
        have HSD : Hid (∀ W, Fr (fun b => w.heap.size ≤ b) w W → InW W (subB (some ⟨B, off, none⟩) cap i 1) 1 ((ks.drop i).map tC)) := Lib.hid (fun W hF => by
          rw [List.map_drop]
          exact subB_inw (inw_fr HS0.out hF) (by rw [List.length_map, Hn.out]; omega))
        generalize subB (some ⟨B, off, none⟩) cap i 1 = sb at *
        go_region_held3 (fun _ => True) (trivial)
          (first
            | (refine step_append_m tLen tOne (by rfl) (.tmp 33) (.tmp 36) _ (by rfl) 9 i0 _ 16 Try.underlying43 hi0T hz0 hz1 hz2 rfl (by decide) (by omega) (.slice (some ⟨w.heap.size, 0, none⟩) 0 0) [] (ks.take i) (by rfl) (row_empty ((Bk.new w [] 9).fr (Fr.refl none' _).drew id)) (some ⟨B, off, none⟩) i cap (by rfl) HTK.out.symm (InW.take' (inw_fr HS0.out (((fr_new w).alloc (.cells #[] 9)).drew)) i) (ins_len1 HLN.out) ?_
               intro v5 w5 o5 f5 h5
               have O5 := Lib.hid o5
               have hfa := fr_append (((fr_new w).alloc (.cells #[] 9)).drew) (own_at (by omega)) f5 h5
               have FR5 := Lib.hid hfa.1
               have N5 := Lib.hid hfa.2
               clear o5 f5 h5 hfa)
            | (refine step_append_m tLen tOne (by rfl) (.tmp 33) (.tmp 36) _ (by rfl) 9 i0 _ 16 Try.underlying43 hi0T hz0 hz1 hz2 rfl (by decide) (by omega) (.slice (some ⟨w.heap.size, 0, none⟩) 0 0) [] (ks.take i) (by rfl) (row_empty (((Bk.new w [] 9).old (.cells #[.string k] 9)).fr (Fr.refl none' _).drew id)) (some ⟨B, off, none⟩) i cap (by rfl) HTK.out.symm (InW.take' (inw_fr HS0.out ((((fr_new w).alloc (.cells #[] 9)).alloc (.cells #[.string k] 9)).drew)) i) (ins_len1 HLN.out) ?_
               intro v5 w5 o5 f5 h5
               have O5 := Lib.hid o5
               have hfa := fr_append ((((fr_new w).alloc (.cells #[] 9)).alloc (.cells #[.string k] 9)).drew) (own_at (by omega)) f5 h5
               have FR5 := Lib.hid hfa.1
               have N5 := Lib.hid hfa.2
               have HC5 := Lib.hid (inw_one (f := tC) (sz := 1) (x := k) (Bk.fr ((Bk.new' w (.cells #[] 9) (tC k) 9).fr (Fr.refl none' _).drew id) f5 (by simp [Value.ownBlock])))
               clear o5 f5 h5 hfa)
            | (refine step_append_m tLen tOne (by rfl) (.tmp 33) (.tmp 36) _ (by rfl) 9 i0 _ 16 Try.underlying43 hi0T hz0 hz1 hz2 rfl (by decide) (by omega) (.slice (some ⟨w.heap.size + 1, 0, none⟩) 0 0) [] (ks.take i) (by rfl) (row_empty ((Bk.new' w (.cells #[.string k] 9) [] 9).fr (Fr.refl none' _).drew id)) (some ⟨B, off, none⟩) i cap (by rfl) HTK.out.symm (InW.take' (inw_fr HS0.out ((((fr_new w).alloc (.cells #[.string k] 9)).alloc (.cells #[] 9)).drew)) i) (ins_len1 HLN.out) ?_
               intro v5 w5 o5 f5 h5
               have O5 := Lib.hid o5
               have hfa := fr_append ((((fr_new w).alloc (.cells #[.string k] 9)).alloc (.cells #[] 9)).drew) (own_at (by omega)) f5 h5
               have FR5 := Lib.hid hfa.1
               have N5 := Lib.hid hfa.2
               have HC5 := Lib.hid (inw_one (f := tC) (sz := 1) (x := k) (Bk.fr (((Bk.new w (tC k) 9).old (.cells #[] 9)).fr (Fr.refl none' _).drew id) f5 (by simp [Value.ownBlock])))
               clear o5 f5 h5 hfa)
            | (refine step_append_m tLen tOne (by rfl) (.tmp 37) (.tmp 39) _ (by rfl) 9 i0 _ 16 Try.underlying43 hi0T hz0 hz1 hz2 rfl (by decide) (by omega) v5 ([] ++ ks.take i) [k] (by rfl) O5.out (some ⟨w.heap.size + 1, 0, none⟩) 1 1 (by rfl) rfl HC5.out (ins_len2 HLN.out) ?_
               intro v6 w6 o6 f6 h6
               have O6 := Lib.hid o6
               have hfa := fr_append FR5.out N5.out f6 h6
               have FR6 := Lib.hid hfa.1
               have N6 := Lib.hid hfa.2
               clear o6 f6 h6 hfa)
            | (refine step_append_m tLen tOne (by rfl) (.tmp 37) (.tmp 39) _ (by rfl) 9 i0 _ 16 Try.underlying43 hi0T hz0 hz1 hz2 rfl (by decide) (by omega) v5 ([] ++ ks.take i) [k] (by rfl) O5.out (some ⟨w.heap.size, 0, none⟩) 1 1 (by rfl) rfl HC5.out (ins_len2 HLN.out) ?_
               intro v6 w6 o6 f6 h6
               have O6 := Lib.hid o6
               have hfa := fr_append FR5.out N5.out f6 h6
               have FR6 := Lib.hid hfa.1
               have N6 := Lib.hid hfa.2
               clear o6 f6 h6 hfa)
            | (refine step_append_m tLen tOne (by rfl) (.tmp 37) (.tmp 39) _ (by rfl) 9 i0 _ 16 Try.underlying43 hi0T hz0 hz1 hz2 rfl (by decide) (by omega) v5 ([] ++ ks.take i) [k] (by rfl) (((Fr.refl none' w5).alloc (.cells #[.string k] 9)).row O5.out (fun _ _ => id)) (some ⟨w5.heap.size, 0, none⟩) 1 1 (by rfl) rfl (inw_one (f := tC) (sz := 1) (x := k) (Bk.new w5 (tC k) 9)) (ins_len2 HLN.out) ?_
               intro v6 w6 o6 f6 h6
               have O6 := Lib.hid o6
               have hfa := fr_append (FR5.out.alloc (.cells #[.string k] 9)) N5.out f6 h6
               have FR6 := Lib.hid hfa.1
               have N6 := Lib.hid hfa.2
               clear o6 f6 h6 hfa)
            | (refine step_append_m tLen tOne (by rfl) (.tmp 40) (.tmp 43) _ (by rfl) 9 i0 _ 16 Try.underlying43 hi0T hz0 hz1 hz2 rfl (by decide) (by omega) v6 (([] ++ ks.take i) ++ [k]) (ks.drop i) (by rfl) O6.out sb (n - i) (cap - i) (by rfl) HDR.out.symm (HSD.out _ FR6.out) (ins_len3 HLN.out) ?_
               intro v7 w7 o7 f7 h7
               have O7 := Lib.hid o7
               have hfa := fr_append FR6.out N6.out f7 h7
               have FR7 := Lib.hid hfa.1
               have N7 := Lib.hid hfa.2
               have hv7 := inw_of_rowm tLen (by omega) o7
               obtain ⟨b7, c7, hv7, _, _, _, hn7⟩ := hv7
               generalize hl7 : ((([] ++ ks.take i) ++ [k]) ++ ks.drop i).length = l7 at hv7
               have HL7 := Lib.hid hl7
               subst hv7
               clear o7 f7 h7 hfa hl7 hn7)
            | fail)
        all_goals
          clear hsl1 hsl2
          go_wp2_with fail
          go_ret
          exact ins_fin HP.out HL7.out O7.out FR7.out N7.out
      · have t0 : decide ((i : Int) < (n : Int)) = false := decide_eq_false (by omega)
        have hi0 : (0 : Int) ≤ (i : Int) := by omega
        clear HX2
        have hsl1 := fun W => run_slice_to (P := Try.prog) W 43 9 (b) n cap i 1 Try.underlying43 sizeText (by omega)
        have hsl2 := fun W => run_slice_from (P := Try.prog) W 43 9 (b) n cap i 1 Try.underlying43 sizeText (by omega)
        go_wp2_with fail
        have HS0 : Hid (InW w (b) 1 (ks.map tC)) := HS
        have HTK : Hid ((ks.take i).length = i) := Lib.hid (by rw [List.length_take, Hn.out]; omega)
        have HDR : Hid ((ks.drop i).length = n - i) := Lib.hid (by rw [List.length_drop, Hn.out])
        have HLN : Hid (ks.length ≤ 900000) := Lib.hid (by rw [Hn.out]; omega)
        have HSD : Hid (∀ W, Fr (fun b => w.heap.size ≤ b) w W → InW W (subB (b) cap i 1) 1 ((ks.drop i).map tC)) := Lib.hid (fun W hF => by
          rw [List.map_drop]
          exact subB_inw (inw_fr HS0.out hF) (by rw [List.length_map, Hn.out]; omega))
        generalize subB (b) cap i 1 = sb at *
        go_region_held3 (fun _ => True) (trivial)
          (first
            | (refine step_append_m tLen tOne (by rfl) (.tmp 33) (.tmp 36) _ (by rfl) 9 i0 _ 16 Try.underlying43 hi0T hz0 hz1 hz2 rfl (by decide) (by omega) (.slice (some ⟨w.heap.size, 0, none⟩) 0 0) [] (ks.take i) (by rfl) (row_empty ((Bk.new w [] 9).fr (Fr.refl none' _).drew id)) (b) i cap (by rfl) HTK.out.symm (InW.take' (inw_fr HS0.out (((fr_new w).alloc (.cells #[] 9)).drew)) i) (ins_len1 HLN.out) ?_
               intro v5 w5 o5 f5 h5
               have O5 := Lib.hid o5
               have hfa := fr_append (((fr_new w).alloc (.cells #[] 9)).drew) (own_at (by omega)) f5 h5
               have FR5 := Lib.hid hfa.1
               have N5 := Lib.hid hfa.2
               clear o5 f5 h5 hfa)
            | (refine step_append_m tLen tOne (by rfl) (.tmp 33) (.tmp 36) _ (by rfl) 9 i0 _ 16 Try.underlying43 hi0T hz0 hz1 hz2 rfl (by decide) (by omega) (.slice (some ⟨w.heap.size, 0, none⟩) 0 0) [] (ks.take i) (by rfl) (row_empty (((Bk.new w [] 9).old (.cells #[.string k] 9)).fr (Fr.refl none' _).drew id)) (b) i cap (by rfl) HTK.out.symm (InW.take' (inw_fr HS0.out ((((fr_new w).alloc (.cells #[] 9)).alloc (.cells #[.string k] 9)).drew)) i) (ins_len1 HLN.out) ?_
               intro v5 w5 o5 f5 h5
               have O5 := Lib.hid o5
               have hfa := fr_append ((((fr_new w).alloc (.cells #[] 9)).alloc (.cells #[.string k] 9)).drew) (own_at (by omega)) f5 h5
               have FR5 := Lib.hid hfa.1
               have N5 := Lib.hid hfa.2
               have HC5 := Lib.hid (inw_one (f := tC) (sz := 1) (x := k) (Bk.fr ((Bk.new' w (.cells #[] 9) (tC k) 9).fr (Fr.refl none' _).drew id) f5 (by simp [Value.ownBlock])))
               clear o5 f5 h5 hfa)
            | (refine step_append_m tLen tOne (by rfl) (.tmp 33) (.tmp 36) _ (by rfl) 9 i0 _ 16 Try.underlying43 hi0T hz0 hz1 hz2 rfl (by decide) (by omega) (.slice (some ⟨w.heap.size + 1, 0, none⟩) 0 0) [] (ks.take i) (by rfl) (row_empty ((Bk.new' w (.cells #[.string k] 9) [] 9).fr (Fr.refl none' _).drew id)) (b) i cap (by rfl) HTK.out.symm (InW.take' (inw_fr HS0.out ((((fr_new w).alloc (.cells #[.string k] 9)).alloc (.cells #[] 9)).drew)) i) (ins_len1 HLN.out) ?_
               intro v5 w5 o5 f5 h5
               have O5 := Lib.hid o5
               have hfa := fr_append ((((fr_new w).alloc (.cells #[.string k] 9)).alloc (.cells #[] 9)).drew) (own_at (by omega)) f5 h5
               have FR5 := Lib.hid hfa.1
               have N5 := Lib.hid hfa.2
               have HC5 := Lib.hid (inw_one (f := tC) (sz := 1) (x := k) (Bk.fr (((Bk.new w (tC k) 9).old (.cells #[] 9)).fr (Fr.refl none' _).drew id) f5 (by simp [Value.ownBlock])))
               clear o5 f5 h5 hfa)
            | (refine step_append_m tLen tOne (by rfl) (.tmp 37) (.tmp 39) _ (by rfl) 9 i0 _ 16 Try.underlying43 hi0T hz0 hz1 hz2 rfl (by decide) (by omega) v5 ([] ++ ks.take i) [k] (by rfl) O5.out (some ⟨w.heap.size + 1, 0, none⟩) 1 1 (by rfl) rfl HC5.out (ins_len2 HLN.out) ?_
               intro v6 w6 o6 f6 h6
               have O6 := Lib.hid o6
               have hfa := fr_append FR5.out N5.out f6 h6
               have FR6 := Lib.hid hfa.1
               have N6 := Lib.hid hfa.2
               clear o6 f6 h6 hfa)
            | (refine step_append_m tLen tOne (by rfl) (.tmp 37) (.tmp 39) _ (by rfl) 9 i0 _ 16 Try.underlying43 hi0T hz0 hz1 hz2 rfl (by decide) (by omega) v5 ([] ++ ks.take i) [k] (by rfl) O5.out (some ⟨w.heap.size, 0, none⟩) 1 1 (by rfl) rfl HC5.out (ins_len2 HLN.out) ?_
               intro v6 w6 o6 f6 h6
               have O6 := Lib.hid o6
               have hfa := fr_append FR5.out N5.out f6 h6
               have FR6 := Lib.hid hfa.1
               have N6 := Lib.hid hfa.2
               clear o6 f6 h6 hfa)
            | (refine step_append_m tLen tOne (by rfl) (.tmp 37) (.tmp 39) _ (by rfl) 9 i0 _ 16 Try.underlying43 hi0T hz0 hz1 hz2 rfl (by decide) (by omega) v5 ([] ++ ks.take i) [k] (by rfl) (((Fr.refl none' w5).alloc (.cells #[.string k] 9)).row O5.out (fun _ _ => id)) (some ⟨w5.heap.size, 0, none⟩) 1 1 (by rfl) rfl (inw_one (f := tC) (sz := 1) (x := k) (Bk.new w5 (tC k) 9)) (ins_len2 HLN.out) ?_
               intro v6 w6 o6 f6 h6
               have O6 := Lib.hid o6
               have hfa := fr_append (FR5.out.alloc (.cells #[.string k] 9)) N5.out f6 h6
               have FR6 := Lib.hid hfa.1
               have N6 := Lib.hid hfa.2
               clear o6 f6 h6 hfa)
            | (refine step_append_m tLen tOne (by rfl) (.tmp 40) (.tmp 43) _ (by rfl) 9 i0 _ 16 Try.underlying43 hi0T hz0 hz1 hz2 rfl (by decide) (by omega) v6 (([] ++ ks.take i) ++ [k]) (ks.drop i) (by rfl) O6.out sb (n - i) (cap - i) (by rfl) HDR.out.symm (HSD.out _ FR6.out) (ins_len3 HLN.out) ?_
               intro v7 w7 o7 f7 h7
               have O7 := Lib.hid o7
               have hfa := fr_append FR6.out N6.out f7 h7
               have FR7 := Lib.hid hfa.1
               have N7 := Lib.hid hfa.2
               have hv7 := inw_of_rowm tLen (by omega) o7
               obtain ⟨b7, c7, hv7, _, _, _, hn7⟩ := hv7
               generalize hl7 : ((([] ++ ks.take i) ++ [k]) ++ ks.drop i).length = l7 at hv7
               have HL7 := Lib.hid hl7
               subst hv7
               clear o7 f7 h7 hfa hl7 hn7)
            | fail)
        all_goals
          clear hsl1 hsl2
          go_wp2_with fail
          go_ret
          exact ins_fin HP.out HL7.out O7.out FR7.out N7.out
/-- insert -/
theorem insert_any (b : Option Addr) (cap : Nat) (ks : List ByteArray) (k : ByteArray) (w : World) (h : InW w b 1 (ks.map tC)) (hl : ks.length ≤ 100000) (hc : ks.length ≤ cap) (hm : cap ≤ maxLen) :
    Calls Try.prog 35 #[.slice b ks.length cap, .string k] w fun e w' => ∃ (b' : Option Addr) (c' : Nat), e = .returned (.slice b' (putB ks k).length c') ∧ (putB ks k).length ≤ c' ∧ c' ≤ maxLen ∧ InW w' b' 1 ((putB ks k).map tC) ∧ (b' = b ∨ ∀ B o, b' = some ⟨B, o, none⟩ → w.heap.size ≤ B) ∧ Below w.heap.size w w' := by
  by_cases hk : ks[belowB ks k]? = some k
  · refine (insert_old b cap ks k w h hl hc hk).mono ?_
    rintro e w' ⟨rfl, rfl⟩
    have e : putB ks k = ks := by unfold putB; rw [if_pos hk]
    rw [e]
    exact ⟨b, cap, rfl, hc, hm, h, .inl rfl, Below.refl _ _⟩
  · refine (insert_new b cap ks k w h hl hc hk).mono ?_
    rintro e w' ⟨b', c', h1, h2, h3, h4, h5, h6⟩
    exact ⟨b', c', h1, h2, h3, h4, .inr h5, h6⟩
end Go.Proofs.Ytcnddbcdkpdkbaa

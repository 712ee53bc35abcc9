/- Contracts of the document's In, Put (layer 8) and Texts (layer 2). -/
import Derived.Test.YtnpjihbaebbbcaaBase
namespace Go.Proofs.Ytnpjihbaebbbcaa
open Go.RowKit Go.MapKept Go.Maps
set_option linter.unusedVariables false
set_option maxHeartbeats 1000000 in
theorem in08_any (b : Option Addr) (cap : Nat) (ks : List ByteArray) (k : ByteArray) (w : World) (h : Strs w b ks) (hl : ks.length ≤ 1000000) :
    Calls Try.prog 21 #[.slice b ks.length cap, .string k] w fun e w' => e = .returned (.bool (memB ks k)) ∧ w = w' := by
  obtain ⟨r, hr⟩ : ∃ r, memB ks k = r := ⟨_, rfl⟩
  rw [hr]
  have HR := Lib.hid hr
  have HS := Lib.hid h
  clear hr h
  generalize hn : ks.length = n at *
  have Hn := Lib.hid hn
  clear hn
  go_enter Try.func21, Try.ntmps21
  go_wp2_with fail
  go_loop [5] (fun c => ∃ i : Nat, i ≤ n ∧ c = .int .i64 i ∧ Hid (k ∉ ks.take i)) (fun c => n - (intOf c).toNat)
  case atStart => exact ⟨0, by omega, rfl, Lib.hid (by simp)⟩
  case round =>
    obtain ⟨i, hi, rfl, HA⟩ := hrel
    by_cases hlt : i < n
    · obtain ⟨x, hx⟩ : ∃ x, ks[i]? = some x := ⟨ks[i]'(by rw [Hn.out]; exact hlt), List.getElem?_eq_getElem _⟩
      obtain ⟨B, off, rfl, _, c0⟩ := HS.out.at hx
      have hi0 : (0 : Int) ≤ (i : Int) := by omega
      have hi1 : (i : Int) < (n : Int) := by omega
      have HX := Lib.hid hx
      clear hx
      by_cases he : x = k
      · have t1 : (x.toList == k.toList) = true := by rw [bytesEq]; exact decide_eq_true he
        have e : r = true := by rw [← HR.out]; exact (memB_iff ks k).2 (he ▸ List.mem_of_getElem? HX.out)
        subst e
        clear he
        go_wp2_with fail
        go_ret
        exact ⟨rfl, rfl⟩
      · have t1 : (x.toList == k.toList) = false := by rw [bytesEq]; exact decide_eq_false he
        have HA' : Hid (k ∉ ks.take (i + 1)) := Lib.hid (by
          rw [List.take_add_one, HX.out]
          intro c
          rcases List.mem_append.1 c with c | c
          · exact HA.out c
          · simp at c; exact he c.symm)
        clear he
        go_wp2_with fail
        go_round
        case rel => exact ⟨i + 1, by omega, by go_num, HA'⟩
        case measure => simp [intOf]; omega
    · have e : r = false := by
        rw [← HR.out]
        have h := HA.out
        rw [List.take_of_length_le (by rw [Hn.out]; omega)] at h
        exact memB_no h
      subst e
      go_wp2_with fail
      go_ret
      exact ⟨rfl, rfl⟩
set_option maxHeartbeats 1000000 in
theorem texts_any (b1 b2 : Option Addr) (n1 n2 cap1 cap2 : Nat) (xs ys : List ByteArray) (w : World) (h1 : Strs w b1 xs) (h2 : Strs w b2 ys) (hn1 : xs.length = n1) (hn2 : ys.length = n2) (hc1 : n1 ≤ 1000000) (hc2 : n2 ≤ 1000000) :
    Calls Try.prog 24 #[.slice b1 n1 cap1, .slice b2 n2 cap2] w fun e w' => e = .returned (.bool (decide (xs = ys))) ∧ ∃ q, w' = w.drewN q := by
  have H1 := Lib.hid hn1
  have H2 := Lib.hid hn2
  clear hn1 hn2
  by_cases he : n1 = n2
  · subst he
    obtain ⟨r, hr⟩ : ∃ r, decide (xs = ys) = r := ⟨_, rfl⟩
    rw [hr]
    have HR := Lib.hid hr
    clear hr
    go_enter Try.func24, Try.ntmps24
    go_wp2_with fail
    go_loopw [5] (fun c wr => ∃ k q : Nat, k ≤ n1 ∧ c = .int .i64 k ∧ wr = w.drewN q ∧ Hid (xs.take k = ys.take k)) (fun c _ => n1 - (intOf c).toNat)
    case atStart => exact ⟨0, 0, by omega, rfl, rfl, Lib.hid (by simp)⟩
    case round =>
      obtain ⟨k, q, hk, rfl, rfl, HA⟩ := hrel
      by_cases hlt : k < n1
      · obtain ⟨a, ha⟩ : ∃ a, xs[k]? = some a := ⟨xs[k]'(by have := H1.out; omega), List.getElem?_eq_getElem _⟩
        obtain ⟨b, hb⟩ : ∃ a, ys[k]? = some a := ⟨ys[k]'(by have := H2.out; omega), List.getElem?_eq_getElem _⟩
        obtain ⟨B1, o1, rfl, _, c1⟩ := h1.at ha
        obtain ⟨B2, o2, rfl, _, c2⟩ := h2.at hb
        have HA1 := Lib.hid ha
        have HB1 := Lib.hid hb
        clear ha hb
        have hk0 : (0 : Int) ≤ (k : Int) := by omega
        have hk1 : (k : Int) < (n1 : Int) := by omega
        by_cases hab : a = b
        · subst hab
          go_wp2_with fail
          go_quiet (fail)
          go_wp2_with fail
          go_roundw
          case rel => exact ⟨k + 1, q + nq, by omega, by go_num, rfl, Lib.hid (by rw [List.take_add_one, List.take_add_one, HA.out, HA1.out, HB1.out])⟩
          case measure => simp [intOf]; omega
        · have hne : (a.toList == b.toList) = false := by rw [bytesEq]; exact decide_eq_false hab
          have hne2 : (a.toList != b.toList) = true := by simp [bne, hne]
          have er : r = false := by
            rw [← HR.out, decide_eq_false_iff_not]
            intro e; subst e
            have := HA1.out.symm.trans HB1.out
            exact hab (Option.some.inj this)
          subst er
          go_wp2_with fail
          go_quiet (fail)
          go_wp2_with fail
          go_ret
          exact ⟨rfl, q + nq, by simp⟩
      · have er : r = true := by
          rw [← HR.out, decide_eq_true_eq]
          have h := HA.out
          rw [List.take_of_length_le (by have := H1.out; omega), List.take_of_length_le (by have := H2.out; omega)] at h
          exact h
        subst er
        go_wp2_with fail
        go_ret
        exact ⟨rfl, _, rfl⟩
  · have e : decide (xs = ys) = false := by
      rw [decide_eq_false_iff_not]
      intro e; subst e
      exact he (H1.out.symm.trans H2.out)
    rw [e]
    clear e
    go_enter Try.func24, Try.ntmps24
    go_wp2_with fail
    go_ret
    exact ⟨rfl, 0, rfl⟩
theorem putB_of_mem {ks : List ByteArray} {k : ByteArray} (hr : Rise ks) (hm : k ∈ ks) : putB ks k = ks := by
  have h1 := putB_rise hr k
  refine h1.ext hr (fun x => ?_)
  rw [putB_mem]
  exact ⟨fun h => h.elim (fun e => e ▸ hm) id, .inr⟩
theorem putB_len (ks : List ByteArray) (k : ByteArray) : (putB ks k).length ≤ ks.length + 1 := by
  unfold putB
  split
  · omega
  · rw [List.length_append, List.length_cons, List.length_take, List.length_drop]; omega
theorem putB_not {ks : List ByteArray} {k : ByteArray} (hn : k ∉ ks) : putB ks k = ks.take (belowB ks k) ++ [k] ++ ks.drop (belowB ks k) := by
  unfold putB
  rw [if_neg (fun e => hn (List.mem_of_getElem? e))]
  simp
theorem sizeText : ∃ i, Try.prog.info? 9 = some i ∧ i.size = 1 := by
  obtain ⟨i0, hi0, hz0, hz1, hz2⟩ := info_parts infoText
  exact ⟨i0, hi0, hz1⟩
set_option maxRecDepth 100000 in
set_option maxHeartbeats 4000000 in
theorem put08_new (b : Option Addr) (cap : Nat) (ks : List ByteArray) (k : ByteArray) (w : World) (h : Strs w b ks) (hl : ks.length ≤ 100000) (hk : k ∉ ks) (hc : ks.length ≤ cap) :
    Calls Try.prog 30 #[.slice b ks.length cap, .string k] w fun e w' => ∃ v, e = .returned v ∧ MkT w w' v (putB ks k) := by
  obtain ⟨i0, hi0T, hz0, hz1, hz2⟩ := info_parts infoText
  have hin := in08_any b cap ks k w h (by omega)
  rw [memB_no hk] at hin
  have HI := Lib.hid hin
  have HS := Lib.hid h
  have hbl := belowB_le ks k
  have HP := Lib.hid (putB_not hk)
  clear hin hk h
  generalize hn : ks.length = n at *
  have Hn := Lib.hid hn
  generalize hbe : belowB ks k = be at *
  have HBE := Lib.hid hbe
  clear hn hbe
  have HT : Hid (∀ W, Below w.heap.size w W → InW W b 1 ((ks.take be).map tC)) := Lib.hid (fun W hb => InW.take' (f := tC) (InW.bel HS.out hb) be)
  have HD : Hid (∀ W, Below w.heap.size w W → InW W (subB b cap be 1) 1 ((ks.drop be).map tC)) := Lib.hid (fun W hb => by
    rw [List.map_drop]
    exact subB_inw (InW.bel HS.out hb) (by rw [List.length_map, Hn.out]; exact hc))
  have hsl1 := fun W => run_slice_to (P := Try.prog) W 28 9 b n cap be 1 Try.underlying28 sizeText (by omega)
  have hsl2 := fun W => run_slice_from (P := Try.prog) W 28 9 b n cap be 1 Try.underlying28 sizeText (by omega)
  have ltk : (ks.take be).length = be := by rw [List.length_take, Hn.out]; omega
  have ldr : (ks.drop be).length = n - be := by rw [List.length_drop, Hn.out]
  have M0 := Lib.hid (MkT.empty w)
  have HX : Hid (∀ (i : Nat), i < be → ∃ x B off, ks[i]? = some x ∧ b = some ⟨B, off, none⟩ ∧ w.cell? ⟨B, off + i, none⟩ = some (.string x) ∧ Op.bytesLess x.toList k.toList = true) := Lib.hid (fun i hi => by
    obtain ⟨x, hx⟩ : ∃ x, ks[i]? = some x := ⟨ks[i]'(by rw [Hn.out]; omega), List.getElem?_eq_getElem _⟩
    obtain ⟨B, off, hb, _, hcl⟩ := HS.out.at hx
    exact ⟨x, B, off, hx, hb, hcl, by rw [bytesLess_lt]; exact decide_eq_true (belowB_lt (by rw [HBE.out]; exact hi) hx)⟩)
  have HX2 : Hid (be < n → ∃ x B off, ks[be]? = some x ∧ b = some ⟨B, off, none⟩ ∧ w.cell? ⟨B, off + be, none⟩ = some (.string x) ∧ Op.bytesLess x.toList k.toList = false) := Lib.hid (fun hi => by
    obtain ⟨x, hx⟩ : ∃ x, ks[be]? = some x := ⟨ks[be]'(by rw [Hn.out]; omega), List.getElem?_eq_getElem _⟩
    obtain ⟨B, off, hb, _, hcl⟩ := HS.out.at hx
    exact ⟨x, B, off, hx, hb, hcl, by rw [bytesLess_lt]; exact decide_eq_false (belowB_at (by rw [HBE.out]; exact hx))⟩)
  clear hc
  go_enter Try.func30, Try.ntmps30
  go_wp2_with fail
  refine HI.out.mono ?_
  rintro e wx ⟨rfl, rfl⟩
  clear HI
  go_wp2_with fail
  go_loop [5] (fun c => ∃ i : Nat, i ≤ be ∧ c = .int .i64 i) (fun c => be - (intOf c).toNat)
  case atStart => exact ⟨0, by omega, rfl⟩
  case round =>
    obtain ⟨i, hi, rfl⟩ := hrel
    by_cases hlt : i < be
    · obtain ⟨x, B, off, hx, rfl, c0, t1⟩ := HX.out i hlt
      have hi0 : (0 : Int) ≤ (i : Int) := by omega
      have hi1 : (i : Int) < (n : Int) := by omega
      clear hx
      go_wp2_with fail
      go_round
      case rel => exact ⟨i + 1, by omega, by go_num⟩
      case measure => simp [intOf]; omega
    · obtain rfl : i = be := by omega
      clear HX
      have HLN1 : Hid (([] : List ByteArray).length + (ks.take i).length ≤ 1000000) := Lib.hid (by rw [ltk]; simp; omega)
      have HLN2 : Hid (([] ++ ks.take i).length + [k].length ≤ 1000000) := Lib.hid (by simp; omega)
      have HLN3 : Hid ((([] ++ ks.take i) ++ [k]).length + (ks.drop i).length ≤ 1000000) := Lib.hid (by have := Hn.out; simp; omega)
      have Hlt := Lib.hid ltk
      have Hld := Lib.hid ldr
      clear ltk ldr
      by_cases hin : i < n
      · obtain ⟨x, B, off, hx, rfl, c0, t1⟩ := HX2.out hin
        have hi0 : (0 : Int) ≤ (i : Int) := by omega
        have hi1 : (i : Int) < (n : Int) := by omega
        clear hx HX2
        go_wp2_with (first
          | (at_builtin; refine wpList_append_m tLen tOne _ rfl (.tmp 25) (.tmp 28) _ rfl 9 i0 _ 16 Try.underlying28 hi0T hz0 hz1 hz2 rfl (by decide) (by omega) _ [] (ks.take i) rfl M0.out.tx.flat (some ⟨B, off, none⟩) i cap rfl Hlt.out.symm (HT.out _ M0.out.bl) HLN1.out ?_; intro v7 w7 o7 f7 h7; have M7 := Lib.hid ((M0.out.more o7 f7 h7).alloc (.cells #[.string k] 9)); have Z7 := Lib.hid (M0.out.more o7 f7 h7); clear o7 f7 h7)
          | (at_builtin; refine wpList_append_m tLen tOne _ rfl (.tmp 29) (.tmp 31) _ rfl 9 i0 _ 16 Try.underlying28 hi0T hz0 hz1 hz2 rfl (by decide) (by omega) v7 ([] ++ ks.take i) [k] rfl M7.out.tx.flat (some ⟨w7.heap.size, 0, none⟩) 1 1 rfl rfl (inw_one (f := tC) (sz := 1) (x := k) (Bk.new w7 (tC k) 9)) HLN2.out ?_; intro v8 w8 o8 f8 h8; have M8 := Lib.hid (M7.out.more o8 f8 h8); clear o8 f8 h8)
          | (at_builtin; refine wpList_append_m tLen tOne _ rfl (.tmp 33) (.tmp 36) _ rfl 9 i0 _ 16 Try.underlying28 hi0T hz0 hz1 hz2 rfl (by decide) (by omega) v8 (([] ++ ks.take i) ++ [k]) (ks.drop i) rfl M8.out.tx.flat (subB (some ⟨B, off, none⟩) cap i 1) (n - i) (cap - i) rfl Hld.out.symm (HD.out _ M8.out.bl) HLN3.out ?_; intro v9 w9 o9 f9 h9; have M9 := Lib.hid (M8.out.more o9 f9 h9); clear o9 f9 h9))
        go_ret
        exact ⟨v9, rfl, by rw [HP.out]; exact M9.out⟩
      · have t0 : decide ((i : Int) < (n : Int)) = false := decide_eq_false (by omega)
        clear HX2
        go_wp2_with (first
          | (at_builtin; refine wpList_append_m tLen tOne _ rfl (.tmp 25) (.tmp 28) _ rfl 9 i0 _ 16 Try.underlying28 hi0T hz0 hz1 hz2 rfl (by decide) (by omega) _ [] (ks.take i) rfl M0.out.tx.flat b i cap rfl Hlt.out.symm (HT.out _ M0.out.bl) HLN1.out ?_; intro v7 w7 o7 f7 h7; have M7 := Lib.hid ((M0.out.more o7 f7 h7).alloc (.cells #[.string k] 9)); have Z7 := Lib.hid (M0.out.more o7 f7 h7); clear o7 f7 h7)
          | (at_builtin; refine wpList_append_m tLen tOne _ rfl (.tmp 29) (.tmp 31) _ rfl 9 i0 _ 16 Try.underlying28 hi0T hz0 hz1 hz2 rfl (by decide) (by omega) v7 ([] ++ ks.take i) [k] rfl M7.out.tx.flat (some ⟨w7.heap.size, 0, none⟩) 1 1 rfl rfl (inw_one (f := tC) (sz := 1) (x := k) (Bk.new w7 (tC k) 9)) HLN2.out ?_; intro v8 w8 o8 f8 h8; have M8 := Lib.hid (M7.out.more o8 f8 h8); clear o8 f8 h8)
          | (at_builtin; refine wpList_append_m tLen tOne _ rfl (.tmp 33) (.tmp 36) _ rfl 9 i0 _ 16 Try.underlying28 hi0T hz0 hz1 hz2 rfl (by decide) (by omega) v8 (([] ++ ks.take i) ++ [k]) (ks.drop i) rfl M8.out.tx.flat (subB b cap i 1) (n - i) (cap - i) rfl Hld.out.symm (HD.out _ M8.out.bl) HLN3.out ?_; intro v9 w9 o9 f9 h9; have M9 := Lib.hid (M8.out.more o9 f9 h9); clear o9 f9 h9))
        go_ret
        exact ⟨v9, rfl, by rw [HP.out]; exact M9.out⟩
set_option maxHeartbeats 1000000 in
theorem put08_old (b : Option Addr) (cap : Nat) (ks : List ByteArray) (k : ByteArray) (w : World) (h : Strs w b ks) (hl : ks.length ≤ 100000) (hk : k ∈ ks) :
    Calls Try.prog 30 #[.slice b ks.length cap, .string k] w fun e w' => e = .returned (.slice b ks.length cap) ∧ w = w' := by
  have hin := in08_any b cap ks k w h (by omega)
  rw [(memB_iff ks k).2 hk] at hin
  have HI := Lib.hid hin
  clear hin h hk
  generalize ks.length = n at *
  go_enter Try.func30, Try.ntmps30
  go_wp2_with fail
  refine HI.out.mono ?_
  rintro e wx ⟨rfl, rfl⟩
  go_wp2_with fail
  go_ret
  exact ⟨rfl, rfl⟩
/-- Put into a row of rising texts that a call is making -/
theorem put08_any (u : Value) (ks : List ByteArray) (k : ByteArray) (w0 w : World) (h : MkT w0 w u ks) (hl : ks.length ≤ 100000) (hr : Rise ks) :
    Calls Try.prog 30 #[u, .string k] w fun e w' => ∃ v, e = .returned v ∧ MkT w0 w' v (putB ks k) ∧ Below w.heap.size w w' := by
  obtain ⟨b, cap, rfl, h1, h2, hs⟩ := h.tx.strs
  by_cases hk : k ∈ ks
  · refine (put08_old b cap ks k w hs hl hk).mono ?_
    rintro e w' ⟨rfl, rfl⟩
    exact ⟨_, rfl, by rw [putB_of_mem hr hk]; exact h, Below.refl _ _⟩
  · refine (put08_new b cap ks k w hs hl hk h1).mono ?_
    rintro e w' ⟨v, g1, g2⟩
    exact ⟨v, g1, ⟨g2.tx, fun b hb => by have := g2.nw b hb; have := h.bl.size; omega, h.bl.trans (g2.bl.mono h.bl.size)⟩, g2.bl⟩
end Go.Proofs.Ytnpjihbaebbbcaa

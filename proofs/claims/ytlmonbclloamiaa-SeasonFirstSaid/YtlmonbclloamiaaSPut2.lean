/- Contract of the document's Put of texts (layer 16). -/
import Derived.Test.YtlmonbclloamiaaSPut
namespace Go.Proofs.Ytlmonbclloamiaa
open Go.RowKit Go.MapKept Go.Maps
set_option linter.unusedVariables false
theorem OddIn.row {w3 wr : World} {u : Value} {os : List ByteArray} (h : OddIn w3 wr u os) (x : ByteArray) : (wr.alloc (.cells #[.string x] 9)).ownsRow 0 9 1 u os.length (os.flatMap tC) := by
  rw [tC_flat]
  exact (Fr.of_bel (S := none') ((Below.refl _ _).alloc (Nat.le_refl _) _)).row h.tx (fun _ _ => id)
set_option maxRecDepth 100000 in
set_option maxHeartbeats 4000000 in
theorem put16_new (b : Option Addr) (cap : Nat) (ks : List ByteArray) (k : ByteArray) (w : World) (h : Strs w b ks) (hl : ks.length ≤ 100000) (hk : k ∉ ks) :
    Calls Try.prog 32 #[.slice b ks.length cap, .string k] w fun e w' => ∃ v, e = .returned v ∧ TextsAt w' v (putB ks k) ∧ (∀ c, v.ownBlock = some c → w.heap.size ≤ c) ∧ Below w.heap.size w w' := by
  obtain ⟨i0, hi0, hz0, hz1, hz2⟩ := info_parts infoText
  have hin := in16_any b cap ks k w h (by omega)
  rw [memB_no hk] at hin
  have HI := Lib.hid hin
  have HS := Lib.hid h
  have HK := Lib.hid hk
  have hbl := belowB_le ks k
  clear hin h hk
  have HPL := Lib.hid (fun i => putI_len (ks := ks) (k := k) i)
  have HEND : Hid (belowB ks k < ks.length → putI ks k ks.length = putB ks k) := Lib.hid (putI_end HK.out)
  have HLAST : Hid (belowB ks k = ks.length → putI ks k ks.length ++ [k] = putB ks k) := Lib.hid (putI_last HK.out)
  generalize hn : ks.length = n at *
  have Hn := Lib.hid hn
  generalize hbe : belowB ks k = be at *
  have HBE := Lib.hid hbe
  clear hn hbe
  go_enter Try.func32, Try.ntmps32
  go_wp2_with fail
  refine HI.out.mono ?_
  rintro e wx ⟨rfl, rfl⟩
  clear HI
  go_wp2_with fail
  go_loopw [5, 6, 7] (fun u d c wr => ∃ i : Nat, i ≤ n ∧ c = .int .i64 i ∧ d = .bool (decide (be < i)) ∧ OddIn w wr u (putI ks k i)) (fun _ _ c _ => n - (intOf c).toNat)
  case atStart => exact ⟨0, by omega, rfl, by simp, ⟨by rw [putI_zero]; exact texts_empty w 9, own_at (Nat.le_refl _), (Below.refl _ _).alloc (Nat.le_refl _) _⟩⟩
  case round =>
    obtain ⟨i, hi, rfl, rfl, hoi⟩ := hrel
    have HOI := Lib.hid hoi
    clear hoi
    have hpl := HPL.out i
    by_cases hlt : i < n
    · obtain ⟨x, hx⟩ : ∃ x, ks[i]? = some x := ⟨ks[i]'(by rw [Hn.out]; exact hlt), List.getElem?_eq_getElem _⟩
      obtain ⟨B, off, rfl, hB, c0⟩ := HS.out.at hx
      have HC : Hid (∀ W, Below w.heap.size w W → W.cell? ⟨B, off + i, none⟩ = some (.string x)) := Lib.hid (fun W hb => (hb.cell (p := ⟨B, off + i, none⟩) hB).trans c0)
      have g0 := HC.out wr HOI.out.bl
      have hi0' : (0 : Int) ≤ (i : Int) := by omega
      have hi1' : (i : Int) < (n : Int) := by omega
      have HX := Lib.hid hx
      clear hx c0
      rcases Nat.lt_trichotomy i be with hb | hb | hb
      · have t0 : decide (be < i) = false := decide_eq_false (by omega)
        have t0' : decide (be < i + 1) = false := decide_eq_false (by omega)
        have t1 : Op.bytesLess k.toList x.toList = false := by rw [bytesLess_lt]; exact decide_eq_false (fun c => by have := (ahead_iff HK.out HX.out (by rw [HBE.out]; omega)).1 c; rw [HBE.out] at this; omega)
        have HP : Hid (putI ks k (i + 1) = putI ks k i ++ [x]) := Lib.hid (putI_low HX.out (by rw [HBE.out]; exact hb))
        have HLN7 : Hid ((putI ks k i).length + [x].length ≤ 1000000) := Lib.hid (by simp; omega)
        rw [t0]
        have HROW7 : Hid ((wr.alloc (.cells #[.string x] 9)).ownsRow 0 9 1 u5 (putI ks k i).length ((putI ks k i).flatMap tC)) := Lib.hid (by
          rw [tC_flat]
          exact (Fr.of_bel (S := none') ((Below.refl _ _).alloc (Nat.le_refl _) _)).row HOI.out.tx (fun _ _ => id))
        go_wp2_with (at_builtin; refine wpList_append_m tLen tOne _ rfl (.tmp 33) (.tmp 38) _ rfl 9 i0 _ 16 Try.underlying30 hi0 hz0 hz1 hz2 rfl (by decide) (by omega) u5 (putI ks k i) [x] rfl HROW7.out (some ⟨wr.heap.size, 0, none⟩) 1 1 rfl rfl (inw_one (f := tC) (sz := 1) (x := x) (Bk.new wr (tC x) 9)) HLN7.out ?_; intro v7 w7 o7 f7 h7; have O7 := Lib.hid o7; have F7 := Lib.hid f7; have H7 := Lib.hid h7; clear o7 f7 h7)
        go_roundw
        case rel => exact ⟨i + 1, by omega, by go_num, by rw [t0'], by rw [HP.out]; exact (HOI.out.bel ((Below.refl _ _).alloc (Nat.le_refl _) _)).more O7.out F7.out H7.out⟩
        case measure => simp [intOf]; omega
      · subst hb
        have t0 : decide (i < i) = false := decide_eq_false (by omega)
        have t0' : decide (i < i + 1) = true := decide_eq_true (by omega)
        have t1 : Op.bytesLess k.toList x.toList = true := by rw [bytesLess_lt]; exact decide_eq_true ((ahead_iff HK.out HX.out (by rw [HBE.out]; omega)).2 HBE.out.symm)
        have HP : Hid (putI ks k (i + 1) = (putI ks k i ++ [k]) ++ [x]) := Lib.hid (putI_at HX.out HBE.out.symm)
        have HLN7 : Hid ((putI ks k i).length + [k].length ≤ 1000000) := Lib.hid (by simp; omega)
        have HLN8 : Hid ((putI ks k i ++ [k]).length + [x].length ≤ 1000000) := Lib.hid (by simp; omega)
        rw [t0]
        go_wp2_with (first
          | (at_builtin; refine wpList_append_m tLen tOne _ rfl (.tmp 29) (.tmp 31) _ rfl 9 i0 _ 16 Try.underlying30 hi0 hz0 hz1 hz2 rfl (by decide) (by omega) u5 (putI ks k i) [k] rfl (Lib.hid (HOI.out.row k)).out (some ⟨wr.heap.size, 0, none⟩) 1 1 rfl rfl (inw_one (f := tC) (sz := 1) (x := k) (Bk.new wr (tC k) 9)) HLN7.out ?_; intro v7 w7 o7 f7 h7; have O7 := Lib.hid o7; have F7 := Lib.hid f7; have H7 := Lib.hid h7; clear o7 f7 h7; have HO7 := Lib.hid ((HOI.out.bel ((Below.refl _ _).alloc (Nat.le_refl _) _)).more O7.out F7.out H7.out); have g7 := HC.out w7 HO7.out.bl; clear g0)
          | (at_builtin; refine wpList_append_m tLen tOne _ rfl (.tmp 33) (.tmp 38) _ rfl 9 i0 _ 16 Try.underlying30 hi0 hz0 hz1 hz2 rfl (by decide) (by omega) v7 (putI ks k i ++ [k]) [x] rfl (Lib.hid (HO7.out.row x)).out (some ⟨w7.heap.size, 0, none⟩) 1 1 rfl rfl (inw_one (f := tC) (sz := 1) (x := x) (Bk.new w7 (tC x) 9)) HLN8.out ?_; intro v8 w8 o8 f8 h8; have O8 := Lib.hid o8; have F8 := Lib.hid f8; have H8 := Lib.hid h8; clear o8 f8 h8))
        go_roundw
        case rel => exact ⟨i + 1, by omega, by go_num, by rw [t0'], by rw [HP.out]; exact (HO7.out.bel ((Below.refl _ _).alloc (Nat.le_refl _) _)).more O8.out F8.out H8.out⟩
        case measure => simp [intOf]; omega
      · have t0 : decide (be < i) = true := decide_eq_true (by omega)
        have t0' : decide (be < i + 1) = true := decide_eq_true (by omega)
        have HP : Hid (putI ks k (i + 1) = putI ks k i ++ [x]) := Lib.hid (putI_high HX.out (by rw [HBE.out]; exact hb))
        have HLN7 : Hid ((putI ks k i).length + [x].length ≤ 1000000) := Lib.hid (by simp; omega)
        rw [t0]
        have HROW7 : Hid ((wr.alloc (.cells #[.string x] 9)).ownsRow 0 9 1 u5 (putI ks k i).length ((putI ks k i).flatMap tC)) := Lib.hid (by
          rw [tC_flat]
          exact (Fr.of_bel (S := none') ((Below.refl _ _).alloc (Nat.le_refl _) _)).row HOI.out.tx (fun _ _ => id))
        go_wp2_with (at_builtin; refine wpList_append_m tLen tOne _ rfl (.tmp 33) (.tmp 38) _ rfl 9 i0 _ 16 Try.underlying30 hi0 hz0 hz1 hz2 rfl (by decide) (by omega) u5 (putI ks k i) [x] rfl HROW7.out (some ⟨wr.heap.size, 0, none⟩) 1 1 rfl rfl (inw_one (f := tC) (sz := 1) (x := x) (Bk.new wr (tC x) 9)) HLN7.out ?_; intro v7 w7 o7 f7 h7; have O7 := Lib.hid o7; have F7 := Lib.hid f7; have H7 := Lib.hid h7; clear o7 f7 h7)
        go_roundw
        case rel => exact ⟨i + 1, by omega, by go_num, by rw [t0'], by rw [HP.out]; exact (HOI.out.bel ((Below.refl _ _).alloc (Nat.le_refl _) _)).more O7.out F7.out H7.out⟩
        case measure => simp [intOf]; omega
    · obtain rfl : i = n := by omega
      rcases Nat.lt_or_eq_of_le hbl with hb | hb
      · have t0 : decide (be < i) = true := decide_eq_true hb
        rw [t0]
        go_wp2_with fail
        go_ret
        exact ⟨u5, rfl, by rw [← HEND.out hb]; exact HOI.out.tx, HOI.out.nw, HOI.out.bl⟩
      · have t0 : decide (be < i) = false := decide_eq_false (by omega)
        rw [t0]
        have HLN7 : Hid ((putI ks k i).length + [k].length ≤ 1000000) := Lib.hid (by simp; omega)
        have HROW7 : Hid ((wr.alloc (.cells #[.string k] 9)).ownsRow 0 9 1 u5 (putI ks k i).length ((putI ks k i).flatMap tC)) := Lib.hid (by
          rw [tC_flat]
          exact (Fr.of_bel (S := none') ((Below.refl _ _).alloc (Nat.le_refl _) _)).row HOI.out.tx (fun _ _ => id))
        go_wp2_with (at_builtin; refine wpList_append_m tLen tOne _ rfl (.tmp 42) (.tmp 44) _ rfl 9 i0 _ 16 Try.underlying30 hi0 hz0 hz1 hz2 rfl (by decide) (by omega) u5 (putI ks k i) [k] rfl HROW7.out (some ⟨wr.heap.size, 0, none⟩) 1 1 rfl rfl (inw_one (f := tC) (sz := 1) (x := k) (Bk.new wr (tC k) 9)) HLN7.out ?_; intro v7 w7 o7 f7 h7; have O7 := Lib.hid o7; have F7 := Lib.hid f7; have H7 := Lib.hid h7; clear o7 f7 h7)
        have HO7 := Lib.hid ((HOI.out.bel ((Below.refl _ _).alloc (Nat.le_refl _) _)).more O7.out F7.out H7.out)
        go_wp2_with fail
        go_ret
        exact ⟨v7, rfl, by rw [← HLAST.out hb]; exact HO7.out.tx, HO7.out.nw, HO7.out.bl⟩
set_option maxHeartbeats 1000000 in
theorem put16_old (b : Option Addr) (cap : Nat) (ks : List ByteArray) (k : ByteArray) (w : World) (h : Strs w b ks) (hl : ks.length ≤ 100000) (hk : k ∈ ks) :
    Calls Try.prog 32 #[.slice b ks.length cap, .string k] w fun e w' => e = .returned (.slice b ks.length cap) ∧ w = w' := by
  have hin := in16_any b cap ks k w h (by omega)
  rw [(memB_iff ks k).2 hk] at hin
  have HI := Lib.hid hin
  clear hin h hk
  generalize ks.length = n at *
  go_enter Try.func32, Try.ntmps32
  go_wp2_with fail
  refine HI.out.mono ?_
  rintro e wx ⟨rfl, rfl⟩
  go_wp2_with fail
  go_ret
  exact ⟨rfl, rfl⟩
/-- Put into a row of rising texts -/
theorem put16_any (u : Value) (ks : List ByteArray) (k : ByteArray) (w : World) (h : TextsAt w u ks) (hl : ks.length ≤ 100000) (hr : Rise ks) :
    Calls Try.prog 32 #[u, .string k] w fun e w' => ∃ v, e = .returned v ∧ TextsAt w' v (putB ks k) ∧ Below w.heap.size w w' := by
  obtain ⟨b, cap, rfl, h1, h2, hs⟩ := h.strs
  by_cases hk : k ∈ ks
  · refine (put16_old b cap ks k w hs hl hk).mono ?_
    rintro e w' ⟨rfl, rfl⟩
    exact ⟨_, rfl, by rw [putB_of_mem hr hk]; exact h, Below.refl _ _⟩
  · refine (put16_new b cap ks k w hs hl hk).mono ?_
    rintro e w' ⟨v, g1, g2, g3, g4⟩
    exact ⟨v, g1, g2, g4⟩
end Go.Proofs.Ytlmonbclloamiaa

/- Contract of the document's Crash (layer 4). -/
import Derived.Test.YtemfnchiedepoaaRf4
namespace Go.Proofs.Ytemfnchiedepoaa
open Go.RowKit Go.MapKept Go.Maps
set_option linter.unusedVariables false
def crashO1 (keep : List Int) (i : Nat) (p : ByteArray × Fl) : Fs := match crashF p.2 (keepN p.2 keep i) with | some g => [(p.1, g)] | none => []
theorem crashL_snoc (keep : List Int) : ∀ (A : Fs) (j : Nat) (p : ByteArray × Fl), crashL keep j (A ++ [p]) = crashL keep j A ++ crashO1 keep (j + A.length) p
  | [], j, p => by simp [crashL, crashO1]; rfl
  | q :: A, j, p => by
    rw [List.cons_append, crashL, crashL, crashL_snoc keep A (j + 1) p, List.append_assoc]
    simp only [List.length_cons]
    rw [show j + 1 + A.length = j + (A.length + 1) by omega]
theorem crashL_take {keep : List Int} {L : Fs} {i : Nat} {p : ByteArray × Fl} (hp : L[i]? = some p) : crashL keep 0 (L.take (i + 1)) = crashL keep 0 (L.take i) ++ crashO1 keep i p := by
  rw [List.take_add_one, hp]
  have hi := (List.getElem?_eq_some_iff.1 hp).1
  have := crashL_snoc keep (L.take i) 0 p
  rw [List.length_take, Nat.min_eq_left (by omega), Nat.zero_add] at this
  exact this
theorem crash_some {keep : List Int} {i K : Nat} {p : ByteArray × Fl} (hK : keepN p.2 keep i = K) (h : p.2.stays = true ∨ p.2.lasts + K ≠ 0) : crashO1 keep i p = [(p.1, ⟨cutB p.2.s (p.2.lasts + K), p.2.lasts + K, true⟩)] := by
  unfold crashO1 crashF
  rw [hK, if_neg (by simp; intro h1 h2; rcases h with h | h; exact absurd h (by rw [h1]; simp); omega)]
theorem crash_no {keep : List Int} {i K : Nat} {p : ByteArray × Fl} (hK : keepN p.2 keep i = K) (h : p.2.stays = false) (h0 : p.2.lasts + K = 0) : crashO1 keep i p = [] := by
  unfold crashO1 crashF
  rw [hK, h, h0]; rfl
abbrev crOs (d : Nat) (b : Option Addr) (ln cap : Nat) (fu : Int) (dn : Bool) (o : Nat) (u : Value) (acc : Fs) : List Ob :=
  [.box d [.slice b ln cap, .int .i64 fu, .bool dn] 48, .box (d + 1) [.slice none 0 0, .int .i64 0, .bool false] 48, .box o [u, .int .i64 (-1), .bool false] 48, .row u 80 4 acc.length (acc.flatMap flC)]
theorem slice_text (s : ByteArray) (k : Nat) (x : Int) (hx : x = k) (h : k ≤ s.size) (W : World) : (Instr.slice 9 (.string s) none (some (.int .i64 x)) none).run Try.prog W = .ok (.string (cutB s k)) W := by
  subst hx
  rw [run_slice_string_to_if W 9 s .i64 (k : Int) Try.underlying9, if_pos (by omega)]
  have : s.extract 0 (k : Int).toNat = cutB s k := by
    unfold cutB
    have := ByteArray.extract_mk s.data.toList 0 k
    simpa using this
  rw [this]
theorem textNil (s : ByteArray) : (s.toList == []) = decide (s.size = 0) := by
  rw [Go.ByteArray.toList_eq, Bool.eq_iff_iff]
  simp only [beq_iff_eq, decide_eq_true_eq]
  rw [← len_data, List.length_eq_zero_iff]
set_option maxRecDepth 100000 in
set_option maxHeartbeats 4000000 in
theorem rcrash_any (b : Option Addr) (cap : Nat) (L : Fs) (fu : Int) (dn : Bool) (kb : Option Addr) (kc : Nat) (keep : List Int) (w : World) (h : InW w b 4 (L.map flC)) (hl : L.length ≤ 5000) (hc : L.length ≤ cap) (hlast : ∀ p ∈ L, p.2.lasts ≤ p.2.s.size) (hsum : fsum L ≤ 4194304) (hk : ∀ x ∈ keep, I64 x) (hkl : keep.length ≤ 1000) (hin : IntIn w kb keep) (ln : Nat) (hln : ln = L.length) (kn : Nat) (hkn : kn = keep.length) :
    Calls Try.prog 38 #[.agg #[.slice b ln cap, .int .i64 fu, .bool dn], .slice kb kn kc] w fun e w' => ∃ u, e = .returned (.agg #[u, .int .i64 (-1), .bool false]) ∧ MkG 80 4 flC w w' u (crashL keep 0 L) := by
  obtain ⟨i0, hi0T, hz0, hz1, hz2⟩ := info_parts infoFl
  have HIW := Lib.hid h
  have Hn := Lib.hid hln
  have HKN := Lib.hid hkn
  have HK := Lib.hid hk
  have HKI := Lib.hid hin
  rw [← hln] at hl hc
  rw [← hkn] at hkl
  have HLA := Lib.hid hlast
  have HSM : Hid (∀ p ∈ L, p.2.s.size ≤ 4194304) := Lib.hid (fun p hp => by
    have : p.2.s.size ≤ fsum L := by
      clear hln hl hc h hlast HIW Hn HLA
      induction L with
      | nil => cases hp
      | cons q L ih =>
        rw [fsum] at hsum ⊢
        rcases List.mem_cons.1 hp with rfl | hp
        · omega
        · have := ih (by omega) hp; omega
    omega)
  have HLN : Hid (∀ i, (crashL keep 0 (L.take i)).length ≤ 5000) := Lib.hid (fun i => by
    have h1 := crashL_len keep (L.take i) 0
    have h2 : (L.take i).length ≤ L.length := by rw [List.length_take]; omega
    omega)
  have HNEW := Lib.hid (rnew_any ((w.alloc (.cells #[.slice b ln cap, .int .i64 fu, .bool dn] 48)).alloc (.cells #[.slice none 0 0, .int .i64 0, .bool false] 48)))
  have HS0 : Hid (∀ w1, Below ((w.alloc (.cells #[.slice b ln cap, .int .i64 fu, .bool dn] 48)).alloc (.cells #[.slice none 0 0, .int .i64 0, .bool false] 48)).heap.size ((w.alloc (.cells #[.slice b ln cap, .int .i64 fu, .bool dn] 48)).alloc (.cells #[.slice none 0 0, .int .i64 0, .bool false] 48)) w1 → Here K04 w (w1.alloc (.cells #[.slice none 0 0, .int .i64 (-1), .bool false] 48)) (crOs w.heap.size b ln cap fu dn w1.heap.size (.slice none 0 0) [])) := Lib.hid (fun w1 hb1 => by
    have h1 := h_box (Here.nil (K := K04) (Below.refl w.heap.size w)) [.slice b ln cap, .int .i64 fu, .bool dn] 48
    have h2 := h_box h1 [.slice none 0 0, .int .i64 0, .bool false] 48
    have h3 := h_box (h2.step_bel hb1) [.slice none 0 0, .int .i64 (-1), .bool false] 48
    have h4 := h_row h3 (v := .slice none 0 0) (e := 80) (sz := 4) (n := ([] : Fs).length) (xs := ([] : Fs).flatMap flC) (Below.refl _ _) ⟨by simp, .inl ⟨rfl, rfl⟩⟩ (by simp [Value.ownBlock])
    simp at h4
    exact h4)
  clear h hln hkn hk hin hlast hsum
  go_enter Try.func38, Try.ntmps38
  go_wp2_with fail
  refine HNEW.out.mono ?_
  rintro e w1 ⟨rfl, b1⟩
  have HS1 := Lib.hid (HS0.out w1 b1)
  clear b1 HNEW HS0
  go_wp2_with fail
  go_loopw [6] (fun c wr => ∃ (i : Nat) (u : Value) (acc : Fs), i ≤ ln ∧ c = .int .i64 i ∧ Hid (crashL keep 0 (L.take i) = acc) ∧ Here K04 w wr (crOs w.heap.size b ln cap fu dn w1.heap.size u acc)) (fun c _ => ln - (intOf c).toNat)
  case atStart => exact ⟨0, .slice none 0 0, [], by omega, rfl, Lib.hid rfl, HS1.out⟩
  case round =>
    obtain ⟨i, u, acc, hi, rfl, HPF, hH⟩ := hrel
    have HH := Lib.hid hH
    obtain ⟨ub, uc, hu, _, _, _⟩ := h_rowIn hH (i := 3) rfl
    have HAL : Hid (acc.length ≤ 5000) := Lib.hid (by have := HLN.out i; rw [HPF.out] at this; exact this)
    obtain ⟨al, hal⟩ : ∃ al, al = acc.length := ⟨_, rfl⟩
    rw [← hal] at hu
    subst hu
    have d0 := (h_boxAt hH (i := 0) rfl).cell 0
    simp only [List.getElem?_cons_zero] at d0
    have hdl := (h_boxAt hH (i := 0) rfl).lt
    clear HS1 hal
    by_cases hlt : i < ln
    · clear hH
      obtain ⟨p, hp⟩ : ∃ p, L[i]? = some p := ⟨L[i]'(by rw [← Hn.out]; exact hlt), List.getElem?_eq_getElem _⟩
      obtain ⟨B, off, rfl, hB, c0, c1, c2, c3⟩ := fls_at HIW.out hp
      have HST := Lib.hid (crashL_take (keep := keep) hp)
      rw [HPF.out] at HST
      have hla := HLA.out p (List.mem_of_getElem? hp)
      have hps := HSM.out p (List.mem_of_getElem? hp)
      have e0 := (HH.out.bel.cell (p := ⟨B, off + i * 4, none⟩) hB).trans c0
      have e1 := (HH.out.bel.cell (p := ⟨B, off + i * 4 + 1, none⟩) hB).trans c1
      have e2 := (HH.out.bel.cell (p := ⟨B, off + i * 4 + 2, none⟩) hB).trans c2
      have e3 := (HH.out.bel.cell (p := ⟨B, off + i * 4 + 3, none⟩) hB).trans c3
      have hi0 : (0 : Int) ≤ (i : Int) := by omega
      have hi1 : (i : Int) < (ln : Int) := by omega
      have HKC : Hid (∀ (x : Int), keep[i]? = some x → ∃ KB ko, kb = some ⟨KB, ko, none⟩ ∧ wr.cell? ⟨KB, ko + i, none⟩ = some (.int .i64 x) ∧ KB < wr.heap.size) := Lib.hid (fun x hx => by
        obtain ⟨KB, ko, h1, h2, h3⟩ := HKI.out.at hx
        exact ⟨KB, ko, h1, (HH.out.bel.cell (p := ⟨KB, ko + i, none⟩) h2).trans h3, Nat.lt_of_lt_of_le h2 HH.out.bel.size⟩)
      have H1 := Lib.hid (h_box HH.out [.string p.1, .string p.2.s, .int .i64 (p.2.lasts : Int), .bool p.2.stays] 80)
      obtain ⟨K, hK⟩ : ∃ K, keepN p.2 keep i = K := ⟨_, rfl⟩
      have HKK := Lib.hid hK
      have hKle : K ≤ p.2.s.size - p.2.lasts := hK ▸ keepN_le _ _ _
      have q1 : IntKind.i64.wrap ((p.2.s.size : Int) - (p.2.lasts : Int)) = p.2.s.size - p.2.lasts := IntWalk.i64_in _ (by omega)
      have HCS : Hid ((cutB p.2.s (p.2.lasts + K)).size = p.2.lasts + K) := Lib.hid (size_cut _ _ (by omega))
      have HKV : Hid (K = min ((keep[i]?).getD 0).toNat (p.2.s.size - p.2.lasts)) := Lib.hid (by rw [← hK]; rfl)
      have HSOM := Lib.hid (fun h => crash_some (p := p) (keep := keep) (i := i) hK h)
      have HNO := Lib.hid (fun h h0 => crash_no (p := p) (keep := keep) (i := i) hK h h0)
      have hex : ∃ x : Int, ((i < kn ∧ keep[i]? = some x) ∨ (¬ i < kn ∧ x = 0 ∧ keep[i]? = none)) := by
        by_cases c : i < kn
        · exact ⟨keep[i]'(by rw [← HKN.out]; exact c), .inl ⟨c, List.getElem?_eq_getElem _⟩⟩
        · exact ⟨0, .inr ⟨c, rfl, List.getElem?_eq_none (by rw [← HKN.out]; omega)⟩⟩
      obtain ⟨x, hx⟩ := hex
      clear hp c0 c1 c2 c3 hK
      rcases hx with hx | hx
      · obtain ⟨c1, hx⟩ := hx
        rw [hx] at HKV
        obtain ⟨KB, ko, rfl, k0, kl0⟩ := HKC.out x hx
        have hx64 := HK.out x (List.mem_of_getElem? hx)
        unfold I64 at hx64
        have t1 : decide ((i : Int) < (kn : Int)) = true := decide_eq_true (by omega)
        have t1' : decide (i < kn) = true := decide_eq_true c1
        have hi2 : (i : Int) < (kn : Int) := by omega
        have hKV := HKV.out
        simp only [Option.getD_some] at hKV
        clear hx c1
        by_cases x0 : 0 < x
        · by_cases x1 : (p.2.s.size : Int) - (p.2.lasts : Int) < x
          · have t3 : decide (0 < x) = true := decide_eq_true x0
            have t2 : decide ((p.2.s.size : Int) - (p.2.lasts : Int) < x) = true := decide_eq_true x1
            have hK0 : (K : Int) = (p.2.s.size : Int) - (p.2.lasts : Int) := by omega
            have q2 : IntKind.i64.wrap ((p.2.lasts : Int) + ((p.2.s.size : Int) - (p.2.lasts : Int))) = p.2.lasts + ((p.2.s.size : Int) - (p.2.lasts : Int)) := IntWalk.i64_in _ (by omega)
            have hsl := slice_text p.2.s (p.2.lasts + K) ((p.2.lasts : Int) + ((p.2.s.size : Int) - (p.2.lasts : Int))) (by omega) (by omega)
            obtain ⟨cs, hcs⟩ : ∃ cs, cutB p.2.s (p.2.lasts + K) = cs := ⟨_, rfl⟩
            rw [hcs] at hsl
            have HCE := Lib.hid hcs
            have hcz := HCS.out
            rw [hcs] at hcz
            clear hcs
            cases hst : p.2.stays with
            | true =>
              rw [hst] at e3 H1
              have HEQ := Lib.hid (HSOM.out (.inl hst))
              rw [HCE.out] at HEQ
              rw [← hcz] at HEQ
              clear HSOM HNO HCS HKV hst hcz
              have HA2 := Lib.hid (H1.out.step_bel ((Below.refl _ _).alloc (Nat.le_refl _) (.cells #[.string p.1, .string cs, .int .i64 (cs.size : Int), .bool true] 80)))
              have HIN2 : Hid (InW ((wr.alloc (.cells #[.string p.1, .string p.2.s, .int .i64 (p.2.lasts : Int), .bool true] 80)).alloc (.cells #[.string p.1, .string cs, .int .i64 (cs.size : Int), .bool true] 80)) (some ⟨wr.heap.size + 1, 0, none⟩) 4 ([((p.1, ⟨cs, cs.size, true⟩) : ByteArray × Fl)].map flC)) := Lib.hid (by have hq := in_file (wr.alloc (.cells #[.string p.1, .string p.2.s, .int .i64 (p.2.lasts : Int), .bool true] 80)) (p.1, ⟨cs, cs.size, true⟩) 80; simp only [World.size_alloc] at hq; exact hq)
              have HRW := Lib.hid (h_rowAt HA2.out (i := 3) rfl)
              have HLN2 : Hid (acc.length + [((p.1, ⟨cs, cs.size, true⟩) : ByteArray × Fl)].length ≤ 1000000) := Lib.hid (by have := HAL.out; simp; omega)
              have o0 := (h_boxAt H1.out (i := 2) rfl).cell 0
              simp only [List.getElem?_cons_zero] at o0
              have hol := (h_boxAt HH.out (i := 2) rfl).lt
              go_wp2_with (at_builtin; refine wpList_append_m flLen flOne _ rfl _ _ _ rfl 80 i0 _ 48 Try.underlying46 hi0T hz0 hz1 hz2 rfl (by decide) (by omega) (.slice ub al uc) acc [((p.1, ⟨cs, cs.size, true⟩) : ByteArray × Fl)] rfl HRW.out (some ⟨wr.heap.size + 1, 0, none⟩) 1 1 rfl rfl HIN2.out HLN2.out ?_; intro v5 w5 o5 f5 h5; have h5' := h_more HA2.out (i := 3) rfl o5 f5 h5; obtain ⟨b5, c5, hv5, _, _, _⟩ := h_rowIn h5' (i := 3) rfl; obtain ⟨l5, hl5⟩ : ∃ l5, l5 = (acc ++ [((p.1, ⟨cs, cs.size, true⟩) : ByteArray × Fl)]).length := ⟨_, rfl⟩; rw [← hl5] at hv5; subst hv5; have kO5 := h_boxAt h5' (i := 2) rfl; have p0 := kO5.cell 0; have p0f := kO5.free 0; have hq5 := kO5.lt; simp only [List.getElem?_cons_zero] at p0; have H5 := Lib.hid h5'; clear h5' kO5 o5 f5 h5 hl5)
              all_goals
                have H6 := Lib.hid (h_set H5.out (i := 2) rfl 0 (.slice b5 l5 c5))
                exact ⟨⟨i + 1, _, _, by omega, by go_num, Lib.hid (by rw [HST.out, HEQ.out]), Here.init (os := crOs w.heap.size (some ⟨B, off, none⟩) ln cap fu dn w1.heap.size (.slice b5 l5 c5) (acc ++ [(p.1, Fl.mk cs cs.size true)])) (us := [Ob.box _ _ _]) H6.out⟩, by simp [intOf]; omega⟩
            | false =>
              rw [hst] at e3 H1
              by_cases hz : p.2.lasts + K = 0
              · have HEQ := Lib.hid (HNO.out hst hz)
                have t9 : (cs.toList == []) = true := by rw [textNil]; exact decide_eq_true (by omega)
                clear HSOM HNO HCS HKV hst hz hcz
                go_wp2_with fail
                go_roundw
                case rel => exact ⟨i + 1, _, acc, by omega, by go_num, Lib.hid (by rw [HST.out, HEQ.out, List.append_nil]), Here.init (us := [_]) H1.out⟩
                case measure => simp [intOf]; omega
              · have HEQ := Lib.hid (HSOM.out (.inr hz))
                have t9 : (cs.toList == []) = false := by rw [textNil]; exact decide_eq_false (by omega)
                rw [HCE.out] at HEQ
                rw [← hcz] at HEQ
                clear HSOM HNO HCS HKV hst hcz
                have HA2 := Lib.hid (H1.out.step_bel ((Below.refl _ _).alloc (Nat.le_refl _) (.cells #[.string p.1, .string cs, .int .i64 (cs.size : Int), .bool true] 80)))
                have HIN2 : Hid (InW ((wr.alloc (.cells #[.string p.1, .string p.2.s, .int .i64 (p.2.lasts : Int), .bool false] 80)).alloc (.cells #[.string p.1, .string cs, .int .i64 (cs.size : Int), .bool true] 80)) (some ⟨wr.heap.size + 1, 0, none⟩) 4 ([((p.1, ⟨cs, cs.size, true⟩) : ByteArray × Fl)].map flC)) := Lib.hid (by have hq := in_file (wr.alloc (.cells #[.string p.1, .string p.2.s, .int .i64 (p.2.lasts : Int), .bool false] 80)) (p.1, ⟨cs, cs.size, true⟩) 80; simp only [World.size_alloc] at hq; exact hq)
                have HRW := Lib.hid (h_rowAt HA2.out (i := 3) rfl)
                have HLN2 : Hid (acc.length + [((p.1, ⟨cs, cs.size, true⟩) : ByteArray × Fl)].length ≤ 1000000) := Lib.hid (by have := HAL.out; simp; omega)
                have o0 := (h_boxAt H1.out (i := 2) rfl).cell 0
                simp only [List.getElem?_cons_zero] at o0
                have hol := (h_boxAt HH.out (i := 2) rfl).lt
                go_wp2_with (at_builtin; refine wpList_append_m flLen flOne _ rfl _ _ _ rfl 80 i0 _ 48 Try.underlying46 hi0T hz0 hz1 hz2 rfl (by decide) (by omega) (.slice ub al uc) acc [((p.1, ⟨cs, cs.size, true⟩) : ByteArray × Fl)] rfl HRW.out (some ⟨wr.heap.size + 1, 0, none⟩) 1 1 rfl rfl HIN2.out HLN2.out ?_; intro v5 w5 o5 f5 h5; have h5' := h_more HA2.out (i := 3) rfl o5 f5 h5; obtain ⟨b5, c5, hv5, _, _, _⟩ := h_rowIn h5' (i := 3) rfl; obtain ⟨l5, hl5⟩ : ∃ l5, l5 = (acc ++ [((p.1, ⟨cs, cs.size, true⟩) : ByteArray × Fl)]).length := ⟨_, rfl⟩; rw [← hl5] at hv5; subst hv5; have kO5 := h_boxAt h5' (i := 2) rfl; have p0 := kO5.cell 0; have p0f := kO5.free 0; have hq5 := kO5.lt; simp only [List.getElem?_cons_zero] at p0; have H5 := Lib.hid h5'; clear h5' kO5 o5 f5 h5 hl5)
                all_goals
                  have H6 := Lib.hid (h_set H5.out (i := 2) rfl 0 (.slice b5 l5 c5))
                  exact ⟨⟨i + 1, _, _, by omega, by go_num, Lib.hid (by rw [HST.out, HEQ.out]), Here.init (os := crOs w.heap.size (some ⟨B, off, none⟩) ln cap fu dn w1.heap.size (.slice b5 l5 c5) (acc ++ [(p.1, Fl.mk cs cs.size true)])) (us := [Ob.box _ _ _]) H6.out⟩, by simp [intOf]; omega⟩
          · have t3 : decide (0 < x) = true := decide_eq_true x0
            have t2 : decide ((p.2.s.size : Int) - (p.2.lasts : Int) < x) = false := decide_eq_false x1
            have hK0 : (K : Int) = x := by omega
            have q2 : IntKind.i64.wrap ((p.2.lasts : Int) + (x)) = p.2.lasts + (x) := IntWalk.i64_in _ (by omega)
            have hsl := slice_text p.2.s (p.2.lasts + K) ((p.2.lasts : Int) + (x)) (by omega) (by omega)
            obtain ⟨cs, hcs⟩ : ∃ cs, cutB p.2.s (p.2.lasts + K) = cs := ⟨_, rfl⟩
            rw [hcs] at hsl
            have HCE := Lib.hid hcs
            have hcz := HCS.out
            rw [hcs] at hcz
            clear hcs
            cases hst : p.2.stays with
            | true =>
              rw [hst] at e3 H1
              have HEQ := Lib.hid (HSOM.out (.inl hst))
              rw [HCE.out] at HEQ
              rw [← hcz] at HEQ
              clear HSOM HNO HCS HKV hst hcz
              have HA2 := Lib.hid (H1.out.step_bel ((Below.refl _ _).alloc (Nat.le_refl _) (.cells #[.string p.1, .string cs, .int .i64 (cs.size : Int), .bool true] 80)))
              have HIN2 : Hid (InW ((wr.alloc (.cells #[.string p.1, .string p.2.s, .int .i64 (p.2.lasts : Int), .bool true] 80)).alloc (.cells #[.string p.1, .string cs, .int .i64 (cs.size : Int), .bool true] 80)) (some ⟨wr.heap.size + 1, 0, none⟩) 4 ([((p.1, ⟨cs, cs.size, true⟩) : ByteArray × Fl)].map flC)) := Lib.hid (by have hq := in_file (wr.alloc (.cells #[.string p.1, .string p.2.s, .int .i64 (p.2.lasts : Int), .bool true] 80)) (p.1, ⟨cs, cs.size, true⟩) 80; simp only [World.size_alloc] at hq; exact hq)
              have HRW := Lib.hid (h_rowAt HA2.out (i := 3) rfl)
              have HLN2 : Hid (acc.length + [((p.1, ⟨cs, cs.size, true⟩) : ByteArray × Fl)].length ≤ 1000000) := Lib.hid (by have := HAL.out; simp; omega)
              have o0 := (h_boxAt H1.out (i := 2) rfl).cell 0
              simp only [List.getElem?_cons_zero] at o0
              have hol := (h_boxAt HH.out (i := 2) rfl).lt
              go_wp2_with (at_builtin; refine wpList_append_m flLen flOne _ rfl _ _ _ rfl 80 i0 _ 48 Try.underlying46 hi0T hz0 hz1 hz2 rfl (by decide) (by omega) (.slice ub al uc) acc [((p.1, ⟨cs, cs.size, true⟩) : ByteArray × Fl)] rfl HRW.out (some ⟨wr.heap.size + 1, 0, none⟩) 1 1 rfl rfl HIN2.out HLN2.out ?_; intro v5 w5 o5 f5 h5; have h5' := h_more HA2.out (i := 3) rfl o5 f5 h5; obtain ⟨b5, c5, hv5, _, _, _⟩ := h_rowIn h5' (i := 3) rfl; obtain ⟨l5, hl5⟩ : ∃ l5, l5 = (acc ++ [((p.1, ⟨cs, cs.size, true⟩) : ByteArray × Fl)]).length := ⟨_, rfl⟩; rw [← hl5] at hv5; subst hv5; have kO5 := h_boxAt h5' (i := 2) rfl; have p0 := kO5.cell 0; have p0f := kO5.free 0; have hq5 := kO5.lt; simp only [List.getElem?_cons_zero] at p0; have H5 := Lib.hid h5'; clear h5' kO5 o5 f5 h5 hl5)
              all_goals
                have H6 := Lib.hid (h_set H5.out (i := 2) rfl 0 (.slice b5 l5 c5))
                exact ⟨⟨i + 1, _, _, by omega, by go_num, Lib.hid (by rw [HST.out, HEQ.out]), Here.init (os := crOs w.heap.size (some ⟨B, off, none⟩) ln cap fu dn w1.heap.size (.slice b5 l5 c5) (acc ++ [(p.1, Fl.mk cs cs.size true)])) (us := [Ob.box _ _ _]) H6.out⟩, by simp [intOf]; omega⟩
            | false =>
              rw [hst] at e3 H1
              by_cases hz : p.2.lasts + K = 0
              · have HEQ := Lib.hid (HNO.out hst hz)
                have t9 : (cs.toList == []) = true := by rw [textNil]; exact decide_eq_true (by omega)
                clear HSOM HNO HCS HKV hst hz hcz
                go_wp2_with fail
                go_roundw
                case rel => exact ⟨i + 1, _, acc, by omega, by go_num, Lib.hid (by rw [HST.out, HEQ.out, List.append_nil]), Here.init (us := [_]) H1.out⟩
                case measure => simp [intOf]; omega
              · have HEQ := Lib.hid (HSOM.out (.inr hz))
                have t9 : (cs.toList == []) = false := by rw [textNil]; exact decide_eq_false (by omega)
                rw [HCE.out] at HEQ
                rw [← hcz] at HEQ
                clear HSOM HNO HCS HKV hst hcz
                have HA2 := Lib.hid (H1.out.step_bel ((Below.refl _ _).alloc (Nat.le_refl _) (.cells #[.string p.1, .string cs, .int .i64 (cs.size : Int), .bool true] 80)))
                have HIN2 : Hid (InW ((wr.alloc (.cells #[.string p.1, .string p.2.s, .int .i64 (p.2.lasts : Int), .bool false] 80)).alloc (.cells #[.string p.1, .string cs, .int .i64 (cs.size : Int), .bool true] 80)) (some ⟨wr.heap.size + 1, 0, none⟩) 4 ([((p.1, ⟨cs, cs.size, true⟩) : ByteArray × Fl)].map flC)) := Lib.hid (by have hq := in_file (wr.alloc (.cells #[.string p.1, .string p.2.s, .int .i64 (p.2.lasts : Int), .bool false] 80)) (p.1, ⟨cs, cs.size, true⟩) 80; simp only [World.size_alloc] at hq; exact hq)
                have HRW := Lib.hid (h_rowAt HA2.out (i := 3) rfl)
                have HLN2 : Hid (acc.length + [((p.1, ⟨cs, cs.size, true⟩) : ByteArray × Fl)].length ≤ 1000000) := Lib.hid (by have := HAL.out; simp; omega)
                have o0 := (h_boxAt H1.out (i := 2) rfl).cell 0
                simp only [List.getElem?_cons_zero] at o0
                have hol := (h_boxAt HH.out (i := 2) rfl).lt
                go_wp2_with (at_builtin; refine wpList_append_m flLen flOne _ rfl _ _ _ rfl 80 i0 _ 48 Try.underlying46 hi0T hz0 hz1 hz2 rfl (by decide) (by omega) (.slice ub al uc) acc [((p.1, ⟨cs, cs.size, true⟩) : ByteArray × Fl)] rfl HRW.out (some ⟨wr.heap.size + 1, 0, none⟩) 1 1 rfl rfl HIN2.out HLN2.out ?_; intro v5 w5 o5 f5 h5; have h5' := h_more HA2.out (i := 3) rfl o5 f5 h5; obtain ⟨b5, c5, hv5, _, _, _⟩ := h_rowIn h5' (i := 3) rfl; obtain ⟨l5, hl5⟩ : ∃ l5, l5 = (acc ++ [((p.1, ⟨cs, cs.size, true⟩) : ByteArray × Fl)]).length := ⟨_, rfl⟩; rw [← hl5] at hv5; subst hv5; have kO5 := h_boxAt h5' (i := 2) rfl; have p0 := kO5.cell 0; have p0f := kO5.free 0; have hq5 := kO5.lt; simp only [List.getElem?_cons_zero] at p0; have H5 := Lib.hid h5'; clear h5' kO5 o5 f5 h5 hl5)
                all_goals
                  have H6 := Lib.hid (h_set H5.out (i := 2) rfl 0 (.slice b5 l5 c5))
                  exact ⟨⟨i + 1, _, _, by omega, by go_num, Lib.hid (by rw [HST.out, HEQ.out]), Here.init (os := crOs w.heap.size (some ⟨B, off, none⟩) ln cap fu dn w1.heap.size (.slice b5 l5 c5) (acc ++ [(p.1, Fl.mk cs cs.size true)])) (us := [Ob.box _ _ _]) H6.out⟩, by simp [intOf]; omega⟩
        · have t3 : decide (0 < x) = false := decide_eq_false x0
          have t2 : decide ((p.2.s.size : Int) - (p.2.lasts : Int) < 0) = false := decide_eq_false (by omega)
          have hK0 : K = 0 := by omega
          have q2 : IntKind.i64.wrap ((p.2.lasts : Int) + (0)) = p.2.lasts + (0) := IntWalk.i64_in _ (by omega)
          have hsl := slice_text p.2.s (p.2.lasts + K) ((p.2.lasts : Int) + (0)) (by omega) (by omega)
          rw [Int.add_zero] at q2 hsl
          obtain ⟨cs, hcs⟩ : ∃ cs, cutB p.2.s (p.2.lasts + K) = cs := ⟨_, rfl⟩
          rw [hcs] at hsl
          have HCE := Lib.hid hcs
          have hcz := HCS.out
          rw [hcs] at hcz
          clear hcs
          cases hst : p.2.stays with
          | true =>
            rw [hst] at e3 H1
            have HEQ := Lib.hid (HSOM.out (.inl hst))
            rw [HCE.out] at HEQ
            rw [← hcz] at HEQ
            clear HSOM HNO HCS HKV hst hcz
            have HA2 := Lib.hid (H1.out.step_bel ((Below.refl _ _).alloc (Nat.le_refl _) (.cells #[.string p.1, .string cs, .int .i64 (cs.size : Int), .bool true] 80)))
            have HIN2 : Hid (InW ((wr.alloc (.cells #[.string p.1, .string p.2.s, .int .i64 (p.2.lasts : Int), .bool true] 80)).alloc (.cells #[.string p.1, .string cs, .int .i64 (cs.size : Int), .bool true] 80)) (some ⟨wr.heap.size + 1, 0, none⟩) 4 ([((p.1, ⟨cs, cs.size, true⟩) : ByteArray × Fl)].map flC)) := Lib.hid (by have hq := in_file (wr.alloc (.cells #[.string p.1, .string p.2.s, .int .i64 (p.2.lasts : Int), .bool true] 80)) (p.1, ⟨cs, cs.size, true⟩) 80; simp only [World.size_alloc] at hq; exact hq)
            have HRW := Lib.hid (h_rowAt HA2.out (i := 3) rfl)
            have HLN2 : Hid (acc.length + [((p.1, ⟨cs, cs.size, true⟩) : ByteArray × Fl)].length ≤ 1000000) := Lib.hid (by have := HAL.out; simp; omega)
            have o0 := (h_boxAt H1.out (i := 2) rfl).cell 0
            simp only [List.getElem?_cons_zero] at o0
            have hol := (h_boxAt HH.out (i := 2) rfl).lt
            go_wp2_with (at_builtin; refine wpList_append_m flLen flOne _ rfl _ _ _ rfl 80 i0 _ 48 Try.underlying46 hi0T hz0 hz1 hz2 rfl (by decide) (by omega) (.slice ub al uc) acc [((p.1, ⟨cs, cs.size, true⟩) : ByteArray × Fl)] rfl HRW.out (some ⟨wr.heap.size + 1, 0, none⟩) 1 1 rfl rfl HIN2.out HLN2.out ?_; intro v5 w5 o5 f5 h5; have h5' := h_more HA2.out (i := 3) rfl o5 f5 h5; obtain ⟨b5, c5, hv5, _, _, _⟩ := h_rowIn h5' (i := 3) rfl; obtain ⟨l5, hl5⟩ : ∃ l5, l5 = (acc ++ [((p.1, ⟨cs, cs.size, true⟩) : ByteArray × Fl)]).length := ⟨_, rfl⟩; rw [← hl5] at hv5; subst hv5; have kO5 := h_boxAt h5' (i := 2) rfl; have p0 := kO5.cell 0; have p0f := kO5.free 0; have hq5 := kO5.lt; simp only [List.getElem?_cons_zero] at p0; have H5 := Lib.hid h5'; clear h5' kO5 o5 f5 h5 hl5)
            all_goals
              have H6 := Lib.hid (h_set H5.out (i := 2) rfl 0 (.slice b5 l5 c5))
              exact ⟨⟨i + 1, _, _, by omega, by go_num, Lib.hid (by rw [HST.out, HEQ.out]), Here.init (os := crOs w.heap.size (some ⟨B, off, none⟩) ln cap fu dn w1.heap.size (.slice b5 l5 c5) (acc ++ [(p.1, Fl.mk cs cs.size true)])) (us := [Ob.box _ _ _]) H6.out⟩, by simp [intOf]; omega⟩
          | false =>
            rw [hst] at e3 H1
            by_cases hz : p.2.lasts + K = 0
            · have HEQ := Lib.hid (HNO.out hst hz)
              have t9 : (cs.toList == []) = true := by rw [textNil]; exact decide_eq_true (by omega)
              clear HSOM HNO HCS HKV hst hz hcz
              go_wp2_with fail
              go_roundw
              case rel => exact ⟨i + 1, _, acc, by omega, by go_num, Lib.hid (by rw [HST.out, HEQ.out, List.append_nil]), Here.init (us := [_]) H1.out⟩
              case measure => simp [intOf]; omega
            · have HEQ := Lib.hid (HSOM.out (.inr hz))
              have t9 : (cs.toList == []) = false := by rw [textNil]; exact decide_eq_false (by omega)
              rw [HCE.out] at HEQ
              rw [← hcz] at HEQ
              clear HSOM HNO HCS HKV hst hcz
              have HA2 := Lib.hid (H1.out.step_bel ((Below.refl _ _).alloc (Nat.le_refl _) (.cells #[.string p.1, .string cs, .int .i64 (cs.size : Int), .bool true] 80)))
              have HIN2 : Hid (InW ((wr.alloc (.cells #[.string p.1, .string p.2.s, .int .i64 (p.2.lasts : Int), .bool false] 80)).alloc (.cells #[.string p.1, .string cs, .int .i64 (cs.size : Int), .bool true] 80)) (some ⟨wr.heap.size + 1, 0, none⟩) 4 ([((p.1, ⟨cs, cs.size, true⟩) : ByteArray × Fl)].map flC)) := Lib.hid (by have hq := in_file (wr.alloc (.cells #[.string p.1, .string p.2.s, .int .i64 (p.2.lasts : Int), .bool false] 80)) (p.1, ⟨cs, cs.size, true⟩) 80; simp only [World.size_alloc] at hq; exact hq)
              have HRW := Lib.hid (h_rowAt HA2.out (i := 3) rfl)
              have HLN2 : Hid (acc.length + [((p.1, ⟨cs, cs.size, true⟩) : ByteArray × Fl)].length ≤ 1000000) := Lib.hid (by have := HAL.out; simp; omega)
              have o0 := (h_boxAt H1.out (i := 2) rfl).cell 0
              simp only [List.getElem?_cons_zero] at o0
              have hol := (h_boxAt HH.out (i := 2) rfl).lt
              go_wp2_with (at_builtin; refine wpList_append_m flLen flOne _ rfl _ _ _ rfl 80 i0 _ 48 Try.underlying46 hi0T hz0 hz1 hz2 rfl (by decide) (by omega) (.slice ub al uc) acc [((p.1, ⟨cs, cs.size, true⟩) : ByteArray × Fl)] rfl HRW.out (some ⟨wr.heap.size + 1, 0, none⟩) 1 1 rfl rfl HIN2.out HLN2.out ?_; intro v5 w5 o5 f5 h5; have h5' := h_more HA2.out (i := 3) rfl o5 f5 h5; obtain ⟨b5, c5, hv5, _, _, _⟩ := h_rowIn h5' (i := 3) rfl; obtain ⟨l5, hl5⟩ : ∃ l5, l5 = (acc ++ [((p.1, ⟨cs, cs.size, true⟩) : ByteArray × Fl)]).length := ⟨_, rfl⟩; rw [← hl5] at hv5; subst hv5; have kO5 := h_boxAt h5' (i := 2) rfl; have p0 := kO5.cell 0; have p0f := kO5.free 0; have hq5 := kO5.lt; simp only [List.getElem?_cons_zero] at p0; have H5 := Lib.hid h5'; clear h5' kO5 o5 f5 h5 hl5)
              all_goals
                have H6 := Lib.hid (h_set H5.out (i := 2) rfl 0 (.slice b5 l5 c5))
                exact ⟨⟨i + 1, _, _, by omega, by go_num, Lib.hid (by rw [HST.out, HEQ.out]), Here.init (os := crOs w.heap.size (some ⟨B, off, none⟩) ln cap fu dn w1.heap.size (.slice b5 l5 c5) (acc ++ [(p.1, Fl.mk cs cs.size true)])) (us := [Ob.box _ _ _]) H6.out⟩, by simp [intOf]; omega⟩
      · obtain ⟨c1, rfl, hx⟩ := hx
        rw [hx] at HKV
        have hK0 := HKV.out
        simp at hK0
        have t1 : decide ((i : Int) < (kn : Int)) = false := decide_eq_false (by omega)
        have t1' : decide (i < kn) = false := decide_eq_false c1
        have t2 : decide ((p.2.s.size : Int) - (p.2.lasts : Int) < 0) = false := decide_eq_false (by omega)
        clear hx c1
        have q2 : IntKind.i64.wrap ((p.2.lasts : Int) + (0)) = p.2.lasts + (0) := IntWalk.i64_in _ (by omega)
        have hsl := slice_text p.2.s (p.2.lasts + K) ((p.2.lasts : Int) + (0)) (by omega) (by omega)
        rw [Int.add_zero] at q2 hsl
        obtain ⟨cs, hcs⟩ : ∃ cs, cutB p.2.s (p.2.lasts + K) = cs := ⟨_, rfl⟩
        rw [hcs] at hsl
        have HCE := Lib.hid hcs
        have hcz := HCS.out
        rw [hcs] at hcz
        clear hcs
        cases hst : p.2.stays with
        | true =>
          rw [hst] at e3 H1
          have HEQ := Lib.hid (HSOM.out (.inl hst))
          rw [HCE.out] at HEQ
          rw [← hcz] at HEQ
          clear HSOM HNO HCS HKV hst hcz
          have HA2 := Lib.hid (H1.out.step_bel ((Below.refl _ _).alloc (Nat.le_refl _) (.cells #[.string p.1, .string cs, .int .i64 (cs.size : Int), .bool true] 80)))
          have HIN2 : Hid (InW ((wr.alloc (.cells #[.string p.1, .string p.2.s, .int .i64 (p.2.lasts : Int), .bool true] 80)).alloc (.cells #[.string p.1, .string cs, .int .i64 (cs.size : Int), .bool true] 80)) (some ⟨wr.heap.size + 1, 0, none⟩) 4 ([((p.1, ⟨cs, cs.size, true⟩) : ByteArray × Fl)].map flC)) := Lib.hid (by have hq := in_file (wr.alloc (.cells #[.string p.1, .string p.2.s, .int .i64 (p.2.lasts : Int), .bool true] 80)) (p.1, ⟨cs, cs.size, true⟩) 80; simp only [World.size_alloc] at hq; exact hq)
          have HRW := Lib.hid (h_rowAt HA2.out (i := 3) rfl)
          have HLN2 : Hid (acc.length + [((p.1, ⟨cs, cs.size, true⟩) : ByteArray × Fl)].length ≤ 1000000) := Lib.hid (by have := HAL.out; simp; omega)
          have o0 := (h_boxAt H1.out (i := 2) rfl).cell 0
          simp only [List.getElem?_cons_zero] at o0
          have hol := (h_boxAt HH.out (i := 2) rfl).lt
          go_wp2_with (at_builtin; refine wpList_append_m flLen flOne _ rfl _ _ _ rfl 80 i0 _ 48 Try.underlying46 hi0T hz0 hz1 hz2 rfl (by decide) (by omega) (.slice ub al uc) acc [((p.1, ⟨cs, cs.size, true⟩) : ByteArray × Fl)] rfl HRW.out (some ⟨wr.heap.size + 1, 0, none⟩) 1 1 rfl rfl HIN2.out HLN2.out ?_; intro v5 w5 o5 f5 h5; have h5' := h_more HA2.out (i := 3) rfl o5 f5 h5; obtain ⟨b5, c5, hv5, _, _, _⟩ := h_rowIn h5' (i := 3) rfl; obtain ⟨l5, hl5⟩ : ∃ l5, l5 = (acc ++ [((p.1, ⟨cs, cs.size, true⟩) : ByteArray × Fl)]).length := ⟨_, rfl⟩; rw [← hl5] at hv5; subst hv5; have kO5 := h_boxAt h5' (i := 2) rfl; have p0 := kO5.cell 0; have p0f := kO5.free 0; have hq5 := kO5.lt; simp only [List.getElem?_cons_zero] at p0; have H5 := Lib.hid h5'; clear h5' kO5 o5 f5 h5 hl5)
          all_goals
            have H6 := Lib.hid (h_set H5.out (i := 2) rfl 0 (.slice b5 l5 c5))
            exact ⟨⟨i + 1, _, _, by omega, by go_num, Lib.hid (by rw [HST.out, HEQ.out]), Here.init (os := crOs w.heap.size (some ⟨B, off, none⟩) ln cap fu dn w1.heap.size (.slice b5 l5 c5) (acc ++ [(p.1, Fl.mk cs cs.size true)])) (us := [Ob.box _ _ _]) H6.out⟩, by simp [intOf]; omega⟩
        | false =>
          rw [hst] at e3 H1
          by_cases hz : p.2.lasts + K = 0
          · have HEQ := Lib.hid (HNO.out hst hz)
            have t9 : (cs.toList == []) = true := by rw [textNil]; exact decide_eq_true (by omega)
            clear HSOM HNO HCS HKV hst hz hcz
            go_wp2_with fail
            go_roundw
            case rel => exact ⟨i + 1, _, acc, by omega, by go_num, Lib.hid (by rw [HST.out, HEQ.out, List.append_nil]), Here.init (us := [_]) H1.out⟩
            case measure => simp [intOf]; omega
          · have HEQ := Lib.hid (HSOM.out (.inr hz))
            have t9 : (cs.toList == []) = false := by rw [textNil]; exact decide_eq_false (by omega)
            rw [HCE.out] at HEQ
            rw [← hcz] at HEQ
            clear HSOM HNO HCS HKV hst hcz
            have HA2 := Lib.hid (H1.out.step_bel ((Below.refl _ _).alloc (Nat.le_refl _) (.cells #[.string p.1, .string cs, .int .i64 (cs.size : Int), .bool true] 80)))
            have HIN2 : Hid (InW ((wr.alloc (.cells #[.string p.1, .string p.2.s, .int .i64 (p.2.lasts : Int), .bool false] 80)).alloc (.cells #[.string p.1, .string cs, .int .i64 (cs.size : Int), .bool true] 80)) (some ⟨wr.heap.size + 1, 0, none⟩) 4 ([((p.1, ⟨cs, cs.size, true⟩) : ByteArray × Fl)].map flC)) := Lib.hid (by have hq := in_file (wr.alloc (.cells #[.string p.1, .string p.2.s, .int .i64 (p.2.lasts : Int), .bool false] 80)) (p.1, ⟨cs, cs.size, true⟩) 80; simp only [World.size_alloc] at hq; exact hq)
            have HRW := Lib.hid (h_rowAt HA2.out (i := 3) rfl)
            have HLN2 : Hid (acc.length + [((p.1, ⟨cs, cs.size, true⟩) : ByteArray × Fl)].length ≤ 1000000) := Lib.hid (by have := HAL.out; simp; omega)
            have o0 := (h_boxAt H1.out (i := 2) rfl).cell 0
            simp only [List.getElem?_cons_zero] at o0
            have hol := (h_boxAt HH.out (i := 2) rfl).lt
            go_wp2_with (at_builtin; refine wpList_append_m flLen flOne _ rfl _ _ _ rfl 80 i0 _ 48 Try.underlying46 hi0T hz0 hz1 hz2 rfl (by decide) (by omega) (.slice ub al uc) acc [((p.1, ⟨cs, cs.size, true⟩) : ByteArray × Fl)] rfl HRW.out (some ⟨wr.heap.size + 1, 0, none⟩) 1 1 rfl rfl HIN2.out HLN2.out ?_; intro v5 w5 o5 f5 h5; have h5' := h_more HA2.out (i := 3) rfl o5 f5 h5; obtain ⟨b5, c5, hv5, _, _, _⟩ := h_rowIn h5' (i := 3) rfl; obtain ⟨l5, hl5⟩ : ∃ l5, l5 = (acc ++ [((p.1, ⟨cs, cs.size, true⟩) : ByteArray × Fl)]).length := ⟨_, rfl⟩; rw [← hl5] at hv5; subst hv5; have kO5 := h_boxAt h5' (i := 2) rfl; have p0 := kO5.cell 0; have p0f := kO5.free 0; have hq5 := kO5.lt; simp only [List.getElem?_cons_zero] at p0; have H5 := Lib.hid h5'; clear h5' kO5 o5 f5 h5 hl5)
            all_goals
              have H6 := Lib.hid (h_set H5.out (i := 2) rfl 0 (.slice b5 l5 c5))
              exact ⟨⟨i + 1, _, _, by omega, by go_num, Lib.hid (by rw [HST.out, HEQ.out]), Here.init (os := crOs w.heap.size (some ⟨B, off, none⟩) ln cap fu dn w1.heap.size (.slice b5 l5 c5) (acc ++ [(p.1, Fl.mk cs cs.size true)])) (us := [Ob.box _ _ _]) H6.out⟩, by simp [intOf]; omega⟩
    · obtain rfl : i = ln := by omega
      have HE : Hid (crashL keep 0 L = acc) := Lib.hid (by
        have h1 := HPF.out
        rw [List.take_of_length_le (by rw [Hn.out]; omega)] at h1
        exact h1)
      have kR := h_boxAt hH (i := 1) rfl
      have r0 := kR.cell 0
      have r1 := kR.cell 1
      have r2 := kR.cell 2
      have rf0 := kR.free 0
      have rf1 := kR.free 1
      have rf2 := kR.free 2
      have o0 := (h_boxAt hH (i := 2) rfl).cell 0
      have o1 := (h_boxAt hH (i := 2) rfl).cell 1
      have o2 := (h_boxAt hH (i := 2) rfl).cell 2
      simp only [List.getElem?_cons_zero, List.getElem?_cons_succ] at r0 r1 r2 o0 o1 o2
      clear kR hH
      go_wp2_with fail
      have H7 := h_set (h_set (h_set HH.out (i := 1) rfl 0 (.slice ub al uc)) (i := 1) rfl 1 (.int .i64 (-1))) (i := 1) rfl 2 (.bool false)
      refine bodyPost_ret (fin1 rfl rfl (h_boxAt H7 (i := 1) rfl)) rfl ⟨_, rfl, ?_⟩
      rw [HE.out]
      exact h_mk H7 (i := 3) rfl
end Go.Proofs.Ytemfnchiedepoaa

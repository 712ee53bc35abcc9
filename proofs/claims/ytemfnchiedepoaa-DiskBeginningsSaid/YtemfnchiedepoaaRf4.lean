/- Contract of the document's Put (layer 4). -/
import Derived.Test.YtemfnchiedepoaaRf1
import Derived.BigQuiet
namespace Go.Proofs.Ytemfnchiedepoaa
open Go.RowKit Go.MapKept Go.Maps
set_option linter.unusedVariables false
abbrev putOs (d : Nat) (b : Option Addr) (ln cap : Nat) (fu : Int) (dn : Bool) (n : ByteArray) (f : Fl) (u : Value) (acc : Fs) : List Ob :=
  [.box d [.slice b ln cap, .int .i64 fu, .bool dn] 48, .box (d + 1) [.string n, .string f.s, .int .i64 (f.lasts : Int), .bool f.stays] 80, .box (d + 1 + 1) [.slice none 0 0, .int .i64 0, .bool false] 48, .box (d + 1 + 1 + 1) [u, .int .i64 fu, .bool dn] 48, .row u 80 4 acc.length (acc.flatMap flC)]
section
variable {w W : World} {d : Nat} {b : Option Addr} {ln cap : Nat} {fu : Int} {dn : Bool} {n : ByteArray} {f : Fl} {u : Value} {acc : Fs}
theorem put_facts (h : Here K04 w W (putOs d b ln cap fu dn n f u acc)) : W.cell? ⟨d, 0, none⟩ = some (.slice b ln cap) ∧ W.cell? ⟨d + 1, 0, none⟩ = some (.string n) ∧ W.cell? ⟨d + 1, 1, none⟩ = some (.string f.s) ∧ W.cell? ⟨d + 1, 2, none⟩ = some (.int .i64 (f.lasts : Int)) ∧ W.cell? ⟨d + 1, 3, none⟩ = some (.bool f.stays) ∧ W.cell? ⟨d + 1 + 1 + 1, 0, none⟩ = some u ∧ W.frozen? ⟨d + 1 + 1 + 1, 0, none⟩ = false ∧ d + 1 + 1 + 1 < W.heap.size := by
  have k0 := h_boxAt h (i := 0) rfl
  have k1 := h_boxAt h (i := 1) rfl
  have k3 := h_boxAt h (i := 3) rfl
  exact ⟨k0.cell 0, k1.cell 0, k1.cell 1, k1.cell 2, k1.cell 3, k3.cell 0, k3.free 0, k3.lt⟩
theorem put_more {w' : World} {v' : Value} {p : ByteArray × Fl} (h : Here K04 w W (putOs d b ln cap fu dn n f u acc)) (ho : w'.ownsRow 0 80 4 v' (acc ++ [p]).length ((acc ++ [p]).flatMap flC)) (hf : Fr (fun b => u.ownBlock = some b) W w') (he : Hence u v' W) :
    ∃ b5 c5, v' = .slice b5 (acc ++ [p]).length c5 ∧ Here K04 w (w'.setCell ⟨d + 1 + 1 + 1, 0, none⟩ v') (putOs d b ln cap fu dn n f v' (acc ++ [p])) ∧ w'.cell? ⟨d + 1 + 1 + 1, 0, none⟩ = some u ∧ w'.frozen? ⟨d + 1 + 1 + 1, 0, none⟩ = false ∧ d + 1 + 1 + 1 < w'.heap.size := by
  have h5 := h_more h (i := 4) rfl ho hf he
  obtain ⟨b5, c5, hv5, _, _, _⟩ := h_rowIn h5 (i := 4) rfl
  have k3 := h_boxAt h5 (i := 3) rfl
  exact ⟨b5, c5, hv5, h_set h5 (i := 3) rfl 0 v', k3.cell 0, k3.free 0, k3.lt⟩
theorem put_start (w : World) (b : Option Addr) (ln cap : Nat) (fu : Int) (dn : Bool) (n : ByteArray) (f : Fl) : Here K04 w ((((w.alloc (.cells #[.slice b ln cap, .int .i64 fu, .bool dn] 48)).alloc (.cells #[.string n, .string f.s, .int .i64 (f.lasts : Int), .bool f.stays] 80)).alloc (.cells #[.slice none 0 0, .int .i64 0, .bool false] 48)).alloc (.cells #[.slice none 0 0, .int .i64 fu, .bool dn] 48)) (putOs w.heap.size b ln cap fu dn n f (.slice none 0 0) []) := by
  have h1 := h_box (Here.nil (K := K04) (Below.refl w.heap.size w)) [.slice b ln cap, .int .i64 fu, .bool dn] 48
  have h1' := h_box h1 [.string n, .string f.s, .int .i64 (f.lasts : Int), .bool f.stays] 80
  have h2 := h_box h1' [.slice none 0 0, .int .i64 0, .bool false] 48
  have h3 := h_box h2 [.slice none 0 0, .int .i64 fu, .bool dn] 48
  have h4 := h_row h3 (v := .slice none 0 0) (e := 80) (sz := 4) (n := ([] : Fs).length) (xs := ([] : Fs).flatMap flC) (Below.refl _ _) ⟨by simp, .inl ⟨rfl, rfl⟩⟩ (by simp [Value.ownBlock])
  simp at h4
  exact h4
end
theorem leqB (a b : ByteArray) : (Op.bytesLess a.toList b.toList || a.toList == b.toList) = decide (¬ ltB b a) := by
  rw [bytesLess_lt, bytesEq, Bool.eq_iff_iff]
  simp only [Bool.or_eq_true, decide_eq_true_eq]
  constructor
  · rintro (h | h)
    · exact ltB_asymm h
    · subst h; exact ltB_irrefl _
  · intro h
    by_cases e : a = b
    · exact .inr e
    · exact .inl ((ltB_total e).resolve_right h)
theorem put_keep {n : ByteArray} {f : Fl} {p : ByteArray × Fl} (acc : Fs) (dd : Bool) (h : dd = true ∨ ltB p.1 n) (e : p.1 ≠ n) : putStep n f (acc, dd) p = (acc ++ [p], dd) := by
  unfold putStep
  rcases h with h | h
  · subst h; simp [e]
  · simp [e, h]
theorem put_skip {n : ByteArray} {f : Fl} {p : ByteArray × Fl} (acc : Fs) (dd : Bool) (h : dd = true) (e : p.1 = n) : putStep n f (acc, dd) p = (acc, dd) := by
  subst h
  unfold putStep
  simp [e]
theorem put_in {n : ByteArray} {f : Fl} {p : ByteArray × Fl} (acc : Fs) (h : ¬ ltB p.1 n) (e : p.1 = n) : putStep n f (acc, false) p = (acc ++ [(n, f)], true) := by
  unfold putStep
  simp [e, ltB_irrefl n]
theorem put_in2 {n : ByteArray} {f : Fl} {p : ByteArray × Fl} (acc : Fs) (h : ¬ ltB p.1 n) (e : p.1 ≠ n) : putStep n f (acc, false) p = ((acc ++ [(n, f)]) ++ [p], true) := by
  unfold putStep
  simp [e, h]
theorem putFold_take {n : ByteArray} {f : Fl} {L : Fs} {i : Nat} {p : ByteArray × Fl} (hp : L[i]? = some p) : putFold n f (L.take (i + 1)) = putStep n f (putFold n f (L.take i)) p := by
  rw [List.take_add_one, hp]
  exact putFold_snoc n f _ p
theorem putFold_len (n : ByteArray) (f : Fl) (L : Fs) : (putFold n f L).1.length ≤ 2 * L.length := by
  have key : ∀ (L : Fs) (r : Fs × Bool), (L.foldl (putStep n f) r).1.length ≤ r.1.length + 2 * L.length := fun L => by
    induction L with
    | nil => intro r; simp
    | cons p L ih =>
      intro r
      rw [List.foldl_cons]
      have h1 := ih (putStep n f r p)
      have h2 : (putStep n f r p).1.length ≤ r.1.length + 2 := by
        unfold putStep
        rw [List.length_append]
        have a : (if !r.2 && !decide (ltB p.1 n) then r.1 ++ [(n, f)] else r.1).length ≤ r.1.length + 1 := by split <;> simp
        have b : (if p.1 = n then ([] : Fs) else [p]).length ≤ 1 := by split <;> simp
        omega
      rw [List.length_cons]; omega
  have := key L ([], false)
  simpa [putFold] using this
set_option maxRecDepth 100000 in
set_option maxHeartbeats 4000000 in
theorem put_any (b : Option Addr) (cap : Nat) (L : Fs) (fu : Int) (dn : Bool) (n : ByteArray) (f : Fl) (w : World) (h : InW w b 4 (L.map flC)) (hl : L.length ≤ 5000) (hc : L.length ≤ cap) (ln : Nat) (hln : ln = L.length) :
    Calls Try.prog 43 #[.agg #[.slice b ln cap, .int .i64 fu, .bool dn], .agg #[.string n, .string f.s, .int .i64 (f.lasts : Int), .bool f.stays]] w fun e w' => ∃ u, e = .returned (.agg #[u, .int .i64 fu, .bool dn]) ∧ MkG 80 4 flC w w' u (fput L n f) := by
  obtain ⟨i0, hi0T, hz0, hz1, hz2⟩ := info_parts infoFl
  have HIW := Lib.hid h
  have Hn := Lib.hid hln
  have HLN : Hid (∀ i, (putFold n f (L.take i)).1.length ≤ 10000) := Lib.hid (fun i => by
    have h1 := putFold_len n f (L.take i)
    have h2 : (L.take i).length ≤ L.length := by rw [List.length_take]; omega
    omega)
  rw [← hln] at hl hc
  have HS0 := Lib.hid (put_start w b ln cap fu dn n f)
  clear h hln
  go_enter Try.func43, Try.ntmps43
  go_wp2_with fail
  go_loopw [6, 7] (fun s6 c wr => ∃ (i : Nat) (u : Value) (acc : Fs) (dd : Bool), i ≤ ln ∧ c = .int .i64 i ∧ s6 = .bool dd ∧ Hid (putFold n f (L.take i) = (acc, dd)) ∧ Here K04 w wr (putOs w.heap.size b ln cap fu dn n f u acc)) (fun _ c _ => ln - (intOf c).toNat)
  case atStart => exact ⟨0, .slice none 0 0, [], false, by omega, rfl, rfl, Lib.hid rfl, HS0.out⟩
  case round =>
    obtain ⟨i, u, acc, dd, hi, rfl, rfl, HPF, hH⟩ := hrel
    have HH := Lib.hid hH
    obtain ⟨ub, uc, hu, _, _, _⟩ := h_rowIn hH (i := 4) rfl
    have HAL : Hid (acc.length ≤ 10000) := Lib.hid (by have := HLN.out i; rw [HPF.out] at this; exact this)
    obtain ⟨al, hal⟩ : ∃ al, al = acc.length := ⟨_, rfl⟩
    rw [← hal] at hu
    subst hu
    obtain ⟨d0, x0, x1, x2, x3, o0, of0, olt⟩ := put_facts hH
    clear hH HS0 hal
    by_cases hlt : i < ln
    · obtain ⟨p, hp⟩ : ∃ p, L[i]? = some p := ⟨L[i]'(by rw [← Hn.out]; exact hlt), List.getElem?_eq_getElem _⟩
      obtain ⟨B, off, rfl, hB, c0, c1, c2, c3⟩ := fls_at HIW.out hp
      have HST := Lib.hid (putFold_take (n := n) (f := f) hp)
      rw [HPF.out] at HST
      have HCW : Hid (∀ W, Below w.heap.size w W → W.cell? ⟨B, off + i * 4, none⟩ = some (.string p.1) ∧ W.cell? ⟨B, off + i * 4 + 1, none⟩ = some (.string p.2.s) ∧ W.cell? ⟨B, off + i * 4 + 2, none⟩ = some (.int .i64 (p.2.lasts : Int)) ∧ W.cell? ⟨B, off + i * 4 + 3, none⟩ = some (.bool p.2.stays)) := Lib.hid (fun W hb => ⟨(hb.cell (p := ⟨B, off + i * 4, none⟩) hB).trans c0, (hb.cell (p := ⟨B, off + i * 4 + 1, none⟩) hB).trans c1, (hb.cell (p := ⟨B, off + i * 4 + 2, none⟩) hB).trans c2, (hb.cell (p := ⟨B, off + i * 4 + 3, none⟩) hB).trans c3⟩)
      obtain ⟨e0, e1, e2, e3⟩ := HCW.out wr HH.out.bel
      have hi0 : (0 : Int) ≤ (i : Int) := by omega
      have hi1 : (i : Int) < (ln : Int) := by omega
      clear hp c0 c1 c2 c3
      cases dd with
      | true =>
        go_wp2_with fail
        go_quiet (fail)
        have H1 := Lib.hid (HH.out.drewN nq)
        clear d0 x0 x1 x2 x3 o0 of0 olt e0 e1 e2 e3
        generalize wr.drewN nq = W1 at *
        obtain ⟨d0, x0, x1, x2, x3, o0, of0, olt⟩ := put_facts H1.out
        obtain ⟨e0, e1, e2, e3⟩ := HCW.out W1 H1.out.bel
        by_cases he : p.1 = n
        · have t1 : (p.1.toList == n.toList) = true := by rw [bytesEq]; exact decide_eq_true he
          rw [put_skip acc true rfl he] at HST
          clear he
          go_wp2_with fail
          go_quiet (fail)
          go_wp2_with fail
          go_roundw
          case rel => exact ⟨i + 1, _, _, _, by omega, by go_num, rfl, HST, H1.out.drewN _⟩
          case measure => simp [intOf]; omega
        · have t1 : (p.1.toList == n.toList) = false := by rw [bytesEq]; exact decide_eq_false he
          rw [put_keep acc true (.inl rfl) he] at HST
          clear he
          go_wp2_with fail
          go_quiet (fail)
          have H3 := Lib.hid (H1.out.drewN nq)
          clear d0 x0 x1 x2 x3 o0 of0 olt e0 e1 e2 e3
          generalize W1.drewN nq = W3 at *
          obtain ⟨d0, x0, x1, x2, x3, o0, of0, olt⟩ := put_facts H3.out
          obtain ⟨e0, e1, e2, e3⟩ := HCW.out W3 H3.out.bel
          have H4 := Lib.hid ((H3.out.step_bel ((Below.refl _ _).alloc (Nat.le_refl _) (.cells #[.string p.1, .string p.2.s, .int .i64 (p.2.lasts : Int), .bool p.2.stays] 80))).drew)
          have HIN3 : Hid (InW (W3.alloc (.cells #[.string p.1, .string p.2.s, .int .i64 (p.2.lasts : Int), .bool p.2.stays] 80)).drew (some ⟨W3.heap.size, 0, none⟩) 4 ([p].map flC)) := Lib.hid (InW.fr (in_file W3 p _) ((Fr.refl none' _).drew) (fun _ _ _ => id))
          have HRW3 := Lib.hid (h_rowAt H4.out (i := 4) rfl)
          have HLN3 : Hid (acc.length + [p].length ≤ 1000000) := Lib.hid (by have := HAL.out; simp; omega)
          go_wp2_with fail
          go_region_law (first
            | (refine step_append_m flLen flOne (by rfl) _ _ _ (by rfl) 80 i0 _ 48 Try.underlying46 hi0T hz0 hz1 hz2 rfl (by decide) (by omega) (.slice ub al uc) acc [p] (by rfl) HRW3.out (some ⟨W3.heap.size, 0, none⟩) 1 1 (by rfl) rfl HIN3.out HLN3.out ?_
               intro v7 w7 o7 f7 h7
               have hmr := put_more H4.out o7 f7 h7
               obtain ⟨b7, c7, hv7, hH7, p0, p0f, hq7⟩ := hmr
               obtain ⟨l7, hl7⟩ : ∃ l7, l7 = (acc ++ [p]).length := ⟨_, rfl⟩
               rw [← hl7] at hv7
               subst hv7
               have H7 := Lib.hid hH7
               clear hH7 o7 f7 h7 hl7)
            | fail)
          all_goals
            go_wp2_with fail
            go_roundw
            case rel => exact ⟨i + 1, _, _, _, by omega, by go_num, rfl, HST, H7.out⟩
            case measure => simp [intOf]; omega
      | false =>
        by_cases hlt2 : ltB p.1 n
        · have u1 : (Op.bytesLess n.toList p.1.toList || n.toList == p.1.toList) = false := by rw [leqB]; exact decide_eq_false (fun c => c hlt2)
          go_wp2_with fail
          go_quiet (fail)
          have H1 := Lib.hid (HH.out.drewN nq)
          clear d0 x0 x1 x2 x3 o0 of0 olt e0 e1 e2 e3
          generalize wr.drewN nq = W1 at *
          obtain ⟨d0, x0, x1, x2, x3, o0, of0, olt⟩ := put_facts H1.out
          obtain ⟨e0, e1, e2, e3⟩ := HCW.out W1 H1.out.bel
          by_cases he : p.1 = n
          · have t1 : (p.1.toList == n.toList) = true := by rw [bytesEq]; exact decide_eq_true he
            exact absurd hlt2 (by rw [he]; exact ltB_irrefl n)
          · have t1 : (p.1.toList == n.toList) = false := by rw [bytesEq]; exact decide_eq_false he
            rw [put_keep acc false (.inr hlt2) he] at HST
            clear he
            go_wp2_with fail
            go_quiet (fail)
            have H3 := Lib.hid (H1.out.drewN nq)
            clear d0 x0 x1 x2 x3 o0 of0 olt e0 e1 e2 e3
            generalize W1.drewN nq = W3 at *
            obtain ⟨d0, x0, x1, x2, x3, o0, of0, olt⟩ := put_facts H3.out
            obtain ⟨e0, e1, e2, e3⟩ := HCW.out W3 H3.out.bel
            have H4 := Lib.hid ((H3.out.step_bel ((Below.refl _ _).alloc (Nat.le_refl _) (.cells #[.string p.1, .string p.2.s, .int .i64 (p.2.lasts : Int), .bool p.2.stays] 80))).drew)
            have HIN3 : Hid (InW (W3.alloc (.cells #[.string p.1, .string p.2.s, .int .i64 (p.2.lasts : Int), .bool p.2.stays] 80)).drew (some ⟨W3.heap.size, 0, none⟩) 4 ([p].map flC)) := Lib.hid (InW.fr (in_file W3 p _) ((Fr.refl none' _).drew) (fun _ _ _ => id))
            have HRW3 := Lib.hid (h_rowAt H4.out (i := 4) rfl)
            have HLN3 : Hid (acc.length + [p].length ≤ 1000000) := Lib.hid (by have := HAL.out; simp; omega)
            go_wp2_with fail
            go_region_law (first
              | (refine step_append_m flLen flOne (by rfl) _ _ _ (by rfl) 80 i0 _ 48 Try.underlying46 hi0T hz0 hz1 hz2 rfl (by decide) (by omega) (.slice ub al uc) acc [p] (by rfl) HRW3.out (some ⟨W3.heap.size, 0, none⟩) 1 1 (by rfl) rfl HIN3.out HLN3.out ?_
                 intro v7 w7 o7 f7 h7
                 have hmr := put_more H4.out o7 f7 h7
                 obtain ⟨b7, c7, hv7, hH7, p0, p0f, hq7⟩ := hmr
                 obtain ⟨l7, hl7⟩ : ∃ l7, l7 = (acc ++ [p]).length := ⟨_, rfl⟩
                 rw [← hl7] at hv7
                 subst hv7
                 have H7 := Lib.hid hH7
                 clear hH7 o7 f7 h7 hl7)
              | fail)
            all_goals
              go_wp2_with fail
              go_roundw
              case rel => exact ⟨i + 1, _, _, _, by omega, by go_num, rfl, HST, H7.out⟩
              case measure => simp [intOf]; omega
        · have u1 : (Op.bytesLess n.toList p.1.toList || n.toList == p.1.toList) = true := by rw [leqB]; exact decide_eq_true hlt2
          go_wp2_with fail
          go_quiet (fail)
          have H1 := Lib.hid (HH.out.drewN nq)
          clear d0 x0 x1 x2 x3 o0 of0 olt e0 e1 e2 e3
          generalize wr.drewN nq = W1 at *
          obtain ⟨d0, x0, x1, x2, x3, o0, of0, olt⟩ := put_facts H1.out
          obtain ⟨e0, e1, e2, e3⟩ := HCW.out W1 H1.out.bel
          have HA2 := Lib.hid (H1.out.step_bel ((Below.refl _ _).alloc (Nat.le_refl _) (.cells #[.string n, .string f.s, .int .i64 (f.lasts : Int), .bool f.stays] 80)))
          have HIN2 : Hid (InW (W1.alloc (.cells #[.string n, .string f.s, .int .i64 (f.lasts : Int), .bool f.stays] 80)) (some ⟨W1.heap.size, 0, none⟩) 4 ([((n, f) : ByteArray × Fl)].map flC)) := Lib.hid (in_file W1 (n, f) _)
          have HRW := Lib.hid (h_rowAt HA2.out (i := 4) rfl)
          have HLN2 : Hid (acc.length + [((n, f) : ByteArray × Fl)].length ≤ 1000000) := Lib.hid (by have := HAL.out; simp; omega)
          go_wp2_with (at_builtin; refine wpList_append_m flLen flOne _ rfl _ _ _ rfl 80 i0 _ 48 Try.underlying46 hi0T hz0 hz1 hz2 rfl (by decide) (by omega) (.slice ub al uc) acc [((n, f) : ByteArray × Fl)] rfl HRW.out (some ⟨W1.heap.size, 0, none⟩) 1 1 rfl rfl HIN2.out HLN2.out ?_; intro v5 w5 o5 f5 h5; have hmr := put_more HA2.out o5 f5 h5; obtain ⟨b5, c5, hv5, hH5, p0, p0f, hq5⟩ := hmr; have H5 := Lib.hid hH5; clear hH5 o5 f5 h5; obtain ⟨l5, hl5⟩ : ∃ l5, l5 = (acc ++ [((n, f) : ByteArray × Fl)]).length := ⟨_, rfl⟩; rw [← hl5] at hv5; subst hv5; clear hl5)
          clear d0 x0 x1 x2 x3 o0 of0 olt e0 e1 e2 e3 HA2 HIN2 HRW
          generalize w5.setCell ⟨w.heap.size + 1 + 1 + 1, 0, none⟩ (.slice b5 l5 c5) = W2 at *
          obtain ⟨d0, x0, x1, x2, x3, o0, of0, olt⟩ := put_facts H5.out
          obtain ⟨e0, e1, e2, e3⟩ := HCW.out W2 H5.out.bel
          by_cases he : p.1 = n
          · have t1 : (p.1.toList == n.toList) = true := by rw [bytesEq]; exact decide_eq_true he
            rw [put_in acc hlt2 he] at HST
            clear he
            go_wp2_with fail
            go_quiet (fail)
            go_wp2_with fail
            go_roundw
            case rel => exact ⟨i + 1, _, _, _, by omega, by go_num, rfl, HST, H5.out.drewN _⟩
            case measure => simp [intOf]; omega
          · have t1 : (p.1.toList == n.toList) = false := by rw [bytesEq]; exact decide_eq_false he
            rw [put_in2 acc hlt2 he] at HST
            clear he
            go_wp2_with fail
            go_quiet (fail)
            have H3 := Lib.hid (H5.out.drewN nq)
            clear d0 x0 x1 x2 x3 o0 of0 olt e0 e1 e2 e3
            generalize W2.drewN nq = W3 at *
            obtain ⟨d0, x0, x1, x2, x3, o0, of0, olt⟩ := put_facts H3.out
            obtain ⟨e0, e1, e2, e3⟩ := HCW.out W3 H3.out.bel
            have H4 := Lib.hid ((H3.out.step_bel ((Below.refl _ _).alloc (Nat.le_refl _) (.cells #[.string p.1, .string p.2.s, .int .i64 (p.2.lasts : Int), .bool p.2.stays] 80))).drew)
            have HIN3 : Hid (InW (W3.alloc (.cells #[.string p.1, .string p.2.s, .int .i64 (p.2.lasts : Int), .bool p.2.stays] 80)).drew (some ⟨W3.heap.size, 0, none⟩) 4 ([p].map flC)) := Lib.hid (InW.fr (in_file W3 p _) ((Fr.refl none' _).drew) (fun _ _ _ => id))
            have HRW3 := Lib.hid (h_rowAt H4.out (i := 4) rfl)
            have HLN3 : Hid ((acc ++ [((n, f) : ByteArray × Fl)]).length + [p].length ≤ 1000000) := Lib.hid (by have := HAL.out; simp; omega)
            go_wp2_with fail
            go_region_law (first
              | (refine step_append_m flLen flOne (by rfl) _ _ _ (by rfl) 80 i0 _ 48 Try.underlying46 hi0T hz0 hz1 hz2 rfl (by decide) (by omega) (.slice b5 l5 c5) (acc ++ [((n, f) : ByteArray × Fl)]) [p] (by rfl) HRW3.out (some ⟨W3.heap.size, 0, none⟩) 1 1 (by rfl) rfl HIN3.out HLN3.out ?_
                 intro v7 w7 o7 f7 h7
                 have hmr := put_more H4.out o7 f7 h7
                 obtain ⟨b7, c7, hv7, hH7, p0, p0f, hq7⟩ := hmr
                 obtain ⟨l7, hl7⟩ : ∃ l7, l7 = ((acc ++ [((n, f) : ByteArray × Fl)]) ++ [p]).length := ⟨_, rfl⟩
                 rw [← hl7] at hv7
                 subst hv7
                 have H7 := Lib.hid hH7
                 clear hH7 o7 f7 h7 hl7)
              | fail)
            all_goals
              go_wp2_with fail
              go_roundw
              case rel => exact ⟨i + 1, _, _, _, by omega, by go_num, rfl, HST, H7.out⟩
              case measure => simp [intOf]; omega
    · obtain rfl : i = ln := by omega
      have HE : Hid (putFold n f L = (acc, dd)) := Lib.hid (by
        have h1 := HPF.out
        rw [List.take_of_length_le (by rw [Hn.out]; omega)] at h1
        exact h1)
      have HFP : Hid (fput L n f = acc ++ (if dd then [] else [(n, f)])) := Lib.hid (by unfold fput; rw [HE.out])
      clear HPF HE
      cases dd with
      | true =>
        rw [if_pos rfl, List.append_nil] at HFP
        have kR := h_boxAt HH.out (i := 2) rfl
        have r0 := kR.cell 0
        have r1 := kR.cell 1
        have r2 := kR.cell 2
        have rf0 := kR.free 0
        have rf1 := kR.free 1
        have rf2 := kR.free 2
        have o1 := (h_boxAt HH.out (i := 3) rfl).cell 1
        have o2 := (h_boxAt HH.out (i := 3) rfl).cell 2
        simp only [List.getElem?_cons_zero, List.getElem?_cons_succ] at r0 r1 r2 o1 o2
        clear kR
        go_wp2_with fail
        have H7 := h_set (h_set (h_set HH.out (i := 2) rfl 0 (.slice ub al uc)) (i := 2) rfl 1 (.int .i64 fu)) (i := 2) rfl 2 (.bool dn)
        refine bodyPost_ret (fin1 rfl rfl (h_boxAt H7 (i := 2) rfl)) rfl ⟨_, rfl, ?_⟩
        rw [HFP.out]
        exact h_mk H7 (i := 4) rfl
      | false =>
        rw [if_neg (by simp)] at HFP
        have HA2 := Lib.hid (HH.out.step_bel ((Below.refl _ _).alloc (Nat.le_refl _) (.cells #[.string n, .string f.s, .int .i64 (f.lasts : Int), .bool f.stays] 80)))
        have HIN2 : Hid (InW (wr.alloc (.cells #[.string n, .string f.s, .int .i64 (f.lasts : Int), .bool f.stays] 80)) (some ⟨wr.heap.size, 0, none⟩) 4 ([((n, f) : ByteArray × Fl)].map flC)) := Lib.hid (in_file wr (n, f) _)
        have HRW := Lib.hid (h_rowAt HA2.out (i := 4) rfl)
        have HLN2 : Hid (acc.length + [((n, f) : ByteArray × Fl)].length ≤ 1000000) := Lib.hid (by have := HAL.out; simp; omega)
        go_wp2_with (at_builtin; refine wpList_append_m flLen flOne _ rfl _ _ _ rfl 80 i0 _ 48 Try.underlying46 hi0T hz0 hz1 hz2 rfl (by decide) (by omega) (.slice ub al uc) acc [((n, f) : ByteArray × Fl)] rfl HRW.out (some ⟨wr.heap.size, 0, none⟩) 1 1 rfl rfl HIN2.out HLN2.out ?_; intro v5 w5 o5 f5 h5; have hmr := put_more HA2.out o5 f5 h5; obtain ⟨b5, c5, hv5, hH5, p0, p0f, hq5⟩ := hmr; have H5 := Lib.hid hH5; clear hH5 o5 f5 h5; obtain ⟨l5, hl5⟩ : ∃ l5, l5 = (acc ++ [((n, f) : ByteArray × Fl)]).length := ⟨_, rfl⟩; rw [← hl5] at hv5; subst hv5; clear hl5; have kR := h_boxAt H5.out (i := 2) rfl; have r0 := kR.cell 0; have r1 := kR.cell 1; have r2 := kR.cell 2; have rf0 := kR.free 0; have rf1 := kR.free 1; have rf2 := kR.free 2; have o0 := (h_boxAt H5.out (i := 3) rfl).cell 0; have o1 := (h_boxAt H5.out (i := 3) rfl).cell 1; have o2 := (h_boxAt H5.out (i := 3) rfl).cell 2; simp only [List.getElem?_cons_zero, List.getElem?_cons_succ] at r0 r1 r2 o0 o1 o2; clear kR)
        have H7 := h_set (h_set (h_set H5.out (i := 2) rfl 0 (.slice b5 l5 c5)) (i := 2) rfl 1 (.int .i64 fu)) (i := 2) rfl 2 (.bool dn)
        refine bodyPost_ret (fin1 rfl rfl (h_boxAt H7 (i := 2) rfl)) rfl ⟨_, rfl, ?_⟩
        rw [HFP.out]
        exact h_mk H7 (i := 4) rfl
end Go.Proofs.Ytemfnchiedepoaa

/- Contracts of the reference's All. -/
import Derived.Test.YtipblbmpckfigaaDMisc
import Derived.Test.YtipblbmpckfigaaAllLaw
import Derived.Maps.AppendAt
import Derived.Deep.LoopGhost
namespace Go.Proofs.Ytipblbmpckfigaa
open Go.RowKit Dist
set_option linter.unusedVariables false
theorem one_u64 (x : Int) : ∀ u ∈ ([.int .u64 x] : List Value), u.oneCell' = true := by simp [Value.oneCell']
/-- an empty row, made -/
theorem row_empty (w : World) : (w.alloc (.cells #[] 23)).ownsRow 0 23 1 (.slice (some ⟨w.heap.size, 0, none⟩) 0 0) 0 (([] : List Int).map (Value.int .u64)) :=
  World.ownsRow_made w #[] 0 (Nat.zero_le _) (by unfold maxLen; omega) rfl
/-- the row that grows beside the one that is gone through -/
structure Grow (wo wi : World) (v vn : Value) (L N : List Int) : Prop where
  out : wi.ownsRow 0 23 1 v L.length (L.map (Value.int .u64))
  nxt : wi.ownsRow 0 23 1 vn N.length (N.map (Value.int .u64))
  vlt : ∀ b, v.ownBlock = some b → b < wo.heap.size
  nge : ∀ b, vn.ownBlock = some b → wo.heap.size ≤ b
  bel : Below wo.heap.size wo wi
/-- behind an append of one number -/
theorem Grow.app {wo wi w1 : World} {v vn v1 : Value} {L N : List Int} {x : Int} (h : Grow wo wi v vn L N) (r : w1.ownsRow 0 23 1 v1 (N.length + 1) (N.map (Value.int .u64) ++ [.int .u64 x])) (f : Fr (fun b => vn.ownBlock = some b) (wi.alloc (.cells #[.int .u64 x] 23)) w1) (e : Hence vn v1 (wi.alloc (.cells #[.int .u64 x] 23))) : Grow wo w1 v v1 L (N ++ [x]) := by
  have hsz := h.bel.size
  have b1 : Below wo.heap.size wo (wi.alloc (.cells #[.int .u64 x] 23)) := h.bel.alloc hsz _
  refine ⟨f.row (h.out.alloc _) (fun b hb hn => by have := h.vlt b hb; have := h.nge b hn; omega), by simpa using r, h.vlt, fun b hb => ?_, b1.trans (f.below (by simp; omega) (fun b hb => h.nge b hb))⟩
  rcases e with e | e
  · rw [e] at hb; exact h.nge b hb
  · rw [e] at hb; cases hb; simp; omega
set_option maxHeartbeats 4000000 in
set_option maxRecDepth 100000 in
theorem all_any (b : Option Addr) (cap : Nat) (xs : List ByteArray) (w : World) (h : Strs w b xs) (ho : ∀ s ∈ xs, s.size ≤ maxLen) (hl : xs.length ≤ 10000) :
    Calls Try.prog 21 #[.slice b xs.length cap] w (RowPost (allOf (hs xs) []) w) := by
  obtain ⟨i0, hi, hz0, hz1, hz2⟩ := info_parts info64
  have hall : ∀ i, (allOf (hs (xs.take i)) []).length ≤ 10000 := fun i => by
    have h1 := all_length (hs (xs.take i)) []
    have h2 : (hs (xs.take i)).length ≤ xs.length := by rw [hs, List.length_map, List.length_take]; omega
    simp only [List.length_nil] at h1
    omega
  have HAL := Lib.hid hall
  clear hall
  generalize hn : xs.length = n at *
  have Hn := Lib.hid hn
  clear hn
  go_enter Try.func21, Try.ntmps21
  go_wp2_with fail
  go_loopg [3, 4] n (fun m s3 c wr => ∃ (i : Nat) (L : List Int), i ≤ n ∧ n - i ≤ m ∧ c = .int .i64 i ∧ L = allOf (hs (xs.take i)) [] ∧ wr.ownsRow 0 23 1 s3 L.length (L.map (Value.int .u64)) ∧ (∀ b, s3.ownBlock = some b → w.heap.size ≤ b) ∧ Below w.heap.size w wr)
  case atStart => exact ⟨0, [], by omega, by omega, rfl, rfl, row_empty w, (fun b hb => by cases hb; exact Nat.le_refl _), (Below.refl _ _).alloc (Nat.le_refl _) _⟩
  case round =>
    obtain ⟨i, L, hin, hm, rfl, hL, hr, hv, hB⟩ := hrel
    have HL := Lib.hid hL
    have hLl : L.length ≤ 10000 := by rw [hL]; exact HAL.out i
    have hup : Up L := by rw [hL]; exact up_all _ up_nil
    clear hL
    by_cases hlt : i < n
    · obtain ⟨s, hs'⟩ : ∃ s, xs[i]? = some s := ⟨xs[i]'(by have := Hn.out; omega), List.getElem?_eq_getElem _⟩
      obtain ⟨B, off, rfl, hBl, hc⟩ := Strs.at h hs'
      have hsz : s.size ≤ maxLen := ho s (List.mem_of_getElem? hs')
      have c1 := hB.cell (p := ⟨B, off + i, none⟩) hBl
      rw [hc] at c1
      clear hc
      have HS : Hid (allOf (hs (xs.take (i + 1))) [] = insU L (hash s.data.toList)) := by
        show allOf (hs (xs.take (i + 1))) [] = _
        rw [hs_snoc hs', all_snoc, ← HL.out]
      clear hs'
      have HH := Lib.hid (fun w => rhash_any s w hsz)
      generalize hash s.data.toList = hh at *
      obtain ⟨p1, q1, rfl, hq1, hq2, Nr, _⟩ := nums_of_row hr
      unfold maxLen at hq2
      go_wp2_with fail
      refine (HH.out _).mono ?_
      rintro e w1 ⟨rfl, rfl⟩
      have hgr : Grow wr (wr.alloc (.cells #[] 23)) (.slice p1 L.length q1) (.slice (some ⟨wr.heap.size, 0, none⟩) 0 0) L [] :=
        ⟨hr.alloc _, row_empty wr, fun b hb => (hr.lt b hb).2, (fun b hb => by cases hb; exact Nat.le_refl _), (Below.refl _ _).alloc (Nat.le_refl _) _⟩
      have hsw := hB.size
      clear HH c1
      generalize hnl : L.length = nl at *
      have Hnl := Lib.hid hnl
      clear hnl
      go_wp2_with fail
      obtain ⟨wo, rfl⟩ : ∃ wo : World, wo = wr := ⟨_, rfl⟩
      have hswo : w.heap.size ≤ wo.heap.size := hsw
      have hBo : Below w.heap.size w wo := hB
      clear hr hB hsw Nr
      go_loopw [6, 7, 8] (fun s6 s7 c wi => ∃ (j : Nat) (M : List Int × Bool), j ≤ nl ∧ c = .int .i64 j ∧ M = mkN (L.take j) hh ∧ s7 = .bool M.2 ∧ Grow wo wi (.slice p1 nl q1) s6 L M.1) (fun _ _ c _ => nl - (intOf c).toNat)
      case atStart => exact ⟨0, ([], false), by omega, rfl, rfl, rfl, by rw [← Hnl.out] at hgr ⊢; exact hgr⟩
      case round =>
        obtain ⟨j, M, hjn, rfl, hM, rfl, G⟩ := hrel
        have hMl : M.1.length ≤ 20000 := by
          rw [hM]
          have h1 := mkN_length hh (L.take j)
          have h2 : (L.take j).length ≤ L.length := by rw [List.length_take]; omega
          have := Hnl.out
          omega
        have HM := Lib.hid hM
        clear hM hgr
        obtain ⟨N, dn⟩ := M
        simp only at G hMl
        by_cases hjl : j < nl
        · obtain ⟨x, hx⟩ : ∃ x, L[j]? = some x := ⟨L[j]'(by have := Hnl.out; omega), List.getElem?_eq_getElem _⟩
          have HK0 : Hid (mkN (L.take (j + 1)) hh = stepN hh (N, dn) x) := by
            show mkN (L.take (j + 1)) hh = _
            rw [List.take_add_one, hx, HM.out]; exact mkN_snoc _ _ _
          obtain ⟨p3, q3, e3, _, _, Ni, _⟩ := nums_of_row G.out
          rw [Hnl.out] at e3
          cases e3
          obtain ⟨B', o', rfl, lb, cx⟩ := Ni.at hx
          clear hx Ni
          have lbw := lb
          cases dn
          · rcases Int.lt_trichotomy x hh with hlt2 | heq | hgt
            · -- less: it is put on
              have HK : Hid (mkN (L.take (j + 1)) hh = (N ++ [x], false)) := by
                show mkN (L.take (j + 1)) hh = _
                have t1 : decide (hh ≤ x) = false := decide_eq_false (by omega)
                have t2 : x ≠ hh := by omega
                rw [HK0.out]; simp [stepN, t1, t2]
              have t1 : decide (hh ≤ x) = false := decide_eq_false (by omega)
              have t2 : (x != hh) = true := by simp; omega
              clear HK0
              go_wp2_with (at_builtin; refine wpList_append_row _ rfl (.tmp 48) (.tmp 53) 33 rfl 23 i0 (.int .u64 0) 1 8 Try.underlying33 hi hz0 hz1 hz2 rfl (by decide) _ _ _ rfl (G.nxt.alloc _) ⟨wr.heap.size, 0, none⟩ 1 1 [.int .u64 x] rfl rfl (cell_one_new _ _ _) (one_u64 _) (by unfold maxLen; omega) (by omega) ?_; intro v1 w1 r1 f1 e1)
              have G1 := G.app r1 f1 e1
              clear r1 f1 e1 G
              go_wp2_with fail
              go_roundw
              case rel => first | exact ⟨j + 1, (N ++ [x], false), by omega, by go_num, HK.out.symm, rfl, G1⟩ | ((repeat apply Exists.intro); exact ⟨⟨j + 1, (N ++ [x], false), by omega, by go_num, HK.out.symm, rfl, G1⟩, rfl⟩)
              case measure => simp [intOf]; omega
            · -- the number itself
              subst heq
              have HK : Hid (mkN (L.take (j + 1)) x = (N ++ [x], true)) := by
                show mkN (L.take (j + 1)) x = _
                rw [HK0.out]; simp [stepN]
              have t1 : decide (x ≤ x) = true := by simp
              have t2 : (x != x) = false := by simp
              clear HK0
              have l1 := G.vlt B' rfl
              go_wp2_with (at_builtin; refine wpList_append_row _ rfl (.tmp 38) (.tmp 40) 33 rfl 23 i0 (.int .u64 0) 1 8 Try.underlying33 hi hz0 hz1 hz2 rfl (by decide) _ _ _ rfl (G.nxt.alloc _) ⟨wr.heap.size, 0, none⟩ 1 1 [.int .u64 x] rfl rfl (cell_one_new _ _ _) (one_u64 _) (by unfold maxLen; omega) (by omega) ?_; intro v1 w1 r1 f1 e1; have G1 := G.app r1 f1 e1; have c2 : w1.cell? ⟨B', o' + j, none⟩ = some (.int .u64 x) := (G1.bel.cell (p := ⟨B', o' + j, none⟩) l1).trans ((G.bel.cell (p := ⟨B', o' + j, none⟩) l1).symm.trans cx))
              go_roundw
              case rel => first | exact ⟨j + 1, (N ++ [x], true), by omega, by go_num, HK.out.symm, rfl, G1⟩ | ((repeat apply Exists.intro); exact ⟨⟨j + 1, (N ++ [x], true), by omega, by go_num, HK.out.symm, rfl, G1⟩, rfl⟩)
              case measure => simp [intOf]; omega
            · -- greater: both are put on
              have HK : Hid (mkN (L.take (j + 1)) hh = (N ++ [hh] ++ [x], true)) := by
                show mkN (L.take (j + 1)) hh = _
                have t1 : decide (hh ≤ x) = true := decide_eq_true (by omega)
                have t2 : x ≠ hh := by omega
                rw [HK0.out]; simp [stepN, t1, t2]
              have t1 : decide (hh ≤ x) = true := decide_eq_true (by omega)
              have t2 : (x != hh) = true := by simp; omega
              clear HK0
              have l1 := G.vlt B' rfl
              go_wp2_with (first | (at_builtin; refine wpList_append_row _ rfl (.tmp 38) (.tmp 40) 33 rfl 23 i0 (.int .u64 0) 1 8 Try.underlying33 hi hz0 hz1 hz2 rfl (by decide) _ _ _ rfl (G.nxt.alloc _) ⟨wr.heap.size, 0, none⟩ 1 1 [.int .u64 hh] rfl rfl (cell_one_new _ _ _) (one_u64 _) (by unfold maxLen; omega) (by omega) ?_; intro v1 w1 r1 f1 e1; have G1 := G.app r1 f1 e1; have c2 : w1.cell? ⟨B', o' + j, none⟩ = some (.int .u64 x) := (G1.bel.cell (p := ⟨B', o' + j, none⟩) l1).trans ((G.bel.cell (p := ⟨B', o' + j, none⟩) l1).symm.trans cx)) | (at_builtin; refine wpList_append_row _ rfl (.tmp 48) (.tmp 53) 33 rfl 23 i0 (.int .u64 0) 1 8 Try.underlying33 hi hz0 hz1 hz2 rfl (by decide) _ _ _ rfl (G1.nxt.alloc _) ⟨w1.heap.size, 0, none⟩ 1 1 [.int .u64 x] rfl rfl (cell_one_new _ _ _) (one_u64 _) (by simp only [List.length_append, List.length_singleton]; unfold maxLen; omega) (by simp only [List.length_append, List.length_singleton]; omega) ?_; intro v2 w2 r2 f2 e2) | fail)
              have G2 := G1.app r2 f2 e2
              clear r1 f1 e1 G G1 r2 f2 e2
              go_wp2_with fail
              go_roundw
              case rel => first | exact ⟨j + 1, (N ++ [hh] ++ [x], true), by omega, by go_num, HK.out.symm, rfl, G2⟩ | ((repeat apply Exists.intro); exact ⟨⟨j + 1, (N ++ [hh] ++ [x], true), by omega, by go_num, HK.out.symm, rfl, G2⟩, rfl⟩)
              case measure => simp [intOf]; omega
          · by_cases heq : x = hh
            · subst heq
              have HK : Hid (mkN (L.take (j + 1)) x = (N, true)) := by
                show mkN (L.take (j + 1)) x = _
                rw [HK0.out]; simp [stepN]
              have t2 : (x != x) = false := by simp
              clear HK0
              go_wp2_with fail
              go_roundw
              case rel => first | exact ⟨j + 1, (N, true), by omega, by go_num, HK.out.symm, rfl, G⟩ | ((repeat apply Exists.intro); exact ⟨⟨j + 1, (N, true), by omega, by go_num, HK.out.symm, rfl, G⟩, rfl⟩)
              case measure => simp [intOf]; omega
            · have HK : Hid (mkN (L.take (j + 1)) hh = (N ++ [x], true)) := by
                show mkN (L.take (j + 1)) hh = _
                rw [HK0.out]; simp [stepN, heq]
              have t2 : (x != hh) = true := by simpa using heq
              clear HK0
              go_wp2_with (at_builtin; refine wpList_append_row _ rfl (.tmp 48) (.tmp 53) 33 rfl 23 i0 (.int .u64 0) 1 8 Try.underlying33 hi hz0 hz1 hz2 rfl (by decide) _ _ _ rfl (G.nxt.alloc _) ⟨wr.heap.size, 0, none⟩ 1 1 [.int .u64 x] rfl rfl (cell_one_new _ _ _) (one_u64 _) (by unfold maxLen; omega) (by omega) ?_; intro v1 w1 r1 f1 e1)
              have G1 := G.app r1 f1 e1
              clear r1 f1 e1 G
              go_wp2_with fail
              go_roundw
              case rel => first | exact ⟨j + 1, (N ++ [x], true), by omega, by go_num, HK.out.symm, rfl, G1⟩ | ((repeat apply Exists.intro); exact ⟨⟨j + 1, (N ++ [x], true), by omega, by go_num, HK.out.symm, rfl, G1⟩, rfl⟩)
              case measure => simp [intOf]; omega
        · obtain rfl : j = nl := by omega
          have HE : Hid ((if dn then N else N ++ [hh]) = insU L hh) := by
            have h1 := mkN_all hup hh
            have h2 := HM.out
            rw [List.take_of_length_le (by have := Hnl.out; omega)] at h2
            rw [← h2] at h1
            exact h1
          cases dn
          · have HE2 : Hid (N ++ [hh] = insU L hh) := HE.out
            clear HE
            go_wp2_with (at_builtin; refine wpList_append_row _ rfl (.tmp 57) (.tmp 59) 33 rfl 23 i0 (.int .u64 0) 1 8 Try.underlying33 hi hz0 hz1 hz2 rfl (by decide) _ _ _ rfl (G.nxt.alloc _) ⟨wr.heap.size, 0, none⟩ 1 1 [.int .u64 hh] rfl rfl (cell_one_new _ _ _) (one_u64 _) (by unfold maxLen; omega) (by omega) ?_; intro v1 w1 r1 f1 e1)
            have G1 := G.app r1 f1 e1
            clear r1 f1 e1 G
            go_wp2_with fail
            go_roundg (n - (i + 1))
            case measure => omega
            case rel =>
              have hn := G1.nxt
              rw [HE2.out] at hn
              exact ⟨i + 1, insU L hh, by omega, Nat.le_refl _, by go_num, HS.out.symm, hn, fun b hb => by have := G1.nge b hb; omega, hBo.trans (G1.bel.mono hswo)⟩
          · have HE2 : Hid (N = insU L hh) := HE.out
            clear HE
            go_wp2_with fail
            go_roundg (n - (i + 1))
            case measure => omega
            case rel =>
              have hn := G.nxt
              rw [HE2.out] at hn
              exact ⟨i + 1, insU L hh, by omega, Nat.le_refl _, by go_num, HS.out.symm, hn, fun b hb => by have := G.nge b hb; omega, hBo.trans (G.bel.mono hswo)⟩
    · obtain rfl : i = n := by omega
      have hL2 : L = allOf (hs xs) [] := by
        have h1 := HL.out
        rw [List.take_of_length_le (by have := Hn.out; omega)] at h1
        exact h1
      have HL2 := Lib.hid hL2
      clear hL2
      go_wp2_with fail
      go_ret
      exact ⟨_, rfl, by rw [← HL2.out]; exact hr, hv, hB⟩
end Go.Proofs.Ytipblbmpckfigaa

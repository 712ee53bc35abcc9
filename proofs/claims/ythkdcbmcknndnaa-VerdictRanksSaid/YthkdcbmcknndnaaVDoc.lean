/- Rank of the document. -/
import Derived.Test.YthkdcbmcknndnaaVRank2
namespace Go.Proofs.Ythkdcbmcknndnaa
open Go.RowKit Go.ChangeShapes Go.WideShapes
set_option linter.unusedVariables false
set_option linter.unusedSimpArgs false
namespace Rk
/-- what stands of the document's insertion behind some rows -/
def insK (x : Rw) (P : List Rw) : List Rw := if P.any (ltRw x) = true then ins ltRw x P else P
theorem insK_not {x : Rw} {P : List Rw} (h : P.any (ltRw x) = false) : insK x P = P := by unfold insK; rw [if_neg (by simp [h])]
theorem ins_none {x : Rw} : ∀ {P : List Rw}, P.any (ltRw x) = false → ins ltRw x P = P ++ [x]
  | [], _ => rfl
  | y :: P, h => by
    rw [List.any_cons, Bool.or_eq_false_iff] at h
    rw [ins, if_neg (by simp [h.1]), ins_none h.2]; rfl
theorem ins_app {x : Rw} : ∀ {P : List Rw} (Q : List Rw), P.any (ltRw x) = true → ins ltRw x (P ++ Q) = ins ltRw x P ++ Q
  | [], Q, h => by simp at h
  | y :: P, Q, h => by
    rw [List.cons_append, ins, ins]
    by_cases e : ltRw x y = true
    · rw [if_pos e, if_pos e]; rfl
    · rw [if_neg e, if_neg e, ins_app Q (by rw [List.any_cons] at h; simpa [e] using h)]; rfl
theorem ins_app' {x : Rw} : ∀ {P : List Rw} (Q : List Rw), P.any (ltRw x) = false → ins ltRw x (P ++ Q) = P ++ ins ltRw x Q
  | [], Q, h => rfl
  | y :: P, Q, h => by
    rw [List.any_cons, Bool.or_eq_false_iff] at h
    rw [List.cons_append, ins, if_neg (by simp [h.1]), ins_app' Q h.2]; rfl
theorem insK_snoc (x : Rw) (P : List Rw) (y : Rw) : (P.any (ltRw x) = true → insK x (P ++ [y]) = insK x P ++ [y]) ∧ (P.any (ltRw x) = false → ltRw x y = true → insK x (P ++ [y]) = P ++ [x] ++ [y]) ∧ (P.any (ltRw x) = false → ltRw x y = false → insK x (P ++ [y]) = P ++ [y]) := by
  refine ⟨fun h => ?_, fun h k => ?_, fun h k => ?_⟩
  · unfold insK; rw [if_pos h, if_pos (by rw [List.any_append, h]; rfl), ins_app _ h]
  · unfold insK; rw [if_pos (by rw [List.any_append]; simp [k]), ins_app' _ h, ins, if_pos k]; simp
  · unfold insK; rw [if_neg (by rw [List.any_append, h]; simp [k])]
theorem insK_len (x : Rw) (P : List Rw) : (insK x P).length ≤ P.length + 1 := by
  unfold insK; split
  · rw [(ins_perm ltRw x P).length_eq]; simp
  · omega
set_option maxHeartbeats 8000000 in
theorem drank_any (b : Option Addr) (n cap : Nat) (l : List Rw) (w : World) (hi : InW w b 4 (l.map rwC)) (hn : n = l.length) (hs : n < 40) (hok : ∀ e ∈ l, Ok e) :
    Calls Try.prog 7 #[.slice b n cap] w fun e w' => ∃ v, e = .returned v ∧ MkT w w' v (rankB l) := by
  obtain ⟨j0, hj0, hy0, hy1, hy2⟩ := info_parts infoText
  obtain ⟨i0, hi0, hz0, hz1, hz2⟩ := info_parts infoRow
  have HI := Lib.hid hi
  have HN := Lib.hid hn
  have HOK := Lib.hid hok
  have ME := Lib.hid (MkG.empty (t := 24) (sz := 4) (f := rwC) w)
  clear hi hn hok
  go_enter Try.func7, Try.ntmps7
  go_wp2_with fail
  go_loopw [3, 4] (fun u c wr => ∃ i : Nat, i ≤ n ∧ c = .int .i64 i ∧ Hid (MkR w wr u (insAll ltRw (l.take i)))) (fun _ c _ => n - (intOf c).toNat)
  case atStart => exact ⟨0, by omega, rfl, ME⟩
  case round =>
    obtain ⟨i, hin, rfl, HM⟩ := hrel
    clear ME
    by_cases hlt : i < n
    · obtain ⟨x, hx⟩ : ∃ x, l[i]? = some x := ⟨l[i]'(by have := HN.out; omega), List.getElem?_eq_getElem _⟩
      obtain ⟨B, off, rfl, hB, hc⟩ := rows_at HI.out hx
      obtain ⟨R, hR⟩ : ∃ R, insAll ltRw (l.take i) = R := ⟨_, rfl⟩
      rw [hR] at HM
      obtain ⟨vb, vc, hv, _, _, hvi⟩ := HM.out.read rwC_len (by omega)
      obtain ⟨m, hm⟩ : ∃ m, R.length = m := ⟨_, rfl⟩
      rw [hm] at hv
      subst hv
      have hRl : R.length ≤ 40 := by rw [← hR, (insAll_is pre (l.take i)).2.length_eq, List.length_take]; omega
      have HNX : Hid (insAll ltRw (l.take (i + 1)) = ins ltRw x R) := Lib.hid (by rw [List.take_add_one, hx, ← hR]; unfold insAll; rw [List.foldl_append]; rfl)
      have HRO : Hid (∀ e ∈ R, Ok e) := Lib.hid (fun e he => HOK.out e (List.mem_of_mem_take ((insAll_is pre (l.take i)).2.mem_iff.1 (hR ▸ he))))
      have HXO := Lib.hid (HOK.out x (List.mem_of_getElem? hx))
      have HC := Lib.hid hc
      have HV := Lib.hid (And.intro hvi hm)
      have M0 := Lib.hid (MkG.empty (t := 24) (sz := 4) (f := rwC) wr)
      have hm40 : m ≤ 40 := by omega
      have hi0' : (0 : Int) ≤ (i : Int) := by omega
      have hi1 : (i : Int) < (n : Int) := by omega
      clear hx hc hR hvi hm hRl
      go_wp2_with fail
      go_loopw [5, 6, 7] (fun u d c wx => ∃ (k : Nat) (db : Bool), k ≤ m ∧ c = .int .i64 k ∧ d = .bool db ∧ Hid (MkR wr wx u (insK x (R.take k)) ∧ (R.take k).any (ltRw x) = db)) (fun _ _ c _ => m - (intOf c).toNat)
      case atStart => exact ⟨0, false, by omega, rfl, rfl, Lib.hid ⟨M0.out, rfl⟩⟩
      case round =>
        obtain ⟨k, db, hkm, rfl, rfl, H⟩ := hrel
        clear M0
        have HB0 := Lib.hid (HM.out.bl.trans (H.out.1.bl.mono HM.out.bl.size))
        obtain ⟨N, hN⟩ : ∃ N, insK x (R.take k) = N := ⟨_, rfl⟩
        have LEN : Hid (N.length ≤ 50) := Lib.hid (by rw [← hN]; have := insK_len x (R.take k); rw [List.length_take] at this; omega)
        rw [hN] at H
        have HNN := Lib.hid hN
        clear hN
        by_cases hk : k < m
        · obtain ⟨y, hy⟩ : ∃ y, R[k]? = some y := ⟨R[k]'(by have := HV.out.2; omega), List.getElem?_eq_getElem _⟩
          obtain ⟨D, of2, rfl, hD, hd⟩ := rows_at HV.out.1 hy
          obtain ⟨c0, c1, c2, c3⟩ := HC.out _ HB0.out
          obtain ⟨d0, d1, d2, d3⟩ := hd _ H.out.1.bl
          have HYO := Lib.hid (HRO.out y (List.mem_of_getElem? hy))
          have HY := Lib.hid hy
          have HD := Lib.hid hd
          have HMX := Lib.hid H.out.1
          have hk0 : (0 : Int) ≤ (k : Int) := by omega
          have hk1 : (k : Int) < (m : Int) := by omega
          clear hy hd
          cases db with
          | true =>
            go_wp2_with fail
            go_big_region
            have A27 := Lib.hid (HMX.out.alloc (.cells #[.string y.arm, .int .i64 y.pe, .int .i64 y.bo, .int .i64 y.wo] 24)).drew
            have HIN : Hid (InW (wr.alloc (.cells #[.string y.arm, .int .i64 y.pe, .int .i64 y.bo, .int .i64 y.wo] 24)).drew (some ⟨wr.heap.size, 0, none⟩) 4 ([y].map rwC)) := Lib.hid (inw_one (f := rwC) (x := y) (Bk.new wr (rwC y) 24))
            have HLN : Hid ((N).length + [y].length ≤ 1000000) := Lib.hid (by have := LEN.out; simp only [List.length_cons, List.length_nil, List.length_append] at *; omega)
            go_wp2_with (at_builtin; refine wpList_append_m rwC_len rwC_one _ rfl _ _ _ rfl 24 i0 _ 40 Try.underlying22 hi0 hz0 hz1 hz2 rfl (by decide) (by omega) u5 (N) [y] rfl A27.out.tx (some ⟨wr.heap.size, 0, none⟩) 1 1 rfl rfl HIN.out HLN.out ?_; intro v7 w7 o7 f7 h7)
            have M7 := Lib.hid (A27.out.more o7 f7 h7)
            clear o7 f7 h7 A27 HIN HLN
            go_wp2_with fail
            go_roundw
            case rel => exact ⟨k + 1, true, by omega, by go_num, rfl, Lib.hid ⟨by rw [List.take_add_one, HY.out, Option.toList_some, (insK_snoc x (R.take k) y).1 H.out.2, HNN.out]; exact M7.out, by rw [List.take_add_one, HY.out, List.any_append, H.out.2]; rfl⟩⟩
            case measure => simp [intOf]; omega
          | false =>
            obtain ⟨r, hr⟩ : ∃ r, ltRw x y = r := ⟨_, rfl⟩
            have HL : Hid (∀ W, Calls Try.prog 20 #[.agg #[.string x.arm, .int .i64 x.pe, .int .i64 x.bo, .int .i64 x.wo], .agg #[.string y.arm, .int .i64 y.pe, .int .i64 y.bo, .int .i64 y.wo]] W fun e w' => e = .returned (.bool r) ∧ Below W.heap.size W w') := Lib.hid (fun W => by rw [← hr]; exact less_rw x y W HXO.out HYO.out)
            have HR2 := Lib.hid hr
            have HS : Hid (∀ X, Below wr.heap.size wr X → X.cell? ⟨B, off + i * 4, none⟩ = some (.string x.arm) ∧ X.cell? ⟨B, off + i * 4 + 1, none⟩ = some (.int .i64 x.pe) ∧ X.cell? ⟨B, off + i * 4 + 2, none⟩ = some (.int .i64 x.bo) ∧ X.cell? ⟨B, off + i * 4 + 3, none⟩ = some (.int .i64 x.wo) ∧ X.cell? ⟨D, of2 + k * 4, none⟩ = some (.string y.arm) ∧ X.cell? ⟨D, of2 + k * 4 + 1, none⟩ = some (.int .i64 y.pe) ∧ X.cell? ⟨D, of2 + k * 4 + 2, none⟩ = some (.int .i64 y.bo) ∧ X.cell? ⟨D, of2 + k * 4 + 3, none⟩ = some (.int .i64 y.wo)) := Lib.hid (fun X hX => by
              have e1 := HC.out X (HB0.out.trans (hX.mono HB0.out.size))
              have e2 := HD.out X (HMX.out.bl.trans (hX.mono HMX.out.bl.size))
              exact ⟨e1.1, e1.2.1, e1.2.2.1, e1.2.2.2, e2.1, e2.2.1, e2.2.2.1, e2.2.2.2⟩)
            clear hr
            cases r with
            | true =>
              go_wp2_with fail
              go_region_held3 (fun X => X.cell? ⟨B, off + i * 4, none⟩ = some (.string x.arm) ∧ X.cell? ⟨B, off + i * 4 + 1, none⟩ = some (.int .i64 x.pe) ∧ X.cell? ⟨B, off + i * 4 + 2, none⟩ = some (.int .i64 x.bo) ∧ X.cell? ⟨B, off + i * 4 + 3, none⟩ = some (.int .i64 x.wo) ∧ X.cell? ⟨D, of2 + k * 4, none⟩ = some (.string y.arm) ∧ X.cell? ⟨D, of2 + k * 4 + 1, none⟩ = some (.int .i64 y.pe) ∧ X.cell? ⟨D, of2 + k * 4 + 2, none⟩ = some (.int .i64 y.bo) ∧ X.cell? ⟨D, of2 + k * 4 + 3, none⟩ = some (.int .i64 y.wo))
                ((refine HS.out _ ?_; repeat (first | assumption | exact Below.refl _ _ | refine Below.drew ?_ | refine bel_alloc ?_ _)))
                (first
                  | (go_at_call 20
                     (with_reducible refine (HL.out _).mono ?_); rintro e wz ⟨rfl, bz⟩; have bv := bel_trans (V := wr) (by repeat (first | assumption | exact Below.refl _ _ | refine Below.drew ?_)) bz)
                  | fail)
              have HBV := Lib.hid bv
              have HMZ := Lib.hid (HMX.out.bel bv)
              obtain ⟨c0, c1, c2, c3⟩ := HC.out _ (HB0.out.trans (bv.mono HB0.out.size))
              obtain ⟨d0, d1, d2, d3⟩ := HD.out _ (HMX.out.bl.trans (bv.mono HMX.out.bl.size))
              clear HS HL bz bv
              have A27 := Lib.hid (HMZ.out.alloc (.cells #[.string x.arm, .int .i64 x.pe, .int .i64 x.bo, .int .i64 x.wo] 24))
              have HIN : Hid (InW (wz.alloc (.cells #[.string x.arm, .int .i64 x.pe, .int .i64 x.bo, .int .i64 x.wo] 24)) (some ⟨wz.heap.size, 0, none⟩) 4 ([x].map rwC)) := Lib.hid (inw_one (f := rwC) (x := x) (Bk.new wz (rwC x) 24))
              have HLN : Hid ((N).length + [x].length ≤ 1000000) := Lib.hid (by have := LEN.out; simp only [List.length_cons, List.length_nil, List.length_append] at *; omega)
              go_upto_region 13 with (at_builtin; refine wpList_append_m rwC_len rwC_one _ rfl _ _ _ rfl 24 i0 _ 40 Try.underlying22 hi0 hz0 hz1 hz2 rfl (by decide) (by omega) u5 (N) [x] rfl A27.out.tx (some ⟨wz.heap.size, 0, none⟩) 1 1 rfl rfl HIN.out HLN.out ?_; intro v7 w7 o7 f7 h7)
              have M7 := Lib.hid (A27.out.more o7 f7 h7)
              clear o7 f7 h7 A27 HIN HLN
              have LEN : Hid ((N ++ [x]).length ≤ 60) := Lib.hid (by have := LEN.out; simp; omega)
              obtain ⟨d0, d1, d2, d3⟩ := HD.out _ M7.out.bl
              have A28 := Lib.hid (M7.out.alloc (.cells #[.string y.arm, .int .i64 y.pe, .int .i64 y.bo, .int .i64 y.wo] 24))
              have HIN : Hid (InW (w7.alloc (.cells #[.string y.arm, .int .i64 y.pe, .int .i64 y.bo, .int .i64 y.wo] 24)) (some ⟨w7.heap.size, 0, none⟩) 4 ([y].map rwC)) := Lib.hid (inw_one (f := rwC) (x := y) (Bk.new w7 (rwC y) 24))
              have HLN : Hid ((N ++ [x]).length + [y].length ≤ 1000000) := Lib.hid (by have := LEN.out; simp only [List.length_cons, List.length_nil, List.length_append] at *; omega)
              go_wp2_with (at_builtin; refine wpList_append_m rwC_len rwC_one _ rfl _ _ _ rfl 24 i0 _ 40 Try.underlying22 hi0 hz0 hz1 hz2 rfl (by decide) (by omega) v7 (N ++ [x]) [y] rfl A28.out.tx (some ⟨w7.heap.size, 0, none⟩) 1 1 rfl rfl HIN.out HLN.out ?_; intro v8 w8 o8 f8 h8)
              have M8 := Lib.hid (A28.out.more o8 f8 h8)
              clear o8 f8 h8 A28 HIN HLN
              go_wp2_with fail
              go_roundw
              case rel => exact ⟨k + 1, true, by omega, by go_num, rfl, Lib.hid ⟨by have e := HNN.out; rw [insK_not H.out.2] at e; rw [List.take_add_one, HY.out, Option.toList_some, (insK_snoc x (R.take k) y).2.1 H.out.2 HR2.out, e]; exact M8.out, by rw [List.take_add_one, HY.out, List.any_append, H.out.2]; simp [HR2.out]⟩⟩
              case measure => simp [intOf]; omega
            | false =>
              go_wp2_with fail
              go_region_held3 (fun X => X.cell? ⟨B, off + i * 4, none⟩ = some (.string x.arm) ∧ X.cell? ⟨B, off + i * 4 + 1, none⟩ = some (.int .i64 x.pe) ∧ X.cell? ⟨B, off + i * 4 + 2, none⟩ = some (.int .i64 x.bo) ∧ X.cell? ⟨B, off + i * 4 + 3, none⟩ = some (.int .i64 x.wo) ∧ X.cell? ⟨D, of2 + k * 4, none⟩ = some (.string y.arm) ∧ X.cell? ⟨D, of2 + k * 4 + 1, none⟩ = some (.int .i64 y.pe) ∧ X.cell? ⟨D, of2 + k * 4 + 2, none⟩ = some (.int .i64 y.bo) ∧ X.cell? ⟨D, of2 + k * 4 + 3, none⟩ = some (.int .i64 y.wo))
                ((refine HS.out _ ?_; repeat (first | assumption | exact Below.refl _ _ | refine Below.drew ?_ | refine bel_alloc ?_ _)))
                (first
                  | (go_at_call 20
                     (with_reducible refine (HL.out _).mono ?_); rintro e wz ⟨rfl, bz⟩; have bv := bel_trans (V := wr) (by repeat (first | assumption | exact Below.refl _ _ | refine Below.drew ?_)) bz)
                  | fail)
              have HBV := Lib.hid bv
              have HMZ := Lib.hid (HMX.out.bel bv)
              obtain ⟨c0, c1, c2, c3⟩ := HC.out _ (HB0.out.trans (bv.mono HB0.out.size))
              obtain ⟨d0, d1, d2, d3⟩ := HD.out _ (HMX.out.bl.trans (bv.mono HMX.out.bl.size))
              clear HS HL bz bv
              have A27 := Lib.hid (HMZ.out.alloc (.cells #[.string y.arm, .int .i64 y.pe, .int .i64 y.bo, .int .i64 y.wo] 24))
              have HIN : Hid (InW (wz.alloc (.cells #[.string y.arm, .int .i64 y.pe, .int .i64 y.bo, .int .i64 y.wo] 24)) (some ⟨wz.heap.size, 0, none⟩) 4 ([y].map rwC)) := Lib.hid (inw_one (f := rwC) (x := y) (Bk.new wz (rwC y) 24))
              have HLN : Hid ((N).length + [y].length ≤ 1000000) := Lib.hid (by have := LEN.out; simp only [List.length_cons, List.length_nil, List.length_append] at *; omega)
              go_wp2_with (at_builtin; refine wpList_append_m rwC_len rwC_one _ rfl _ _ _ rfl 24 i0 _ 40 Try.underlying22 hi0 hz0 hz1 hz2 rfl (by decide) (by omega) u5 (N) [y] rfl A27.out.tx (some ⟨wz.heap.size, 0, none⟩) 1 1 rfl rfl HIN.out HLN.out ?_; intro v7 w7 o7 f7 h7)
              have M7 := Lib.hid (A27.out.more o7 f7 h7)
              clear o7 f7 h7 A27 HIN HLN
              go_wp2_with fail
              go_roundw
              case rel => exact ⟨k + 1, false, by omega, by go_num, rfl, Lib.hid ⟨by have e := HNN.out; rw [insK_not H.out.2] at e; rw [List.take_add_one, HY.out, Option.toList_some, (insK_snoc x (R.take k) y).2.2 H.out.2 HR2.out, e]; exact M7.out, by rw [List.take_add_one, HY.out, List.any_append, H.out.2]; simp [HR2.out]⟩⟩
              case measure => simp [intOf]; omega
        · have hRk : R.take k = R := List.take_of_length_le (by have := HV.out.2; omega)
          have HRK := Lib.hid hRk
          have HMX := Lib.hid H.out.1
          obtain ⟨c0, c1, c2, c3⟩ := HC.out _ HB0.out
          clear hRk
          cases db with
          | true =>
            go_wp2_with fail
            go_roundw
            case rel => exact ⟨i + 1, by omega, by go_num, by
              rw [HNX.out]
              have e := HNN.out
              have h2 := H.out.2
              rw [HRK.out] at e h2
              rw [insK, if_pos h2] at e
              rw [e]
              exact Lib.hid (HMX.out.from HM.out.bl)⟩
            case measure => simp [intOf]; omega
          | false =>
            have A27 := Lib.hid (HMX.out.alloc (.cells #[.string x.arm, .int .i64 x.pe, .int .i64 x.bo, .int .i64 x.wo] 24))
            have HIN : Hid (InW (wr.alloc (.cells #[.string x.arm, .int .i64 x.pe, .int .i64 x.bo, .int .i64 x.wo] 24)) (some ⟨wr.heap.size, 0, none⟩) 4 ([x].map rwC)) := Lib.hid (inw_one (f := rwC) (x := x) (Bk.new wr (rwC x) 24))
            have HLN : Hid ((N).length + [x].length ≤ 1000000) := Lib.hid (by have := LEN.out; simp only [List.length_cons, List.length_nil, List.length_append] at *; omega)
            go_wp2_with (at_builtin; refine wpList_append_m rwC_len rwC_one _ rfl _ _ _ rfl 24 i0 _ 40 Try.underlying22 hi0 hz0 hz1 hz2 rfl (by decide) (by omega) u5 (N) [x] rfl A27.out.tx (some ⟨wr.heap.size, 0, none⟩) 1 1 rfl rfl HIN.out HLN.out ?_; intro v7 w7 o7 f7 h7)
            have M7 := Lib.hid (A27.out.more o7 f7 h7)
            clear o7 f7 h7 A27 HIN HLN
            go_wp2_with fail
            go_roundw
            case rel => exact ⟨i + 1, by omega, by go_num, by
              rw [HNX.out]
              have e := HNN.out
              have h2 := H.out.2
              rw [HRK.out] at e h2
              rw [insK_not h2] at e
              rw [ins_none h2, e]
              exact Lib.hid (M7.out.from HM.out.bl)⟩
            case measure => simp [intOf]; omega
    · have hz := HM.out
      rw [List.take_of_length_le (by have := HN.out; omega)] at hz
      obtain ⟨vb, vc, hv, _, _, hvi⟩ := hz.read rwC_len (by omega)
      obtain ⟨m, hm⟩ : ∃ m, (insAll ltRw l).length = m := ⟨_, rfl⟩
      rw [hm] at hv
      subst hv
      obtain ⟨z, hzz⟩ : ∃ z, insAll ltRw l = z := ⟨_, rfl⟩
      rw [hzz] at hvi hm hz
      have hm40 : m ≤ 40 := by have := (insAll_is pre l).2.length_eq; rw [hzz] at this; have := HN.out; omega
      have HZ := Lib.hid (And.intro hvi (And.intro hm (And.intro hzz hz.bl)))
      have MT0 := Lib.hid (MkT.empty wr)
      clear hz hvi hm hzz
      go_wp2_with fail
      go_loopw [8, 9] (fun u c wx => ∃ j : Nat, j ≤ m ∧ c = .int .i64 j ∧ Hid (MkT wr wx u ((z.take j).map Rw.arm))) (fun _ c _ => m - (intOf c).toNat)
      case atStart => exact ⟨0, by omega, rfl, MT0⟩
      case round =>
        obtain ⟨j, hjm, rfl, HT⟩ := hrel
        clear MT0
        by_cases hj : j < m
        · obtain ⟨x, hx⟩ : ∃ x, z[j]? = some x := ⟨z[j]'(by have := HZ.out.2.1; omega), List.getElem?_eq_getElem _⟩
          obtain ⟨B, off, rfl, hB, hc⟩ := rows_at HZ.out.1 hx
          obtain ⟨c0, c1, c2, c3⟩ := hc _ HT.out.bl
          have HX := Lib.hid hx
          have hjz : (0 : Int) ≤ (j : Int) := by omega
          have hj1 : (j : Int) < (m : Int) := by omega
          have HM2 := Lib.hid (HT.out.alloc (.cells #[.string x.arm] 9))
          have HIN : Hid (InW (wr.alloc (.cells #[.string x.arm] 9)) (some ⟨wr.heap.size, 0, none⟩) 1 ([x.arm].map tC)) := Lib.hid (inw_one (f := tC) (x := x.arm) (Bk.new wr (tC x.arm) 9))
          have HLN : Hid (((z.take j).map Rw.arm).length + [x.arm].length ≤ 1000000) := Lib.hid (by simp; omega)
          clear hc hx
          go_wp2_with (at_builtin; refine wpList_append_m tLen tOne _ rfl _ _ _ rfl 9 j0 _ 16 Try.underlying27 hj0 hy0 hy1 hy2 rfl (by decide) (by omega) u8 ((z.take j).map Rw.arm) [x.arm] rfl HM2.out.tx.flat (some ⟨wr.heap.size, 0, none⟩) 1 1 rfl rfl HIN.out HLN.out ?_; intro v5 w5 o5 f5 h5)
          have HM5 := Lib.hid (HM2.out.more o5 f5 h5)
          clear o5 f5 h5 HM2 HIN HLN
          go_wp2_with fail
          go_roundw
          case rel => exact ⟨j + 1, by omega, by go_num, by rw [List.take_add_one, HX.out, List.map_append]; exact HM5⟩
          case measure => simp [intOf]; omega
        · have hfin := HT.out
          rw [List.take_of_length_le (by have := HZ.out.2.1; omega), ← HZ.out.2.2.1] at hfin
          have HF := Lib.hid hfin
          clear hfin HT
          go_wp2_with fail
          go_ret
          have k := HF.out
          have bl := HZ.out.2.2.2
          exact ⟨_, rfl, k.tx, fun b hb => Nat.le_trans bl.size (k.nw b hb), bl.trans (k.bl.mono bl.size)⟩
end Rk
end Go.Proofs.Ythkdcbmcknndnaa

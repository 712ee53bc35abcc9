/- event.Format, at the events of tales. event.Parse of the text of an event of a tale. A row of rows of the call's own, in place: what stands there, an element set; plain laws of swapping. swapRange: two parts of a row are exchanged. rotate: two parts of a row, one behind the other, change their places. The sort of a block: each element is let down to its place. symMerge where one part has one element: it is put in by a search and neighbours' swaps. symMerge: the split, and the two halves. symMerge by induction; the stable sort of at most 39 rows. event.Sort: slices.Clone, slices.SortStableFunc, slices.Clip. -/
import Derived.Test.YtbhghelegonbbaaDoorPk4
import Derived.Deep.CutBlock
import Derived.Test.YtbhghelegonbbaaDoorPk3
import Derived.Deep.LoopGhost
import Derived.BigRegion
import Derived.Shelf.RegionOpenPlain
import Derived.Shelf.SlicesQ.Reverse
import Derived.IntWalk
import Derived.Deep.RegionHeld3
import Derived.WalkLawsBesides
import Derived.WalkSpells
namespace Go.Proofs.YtbhghelegonbbaaDoor
open Go.RowKit Go.MapKept Go.Maps
set_option linter.unusedVariables false
set_option linter.unusedSimpArgs false
theorem below_grow' {B : Nat} {V w : World} (h : Below B V w) (hB : B ≤ w.heap.size) (os : Array Obj) : Below B V (Go.Sort.grow w os) :=
  h.trans ⟨rfl, rfl, rfl, by simp [Go.Sort.grow], fun k hk => by simp only [Go.Sort.grow]; rw [Array.getElem?_append_left (by omega)]⟩
namespace Tl
open Es
theorem itoa_any (z : Int) (V W : World) (hG : Glob W) (hb : Below V.heap.size V W) (h0 : 0 ≤ z) (h1 : z ≤ 100000) : Calls Tryd.prog 44 #[.int .i64 z] W fun e w' => e = .returned (.string (decT z)) ∧ Below V.heap.size V w' := by
  refine (Tryd.strconv_Itoa z (by omega) (by omega) W hG.pow).mono ?_
  rintro e w' ⟨rfl, k, os, rfl⟩
  exact ⟨rfl, below_grow' (bdrewN hb k) (bdrewN hb k).size os⟩
def mixT (ws : List ByteArray) (i : Nat) : List ByteArray := (ws.take i).map dotE ++ ws.drop i
theorem mix_at {ws : List ByteArray} {i : Nat} {x : ByteArray} (h : ws[i]? = some x) : (mixT ws i)[i]? = some x := by
  have hl := (List.getElem?_eq_some_iff.1 h).1
  unfold mixT
  rw [List.getElem?_append_right (by simp; omega), List.length_map, List.length_take, show i - min i ws.length = 0 by omega, List.getElem?_drop, Nat.add_zero, h]
theorem mix_set {ws : List ByteArray} {i : Nat} {x : ByteArray} (h : ws[i]? = some x) : (mixT ws i).set i (dotE x) = mixT ws (i + 1) := by
  have hl := (List.getElem?_eq_some_iff.1 h).1
  have hx := (List.getElem?_eq_some_iff.1 h).2
  unfold mixT
  rw [List.set_append_right _ _ (by simp; omega), List.length_map, List.length_take, show i - min i ws.length = 0 by omega, List.take_add_one, h]
  rw [List.drop_eq_getElem_cons hl, List.set_cons_zero]
  simp
theorem mix_same {ws : List ByteArray} {i : Nat} {x : ByteArray} (h : ws[i]? = some x) (hx : dotE x = x) : mixT ws i = mixT ws (i + 1) := by
  rw [← mix_set h, hx]
  refine List.ext_getElem? fun j => ?_
  rw [List.getElem?_set]
  split
  · rename_i e; subst e
    rw [mix_at h]
    split
    · rfl
    · rename_i c
      have := mix_at h
      rw [List.getElem?_eq_none (by omega)] at this
      cases this
  · rfl
set_option maxRecDepth 100000 in
set_option maxHeartbeats 8000000 in
theorem fmt_any {e : Ev} (h : TaleEv e) (w : World) (hG : Glob w) : Calls Tryd.prog 24 #[evV e] w fun r w' => r = .returned (.string (fmtE e)) ∧ Below w.heap.size w w' := by
  obtain ⟨kn, hkn, hk⟩ : ∃ kn : Nat, kn < 15 ∧ e.kind = (kn : Int) := by
    cases h.shp <;> exact ⟨e.kind.toNat, by omega, by omega⟩
  have hv : 0 ≤ e.val ∧ e.val ≤ 255 := by cases h.shp <;> omega
  have hnm : ∀ W, Glob W → W.cell? ⟨0, kn, none⟩ = some (.string (kindT e.kind)) := fun W hW => hW.name (by
    rw [hk]; unfold kindT
    rw [Int.toNat_natCast, List.getElem?_eq_getElem (show kn < nameB15.length from hkn)]; rfl)
  have HMAY : Hid (∀ W, Glob W → Calls Tryd.prog 21 #[evV e] W fun r w' => r = .returned (.bool true) ∧ Below W.heap.size W w') := Lib.hid (fun W hW => may_any h W hW)
  have HNM := Lib.hid hnm
  have HNI : Hid (0 ≤ e.num ∧ e.num ≤ 100000 ∧ 0 ≤ e.at_ ∧ e.at_ ≤ 100000 ∧ 0 ≤ e.val ∧ e.val ≤ 100000) := Lib.hid (by have := h.num; have := h.at_; omega)
  have HJ : Hid (∀ W g, Bk W g ((mixT (rawE e) 8).map Value.string) 9 → Calls Tryd.prog 45 #[.slice (some ⟨g, 0, none⟩) 8 8, .string ⟨#[32]⟩] W fun r w' => r = .returned (.string (fmtE e)) ∧ Below W.heap.size W w') := Lib.hid (fun W g hg => by
    have hx : mixT (rawE e) 8 = wordsE e := by simp [mixT, rawE, wordsE]
    rw [hx] at hg
    exact Tryd.strings_Join g 0 8 (wordsE e) ⟨#[32]⟩ W (fun j x hj => by rw [Nat.zero_add, hg.cell, List.getElem?_map, hj]; rfl) hg.lt (by show 8 ≤ _; omega) (by show 8 ≤ 8; omega) (by have := (fmt_len h).1; simp only [fmtE, joinT, ByteArray.size, List.size_toArray] at this ⊢; omega))
  have HG := Lib.hid hG
  have HB0 := Lib.hid ((Below.refl w.heap.size w).alloc (Nat.le_refl _) (.cells (evC e).toArray 41))
  have HBX := Lib.hid (Bk.new w (evC e) 41)
  obtain ⟨J, hJ⟩ : ∃ J, fmtE e = J := ⟨_, rfl⟩
  obtain ⟨ws, hws⟩ : ∃ ws, rawE e = ws := ⟨_, rfl⟩
  obtain ⟨K, hK⟩ : ∃ K, kindT e.kind = K := ⟨_, rfl⟩
  rw [hJ] at HJ ⊢
  rw [hK] at HNM
  rw [hws] at HJ
  unfold rawE at hws
  rw [hK] at hws
  have HWS := Lib.hid hws
  clear h hG hnm hv hws hJ hK
  obtain ⟨s, n, a, k, p, i, v, x⟩ := e
  simp only at hk
  subst hk
  simp only [evC, evV] at HBX HB0 HMAY ⊢
  simp only at HNI HWS
  have hkn0 : (0 : Int) ≤ (kn : Int) := by omega
  have hkn1 : (kn : Int) < 15 := by omega
  go_enter Tryd.func24, Tryd.ntmps24
  go_wp2_with fail
  refine (HMAY.out _ (HG.out.bel HB0.out)).mono ?_
  rintro e w1 ⟨rfl, b1⟩
  have HGV := Lib.hid ((HG.out.bel HB0.out).bel b1)
  have HBV := Lib.hid (HBX.out.bel b1)
  have HBL := Lib.hid (HB0.out.trans (b1.mono HB0.out.size))
  clear b1 HMAY HBX HB0
  have HS : Hid (∀ W, Below w1.heap.size w1 W → W.cell? ⟨w.heap.size, 0, none⟩ = some (.string s) ∧ W.cell? ⟨w.heap.size, 1, none⟩ = some (.int .i64 n) ∧ W.cell? ⟨w.heap.size, 2, none⟩ = some (.int .i64 a) ∧ W.cell? ⟨w.heap.size, 3, none⟩ = some (.int .i64 kn) ∧ W.cell? ⟨w.heap.size, 4, none⟩ = some (.string p) ∧ W.cell? ⟨w.heap.size, 5, none⟩ = some (.string i) ∧ W.cell? ⟨w.heap.size, 6, none⟩ = some (.int .i64 v) ∧ W.cell? ⟨w.heap.size, 7, none⟩ = some (.string x) ∧ W.cell? ⟨0, kn, none⟩ = some (.string K)) := Lib.hid (fun W hW => by
    have k := HBV.out.bel hW
    exact ⟨k.cell 0, k.cell 1, k.cell 2, k.cell 3, k.cell 4, k.cell 5, k.cell 6, k.cell 7, HNM.out W (HGV.out.bel hW)⟩)
  have HIT : Hid (∀ W z, Below w1.heap.size w1 W → (z = n ∨ z = a ∨ z = v) → Calls Tryd.prog 44 #[.int .i64 z] W fun e w' => e = .returned (.string (decT z)) ∧ Below w1.heap.size w1 w') := Lib.hid (fun W z hW hz => itoa_any z w1 W (HGV.out.bel hW) hW (by have := HNI.out; rcases hz with rfl | rfl | rfl <;> omega) (by have := HNI.out; rcases hz with rfl | rfl | rfl <;> omega))
  go_wp2_with fail
  go_cut [3] (fun s3 wx => ∃ g, s3 = .slice (some ⟨g, 0, none⟩) 8 8 ∧ Hid (Bk wx g (ws.map Value.string) 9 ∧ w1.heap.size ≤ g ∧ Below w1.heap.size w1 wx))
  case first =>
    go_region_held3 (fun W => W.cell? ⟨w.heap.size, 0, none⟩ = some (.string s) ∧ W.cell? ⟨w.heap.size, 1, none⟩ = some (.int .i64 n) ∧ W.cell? ⟨w.heap.size, 2, none⟩ = some (.int .i64 a) ∧ W.cell? ⟨w.heap.size, 3, none⟩ = some (.int .i64 kn) ∧ W.cell? ⟨w.heap.size, 4, none⟩ = some (.string p) ∧ W.cell? ⟨w.heap.size, 5, none⟩ = some (.string i) ∧ W.cell? ⟨w.heap.size, 6, none⟩ = some (.int .i64 v) ∧ W.cell? ⟨w.heap.size, 7, none⟩ = some (.string x) ∧ W.cell? ⟨0, kn, none⟩ = some (.string K))
      (first | assumption | (refine HS.out _ ?_; repeat (first | assumption | exact Below.refl _ _ | refine Below.drew ?_ | refine bel_alloc' ?_ _)))
      (first
        | (go_at_call 44
           (with_reducible refine (HIT.out _ _ ?_ (by first | exact .inl rfl | exact .inr (.inl rfl) | exact .inr (.inr rfl))).mono ?_)
           · repeat (first | assumption | exact Below.refl _ _ | refine Below.drew ?_ | refine bel_alloc' ?_ _)
           rintro e wx ⟨rfl, bx⟩)
        | fail)
    all_goals
      go_wp2_with fail
      go_meet
      refine ⟨wx.heap.size, rfl, Lib.hid ⟨?_, bx.size, bx.alloc bx.size _⟩⟩
      rw [← HWS.out]
      exact Bk.new wx [.string s, .string (decT n), .string (decT a), .string K, .string p, .string i, .string (decT v), .string x] 9
  case rest =>
    obtain ⟨g, rfl, HE⟩ := hcut
    obtain ⟨V, hV⟩ : ∃ V, V = wc := ⟨_, rfl⟩
    have HEV := Lib.hid (And.intro HE.out.2.1 (And.intro (HBL.out.trans (HE.out.2.2.mono HBL.out.size)) hV))
    have hl : ws.length = 8 := by rw [← HWS.out]; rfl
    have HL := Lib.hid hl
    clear hl hV HS HIT HGV HBV HNM
    go_wp2_with fail
    go_loopw [33] (fun c wr => ∃ i : Nat, i ≤ 8 ∧ c = .int .i64 i ∧ Hid (Bk wr g ((mixT ws i).map Value.string) 9 ∧ Below w.heap.size w wr)) (fun c _ => 8 - (intOf c).toNat)
    case atStart => exact ⟨0, by omega, rfl, Lib.hid ⟨by simpa [mixT] using HE.out.1, HEV.out.2.1⟩⟩
    case round =>
      obtain ⟨i, hi, rfl, H⟩ := hrel
      by_cases hlt : i < 8
      · obtain ⟨y, hy⟩ : ∃ y, ws[i]? = some y := ⟨ws[i]'(by rw [HL.out]; exact hlt), List.getElem?_eq_getElem _⟩
        have k0 : wr.cell? ⟨g, i, none⟩ = some (.string y) := by rw [H.out.1.cell, List.getElem?_map, mix_at hy]; rfl
        have kf : ∀ j, wr.frozen? ⟨g, j, none⟩ = false := fun j => H.out.1.free j
        have hi0 : (0 : Int) ≤ (i : Int) := by omega
        have hi1 : (i : Int) < 8 := by omega
        have HY := Lib.hid hy
        have hgw : w.heap.size ≤ g := Nat.le_trans HBL.out.size HEV.out.1
        have HGW := Lib.hid hgw
        clear hy hgw
        by_cases hye : y = emp
        · have hE : y.toList.isEmpty = true := by rw [emptyB, decide_eq_true hye]
          have HYE := Lib.hid hye
          clear hye
          go_wp2_with fail
          go_roundw
          case rel =>
            refine ⟨i + 1, by omega, by go_num, Lib.hid ⟨?_, H.out.2.setCell HGW.out _⟩⟩
            have := H.out.1.set i (.string ⟨#[46]⟩)
            have hset := mix_set HY.out
            rw [show dotE y = ⟨#[46]⟩ by rw [HYE.out, dot_emp]] at hset
            rw [← List.map_set, hset] at this
            exact this
          case measure => simp [intOf]; omega
        · have hE : y.toList.isEmpty = false := by rw [emptyB, decide_eq_false hye]
          have HYE := Lib.hid hye
          clear hye
          go_wp2_with fail
          go_roundw
          case rel =>
            refine ⟨i + 1, by omega, by go_num, Lib.hid ⟨?_, H.out.2⟩⟩
            have hz : ¬ y.size = 0 := fun c => HYE.out (byte_ext (by
              have : y.data.toList.length = 0 := c
              rw [List.eq_nil_of_length_eq_zero this]; rfl))
            rw [← mix_same HY.out (by unfold dotE; rw [if_neg hz])]
            exact H.out.1
          case measure => simp [intOf]; omega
      · have e8 : i = 8 := by omega
        subst e8
        go_wp2_with fail
        refine (HJ.out wr g H.out.1).mono ?_
        rintro e w9 ⟨rfl, b9⟩
        have HB9 := Lib.hid (H.out.2.trans (b9.mono H.out.2.size))
        clear b9 HJ
        go_wp2_with fail
        go_ret
        exact ⟨rfl, HB9.out⟩
end Tl
end Go.Proofs.YtbhghelegonbbaaDoor
namespace Go.Proofs.YtbhghelegonbbaaDoor
open Go.RowKit Go.MapKept Go.Maps
set_option linter.unusedVariables false
set_option linter.unusedSimpArgs false
namespace Tl
open Es
theorem valD_app : ∀ (m l : List UInt8), valD l ≤ valD (l ++ m)
  | [], l => by simp
  | c :: m, l => by
    have ih := valD_app m (l ++ [c])
    rw [List.append_assoc, List.singleton_append, valD_snoc] at ih
    omega
theorem valD_take (l : List UInt8) (i : Nat) : valD (l.take i) ≤ valD l := by
  have := valD_app (l.drop i) (l.take i)
  rwa [List.take_append_drop] at this
set_option maxHeartbeats 4000000 in
theorem digits_any (s : ByteArray) (w : World) (h0 : 0 < s.size) (h1 : s.size ≤ 4) (hd : ∀ c ∈ s.data.toList, 48 ≤ c.toNat ∧ c.toNat ≤ 57) (hv : valD s.data.toList ≤ 10000) :
    Calls Tryd.prog 39 #[.string s] w fun e w' => e = .returned (.tuple #[.int .i64 (valD s.data.toList : Nat), .bool true]) ∧ w' = w := by
  have t1 : ¬ (s.size : Int) < 1 := by omega
  have t2 : ¬ (13 : Int) < (s.size : Int) := by omega
  have HD := Lib.hid hd
  have HV : Hid (∀ i, valD (s.data.toList.take i) ≤ 10000) := Lib.hid (fun i => Nat.le_trans (valD_take _ _) hv)
  have HF : Hid (valD (s.data.toList.take s.size) = valD s.data.toList) := Lib.hid (by rw [List.take_of_length_le (by simp)])
  generalize hR : valD s.data.toList = R at HF ⊢
  clear hR hd hv
  go_enter Tryd.func39, Tryd.ntmps39
  go_wp2_with fail
  go_loop [4, 16] (fun n i => ∃ k v : Nat, k ≤ s.size ∧ i = .int .i64 k ∧ n = .int .i64 v ∧ Hid (valD (s.data.toList.take k) = v)) (fun n i => s.size - (intOf i).toNat)
  case atStart => exact ⟨0, 0, by omega, rfl, rfl, Lib.hid rfl⟩
  case round =>
    obtain ⟨k, v, hk, rfl, rfl, HA⟩ := hrel
    by_cases hlt : k < s.size
    · obtain ⟨c, hc⟩ : ∃ c, s[k].toNat = c := ⟨_, rfl⟩
      have hcr := HD.out s[k] (mem_byte s k hlt)
      rw [hc] at hcr
      have hi1 : (k : Int) < (s.size : Int) := by omega
      have hv2 : v ≤ 10000 := by rw [← HA.out]; exact HV.out k
      have d0 : ¬ ((c : Int) < 48) := by omega
      have d1 : ¬ ((57 : Int) < (c : Int)) := by omega
      obtain ⟨d, rfl⟩ : ∃ d, c = 48 + d := ⟨c - 48, by omega⟩
      have hd9 : d ≤ 9 := by omega
      have q1 : IntKind.u8.wrap (((48 + d : Nat) : Int) - 48) = (d : Int) := by
        rw [show ((48 + d : Nat) : Int) - 48 = (d : Int) by omega]
        rcases (by omega : d = 0 ∨ d = 1 ∨ d = 2 ∨ d = 3 ∨ d = 4 ∨ d = 5 ∨ d = 6 ∨ d = 7 ∨ d = 8 ∨ d = 9) with rfl | rfl | rfl | rfl | rfl | rfl | rfl | rfl | rfl | rfl <;> decide
      have HN : Hid (valD (s.data.toList.take (k + 1)) = v * 10 + d) := Lib.hid (by rw [take_snoc s k hlt, valD_snoc, HA.out, hc]; omega)
      clear hcr
      go_wp2_with fail
      go_round
      case rel => exact ⟨k + 1, v * 10 + d, by omega, by go_num, congrArg (Value.int .i64) (by push_cast; omega), HN⟩
      case measure => simp [intOf]; omega
    · have ek : k = s.size := by omega
      subst ek
      have hv3 := HA.out.symm.trans HF.out
      subst hv3
      go_wp2_with fail
      go_ret2
      exact ⟨rfl, rfl⟩
def undT (x : ByteArray) : ByteArray := if x = ⟨#[46]⟩ then emp else x
theorem full_any (i : Nat) (G g : Nat) (ws : List ByteArray) (x : ByteArray) (w : World) (hi : i < 8) (hG : Bk w G [.slice (some ⟨g, 0, none⟩) 8 8] 36) (hg : Bk w g (ws.map Value.string) 9) (hx : ws[i]? = some x) :
    Calls Tryd.prog 38 #[.int .i64 i, .pointer (some ⟨G, 0, none⟩)] w fun e w' => e = .returned (.string (undT x)) ∧ w = w' := by
  have c0 : w.cell? ⟨G, 0, none⟩ = some (.slice (some ⟨g, 0, none⟩) 8 8) := hG.cell 0
  have c1 : w.cell? ⟨g, i, none⟩ = some (.string x) := by rw [hg.cell, List.getElem?_map, hx]; rfl
  have i0 : (0 : Int) ≤ (i : Int) := by omega
  have i1 : (i : Int) < 8 := by omega
  clear hG hg hx
  by_cases h : x = ⟨#[46]⟩
  · have e1 : undT x = ⟨#[]⟩ := by unfold undT; rw [if_pos h]; rfl
    rw [e1]
    subst h
    clear e1
    go_enter Tryd.func38, Tryd.ntmps38
    go_wp2_with fail
    go_ret
    exact ⟨rfl, rfl⟩
  · have e1 : undT x = x := by unfold undT; rw [if_neg h]
    rw [e1]
    have t1 : (x.toList == [46]) = false := by
      rw [Go.ByteArray.toList_eq, beq_eq_false_iff_ne]; exact fun e => h (byte_ext e)
    have t2 : ¬ x.toList = [46] := by rw [Go.ByteArray.toList_eq]; exact fun e => h (byte_ext e)
    clear h e1
    go_enter Tryd.func38, Tryd.ntmps38
    go_wp2_with fail
    go_ret
    exact ⟨rfl, rfl⟩
def ntC (l : List ByteArray) : List Value := l.map Value.string
theorem names_ix (W : World) : ∀ i, i < 15 → Sem.run Tryd.prog (Instr.index 97 (.agg (nameB15.map Value.string).toArray) (.int .i64 (i : Nat))) W = .ok (.string ((nameB15[i]?).getD emp)) W := by
  intro i hi
  rcases (by omega : i = 0 ∨ i = 1 ∨ i = 2 ∨ i = 3 ∨ i = 4 ∨ i = 5 ∨ i = 6 ∨ i = 7 ∨ i = 8 ∨ i = 9 ∨ i = 10 ∨ i = 11 ∨ i = 12 ∨ i = 13 ∨ i = 14) with rfl | rfl | rfl | rfl | rfl | rfl | rfl | rfl | rfl | rfl | rfl | rfl | rfl | rfl | rfl <;> kernel_rfl
theorem names_nd : ∀ i j : Fin 15, ((nameB15[i.val]?).getD emp = (nameB15[j.val]?).getD emp) ↔ i = j := by decide +kernel
theorem Glob.block {w : World} (h : Glob w) : ∃ t f, w.heap[0]? = some (.cells (nameB15.map Value.string).toArray t f) := by
  have k := h.names
  unfold World.var? at k
  rw [show Tryd.prog.globalNamed "cicerone/event.kindNames" = some 0 by kernel_rfl, Option.bind_some] at k
  split at k
  · rename_i c t f e
    simp only [Option.some.injEq] at k
    subst k
    exact ⟨t, f, e⟩
  · cases k
def zeE : List Value := [.string ⟨#[]⟩, .int .i64 0, .int .i64 0, .int .i64 0, .string ⟨#[]⟩, .string ⟨#[]⟩, .int .i64 0, .string ⟨#[]⟩]
/-- what stands while Parse goes on -/
structure PI (w W : World) (g G E B : Nat) (ws : List ByteArray) (ec bc : List Value) : Prop where
  gg : Bk W g (ws.map Value.string) 9
  GG : Bk W G [.slice (some ⟨g, 0, none⟩) 8 8] 36
  ee : Bk W E ec 41
  bb : Bk W B bc 94
  zz : Bk W w.heap.size zeE 41
  bl : Below w.heap.size w W
  ne : g = w.heap.size + 1 ∧ G = w.heap.size + 2 ∧ E = w.heap.size + 3 ∧ B = w.heap.size + 4
theorem PI.setE {w W : World} {g G E B : Nat} {ws : List ByteArray} {ec bc : List Value} (h : PI w W g G E B ws ec bc) (i : Nat) (v : Value) : PI w (W.setCell ⟨E, i, none⟩ v) g G E B ws (ec.set i v) bc := by
  have := h.ne
  exact ⟨h.gg.other _ _ _ (by omega), h.GG.other _ _ _ (by omega), h.ee.set i v, h.bb.other _ _ _ (by omega), h.zz.other _ _ _ (by omega), h.bl.setCell (show w.heap.size ≤ E by omega) _, h.ne⟩
theorem PI.setB {w W : World} {g G E B : Nat} {ws : List ByteArray} {ec bc : List Value} (h : PI w W g G E B ws ec bc) (i : Nat) (v : Value) : PI w (W.setCell ⟨B, i, none⟩ v) g G E B ws ec (bc.set i v) := by
  have := h.ne
  exact ⟨h.gg.other _ _ _ (by omega), h.GG.other _ _ _ (by omega), h.ee.other _ _ _ (by omega), h.bb.set i v, h.zz.other _ _ _ (by omega), h.bl.setCell (show w.heap.size ≤ B by omega) _, h.ne⟩
theorem PI.bel {w W W' : World} {g G E B : Nat} {ws : List ByteArray} {ec bc : List Value} (h : PI w W g G E B ws ec bc) (hb : Below W.heap.size W W') : PI w W' g G E B ws ec bc :=
  ⟨h.gg.bel hb, h.GG.bel hb, h.ee.bel hb, h.bb.bel hb, h.zz.bel hb, h.bl.trans (hb.mono h.bl.size), h.ne⟩
theorem finP {fn : Func} {p q : Tmp} {tmps : Array Value} {w : World} {g : Nat} {cs : List Value} (h : fn.results = #[.cell p 41, .tmp q]) (hp : tmps.getD p undef = .pointer (some ⟨g, 0, none⟩)) (hl : cs.length = 8) (hb : Bk w g cs 41) : (results fn tmps).run Tryd.prog w = .ok (.tuple #[.agg cs.toArray, tmps.getD q undef]) w := by
  rw [results_cell_tmp h, hp]
  have := run_loadVar_row (P := Tryd.prog) w g 41 _ _ (0, 0) _ hb Tryd.underlying41 rfl (by rw [List.size_toArray, hl]; kernel_rfl)
  simp [asAddr, this, Result.andThen]
set_option maxRecDepth 100000 in
set_option maxHeartbeats 8000000 in
theorem evparse_any {e : Ev} (h : TaleEv e) (w : World) (hG : Glob w) : Calls Tryd.prog 19 #[.string (fmtE e)] w fun r w' => r = .returned (.tuple #[evV e, .int .i64 0]) ∧ Below w.heap.size w w' := by
  obtain ⟨kn, hkn, hk⟩ : ∃ kn : Nat, kn < 15 ∧ e.kind = (kn : Int) := by
    cases h.shp <;> exact ⟨e.kind.toNat, by omega, by omega⟩
  have hv : 0 ≤ e.val ∧ e.val ≤ 255 := by cases h.shp <;> omega
  have hraw := raw_ok h
  have HF : Hid (∀ W, Glob W → Calls Tryd.prog 24 #[evV e] W fun r w' => r = .returned (.string (fmtE e)) ∧ Below W.heap.size W w') := Lib.hid (fun W hW => fmt_any h W hW)
  have HSP : Hid (∀ W, Glob W → Calls Tryd.prog 37 #[.string (fmtE e), .string ⟨#[32]⟩] W fun r w' => r = .returned (.slice (some ⟨W.heap.size, 0, none⟩) 8 8) ∧ w' = W.alloc (.cells ((wordsE e).map Value.string).toArray 9)) := Lib.hid (fun W hW => by
    obtain ⟨m, hm⟩ := hW.mx
    obtain ⟨h1, h2⟩ := split_join (c := 32) (x := dotE e.src) (r := [dotE (decT e.num), dotE (decT e.at_), dotE (kindT e.kind), dotE e.per, dotE e.item, dotE (decT e.val), dotE e.txt]) (words_no h (by decide))
    have k := Tryd.strings_Split (fmtE e) ⟨#[32]⟩ m W (by have := (fmt_len h).1; omega) hm (by decide)
    unfold fmtE wordsE rawE at k
    simp only [List.map_cons, List.map_nil] at k
    rw [h1] at k
    have h2' : Lib.splitB ⟨#[32]⟩ 0 7 (joinT [dotE e.src, dotE (decT e.num), dotE (decT e.at_), dotE (kindT e.kind), dotE e.per, dotE e.item, dotE (decT e.val), dotE e.txt] ⟨#[32]⟩) = _ := h2
    simp only [List.length_cons, List.length_nil, Nat.zero_add, Nat.reduceAdd] at k
    rw [h2'] at k
    exact k)
  have hdn : ∀ z : Int, 0 ≤ z → z < 10000 → dotE (decT z) = decT z ∧ ∀ W, Calls Tryd.prog 39 #[.string (decT z)] W fun r w' => r = .returned (.tuple #[.int .i64 z, .bool true]) ∧ W = w' := fun z z0 z1 => by
    have ho := ok_d z0 z1
    refine ⟨dot_ok ho.1, fun W => ?_⟩
    obtain ⟨n, rfl⟩ : ∃ n : Nat, z = (n : Int) := ⟨z.toNat, by omega⟩
    have hdd : (decT (n : Int)).data.toList = Lib.decDigits n := by unfold decT; rw [itoa_nat]
    have k := digits_any (decT (n : Int)) W (okW.size ho.1).1 ho.2 (by rw [hdd]; exact dec_all n) (by rw [hdd, dec_val]; omega)
    rw [hdd, dec_val] at k
    exact k.mono fun _ _ q => ⟨q.1, q.2.symm⟩
  have hw3 : dotE (kindT e.kind) = kindT e.kind := by rw [hk]; exact dot_ok (ok_k ⟨kn, hkn⟩)
  have hu : ∀ s ∈ rawE e, undT (dotE s) = s := fun s hs => undot (hraw s hs)
  have HU : Hid (undT (dotE e.src) = e.src ∧ undT (dotE e.per) = e.per ∧ undT (dotE e.item) = e.item ∧ undT (dotE e.txt) = e.txt) := Lib.hid ⟨hu _ (by simp [rawE]), hu _ (by simp [rawE]), hu _ (by simp [rawE]), hu _ (by simp [rawE])⟩
  have hd1 := hdn e.num (by have := h.num; omega) (by have := h.num; omega)
  have hd2 := hdn e.at_ (by have := h.at_; omega) (by have := h.at_; omega)
  have hd3 := hdn e.val (by omega) (by omega)
  have HD1 := Lib.hid hd1.2
  have HD2 := Lib.hid hd2.2
  have HD3 := Lib.hid hd3.2
  have hws : wordsE e = [dotE e.src, decT e.num, decT e.at_, kindT e.kind, dotE e.per, dotE e.item, decT e.val, dotE e.txt] := by
    unfold wordsE rawE
    simp only [List.map_cons, List.map_nil]
    rw [hd1.1, hd2.1, hd3.1, hw3]
  rw [hws] at HSP
  have HKT : Hid (kindT e.kind = (nameB15[kn]?).getD emp) := Lib.hid (by rw [hk]; unfold kindT; rw [Int.toNat_natCast])
  have HG := Lib.hid hG
  generalize hJ : fmtE e = J at *
  generalize hK : kindT e.kind = K at *
  clear h hraw hdn hw3 hu hd1 hd2 hd3 hws hG hJ hK hv
  obtain ⟨s, n, a, k, p, i, v, x⟩ := e
  simp only at hk
  subst hk
  simp only at HD1 HD2 HD3 HU HSP
  simp only [evV] at HF ⊢
  have HB1 := Lib.hid (Bk.new w [.string ⟨#[]⟩, .int .i64 0, .int .i64 0, .int .i64 0, .string ⟨#[]⟩, .string ⟨#[]⟩, .int .i64 0, .string ⟨#[]⟩] 41)
  have HW1 := Lib.hid ((Below.refl w.heap.size w).alloc (Nat.le_refl _) (.cells #[.string ⟨#[]⟩, .int .i64 0, .int .i64 0, .int .i64 0, .string ⟨#[]⟩, .string ⟨#[]⟩, .int .i64 0, .string ⟨#[]⟩] 41))
  go_enter Tryd.func19, Tryd.ntmps19
  go_wp2_with fail
  refine (HSP.out _ (HG.out.bel HW1.out)).mono ?_
  rintro e w2 ⟨rfl, rfl⟩
  have HPI : Hid (PI w (((((w.alloc (.cells #[.string ⟨#[]⟩, .int .i64 0, .int .i64 0, .int .i64 0, .string ⟨#[]⟩, .string ⟨#[]⟩, .int .i64 0, .string ⟨#[]⟩] 41)).alloc (.cells #[.string (dotE s), .string (decT n), .string (decT a), .string K, .string (dotE p), .string (dotE i), .string (decT v), .string (dotE x)] 9)).alloc (.cells #[.slice (some ⟨w.heap.size + 1, 0, none⟩) 8 8] 36)).alloc (.cells #[.string ⟨#[]⟩, .int .i64 0, .int .i64 0, .int .i64 0, .string ⟨#[]⟩, .string ⟨#[]⟩, .int .i64 0, .string ⟨#[]⟩] 41)).alloc (.cells #[.bool false, .bool false, .bool false] 94)) (w.heap.size + 1) (w.heap.size + 1 + 1) (w.heap.size + 1 + 1 + 1) (w.heap.size + 1 + 1 + 1 + 1) [dotE s, decT n, decT a, K, dotE p, dotE i, decT v, dotE x] zeE [.bool false, .bool false, .bool false]) := Lib.hid (by
    have z1 := HW1.out.size
    refine ⟨?_, ?_, ?_, ?_, ?_, ?_, ⟨rfl, rfl, rfl, rfl⟩⟩
    · exact (((bk_at (W := w.alloc _) [.string (dotE s), .string (decT n), .string (decT a), .string K, .string (dotE p), .string (dotE i), .string (decT v), .string (dotE x)] 9 (by simp)).old _).old _).old _
    · exact (((bk_at [.slice (some ⟨w.heap.size + 1, 0, none⟩) 8 8] 36 (by simp)).old _).old _)
    · exact ((bk_at zeE 41 (by simp)).old _)
    · exact bk_at [.bool false, .bool false, .bool false] 94 (by simp)
    · exact ((((HB1.out).old _).old _).old _).old _
    · exact (((HW1.out.alloc (by simp) _).alloc (by simp; omega) _).alloc (by simp; omega) _).alloc (by simp; omega) _)
  go_upto_region 7 with fail
  clear HB1 HW1 HSP
  generalize (((((w.alloc _).alloc _).alloc _).alloc _).alloc (.cells #[.bool false, .bool false, .bool false] 94)) = V at HPI ⊢
  generalize w.heap.size + 1 + 1 + 1 + 1 = B at HPI ⊢
  generalize w.heap.size + 1 + 1 + 1 = E at HPI ⊢
  generalize w.heap.size + 1 + 1 = G at HPI ⊢
  generalize w.heap.size + 1 = g at HPI ⊢
  obtain ⟨ws, hws⟩ : ∃ ws, ws = [dotE s, decT n, decT a, K, dotE p, dotE i, decT v, dotE x] := ⟨_, rfl⟩
  rw [← hws] at HPI
  have HUU : Hid (∀ j x', j < 8 → ws[j]? = some x' → Calls Tryd.prog 38 #[.int .i64 (j : Nat), .pointer (some ⟨G, 0, none⟩)] V fun e w' => e = .returned (.string (undT x')) ∧ V = w') := Lib.hid (fun j x' hj hx => full_any j G g ws x' V hj HPI.out.GG HPI.out.gg hx)
  have u0 := HUU.out 0 (dotE s) (by omega) (by rw [hws]; rfl)
  have u4 := HUU.out 4 (dotE p) (by omega) (by rw [hws]; rfl)
  have u5 := HUU.out 5 (dotE i) (by omega) (by rw [hws]; rfl)
  have u7 := HUU.out 7 (dotE x) (by omega) (by rw [hws]; rfl)
  rw [HU.out.1] at u0
  rw [HU.out.2.1] at u4
  rw [HU.out.2.2.1] at u5
  rw [HU.out.2.2.2] at u7
  have U0 := Lib.hid (show Calls Tryd.prog 38 #[.int .i64 0, .pointer (some ⟨G, 0, none⟩)] V fun e w' => e = .returned (.string s) ∧ V = w' from u0)
  have U4 := Lib.hid (show Calls Tryd.prog 38 #[.int .i64 4, .pointer (some ⟨G, 0, none⟩)] V fun e w' => e = .returned (.string p) ∧ V = w' from u4)
  have U5 := Lib.hid (show Calls Tryd.prog 38 #[.int .i64 5, .pointer (some ⟨G, 0, none⟩)] V fun e w' => e = .returned (.string i) ∧ V = w' from u5)
  have U7 := Lib.hid (show Calls Tryd.prog 38 #[.int .i64 7, .pointer (some ⟨G, 0, none⟩)] V fun e w' => e = .returned (.string x) ∧ V = w' from u7)
  have HWS := Lib.hid hws
  clear u0 u4 u5 u7 HUU hws HU
  have x0 : V.cell? ⟨E, 0, none⟩ = some (.string ⟨#[]⟩) := HPI.out.ee.cell 0
  have x4 : V.cell? ⟨E, 4, none⟩ = some (.string ⟨#[]⟩) := HPI.out.ee.cell 4
  have x5 : V.cell? ⟨E, 5, none⟩ = some (.string ⟨#[]⟩) := HPI.out.ee.cell 5
  have x7 : V.cell? ⟨E, 7, none⟩ = some (.string ⟨#[]⟩) := HPI.out.ee.cell 7
  have xf : ∀ j, V.frozen? ⟨E, j, none⟩ = false := fun j => HPI.out.ee.free j
  go_upto_region 8 with (first
    | (go_at_call 38
       first
       | ((with_reducible refine U0.out.mono ?_); rintro e w3 ⟨rfl, rfl⟩)
       | ((with_reducible refine U4.out.mono ?_); rintro e w3 ⟨rfl, rfl⟩)
       | ((with_reducible refine U5.out.mono ?_); rintro e w3 ⟨rfl, rfl⟩)
       | ((with_reducible refine U7.out.mono ?_); rintro e w3 ⟨rfl, rfl⟩)
       | fail)
    | fail)
  have HP2 := Lib.hid ((((HPI.out.setE 0 (.string s)).setE 4 (.string p)).setE 5 (.string i)).setE 7 (.string x))
  clear x0 x4 x5 x7 xf U0 U4 U5 U7 HPI
  generalize (((V.setCell ⟨E, 0, none⟩ (.string s)).setCell ⟨E, 4, none⟩ (.string p)).setCell ⟨E, 5, none⟩ (.string i)).setCell ⟨E, 7, none⟩ (.string x) = V2 at HP2 ⊢
  clear V
  have ne1 : ¬ E = B := by have := HP2.out.ne; omega
  have ne2 : ¬ B = E := by have := HP2.out.ne; omega
  have c0 : V2.cell? ⟨G, 0, none⟩ = some (.slice (some ⟨g, 0, none⟩) 8 8) := HP2.out.GG.cell 0
  have c1 : V2.cell? ⟨g, 1, none⟩ = some (.string (decT n)) := by rw [HP2.out.gg.cell, List.getElem?_map, HWS.out]; rfl
  have c2 : V2.cell? ⟨E, 1, none⟩ = some (.int .i64 0) := HP2.out.ee.cell 1
  have c3 : V2.cell? ⟨B, 0, none⟩ = some (.bool false) := HP2.out.bb.cell 0
  have f2 : ∀ j, V2.frozen? ⟨E, j, none⟩ = false := fun j => HP2.out.ee.free j
  have f3 : ∀ j, V2.frozen? ⟨B, j, none⟩ = false := fun j => HP2.out.bb.free j
  go_upto_region 9 with (first
    | (go_at_call 39; (with_reducible refine (HD1.out _).mono ?_); rintro e w3 ⟨rfl, rfl⟩)
    | fail)
  have HP3 := Lib.hid ((HP2.out.setE 1 (.int .i64 n)).setB 0 (.bool true))
  clear c0 c1 c2 c3 f2 f3 HP2
  generalize (V2.setCell ⟨E, 1, none⟩ (.int .i64 n)).setCell ⟨B, 0, none⟩ (.bool true) = V3 at HP3 ⊢
  have c0 : V3.cell? ⟨G, 0, none⟩ = some (.slice (some ⟨g, 0, none⟩) 8 8) := HP3.out.GG.cell 0
  have c1 : V3.cell? ⟨g, 2, none⟩ = some (.string (decT a)) := by rw [HP3.out.gg.cell, List.getElem?_map, HWS.out]; rfl
  have c2 : V3.cell? ⟨E, 2, none⟩ = some (.int .i64 0) := HP3.out.ee.cell 2
  have c3 : V3.cell? ⟨B, 1, none⟩ = some (.bool false) := HP3.out.bb.cell 1
  have f2 : ∀ j, V3.frozen? ⟨E, j, none⟩ = false := fun j => HP3.out.ee.free j
  have f3 : ∀ j, V3.frozen? ⟨B, j, none⟩ = false := fun j => HP3.out.bb.free j
  go_upto_region 10 with (first
    | (go_at_call 39; (with_reducible refine (HD2.out _).mono ?_); rintro e w3 ⟨rfl, rfl⟩)
    | fail)
  have HP4 := Lib.hid ((HP3.out.setE 2 (.int .i64 a)).setB 1 (.bool true))
  clear c0 c1 c2 c3 f2 f3 HP3
  generalize (V3.setCell ⟨E, 2, none⟩ (.int .i64 a)).setCell ⟨B, 1, none⟩ (.bool true) = V4 at HP4 ⊢
  have c0 : V4.cell? ⟨G, 0, none⟩ = some (.slice (some ⟨g, 0, none⟩) 8 8) := HP4.out.GG.cell 0
  have c1 : V4.cell? ⟨g, 6, none⟩ = some (.string (decT v)) := by rw [HP4.out.gg.cell, List.getElem?_map, HWS.out]; rfl
  have c2 : V4.cell? ⟨E, 6, none⟩ = some (.int .i64 0) := HP4.out.ee.cell 6
  have c3 : V4.cell? ⟨B, 2, none⟩ = some (.bool false) := HP4.out.bb.cell 2
  have f2 : ∀ j, V4.frozen? ⟨E, j, none⟩ = false := fun j => HP4.out.ee.free j
  have f3 : ∀ j, V4.frozen? ⟨B, j, none⟩ = false := fun j => HP4.out.bb.free j
  go_upto_region 11 with (first
    | (go_at_call 39; (with_reducible refine (HD3.out _).mono ?_); rintro e w3 ⟨rfl, rfl⟩)
    | fail)
  have HP5 := Lib.hid ((HP4.out.setE 6 (.int .i64 v)).setB 2 (.bool true))
  clear c0 c1 c2 c3 f2 f3 HP4
  generalize (V4.setCell ⟨E, 6, none⟩ (.int .i64 v)).setCell ⟨B, 2, none⟩ (.bool true) = V5 at HP5 ⊢
  have c2 : V5.cell? ⟨E, 3, none⟩ = some (.int .i64 0) := HP5.out.ee.cell 3
  have f2 : ∀ j, V5.frozen? ⟨E, j, none⟩ = false := fun j => HP5.out.ee.free j
  go_upto_region 12 with fail
  have HP6 := Lib.hid (HP5.out.setE 3 (.int .i64 (-1)))
  clear c2 f2 HP5
  generalize V5.setCell ⟨E, 3, none⟩ (.int .i64 (-1)) = V6 at HP6 ⊢
  obtain ⟨t0, fr0, hb0⟩ := (HG.out.bel HP6.out.bl).block
  have HB0 := Lib.hid hb0
  clear hb0
  go_wp2_with (first
    | ((with_reducible show wpList _ _ _ (Oper.mk _ (Op.load 97 _) _ _ _ _ :: _) _ _); refine wpList_load_row rfl 97 _ rfl 0 rfl t0 (nameB15.map Value.string).toArray fr0 _ HB0.out Tryd.underlying97 rfl (by kernel_rfl) ?_)
    | fail)
  obtain ⟨bc, hbc⟩ : ∃ bc : List Value, bc = [.bool true, .bool true, .bool true] := ⟨_, rfl⟩
  have HP7 : Hid (PI w V6 g G E B ws [.string s, .int .i64 n, .int .i64 a, .int .i64 (-1), .string p, .string i, .int .i64 v, .string x] bc) := Lib.hid (by rw [hbc]; exact HP6.out)
  have HBC := Lib.hid hbc
  clear HP6 HB0 hbc HD1 HD2 HD3
  go_loopw [58] (fun c wr => ∃ j : Nat, j ≤ 15 ∧ c = .int .i64 j ∧ Hid (PI w wr g G E B ws [.string s, .int .i64 n, .int .i64 a, .int .i64 (if j ≤ kn then -1 else kn), .string p, .string i, .int .i64 v, .string x] bc)) (fun c _ => 15 - (intOf c).toNat)
  case atStart => exact ⟨0, by omega, rfl, Lib.hid (by rw [if_pos (Nat.zero_le _)]; exact HP7.out)⟩
  case round =>
    obtain ⟨j, hj, rfl, H⟩ := hrel
    by_cases hlt : j < 15
    · have hix := names_ix wr j hlt
      have c0 : wr.cell? ⟨G, 0, none⟩ = some (.slice (some ⟨g, 0, none⟩) 8 8) := H.out.GG.cell 0
      have c1 : wr.cell? ⟨g, 3, none⟩ = some (.string K) := by rw [H.out.gg.cell, List.getElem?_map, HWS.out]; rfl
      have c2 : wr.cell? ⟨E, 3, none⟩ = some (.int .i64 (if j ≤ kn then -1 else kn)) := H.out.ee.cell 3
      have f2 : ∀ l, wr.frozen? ⟨E, l, none⟩ = false := fun l => H.out.ee.free l
      have hi0 : (0 : Int) ≤ (j : Int) := by omega
      have hi1 : (j : Int) < 15 := by omega
      by_cases hjk : j = kn
      · subst hjk
        rw [← HKT.out] at hix
        go_wp2_with fail
        go_roundw
        case rel =>
          refine ⟨j + 1, by omega, by go_num, Lib.hid ?_⟩
          rw [if_neg (by omega)]
          exact H.out.setE 3 (.int .i64 (j : Nat))
        case measure => simp [intOf]; omega
      · have hne : ¬ (nameB15[j]?).getD emp = K := by
          rw [HKT.out]
          intro c
          have := (names_nd ⟨j, hlt⟩ ⟨kn, hkn⟩).1 c
          exact hjk (congrArg Fin.val this)
        have t1 : (((nameB15[j]?).getD emp).toList == K.toList) = false := by
          rw [Go.ByteArray.toList_eq, Go.ByteArray.toList_eq, beq_eq_false_iff_ne]; exact fun e => hne (byte_ext e)
        have t2 : ¬ ((nameB15[j]?).getD emp).toList = K.toList := by
          rw [Go.ByteArray.toList_eq, Go.ByteArray.toList_eq]; exact fun e => hne (byte_ext e)
        generalize (nameB15[j]?).getD emp = nm at hix t1 t2
        clear hne c2 f2
        go_wp2_with fail
        go_roundw
        case rel =>
          refine ⟨j + 1, by omega, by go_num, Lib.hid ?_⟩
          have h := H.out
          by_cases hle : j ≤ kn
          · rw [if_pos hle] at h
            rw [if_pos (by omega)]; exact h
          · rw [if_neg hle] at h
            rw [if_neg (by omega)]; exact h
        case measure => simp [intOf]; omega
    · have e15 : j = 15 := by omega
      subst e15
      have hk15 : ¬ 15 ≤ kn := by omega
      have h0 := H.out
      rw [if_neg hk15] at h0
      have HP8 := Lib.hid h0
      have c0 : wr.cell? ⟨B, 0, none⟩ = some (.bool true) := by rw [h0.bb.cell, HBC.out]; rfl
      have c1 : wr.cell? ⟨B, 1, none⟩ = some (.bool true) := by rw [h0.bb.cell, HBC.out]; rfl
      have c2 : wr.cell? ⟨B, 2, none⟩ = some (.bool true) := by rw [h0.bb.cell, HBC.out]; rfl
      have d0 : wr.cell? ⟨E, 0, none⟩ = some (.string s) := h0.ee.cell 0
      have d1 : wr.cell? ⟨E, 1, none⟩ = some (.int .i64 n) := h0.ee.cell 1
      have d2 : wr.cell? ⟨E, 2, none⟩ = some (.int .i64 a) := h0.ee.cell 2
      have d3 : wr.cell? ⟨E, 3, none⟩ = some (.int .i64 kn) := h0.ee.cell 3
      have d4 : wr.cell? ⟨E, 4, none⟩ = some (.string p) := h0.ee.cell 4
      have d5 : wr.cell? ⟨E, 5, none⟩ = some (.string i) := h0.ee.cell 5
      have d6 : wr.cell? ⟨E, 6, none⟩ = some (.int .i64 v) := h0.ee.cell 6
      have d7 : wr.cell? ⟨E, 7, none⟩ = some (.string x) := h0.ee.cell 7
      clear h0 H HP7
      go_wp2_with fail
      refine (HF.out wr (HG.out.bel HP8.out.bl)).mono ?_
      rintro e w9 ⟨rfl, b9⟩
      have HP9 := Lib.hid (HP8.out.bel b9)
      clear b9 HP8 c0 c1 c2 d0 d1 d2 d3 d4 d5 d6 d7 HF
      go_wp2_with (first
        | ((with_reducible show wpList _ _ _ (Oper.mk _ (Op.load 41 _) _ _ _ _ :: _) _ _); refine wpList_load_row rfl 41 _ rfl E rfl 41 #[.string s, .int .i64 n, .int .i64 a, .int .i64 kn, .string p, .string i, .int .i64 v, .string x] (0, 0) _ HP9.out.ee Tryd.underlying41 rfl (by kernel_rfl) ?_)
        | ((with_reducible show wpList _ _ _ (Oper.mk _ (Op.store 41 _ _) _ _ _ _ :: _) _ _); refine wpList_store_rowTo rfl 41 _ _ rfl rfl w.heap.size #[.string s, .int .i64 n, .int .i64 a, .int .i64 kn, .string p, .string i, .int .i64 v, .string x] rfl rfl 41 zeE.toArray HP9.out.zz (by kernel_rfl) rfl (all_oneCell_toArray (evOne ⟨s, n, a, kn, p, i, v, x⟩)) ?_)
        | fail)
      exact bodyPost_ret (finP (cs := [.string s, .int .i64 n, .int .i64 a, .int .i64 kn, .string p, .string i, .int .i64 v, .string x]) rfl rfl rfl (HP9.out.zz.setRow _)) rfl ⟨rfl, bel_setRow HP9.out.bl (Nat.le_refl _) _⟩
end Tl
end Go.Proofs.YtbhghelegonbbaaDoor
namespace Go.Proofs.YtbhghelegonbbaaDoor
open Go.RowKit Go.ChangeShapes Go.WideShapes
set_option linter.unusedVariables false
namespace Es
open Rk
/-- the row stands in block b (spare cells sp behind it), all else is as it was in w0 -/
structure SW (w0 : World) (b : Nat) (sp : List Value) (l : List Ev) (W : World) : Prop where
  row : Bk W b (l.flatMap evC ++ sp) 41
  fr : Fr (fun k => k = b) w0 W
theorem SW.bel {w0 W W' : World} {b : Nat} {sp : List Value} {l : List Ev} (h : SW w0 b sp l W) (hb : Below W.heap.size W W') : SW w0 b sp l W' :=
  ⟨h.row.bel hb, h.fr.bel hb⟩
theorem SW.drew {w0 W : World} {b : Nat} {sp : List Value} {l : List Ev} (h : SW w0 b sp l W) : SW w0 b sp l W.drew := ⟨h.row, h.fr.drew⟩
theorem SW.cell {w0 W : World} {b : Nat} {sp : List Value} {l : List Ev} (h : SW w0 b sp l W) {i : Nat} {x : Ev} (hi : l[i]? = some x) {j : Nat} {u : Value} (hj : (evC x)[j]? = some u) : W.cell? ⟨b, i * 8 + j, none⟩ = some u := by
  rw [h.row.cell]
  have := flat_at evLen hi hj
  rw [List.getElem?_append_left (List.getElem?_eq_some_iff.1 this).1]
  exact this
theorem SW.cells {w0 W : World} {b : Nat} {sp : List Value} {l : List Ev} (h : SW w0 b sp l W) {i : Nat} {x : Ev} (hi : l[i]? = some x) :
    W.cell? ⟨b, i * 8, none⟩ = some (.string x.src) ∧ W.cell? ⟨b, i * 8 + 1, none⟩ = some (.int .i64 x.num) ∧ W.cell? ⟨b, i * 8 + 2, none⟩ = some (.int .i64 x.at_) ∧ W.cell? ⟨b, i * 8 + 3, none⟩ = some (.int .i64 x.kind) ∧ W.cell? ⟨b, i * 8 + 4, none⟩ = some (.string x.per) ∧ W.cell? ⟨b, i * 8 + 5, none⟩ = some (.string x.item) ∧ W.cell? ⟨b, i * 8 + 6, none⟩ = some (.int .i64 x.val) ∧ W.cell? ⟨b, i * 8 + 7, none⟩ = some (.string x.txt) :=
  ⟨h.cell hi (j := 0) rfl, h.cell hi (j := 1) rfl, h.cell hi (j := 2) rfl, h.cell hi (j := 3) rfl, h.cell hi (j := 4) rfl, h.cell hi (j := 5) rfl, h.cell hi (j := 6) rfl, h.cell hi (j := 7) rfl⟩
theorem flat_set (l : List Ev) (i : Nat) (y : Ev) (sp : List Value) (h : i < l.length) : putAt (l.flatMap evC ++ sp) (i * 8) (evC y) = (l.set i y).flatMap evC ++ sp := by
  obtain ⟨l1, x, l2, rfl, rfl⟩ : ∃ l1 x l2, l = l1 ++ x :: l2 ∧ l1.length = i := ⟨l.take i, l[i], l.drop (i + 1), by simp, by simp; omega⟩
  have e : (l1 ++ x :: l2).set l1.length y = l1 ++ y :: l2 := by simp
  rw [e, List.flatMap_append, List.flatMap_append, List.flatMap_cons, List.flatMap_cons, ← flat_len evLen l1]
  generalize l1.flatMap evC = F1
  generalize l2.flatMap evC = F2
  rw [putAt_eq _ _ _ (by simp [evLen]), List.append_assoc, List.append_assoc, List.take_left' rfl]
  have e2 : (F1 ++ (evC x ++ F2 ++ sp)).drop (F1.length + (evC y).length) = F2 ++ sp := by
    rw [← List.drop_drop, List.drop_left' rfl, List.append_assoc, List.drop_left' (show (evC x).length = (evC y).length from rfl)]
  rw [e2]
  simp [List.append_assoc]
theorem SW.set {w0 W : World} {b : Nat} {sp : List Value} {l : List Ev} (h : SW w0 b sp l W) {i : Nat} (hi : i < l.length) (y : Ev) : SW w0 b sp (l.set i y) (W.setCells b (i * 8) (evC y)) := by
  refine ⟨?_, Fr.setCells (S := fun k => k = b) (.inr rfl) _ _ h.fr⟩
  have := Bk.setCells (evC y) (l.flatMap evC ++ sp) (i * 8) h.row
  rw [flat_set l i y sp hi] at this
  exact this
theorem SW.set4 {w0 W : World} {b : Nat} {sp : List Value} {l : List Ev} (h : SW w0 b sp l W) {i : Nat} (hi : i < l.length) (y : Ev) :
    SW w0 b sp (l.set i y) ((((((((W.setCell ⟨b, i * 8, none⟩ (.string y.src)).setCell ⟨b, i * 8 + 1, none⟩ (.int .i64 y.num)).setCell ⟨b, i * 8 + 2, none⟩ (.int .i64 y.at_)).setCell ⟨b, i * 8 + 3, none⟩ (.int .i64 y.kind)).setCell ⟨b, i * 8 + 4, none⟩ (.string y.per)).setCell ⟨b, i * 8 + 5, none⟩ (.string y.item)).setCell ⟨b, i * 8 + 6, none⟩ (.int .i64 y.val)).setCell ⟨b, i * 8 + 7, none⟩ (.string y.txt)) := h.set hi y
theorem SW.free {w0 W : World} {b : Nat} {sp : List Value} {l : List Ev} (h : SW w0 b sp l W) (j : Nat) : W.frozen? ⟨b, j, none⟩ = false := h.row.free j
theorem SW.start {w : World} {b : Nat} {sp : List Value} {l : List Ev} (h : Bk w b (l.flatMap evC ++ sp) 41) : SW w b sp l w := ⟨h, Fr.refl _ _⟩
/-- two places swapped -/
def swp (l : List Ev) (i j : Nat) : List Ev := match l[i]?, l[j]? with
  | some x, some y => (l.set i y).set j x
  | _, _ => l
theorem swp_eq {l : List Ev} {i j : Nat} {x y : Ev} (hx : l[i]? = some x) (hy : l[j]? = some y) : swp l i j = (l.set i y).set j x := by unfold swp; rw [hx, hy]
theorem swp_len (l : List Ev) (i j : Nat) : (swp l i j).length = l.length := by
  unfold swp; split <;> simp
end Es
end Go.Proofs.YtbhghelegonbbaaDoor
namespace Go.Proofs.YtbhghelegonbbaaDoor
open Go.RowKit Go.ChangeShapes Go.WideShapes
set_option linter.unusedVariables false
set_option linter.unusedSimpArgs false
namespace Es
open Rk
def swpR (l : List Ev) (a b : Nat) : Nat → List Ev
  | 0 => l
  | n + 1 => swp (swpR l a b n) (a + n) (b + n)
theorem swpR_len (l : List Ev) (a b n : Nat) : (swpR l a b n).length = l.length := by
  induction n with
  | zero => rfl
  | succ n ih => rw [swpR, swp_len, ih]
set_option maxHeartbeats 4000000 in
theorem swap_any (w : World) (b : Nat) (sp : List Value) (l : List Ev) (n cap s t k : Nat) (fv : Value) (hl : l.length = n) (hn : n ≤ 1000) (h : Bk w b (l.flatMap evC ++ sp) 41) (h1 : s + k ≤ n) (h2 : t + k ≤ n) (hst : s ≠ t) (hcap : n ≤ cap) (hm : cap ≤ maxLen) :
    Calls Tryd.prog 69 #[.slice (some ⟨b, 0, none⟩) n cap, .int .i64 s, .int .i64 t, .int .i64 k, fv] w fun e w' => e = .returned (.tuple #[]) ∧ SW w b sp (swpR l s t k) w' := by
  have HS := Lib.hid (SW.start h)
  have HL := Lib.hid hl
  clear h hl
  unfold maxLen at hm
  go_enter Tryd.func69, Tryd.ntmps69
  go_wp2_with fail
  go_loopg [10] k (fun g c wr => ∃ i : Nat, c = .int .i64 i ∧ i ≤ k ∧ k - i ≤ g ∧ Hid (SW w b sp (swpR l s t i) wr))
  case atStart => exact ⟨0, rfl, by omega, by omega, HS⟩
  case round =>
    obtain ⟨i, rfl, hi, hg, H⟩ := hrel
    by_cases hlt : i < k
    · obtain ⟨x, hx⟩ : ∃ x, (swpR l s t i)[s + i]? = some x := ⟨(swpR l s t i)[s + i]'(by rw [swpR_len]; have := HL.out; omega), List.getElem?_eq_getElem _⟩
      obtain ⟨y, hy⟩ : ∃ y, (swpR l s t i)[t + i]? = some y := ⟨(swpR l s t i)[t + i]'(by rw [swpR_len]; have := HL.out; omega), List.getElem?_eq_getElem _⟩
      have hW := H.out
      obtain ⟨a0, a1, a2, a3, a4, a5, a6, a7⟩ := hW.cells hx
      obtain ⟨c0, c1, c2, c3, c4, c5, c6, c7⟩ := hW.cells hy
      have w1 : IntKind.i64.wrap ((s : Int) + i) = (s : Int) + i := IntWalk.i64_in _ (by omega)
      have w2 : IntKind.i64.wrap ((t : Int) + i) = (t : Int) + i := IntWalk.i64_in _ (by omega)
      have e1 : ((s : Int) + i).toNat = s + i := by omega
      have e2 : ((t : Int) + i).toNat = t + i := by omega
      have z1 : (0 : Int) ≤ (s : Int) + i := by omega
      have z2 : (0 : Int) ≤ (t : Int) + i := by omega
      have z3 : (s : Int) + i < n := by omega
      have z4 : (t : Int) + i < n := by omega
      have HX := Lib.hid hx
      have HY := Lib.hid hy
      have g0 : ∀ j, wr.frozen? ⟨b, j, none⟩ = false := fun j => hW.free j
      have hW2 := (hW.set4 (i := s + i) (by rw [swpR_len]; have := HL.out; omega) y).drew
      have hy2 : ((swpR l s t i).set (s + i) y)[t + i]? = some y := by rw [List.getElem?_set_ne (by omega)]; exact hy
      obtain ⟨d0, d1, d2, d3, d4, d5, d6, d7⟩ := hW2.cells hy2
      have g1 := fun j => hW2.free j
      have H2 := Lib.hid hW2
      clear hx hy hW HS hW2 hy2
      go_wp2_with fail
      go_big_region
      all_goals
        go_wp2_with fail
        go_roundg (k - (i + 1))
        case measure => omega
        case rel =>
          refine ⟨i + 1, by go_num, by omega, Nat.le_refl _, Lib.hid ?_⟩
          have e : swpR l s t (i + 1) = ((swpR l s t i).set (s + i) y).set (t + i) x := by rw [swpR, swp_eq HX.out HY.out]
          rw [e]
          exact (SW.set4 (SW.set4 H.out (by have := HX.out; exact (List.getElem?_eq_some_iff.1 this).1) y) (by rw [List.length_set]; have := HY.out; exact (List.getElem?_eq_some_iff.1 this).1) x).drew
    · obtain rfl : i = k := by omega
      go_wp2_with fail
      go_end0
      exact ⟨rfl, H.out⟩
end Es
end Go.Proofs.YtbhghelegonbbaaDoor
namespace Go.Proofs.YtbhghelegonbbaaDoor
open Go.RowKit Go.ChangeShapes Go.WideShapes
set_option linter.unusedVariables false
set_option linter.unusedSimpArgs false
namespace Es
open Rk
theorem swp_get {l : List Ev} {i j : Nat} (hi : i < l.length) (hj : j < l.length) (q : Nat) : (swp l i j)[q]? = if q = j then l[i]? else if q = i then l[j]? else l[q]? := by
  rw [swp_eq (List.getElem?_eq_getElem hi) (List.getElem?_eq_getElem hj), List.getElem?_set, List.getElem?_set, List.getElem?_eq_getElem hi, List.getElem?_eq_getElem hj, List.length_set]
  by_cases e1 : q = j
  · subst e1; simp [hj]
  · rw [if_neg e1, if_neg (fun e => e1 e.symm)]
    by_cases e2 : q = i
    · subst e2; simp [hi]
    · rw [if_neg e2, if_neg (fun e => e2 e.symm)]
theorem swpR_get {l : List Ev} {s t : Nat} : ∀ (k : Nat), s + k ≤ t → t + k ≤ l.length → ∀ q, (swpR l s t k)[q]? = if s ≤ q ∧ q < s + k then l[t + (q - s)]? else if t ≤ q ∧ q < t + k then l[s + (q - t)]? else l[q]?
  | 0, h1, h2, q => by rw [swpR, if_neg (by omega), if_neg (by omega)]
  | k + 1, h1, h2, q => by
    have ih := swpR_get (l := l) (s := s) (t := t) k (by omega) (by omega)
    rw [swpR, swp_get (by rw [swpR_len]; omega) (by rw [swpR_len]; omega), ih, ih, ih]
    by_cases e1 : q = t + k
    · rw [if_pos e1, if_neg (by omega), if_neg (by omega), if_neg (by omega), if_pos (by omega)]
      congr 1; omega
    · rw [if_neg e1]
      by_cases e2 : q = s + k
      · rw [if_pos e2, if_neg (by omega), if_neg (by omega), if_pos (by omega)]
        congr 1; omega
      · rw [if_neg e2]
        by_cases e3 : s ≤ q ∧ q < s + k
        · rw [if_pos e3, if_pos (by omega)]
        · rw [if_neg e3, if_neg (by omega : ¬ (s ≤ q ∧ q < s + (k + 1)))]
          by_cases e4 : t ≤ q ∧ q < t + k
          · rw [if_pos e4, if_pos (by omega)]
          · rw [if_neg e4, if_neg (by omega)]
theorem get_app (a b : List Ev) (q : Nat) : (a ++ b)[q]? = if q < a.length then a[q]? else b[q - a.length]? := by
  split
  · exact List.getElem?_append_left (by assumption)
  · exact List.getElem?_append_right (by omega)
theorem get_none {a : List Ev} {q : Nat} (h : a.length ≤ q) : a[q]? = none := List.getElem?_eq_none h
theorem swpR_parts (p u y v z : List Ev) (h : u.length = v.length) : swpR (p ++ u ++ y ++ v ++ z) p.length (p.length + u.length + y.length) u.length = p ++ v ++ y ++ u ++ z := by
  apply List.ext_getElem?
  intro q
  rw [swpR_get _ (by omega) (by simp; omega)]
  simp only [List.append_assoc]
  by_cases e1 : q < p.length
  · rw [if_neg (by omega), if_neg (by omega), get_app, if_pos e1, get_app, if_pos e1]
  · by_cases e2 : q < p.length + u.length
    · rw [if_pos (by omega), get_app, if_neg (by omega), get_app, if_neg (by omega), get_app, if_neg (by omega), get_app, if_pos (by omega), get_app, if_neg (by omega), get_app, if_pos (by omega)]
      congr 1; omega
    · rw [if_neg (by omega)]
      by_cases e3 : q < p.length + u.length + y.length
      · rw [if_neg (by omega), get_app, if_neg (by omega), get_app, if_neg (by omega), get_app, if_pos (by omega), get_app, if_neg (by omega), get_app, if_neg (by omega), get_app, if_pos (by omega)]
        congr 1; omega
      · by_cases e4 : q < p.length + u.length + y.length + u.length
        · rw [if_pos (by omega), get_app, if_neg (by omega), get_app, if_pos (by omega), get_app, if_neg (by omega), get_app, if_neg (by omega), get_app, if_neg (by omega), get_app, if_pos (by omega)]
          congr 1; omega
        · rw [if_neg (by omega), get_app, if_neg (by omega), get_app, if_neg (by omega), get_app, if_neg (by omega), get_app, if_neg (by omega), get_app, if_neg (by omega), get_app, if_neg (by omega), get_app, if_neg (by omega), get_app, if_neg (by omega)]
          congr 1; omega
theorem SW.on {w0 W W' : World} {b : Nat} {sp : List Value} {l l' : List Ev} (h : SW w0 b sp l W) (k : SW W b sp l' W') : SW w0 b sp l' W' :=
  ⟨k.row, h.fr.trans k.fr (fun _ _ e => e)⟩
theorem swap_parts (w0 W : World) (b : Nat) (sp : List Value) (p u y v z : List Ev) (n cap : Nat) (fv : Value) (si ti ki : Int) (h : SW w0 b sp (p ++ u ++ y ++ v ++ z) W) (hn : n = p.length + u.length + y.length + v.length + z.length) (huv : u.length = v.length) (hu : 1 ≤ u.length)
    (hs : si = p.length) (ht : ti = p.length + u.length + y.length) (hk : ki = u.length) (h1000 : n ≤ 1000) (hcap : n ≤ cap) (hm : cap ≤ maxLen) :
    Calls Tryd.prog 69 #[.slice (some ⟨b, 0, none⟩) n cap, .int .i64 si, .int .i64 ti, .int .i64 ki, fv] W fun e w' => e = .returned (.tuple #[]) ∧ SW w0 b sp (p ++ v ++ y ++ u ++ z) w' := by
  subst hs hk
  rw [show ti = ((p.length + u.length + y.length : Nat) : Int) by omega]
  refine (swap_any W b sp (p ++ u ++ y ++ v ++ z) n cap p.length (p.length + u.length + y.length) u.length fv (by simp; omega) h1000 h.row (by omega) (by omega) (by omega) hcap hm).mono ?_
  rintro e w' ⟨rfl, k⟩
  rw [swpR_parts p u y v z huv] at k
  exact ⟨rfl, h.on k⟩
/-- how rotate stands within its loop -/
structure Rot (w0 W : World) (b : Nat) (sp : List Value) (fin : List Ev) (m i j : Nat) (p s t q : List Ev) : Prop where
  sw : SW w0 b sp (p ++ s ++ t ++ q) W
  fin : p ++ t ++ s ++ q = fin
  hp : p.length + i = m
  hs : s.length = i
  ht : t.length = j
  hi : 1 ≤ i
  hj : 1 ≤ j
set_option maxHeartbeats 4000000 in
theorem rot_parts (w : World) (b : Nat) (sp : List Value) (x u v y : List Ev) (n cap : Nat) (fv : Value) (ai mi bi : Int) (h : Bk w b ((x ++ u ++ v ++ y).flatMap evC ++ sp) 41) (hn : n = x.length + u.length + v.length + y.length) (hu : 1 ≤ u.length) (hv : 1 ≤ v.length)
    (ha : ai = x.length) (hm : mi = x.length + u.length) (hb : bi = x.length + u.length + v.length) (h1000 : n ≤ 1000) (hcap : n ≤ cap) (hmax : cap ≤ maxLen) :
    Calls Tryd.prog 58 #[.slice (some ⟨b, 0, none⟩) n cap, .int .i64 ai, .int .i64 mi, .int .i64 bi, fv] w fun e w' => e = .returned (.tuple #[]) ∧ SW w b sp (x ++ v ++ u ++ y) w' := by
  obtain ⟨fin, hfin⟩ : ∃ f, x ++ v ++ u ++ y = f := ⟨_, rfl⟩
  rw [hfin]
  obtain ⟨m, hm'⟩ : ∃ m, m = x.length + u.length := ⟨_, rfl⟩
  obtain ⟨i0, hi0⟩ : ∃ m, m = u.length := ⟨_, rfl⟩
  obtain ⟨j0, hj0⟩ : ∃ m, m = v.length := ⟨_, rfl⟩
  have H0 := Lib.hid (Rot.mk (m := m) (i := i0) (j := j0) (SW.start h) hfin (by omega) hi0.symm hj0.symm (by omega) (by omega))
  have HN : Hid (∀ W i j p s t q, Rot w W b sp fin m i j p s t q → n = p.length + s.length + t.length + q.length) := Lib.hid (fun W i j p s t q H => by
    have e1 := congrArg List.length H.fin
    have e2 := congrArg List.length hfin
    simp at e1 e2
    omega)
  obtain rfl : ai = (m : Int) - i0 := by omega
  obtain rfl : mi = (m : Int) := by omega
  obtain rfl : bi = (m : Int) + j0 := by omega
  have q1 : m ≤ 1000 := by omega
  have q2 : i0 ≤ m := by omega
  have q3 : m + j0 ≤ 1000 := by omega
  have HM := Lib.hid hmax
  clear h hn hu hv ha hm hb hfin hm' hi0 hj0 hmax
  have e1 : (m : Int) - ((m : Int) - i0) = i0 := by omega
  have e2 : (m : Int) + j0 - m = j0 := by omega
  go_enter Tryd.func58, Tryd.ntmps58
  go_wp2_with fail
  go_loopg [10, 11] (i0 + j0) (fun g c d wr => ∃ (i j : Nat) (p s t q : List Ev), c = .int .i64 i ∧ d = .int .i64 j ∧ i + j ≤ g ∧ i ≤ m ∧ m + j ≤ 1000 ∧ 1 ≤ i ∧ 1 ≤ j ∧ Hid (Rot w wr b sp fin m i j p s t q))
  case atStart => exact ⟨i0, j0, x, u, v, y, by first | rfl | go_num, by first | rfl | go_num, Nat.le_refl _, q2, q3, H0.out.hi, H0.out.hj, H0⟩
  case round =>
    obtain ⟨i, j, p, s, t, q, rfl, rfl, hg, him, hj1000, hi1, hj1, H⟩ := hrel
    clear e1 e2 H0 q2 q3
    by_cases hij : i = j
    · subst hij
      have t1 : ((i : Int) == i) = true := by simp
      have t2 : ((i : Int) != i) = false := by simp
      go_wp2_with fail
      refine (swap_parts w wr b sp p s [] t q n cap fv _ _ _ (by simpa using H.out.sw) (by have := HN.out _ _ _ _ _ _ _ H.out; simpa using this) (by rw [H.out.hs, H.out.ht]) (by rw [H.out.hs]; exact hi1) (by have := H.out.hp; omega) (by have := H.out.hp; have := H.out.hs; simp; omega) (by have := H.out.hs; omega) h1000 hcap HM.out).mono ?_
      rintro e w' ⟨rfl, k⟩
      have K := Lib.hid k
      clear k
      go_wp2_with fail
      go_end0
      exact ⟨rfl, by have := K.out; rw [← H.out.fin]; simpa using this⟩
    · have t1 : ((i : Int) == j) = false := by simp; omega
      have t2 : ((i : Int) != j) = true := by simp; omega
      by_cases hlt : j < i
      · have c1 : (j : Int) < (i : Int) := by omega
        obtain ⟨s1, s2, rfl, hs1⟩ : ∃ s1 s2, s = s1 ++ s2 ∧ s1.length = j := ⟨s.take j, s.drop j, (List.take_append_drop j s).symm, by have := H.out.hs; simp; omega⟩
        have hS := H.out.hs
        have hP := H.out.hp
        have hT := H.out.ht
        have hsw := H.out.sw
        have hnn := HN.out _ _ _ _ _ _ _ H.out
        simp only [List.length_append] at hS hnn
        have HSW : Hid (SW w b sp (p ++ s1 ++ s2 ++ t ++ q) wr) := Lib.hid (by simpa [List.append_assoc] using hsw)
        have HQ := Lib.hid (And.intro hs1 (And.intro hS (And.intro hP (And.intro hT hnn))))
        clear hs1 hS hP hT hnn hsw hij
        go_wp2_with fail
        refine (swap_parts w wr b sp p s1 s2 t q n cap fv _ _ _ HSW.out (by obtain ⟨a1, a2, a3, a4, a5⟩ := HQ.out; omega) (by obtain ⟨a1, a2, a3, a4, a5⟩ := HQ.out; omega) (by obtain ⟨a1, a2, a3, a4, a5⟩ := HQ.out; omega) (by obtain ⟨a1, a2, a3, a4, a5⟩ := HQ.out; omega) (by obtain ⟨a1, a2, a3, a4, a5⟩ := HQ.out; omega) (by obtain ⟨a1, a2, a3, a4, a5⟩ := HQ.out; omega) h1000 hcap HM.out).mono ?_
        rintro e w' ⟨rfl, k⟩
        have K := Lib.hid k
        clear k
        go_wp2_with fail
        go_roundg (i - j + j)
        case measure => omega
        case rel =>
          refine ⟨i - j, j, p ++ t, s2, s1, q, by go_num, rfl, Nat.le_refl _, by omega, hj1000, by omega, hj1, Lib.hid ?_⟩
          obtain ⟨a1, a2, a3, a4, a5⟩ := HQ.out
          refine ⟨by simpa [List.append_assoc] using K.out, by rw [← H.out.fin]; simp [List.append_assoc], by simp; omega, by omega, a1, by omega, hj1⟩
      · have c1 : (i : Int) < (j : Int) := by omega
        have c2 : ¬ (j : Int) < (i : Int) := by omega
        obtain ⟨s1, s2, rfl, hs1⟩ : ∃ s1 s2, t = s1 ++ s2 ∧ s2.length = i := ⟨t.take (j - i), t.drop (j - i), (List.take_append_drop _ t).symm, by have := H.out.ht; simp; omega⟩
        have hS := H.out.ht
        have hP := H.out.hp
        have hT := H.out.hs
        have hsw := H.out.sw
        have hnn := HN.out _ _ _ _ _ _ _ H.out
        simp only [List.length_append] at hS hnn
        have HSW : Hid (SW w b sp (p ++ s ++ s1 ++ s2 ++ q) wr) := Lib.hid (by simpa [List.append_assoc] using hsw)
        have HQ := Lib.hid (And.intro hs1 (And.intro hS (And.intro hP (And.intro hT hnn))))
        clear hs1 hS hP hT hnn hsw hij hlt
        go_wp2_with fail
        refine (swap_parts w wr b sp p s s1 s2 q n cap fv _ _ _ HSW.out (by obtain ⟨a1, a2, a3, a4, a5⟩ := HQ.out; omega) (by obtain ⟨a1, a2, a3, a4, a5⟩ := HQ.out; omega) (by obtain ⟨a1, a2, a3, a4, a5⟩ := HQ.out; omega) (by obtain ⟨a1, a2, a3, a4, a5⟩ := HQ.out; omega) (by obtain ⟨a1, a2, a3, a4, a5⟩ := HQ.out; omega) (by obtain ⟨a1, a2, a3, a4, a5⟩ := HQ.out; omega) h1000 hcap HM.out).mono ?_
        rintro e w' ⟨rfl, k⟩
        have K := Lib.hid k
        clear k
        go_wp2_with fail
        go_roundg (i + (j - i))
        case measure => omega
        case rel =>
          refine ⟨i, j - i, p, s2, s1, s ++ q, rfl, by go_num, Nat.le_refl _, him, by omega, hi1, by omega, Lib.hid ?_⟩
          obtain ⟨a1, a2, a3, a4, a5⟩ := HQ.out
          refine ⟨by simpa [List.append_assoc] using K.out, by rw [← H.out.fin]; simp [List.append_assoc], a3, a1, by omega, hi1, by omega⟩
end Es
end Go.Proofs.YtbhghelegonbbaaDoor
namespace Go.Proofs.YtbhghelegonbbaaDoor
open Go.RowKit Go.ChangeShapes Go.WideShapes
set_option linter.unusedVariables false
set_option linter.unusedSimpArgs false
namespace Es
open Rk
/-- two neighbours' places in the text of a swap -/
theorem SW.swap8 {w0 W : World} {b : Nat} {sp : List Value} {l : List Ev} (h : SW w0 b sp l W) {i j : Nat} {x y : Ev} (hx : l[i]? = some x) (hy : l[j]? = some y) :
    SW w0 b sp ((l.set i y).set j x) ((((((((((((((((W.setCell ⟨b, i * 8, none⟩ (.string y.src)).setCell ⟨b, i * 8 + 1, none⟩ (.int .i64 y.num)).setCell ⟨b, i * 8 + 2, none⟩ (.int .i64 y.at_)).setCell ⟨b, i * 8 + 3, none⟩ (.int .i64 y.kind)).setCell ⟨b, i * 8 + 4, none⟩ (.string y.per)).setCell ⟨b, i * 8 + 5, none⟩ (.string y.item)).setCell ⟨b, i * 8 + 6, none⟩ (.int .i64 y.val)).setCell ⟨b, i * 8 + 7, none⟩ (.string y.txt)).setCell ⟨b, j * 8, none⟩ (.string x.src)).setCell ⟨b, j * 8 + 1, none⟩ (.int .i64 x.num)).setCell ⟨b, j * 8 + 2, none⟩ (.int .i64 x.at_)).setCell ⟨b, j * 8 + 3, none⟩ (.int .i64 x.kind)).setCell ⟨b, j * 8 + 4, none⟩ (.string x.per)).setCell ⟨b, j * 8 + 5, none⟩ (.string x.item)).setCell ⟨b, j * 8 + 6, none⟩ (.int .i64 x.val)).setCell ⟨b, j * 8 + 7, none⟩ (.string x.txt)).drew :=
  (SW.set4 (SW.set4 h (List.getElem?_eq_some_iff.1 hx).1 y) (by rw [List.length_set]; exact (List.getElem?_eq_some_iff.1 hy).1) x).drew
theorem SW.swap4 {w0 W : World} {b : Nat} {sp : List Value} {l : List Ev} (h : SW w0 b sp l W) {i j : Nat} {x y : Ev} (hx : l[i]? = some x) (hy : l[j]? = some y) (hij : i ≠ j) :
    SW w0 b sp (l.set i y) ((((((((W.setCell ⟨b, i * 8, none⟩ (.string y.src)).setCell ⟨b, i * 8 + 1, none⟩ (.int .i64 y.num)).setCell ⟨b, i * 8 + 2, none⟩ (.int .i64 y.at_)).setCell ⟨b, i * 8 + 3, none⟩ (.int .i64 y.kind)).setCell ⟨b, i * 8 + 4, none⟩ (.string y.per)).setCell ⟨b, i * 8 + 5, none⟩ (.string y.item)).setCell ⟨b, i * 8 + 6, none⟩ (.int .i64 y.val)).setCell ⟨b, i * 8 + 7, none⟩ (.string y.txt)).drew ∧ (l.set i y)[j]? = some y :=
  ⟨(SW.set4 h (List.getElem?_eq_some_iff.1 hx).1 y).drew, by rw [List.getElem?_set_ne hij]; exact hy⟩
/-- neighbours swapped -/
theorem set_near (p q : List Ev) (x y : Ev) : ((p ++ x :: y :: q).set (p.length + 1) x).set p.length y = p ++ y :: x :: q := by
  rw [List.set_append_right _ _ (by omega), List.set_append_right _ _ (by omega)]; simp
theorem set_near' (p q : List Ev) (x y : Ev) : ((p ++ x :: y :: q).set p.length y).set (p.length + 1) x = p ++ y :: x :: q := by
  rw [List.set_append_right _ _ (by omega), List.set_append_right _ _ (by omega)]; simp
theorem near_at (p q : List Ev) (x y : Ev) : (p ++ x :: y :: q)[p.length]? = some x ∧ (p ++ x :: y :: q)[p.length + 1]? = some y := by
  constructor <;> simp
structure InsO (w W : World) (b : Nat) (sp : List Value) (x u y : List Ev) (i : Nat) (z r : List Ev) : Prop where
  sw : SW w b sp (x ++ (z ++ (r ++ y))) W
  len : x.length + z.length = i
  perm : (z ++ r).Perm u
  srt : Srt ltE z
structure InsI (w W : World) (b : Nat) (sp : List Value) (x u y : List Ev) (i j : Nat) (z1 : List Ev) (c : Ev) (z2 r : List Ev) : Prop where
  sw : SW w b sp (x ++ (z1 ++ c :: (z2 ++ (r ++ y)))) W
  len : x.length + z1.length = j
  all : x.length + z1.length + z2.length = i
  perm : (z1 ++ c :: z2 ++ r).Perm u
  srt : Srt ltE (z1 ++ z2)
  gt : ∀ e ∈ z2, ltE e c = false
theorem InsI.stop {w W : World} {b : Nat} {sp : List Value} {x u y : List Ev} {i j : Nat} {z1 : List Ev} {c : Ev} {z2 r : List Ev} (h : InsI w W b sp x u y i j z1 c z2 r) (hs : ∀ e ∈ z1, ltE c e = false) : InsO w W b sp x u y (i + 1) (z1 ++ c :: z2) r :=
  ⟨by simpa [List.append_assoc] using h.sw, by have := h.all; simp; omega, h.perm, put_srt h.srt hs h.gt⟩
theorem not_lt_all {z1 : List Ev} {l c : Ev} (h : Srt ltE (z1 ++ [l])) (hl : ltE c l = false) : ∀ e ∈ z1 ++ [l], ltE c e = false := fun e he => by
  rcases List.mem_append.1 he with he | he
  · have := (List.pairwise_append.1 h).2.2 e he l (by simp)
    exact preE.tr e l c this hl
  · have : e = l := by simpa using he
    subst this; exact hl
theorem InsI.stop' {w W : World} {b : Nat} {sp : List Value} {x u y : List Ev} {i j : Nat} {z1 : List Ev} {l c : Ev} {z2 r : List Ev} (h : InsI w W b sp x u y i j (z1 ++ [l]) c z2 r) (hs : ltE c l = false) : InsO w W b sp x u y (i + 1) (z1 ++ [l] ++ c :: z2) r :=
  h.stop (not_lt_all (List.pairwise_append.1 h.srt).1 hs)
theorem InsI.step {w W W' : World} {b : Nat} {sp : List Value} {x u y : List Ev} {i j : Nat} {z1 : List Ev} {l c : Ev} {z2 r : List Ev} (h : InsI w W b sp x u y i (j + 1) (z1 ++ [l]) c z2 r) (hs : ltE c l = true)
    (hw : SW w b sp (x ++ (z1 ++ c :: l :: (z2 ++ (r ++ y)))) W') : InsI w W' b sp x u y i j z1 c (l :: z2) r := by
  refine ⟨hw, by have := h.len; simp at this; omega, by have := h.all; simp at this ⊢; omega, ?_, by simpa using h.srt, fun e he => ?_⟩
  · refine List.Perm.trans ?_ h.perm
    have : (z1 ++ c :: l :: z2).Perm (z1 ++ l :: c :: z2) := (List.Perm.swap l c z2).append_left z1
    simpa [List.append_assoc] using this.append_right r
  · rcases List.mem_cons.1 he with rfl | he
    · exact preE.as _ _ hs
    · exact h.gt e he
theorem InsO.start {w W : World} {b : Nat} {sp : List Value} {x u y : List Ev} {i : Nat} {z r : List Ev} {c : Ev} (h : InsO w W b sp x u y i z (c :: r)) : InsI w W b sp x u y i i z c [] r :=
  ⟨by simpa using h.sw, h.len, by have := h.len; simpa using this, by simpa using h.perm, by simpa using h.srt, fun e he => by cases he⟩
def Sorted (w : World) (b : Nat) (sp : List Value) (x u y : List Ev) (w' : World) : Prop := ∃ z, z.Perm u ∧ Srt ltE z ∧ SW w b sp (x ++ (z ++ y)) w'
theorem SW.bels {w0 W : World} {b : Nat} {sp : List Value} {l : List Ev} (h : SW w0 b sp l W) {i j : Nat} {x y : Ev} (hx : l[i]? = some x) (hy : l[j]? = some y) {X : World} (hb : Below W.heap.size W X) :
    X.cell? ⟨b, i * 8, none⟩ = some (.string x.src) ∧ X.cell? ⟨b, i * 8 + 1, none⟩ = some (.int .i64 x.num) ∧ X.cell? ⟨b, i * 8 + 2, none⟩ = some (.int .i64 x.at_) ∧ X.cell? ⟨b, i * 8 + 3, none⟩ = some (.int .i64 x.kind) ∧ X.cell? ⟨b, i * 8 + 4, none⟩ = some (.string x.per) ∧ X.cell? ⟨b, i * 8 + 5, none⟩ = some (.string x.item) ∧ X.cell? ⟨b, i * 8 + 6, none⟩ = some (.int .i64 x.val) ∧ X.cell? ⟨b, i * 8 + 7, none⟩ = some (.string x.txt) ∧
    X.cell? ⟨b, j * 8, none⟩ = some (.string y.src) ∧ X.cell? ⟨b, j * 8 + 1, none⟩ = some (.int .i64 y.num) ∧ X.cell? ⟨b, j * 8 + 2, none⟩ = some (.int .i64 y.at_) ∧ X.cell? ⟨b, j * 8 + 3, none⟩ = some (.int .i64 y.kind) ∧ X.cell? ⟨b, j * 8 + 4, none⟩ = some (.string y.per) ∧ X.cell? ⟨b, j * 8 + 5, none⟩ = some (.string y.item) ∧ X.cell? ⟨b, j * 8 + 6, none⟩ = some (.int .i64 y.val) ∧ X.cell? ⟨b, j * 8 + 7, none⟩ = some (.string y.txt) := by
  obtain ⟨a0, a1, a2, a3, a4, a5, a6, a7⟩ := (h.bel hb).cells hx
  obtain ⟨c0, c1, c2, c3, c4, c5, c6, c7⟩ := (h.bel hb).cells hy
  exact ⟨a0, a1, a2, a3, a4, a5, a6, a7, c0, c1, c2, c3, c4, c5, c6, c7⟩
/-- the closure, as the sorts call it -/
theorem clo_any {x y : Ev} (hx : EvOk x) (hy : EvOk y) (W : World) : Calls Tryd.prog 16 #[.agg #[.string x.src, .int .i64 x.num, .int .i64 x.at_, .int .i64 x.kind, .string x.per, .string x.item, .int .i64 x.val, .string x.txt], .agg #[.string y.src, .int .i64 y.num, .int .i64 y.at_, .int .i64 y.kind, .string y.per, .string y.item, .int .i64 y.val, .string y.txt]] W fun e w' => e = .returned (.int .i64 (cE x y)) ∧ Below W.heap.size W w' :=
  ecmp_any x y W hx hy
theorem cE_yes {x y : Ev} : ltE x y = true ↔ cE x y < 0 := decide_eq_true_iff
theorem cE_no {x y : Ev} : ltE x y = false ↔ ¬ cE x y < 0 := decide_eq_false_iff_not
set_option maxHeartbeats 8000000 in
set_option maxRecDepth 100000 in
theorem isort_parts (w : World) (b : Nat) (sp : List Value) (x : List Ev) (u0 : Ev) (u y : List Ev) (n cap : Nat) (ai bi : Int) (h : Bk w b ((x ++ ((u0 :: u) ++ y)).flatMap evC ++ sp) 41) (hn : n = x.length + (u.length + 1) + y.length)
    (ha : ai = x.length) (hb : bi = x.length + (u.length + 1)) (hok : ∀ e ∈ u0 :: u, EvOk e) (h1000 : n ≤ 1000) (hcap : n ≤ cap) (hmax : cap ≤ maxLen) :
    Calls Tryd.prog 48 #[.slice (some ⟨b, 0, none⟩) n cap, .int .i64 ai, .int .i64 bi, .func (.func 16) #[] #[]] w fun e w' => e = .returned (.tuple #[]) ∧ Sorted w b sp x (u0 :: u) y w' := by
  obtain ⟨a, hA⟩ : ∃ a, a = x.length := ⟨_, rfl⟩
  obtain ⟨B, hB⟩ : ∃ B, B = x.length + (u.length + 1) := ⟨_, rfl⟩
  obtain rfl : ai = (a : Int) := by omega
  obtain rfl : bi = (B : Int) := by omega
  have H0 := Lib.hid (InsO.mk (w := w) (W := w) (b := b) (sp := sp) (x := x) (u := u0 :: u) (y := y) (i := a + 1) (z := [u0]) (r := u) (by simpa using SW.start h) (by simp; omega) (by simp) (List.pairwise_singleton _ _))
  have HOK := Lib.hid hok
  have HN := Lib.hid hn
  have HAB := Lib.hid (And.intro hA hB)
  unfold maxLen at hmax
  have q1 : a + 1 ≤ B := by omega
  have q2 : B ≤ n := by omega
  clear h hn ha hb hok hA hB
  generalize u0 :: u = u1 at *
  go_enter Tryd.func48, Tryd.ntmps48
  go_wp2_with fail
  go_loopg [8] (B - a) (fun g1 vi wr => ∃ (i : Nat) (z r : List Ev), vi = .int .i64 i ∧ a < i ∧ i ≤ B ∧ B - i ≤ g1 ∧ Hid (InsO w wr b sp x u1 y i z r ∧ i + r.length = B))
  case atStart => exact ⟨a + 1, [u0], u, by go_num, by omega, q1, by omega, Lib.hid ⟨H0.out, by have := HAB.out; omega⟩⟩
  case round =>
    obtain ⟨i, z, r, rfl, hai, hib, hg1, HO⟩ := hrel
    clear H0 q1
    by_cases hlt : i < B
    · obtain ⟨c, r, rfl⟩ : ∃ c r', r = c :: r' := by
        cases r with
        | nil => have := HO.out.2; simp at this; omega
        | cons c r => exact ⟨c, r, rfl⟩
      have HS := Lib.hid (And.intro HO.out.1.start (show i + 1 + r.length = B by have := HO.out.2; simp at this; omega))
      clear HO
      go_wp2_with fail
      go_loopg [9] i (fun g2 vj wr2 => ∃ (j : Nat) (z1 z2 : List Ev), vj = .int .i64 j ∧ a ≤ j ∧ j ≤ i ∧ j ≤ g2 ∧ Hid (InsI w wr2 b sp x u1 y i j z1 c z2 r))
      case atStart => exact ⟨i, z, [], rfl, by omega, Nat.le_refl _, Nat.le_refl _, Lib.hid HS.out.1⟩
      case round =>
        obtain ⟨j, z1, z2, rfl, haj, hji, hg2, H⟩ := hrel
        by_cases hja : a < j
        · obtain ⟨z1, l, rfl⟩ : ∃ z l, z1 = z ++ [l] := by
            rcases List.eq_nil_or_concat z1 with e | ⟨z, l, e⟩
            · subst e; have k1 := H.out.len; have k2 := HAB.out.1; simp at k1; omega
            · exact ⟨z, l, by rw [e]; exact List.concat_eq_append⟩
          obtain ⟨jp, rfl⟩ : ∃ jp, j = jp + 1 := ⟨j - 1, by omega⟩
          have hsw := H.out.sw
          have hlen := H.out.len
          rw [show x ++ (z1 ++ [l] ++ c :: (z2 ++ (r ++ y))) = (x ++ z1) ++ l :: c :: (z2 ++ (r ++ y)) by simp [List.append_assoc]] at hsw
          obtain ⟨n1, n2⟩ := near_at (x ++ z1) (z2 ++ (r ++ y)) l c
          have e1 : (x ++ z1).length = jp := by simp at hlen ⊢; omega
          have hset := set_near (x ++ z1) (z2 ++ (r ++ y)) l c
          rw [e1] at n1 n2 hset
          have hm : l ∈ u1 ∧ c ∈ u1 := ⟨H.out.perm.mem_iff.1 (by simp), H.out.perm.mem_iff.1 (by simp)⟩
          have HC : Hid (∀ W, Calls Tryd.prog 16 #[.agg #[.string c.src, .int .i64 c.num, .int .i64 c.at_, .int .i64 c.kind, .string c.per, .string c.item, .int .i64 c.val, .string c.txt], .agg #[.string l.src, .int .i64 l.num, .int .i64 l.at_, .int .i64 l.kind, .string l.per, .string l.item, .int .i64 l.val, .string l.txt]] W fun e w' => e = .returned (.int .i64 (cE c l)) ∧ Below W.heap.size W w') := Lib.hid (fun W => clo_any (HOK.out _ hm.2) (HOK.out _ hm.1) W)
          have HB : Hid (∀ X, Below wr.heap.size wr X → _) := Lib.hid (fun X hX => SW.bels hsw n2 n1 hX)
          have HW : Hid (∀ W, Below wr.heap.size wr W → SW w b sp (x ++ z1 ++ l :: c :: (z2 ++ (r ++ y))) W) := Lib.hid (fun W hW => hsw.bel hW)
          have HQ := Lib.hid (And.intro n1 (And.intro n2 hset))
          have HE1 := Lib.hid e1
          have jz0 : (0 : Int) ≤ (jp : Int) + 1 := by omega
          have jz1 : (jp : Int) + 1 < n := by omega
          have jz2 : (jp : Int) < n := by omega
          have jz3 : decide ((a : Int) < (jp : Int) + 1) = true := decide_eq_true (by omega)
          have jz4 : (a : Int) < (jp : Int) + 1 := by omega
          have jz5 : ((jp : Int) + 1).toNat = jp + 1 := by omega
          have jz6 : IntKind.i64.wrap (jp : Int) = (jp : Int) := by rw [IntKind.wrap_i64]; omega
          obtain ⟨cv, hcv⟩ : ∃ cv, cE c l = cv := ⟨_, rfl⟩
          rw [hcv] at HC
          have HCV := Lib.hid hcv
          clear hcv n1 n2 hset hsw hlen e1 hm
          by_cases hneg : cv < 0
          · have t1 : decide (cv < 0) = true := decide_eq_true hneg
            go_wp2_with fail
            go_region_held3 (fun X => X.cell? ⟨b, (jp + 1) * 8, none⟩ = some (.string c.src) ∧ X.cell? ⟨b, (jp + 1) * 8 + 1, none⟩ = some (.int .i64 c.num) ∧ X.cell? ⟨b, (jp + 1) * 8 + 2, none⟩ = some (.int .i64 c.at_) ∧ X.cell? ⟨b, (jp + 1) * 8 + 3, none⟩ = some (.int .i64 c.kind) ∧ X.cell? ⟨b, (jp + 1) * 8 + 4, none⟩ = some (.string c.per) ∧ X.cell? ⟨b, (jp + 1) * 8 + 5, none⟩ = some (.string c.item) ∧ X.cell? ⟨b, (jp + 1) * 8 + 6, none⟩ = some (.int .i64 c.val) ∧ X.cell? ⟨b, (jp + 1) * 8 + 7, none⟩ = some (.string c.txt) ∧ X.cell? ⟨b, jp * 8, none⟩ = some (.string l.src) ∧ X.cell? ⟨b, jp * 8 + 1, none⟩ = some (.int .i64 l.num) ∧ X.cell? ⟨b, jp * 8 + 2, none⟩ = some (.int .i64 l.at_) ∧ X.cell? ⟨b, jp * 8 + 3, none⟩ = some (.int .i64 l.kind) ∧ X.cell? ⟨b, jp * 8 + 4, none⟩ = some (.string l.per) ∧ X.cell? ⟨b, jp * 8 + 5, none⟩ = some (.string l.item) ∧ X.cell? ⟨b, jp * 8 + 6, none⟩ = some (.int .i64 l.val) ∧ X.cell? ⟨b, jp * 8 + 7, none⟩ = some (.string l.txt))
              ((refine HB.out _ ?_; repeat (first | assumption | exact Below.refl _ _ | refine Below.drew ?_ | refine bel_alloc ?_ _)))
              (first
                | (go_at_call 16
                   (with_reducible refine (HC.out _).mono ?_); rintro e wx ⟨rfl, bx⟩; have bv := bel_trans (V := wr) (by repeat (first | assumption | exact Below.refl _ _ | refine Below.drew ?_)) bx)
                | fail)
            have hwx := HW.out wx bv
            obtain ⟨n1, n2, hset⟩ := HQ.out
            obtain ⟨a0, a1, a2, a3, a4, a5, a6, a7⟩ := hwx.cells n2
            obtain ⟨c0, c1, c2, c3, c4, c5, c6, c7⟩ := hwx.cells n1
            obtain ⟨k1, k2⟩ := hwx.swap4 n2 n1 (by omega)
            obtain ⟨d0, d1, d2, d3, d4, d5, d6, d7⟩ := k1.cells k2
            have g0 : ∀ j, wx.frozen? ⟨b, j, none⟩ = false := fun j => hwx.free j
            have g1 := fun j => k1.free j
            have hfin := hwx.swap8 n2 n1
            rw [hset] at hfin
            have HFIN := Lib.hid hfin
            clear k1 k2 hwx n1 n2 hset hfin HB HC bx bv
            go_wp2_with fail
            go_big_region
            all_goals
              go_wp2_with fail
              go_roundg jp
              case measure => omega
              case rel =>
                refine ⟨jp, z1, l :: z2, by first | rfl | go_num, by omega, by omega, Nat.le_refl _, Lib.hid ?_⟩
                refine H.out.step (cE_yes.2 (by rw [HCV.out]; exact hneg)) ?_
                simpa [List.append_assoc] using HFIN.out
          · have t1 : decide (cv < 0) = false := decide_eq_false hneg
            go_wp2_with fail
            go_region_held3 (fun X => X.cell? ⟨b, (jp + 1) * 8, none⟩ = some (.string c.src) ∧ X.cell? ⟨b, (jp + 1) * 8 + 1, none⟩ = some (.int .i64 c.num) ∧ X.cell? ⟨b, (jp + 1) * 8 + 2, none⟩ = some (.int .i64 c.at_) ∧ X.cell? ⟨b, (jp + 1) * 8 + 3, none⟩ = some (.int .i64 c.kind) ∧ X.cell? ⟨b, (jp + 1) * 8 + 4, none⟩ = some (.string c.per) ∧ X.cell? ⟨b, (jp + 1) * 8 + 5, none⟩ = some (.string c.item) ∧ X.cell? ⟨b, (jp + 1) * 8 + 6, none⟩ = some (.int .i64 c.val) ∧ X.cell? ⟨b, (jp + 1) * 8 + 7, none⟩ = some (.string c.txt) ∧ X.cell? ⟨b, jp * 8, none⟩ = some (.string l.src) ∧ X.cell? ⟨b, jp * 8 + 1, none⟩ = some (.int .i64 l.num) ∧ X.cell? ⟨b, jp * 8 + 2, none⟩ = some (.int .i64 l.at_) ∧ X.cell? ⟨b, jp * 8 + 3, none⟩ = some (.int .i64 l.kind) ∧ X.cell? ⟨b, jp * 8 + 4, none⟩ = some (.string l.per) ∧ X.cell? ⟨b, jp * 8 + 5, none⟩ = some (.string l.item) ∧ X.cell? ⟨b, jp * 8 + 6, none⟩ = some (.int .i64 l.val) ∧ X.cell? ⟨b, jp * 8 + 7, none⟩ = some (.string l.txt))
              ((refine HB.out _ ?_; repeat (first | assumption | exact Below.refl _ _ | refine Below.drew ?_ | refine bel_alloc ?_ _)))
              (first
                | (go_at_call 16
                   (with_reducible refine (HC.out _).mono ?_); rintro e wx ⟨rfl, bx⟩; have bv := bel_trans (V := wr) (by repeat (first | assumption | exact Below.refl _ _ | refine Below.drew ?_)) bx)
                | fail)
            have hwx := HW.out wx bv
            have HWX := Lib.hid hwx
            clear hwx HB HC bx bv
            go_wp2_with fail
            go_roundg (B - (i + 1))
            case measure => omega
            case rel =>
              have hs := H.out.stop' (cE_no.2 (by rw [HCV.out]; omega))
              exact ⟨i + 1, z1 ++ [l] ++ c :: z2, r, by go_num, by omega, by omega, Nat.le_refl _, Lib.hid ⟨⟨by simpa [List.append_assoc] using HWX.out, hs.len, hs.perm, hs.srt⟩, HS.out.2⟩⟩
        · have jz1 : decide ((a : Int) < (j : Int)) = false := decide_eq_false (by omega)
          have jz2 : ¬ (a : Int) < (j : Int) := by omega
          have hs : ∀ e ∈ z1, ltE c e = false := fun e he => by
            have k1 := H.out.len
            have k2 := HAB.out.1
            have : z1 = [] := List.eq_nil_of_length_eq_zero (by omega)
            subst this; cases he
          have HST := Lib.hid (H.out.stop hs)
          clear hs
          go_wp2_with fail
          go_big_region
          all_goals
            go_wp2_with fail
            go_roundg (B - (i + 1))
            case measure => omega
            case rel =>
              have hs := HST.out
              exact ⟨i + 1, _, r, by go_num, by omega, by omega, Nat.le_refl _, Lib.hid ⟨⟨hs.sw.drew, hs.len, hs.perm, hs.srt⟩, HS.out.2⟩⟩
    · have hr : r = [] := List.eq_nil_of_length_eq_zero (by have := HO.out.2; omega)
      have HR := Lib.hid hr
      clear hr
      go_wp2_with fail
      go_end0
      refine ⟨rfl, z, ?_, HO.out.1.srt, ?_⟩
      · have := HO.out.1.perm; rw [HR.out, List.append_nil] at this; exact this
      · have := HO.out.1.sw; rw [HR.out] at this; exact this
end Es
end Go.Proofs.YtbhghelegonbbaaDoor
namespace Go.Proofs.YtbhghelegonbbaaDoor
open Go.RowKit Go.ChangeShapes Go.WideShapes
set_option linter.unusedVariables false
set_option linter.unusedSimpArgs false
namespace Es
open Rk
theorem _root_.Go.Proofs.YtbhghelegonbbaaDoor.Rk.Srt.part {α : Type} {lt : α → α → Bool} {l : List α} (h : Srt lt l) (k : Nat) : Srt lt (l.take k ++ l.drop k) := by rw [List.take_append_drop]; exact h
/-- one element put in behind the first k -/
def putIn (v : List Ev) (c : Ev) (k : Nat) : List Ev := v.take k ++ c :: v.drop k
theorem putIn_perm (v : List Ev) (c : Ev) (k : Nat) : (putIn v c k).Perm (c :: v) := by
  unfold putIn
  have h := List.perm_middle (a := c) (l₁ := v.take k) (l₂ := v.drop k)
  rwa [List.take_append_drop] at h
theorem mem_take_get {v : List Ev} {k : Nat} {e : Ev} (h : e ∈ v.take k) : ∃ q, q < k ∧ v[q]? = some e := by
  obtain ⟨q, hq⟩ := List.getElem?_of_mem h
  rw [List.getElem?_take] at hq
  split at hq
  · exact ⟨q, by assumption, hq⟩
  · cases hq
theorem mem_drop_get {v : List Ev} {k : Nat} {e : Ev} (h : e ∈ v.drop k) : ∃ q, k ≤ q ∧ v[q]? = some e := by
  obtain ⟨q, hq⟩ := List.getElem?_of_mem h
  rw [List.getElem?_drop] at hq
  exact ⟨k + q, by omega, hq⟩
theorem putIn_srt {v : List Ev} {c : Ev} {k : Nat} (hv : Srt ltE v) (h1 : ∀ q e, v[q]? = some e → q < k → ltE c e = false) (h2 : ∀ q e, v[q]? = some e → k ≤ q → ltE e c = false) : Srt ltE (putIn v c k) :=
  put_srt (hv.part k) (fun e he => by obtain ⟨q, a, b⟩ := mem_take_get he; exact h1 q e b a) (fun e he => by obtain ⟨q, a, b⟩ := mem_drop_get he; exact h2 q e b a)
theorem _root_.Go.Proofs.YtbhghelegonbbaaDoor.Rk.Srt.le {l : List Ev} (h : Srt ltE l) {i j : Nat} {x y : Ev} (hij : i ≤ j) (hx : l[i]? = some x) (hy : l[j]? = some y) : ltE y x = false := by
  rcases Nat.lt_or_eq_of_le hij with h1 | h1
  · exact h.at h1 hx hy
  · subst h1; rw [hx] at hy; cases hy
    cases e : ltE x x with
    | false => rfl
    | true => have := preE.as x x e; rw [this] at e; cases e
/-- the search for the first one that isn't less than c, in v, of which the first stands at m -/
structure Sea (v : List Ev) (c : Ev) (m i j : Nat) : Prop where
  lo : ∀ q e, v[q]? = some e → m + q < i → ltE e c = true
  hi : ∀ q e, v[q]? = some e → j ≤ m + q → ltE e c = false
theorem Sea.up {v : List Ev} {c : Ev} {m i j h : Nat} {e : Ev} (H : Sea v c m i j) (hv : Srt ltE v) (he : v[h]? = some e) (hl : ltE e c = true) : Sea v c m (m + h + 1) j :=
  ⟨(fun q e' hq hlt => by
    cases k : ltE e' c with
    | true => rfl
    | false =>
      have := preE.tr c e' e k (hv.le (by omega) hq he)
      rw [this] at hl; cases hl), H.hi⟩
theorem Sea.down {v : List Ev} {c : Ev} {m i j h : Nat} {e : Ev} (H : Sea v c m i j) (hv : Srt ltE v) (he : v[h]? = some e) (hl : ltE e c = false) : Sea v c m i (m + h) :=
  ⟨H.lo, fun q e' hq hle => preE.tr c e e' hl (hv.le (by omega) he hq)⟩
/-- the search for the first one that is above c, in u, of which the first stands at a -/
structure Seb (u : List Ev) (c : Ev) (a i j : Nat) : Prop where
  lo : ∀ q e, u[q]? = some e → a + q < i → ltE c e = false
  hi : ∀ q e, u[q]? = some e → j ≤ a + q → ltE c e = true
theorem Seb.up {u : List Ev} {c : Ev} {a i j h : Nat} {e : Ev} (H : Seb u c a i j) (hu : Srt ltE u) (he : u[h]? = some e) (hl : ltE c e = false) : Seb u c a (a + h + 1) j :=
  ⟨fun q e' hq hlt => preE.tr e' e c (hu.le (by omega) hq he) hl, H.hi⟩
theorem Seb.down {u : List Ev} {c : Ev} {a i j h : Nat} {e : Ev} (H : Seb u c a i j) (hu : Srt ltE u) (he : u[h]? = some e) (hl : ltE c e = true) : Seb u c a i (a + h) :=
  ⟨H.lo, fun q e' hq hle => by
    cases k : ltE c e' with
    | true => rfl
    | false =>
      have := preE.tr e e' c (hu.le (by omega) he hq) k
      rw [this] at hl; cases hl⟩
theorem put_near {v : List Ev} {c l : Ev} {k : Nat} (h : v[k]? = some l) : v.take k ++ c :: v.drop k = v.take k ++ c :: l :: v.drop (k + 1) ∧ putIn v c (k + 1) = v.take k ++ l :: c :: v.drop (k + 1) := by
  obtain ⟨h1, h2⟩ := List.getElem?_eq_some_iff.1 h
  constructor
  · rw [List.drop_eq_getElem_cons h1, h2]
  · unfold putIn
    rw [List.take_succ_eq_append_getElem h1, h2]; simp
/-- a world of a loop of symMerge: the row, at l -/
theorem SW.len_eq {w0 W : World} {b : Nat} {sp : List Value} {l l' : List Ev} (h : SW w0 b sp l W) (e : l = l') : SW w0 b sp l' W := e ▸ h
set_option maxHeartbeats 8000000 in
set_option maxRecDepth 100000 in
theorem sym_one (w : World) (b : Nat) (sp : List Value) (x : List Ev) (c : Ev) (v y : List Ev) (n cap a m bb : Nat) (h : Bk w b ((x ++ c :: (v ++ y)).flatMap evC ++ sp) 41) (hn : n = x.length + 1 + v.length + y.length)
    (ha : a = x.length) (hm : m = x.length + 1) (hb : bb = x.length + 1 + v.length) (hok : ∀ e ∈ c :: v, EvOk e) (hv : Srt ltE v) (h1000 : n ≤ 1000) (hcap : n ≤ cap) (hmax : cap ≤ maxLen) :
    Calls Tryd.prog 49 #[.slice (some ⟨b, 0, none⟩) n cap, .int .i64 a, .int .i64 m, .int .i64 bb, .func (.func 16) #[] #[]] w fun e w' => e = .returned (.tuple #[]) ∧ Sorted w b sp x (c :: v) y w' := by
  have H0 := Lib.hid (SW.start h)
  have HOK := Lib.hid hok
  have HV := Lib.hid hv
  have HQ := Lib.hid (And.intro hn (And.intro ha (And.intro hm hb)))
  unfold maxLen at hmax
  have q1 : a + 1 ≤ m := by omega
  have q2 : m ≤ bb := by omega
  have q3 : bb ≤ n := by omega
  have q4 : (((m : Int) - a) == 1) = true := by simp; omega
  have HA := Lib.hid (show (x ++ c :: (v ++ y))[a]? = some c by rw [ha]; simp)
  have HG : Hid (∀ q e, v[q]? = some e → (x ++ c :: (v ++ y))[m + q]? = some e) := Lib.hid (fun q e he => by
    rw [hm, show x.length + 1 + q = x.length + (q + 1) by omega, List.getElem?_append_right (by omega)]
    simp
    rw [List.getElem?_append_left (List.getElem?_eq_some_iff.1 he).1]; exact he)
  clear h hn ha hm hb hok hv
  go_enter Tryd.func49, Tryd.ntmps49
  go_wp2_with fail
  go_loopg [10, 11] (bb - m) (fun g si sj wr => ∃ (i j : Nat), si = .int .i64 i ∧ sj = .int .i64 j ∧ m ≤ i ∧ i ≤ j ∧ j ≤ bb ∧ j - i ≤ g ∧ Hid (SW w b sp (x ++ c :: (v ++ y)) wr ∧ Sea v c m i j))
  case atStart => exact ⟨m, bb, rfl, rfl, Nat.le_refl _, q2, Nat.le_refl _, Nat.le_refl _, Lib.hid ⟨H0.out, fun q e he hlt => by omega, fun q e he hle => by
    have k1 := (List.getElem?_eq_some_iff.1 he).1
    have k2 := HQ.out.2.2
    omega⟩⟩
  case round =>
    obtain ⟨i, j, rfl, rfl, hmi, hij, hjb, hg, H⟩ := hrel
    clear H0
    by_cases hlt : i < j
    · obtain ⟨h, hh⟩ : ∃ h, h = (i + j) / 2 := ⟨_, rfl⟩
      have hh1 : i ≤ h := by omega
      have hh2 : h < j := by omega
      have hhi : ((i : Int) + (j : Int)) / 2 = (h : Int) := by omega
      clear hh
      obtain ⟨q, rfl⟩ : ∃ q, h = m + q := ⟨h - m, by omega⟩
      obtain ⟨e, he⟩ : ∃ e, v[q]? = some e := ⟨v[q]'(by have := HQ.out.2.2; omega), List.getElem?_eq_getElem _⟩
      have hx := HG.out q e he
      obtain ⟨hp, hhp⟩ : ∃ hp, m + q = hp := ⟨_, rfl⟩
      have HC : Hid (∀ W, Calls Tryd.prog 16 #[.agg #[.string e.src, .int .i64 e.num, .int .i64 e.at_, .int .i64 e.kind, .string e.per, .string e.item, .int .i64 e.val, .string e.txt], .agg #[.string c.src, .int .i64 c.num, .int .i64 c.at_, .int .i64 c.kind, .string c.per, .string c.item, .int .i64 c.val, .string c.txt]] W fun e' w' => e' = .returned (.int .i64 (cE e c)) ∧ Below W.heap.size W w') := Lib.hid (fun W => clo_any (HOK.out _ (by simp [List.mem_of_getElem? he])) (HOK.out _ (by simp)) W)
      have hsw := H.out.1
      rw [hhp] at hx hhi hh1 hh2
      have HB : Hid (∀ X, Below wr.heap.size wr X → _) := Lib.hid (fun X hX => SW.bels hsw hx HA.out hX)
      have HW : Hid (∀ W, Below wr.heap.size wr W → SW w b sp (x ++ c :: (v ++ y)) W) := Lib.hid (fun W hW => hsw.bel hW)
      obtain ⟨cv, hcv⟩ : ∃ cv, cE e c = cv := ⟨_, rfl⟩
      rw [hcv] at HC
      have HCV := Lib.hid hcv
      have HE := Lib.hid (And.intro he hhp)
      have z0 : (0 : Int) ≤ (hp : Int) := by omega
      have z1 : (hp : Int) < n := by omega
      have z2 : (a : Int) < n := by omega
      clear hcv hsw hx he hhp
      by_cases hneg : cv < 0
      · have t1 : decide (cv < 0) = true := decide_eq_true hneg
        go_wp2_with fail
        go_region_held3 (fun X => X.cell? ⟨b, hp * 8, none⟩ = some (.string e.src) ∧ X.cell? ⟨b, hp * 8 + 1, none⟩ = some (.int .i64 e.num) ∧ X.cell? ⟨b, hp * 8 + 2, none⟩ = some (.int .i64 e.at_) ∧ X.cell? ⟨b, hp * 8 + 3, none⟩ = some (.int .i64 e.kind) ∧ X.cell? ⟨b, hp * 8 + 4, none⟩ = some (.string e.per) ∧ X.cell? ⟨b, hp * 8 + 5, none⟩ = some (.string e.item) ∧ X.cell? ⟨b, hp * 8 + 6, none⟩ = some (.int .i64 e.val) ∧ X.cell? ⟨b, hp * 8 + 7, none⟩ = some (.string e.txt) ∧ X.cell? ⟨b, a * 8, none⟩ = some (.string c.src) ∧ X.cell? ⟨b, a * 8 + 1, none⟩ = some (.int .i64 c.num) ∧ X.cell? ⟨b, a * 8 + 2, none⟩ = some (.int .i64 c.at_) ∧ X.cell? ⟨b, a * 8 + 3, none⟩ = some (.int .i64 c.kind) ∧ X.cell? ⟨b, a * 8 + 4, none⟩ = some (.string c.per) ∧ X.cell? ⟨b, a * 8 + 5, none⟩ = some (.string c.item) ∧ X.cell? ⟨b, a * 8 + 6, none⟩ = some (.int .i64 c.val) ∧ X.cell? ⟨b, a * 8 + 7, none⟩ = some (.string c.txt))
          ((refine HB.out _ ?_; repeat (first | assumption | exact Below.refl _ _ | refine Below.drew ?_ | refine bel_alloc ?_ _)))
          (first
            | (go_at_call 16
               (with_reducible refine (HC.out _).mono ?_); rintro e wx ⟨rfl, bx⟩; have bv := bel_trans (V := wr) (by repeat (first | assumption | exact Below.refl _ _ | refine Below.drew ?_)) bx)
            | fail)
        have HWX := Lib.hid (HW.out wx bv)
        clear HB HC bx bv
        clear hhi
        go_wp2_with fail
        go_roundg (j - (hp + 1))
        case measure => omega
        case rel => exact ⟨hp + 1, j, by go_num, rfl, by omega, by omega, hjb, Nat.le_refl _, Lib.hid ⟨HWX.out, by
          have := H.out.2.up HV.out HE.out.1 (cE_yes.2 (by rw [HCV.out]; exact hneg))
          rwa [HE.out.2] at this⟩⟩
      · have t1 : decide (cv < 0) = false := decide_eq_false hneg
        go_wp2_with fail
        go_region_held3 (fun X => X.cell? ⟨b, hp * 8, none⟩ = some (.string e.src) ∧ X.cell? ⟨b, hp * 8 + 1, none⟩ = some (.int .i64 e.num) ∧ X.cell? ⟨b, hp * 8 + 2, none⟩ = some (.int .i64 e.at_) ∧ X.cell? ⟨b, hp * 8 + 3, none⟩ = some (.int .i64 e.kind) ∧ X.cell? ⟨b, hp * 8 + 4, none⟩ = some (.string e.per) ∧ X.cell? ⟨b, hp * 8 + 5, none⟩ = some (.string e.item) ∧ X.cell? ⟨b, hp * 8 + 6, none⟩ = some (.int .i64 e.val) ∧ X.cell? ⟨b, hp * 8 + 7, none⟩ = some (.string e.txt) ∧ X.cell? ⟨b, a * 8, none⟩ = some (.string c.src) ∧ X.cell? ⟨b, a * 8 + 1, none⟩ = some (.int .i64 c.num) ∧ X.cell? ⟨b, a * 8 + 2, none⟩ = some (.int .i64 c.at_) ∧ X.cell? ⟨b, a * 8 + 3, none⟩ = some (.int .i64 c.kind) ∧ X.cell? ⟨b, a * 8 + 4, none⟩ = some (.string c.per) ∧ X.cell? ⟨b, a * 8 + 5, none⟩ = some (.string c.item) ∧ X.cell? ⟨b, a * 8 + 6, none⟩ = some (.int .i64 c.val) ∧ X.cell? ⟨b, a * 8 + 7, none⟩ = some (.string c.txt))
          ((refine HB.out _ ?_; repeat (first | assumption | exact Below.refl _ _ | refine Below.drew ?_ | refine bel_alloc ?_ _)))
          (first
            | (go_at_call 16
               (with_reducible refine (HC.out _).mono ?_); rintro e wx ⟨rfl, bx⟩; have bv := bel_trans (V := wr) (by repeat (first | assumption | exact Below.refl _ _ | refine Below.drew ?_)) bx)
            | fail)
        have HWX := Lib.hid (HW.out wx bv)
        clear HB HC bx bv
        clear hhi
        go_wp2_with fail
        go_roundg (hp - i)
        case measure => omega
        case rel => exact ⟨i, hp, rfl, rfl, hmi, hh1, by omega, Nat.le_refl _, Lib.hid ⟨HWX.out, by
          have := H.out.2.down HV.out HE.out.1 (cE_no.2 (by rw [HCV.out]; omega))
          rwa [HE.out.2] at this⟩⟩
    · obtain rfl : i = j := by omega
      clear hlt hij hg
      obtain ⟨t, rfl⟩ : ∃ t, i = m + t := ⟨i - m, by omega⟩
      have HS := Lib.hid (And.intro H.out.2 (show Srt ltE (putIn v c t) from putIn_srt HV.out (fun q e he hlt => preE.as _ _ (H.out.2.lo q e he (by omega))) (fun q e he hle => H.out.2.hi q e he (by omega))))
      have HSW := Lib.hid H.out.1
      clear H
      obtain ⟨k0, hk0⟩ : ∃ k0, k0 + 1 = m + t := ⟨m + t - 1, by omega⟩
      have w1 : ((m + t : Nat) : Int) - 1 = (k0 : Int) := by omega
      have w2 : (((m : Int) + (t : Int)) - 1) = (k0 : Int) := by omega
      have w3 : k0 ≤ 1000 := by omega
      have HK := Lib.hid hk0
      have hak : a ≤ k0 := by omega
      have hkb : k0 < n := by omega
      clear hk0
      go_wp2_with fail
      go_loopg [13] (k0 - a) (fun g sk wr => ∃ k : Nat, sk = .int .i64 k ∧ a ≤ k ∧ k ≤ k0 ∧ k0 - k ≤ g ∧ Hid (SW w b sp (x ++ (putIn v c (k - a) ++ y)) wr))
      case atStart => exact ⟨a, rfl, Nat.le_refl _, hak, Nat.le_refl _, Lib.hid (by
        rw [Nat.sub_self]
        simpa [putIn] using HSW.out)⟩
      case round =>
        obtain ⟨k, rfl, hak', hkk, hg2, HP⟩ := hrel
        by_cases hlt : k < k0
        · obtain ⟨s, hs⟩ : ∃ s, k = a + s := ⟨k - a, by omega⟩
          obtain ⟨l, hl⟩ : ∃ l, v[s]? = some l := ⟨v[s]'(by have := HQ.out.2; have := HK.out; omega), List.getElem?_eq_getElem _⟩
          have hw := HP.out
          obtain ⟨p1, p2⟩ := put_near (c := c) hl
          rw [hs, Nat.add_sub_cancel_left, putIn, p1, show x ++ (v.take s ++ c :: l :: v.drop (s + 1) ++ y) = (x ++ v.take s) ++ c :: l :: (v.drop (s + 1) ++ y) by simp [List.append_assoc]] at hw
          obtain ⟨n1, n2⟩ := near_at (x ++ v.take s) (v.drop (s + 1) ++ y) c l
          have e1 : (x ++ v.take s).length = k := by
            have := (List.getElem?_eq_some_iff.1 hl).1
            have := HQ.out.2.1
            rw [List.length_append, List.length_take]; omega
          have hset := set_near' (x ++ v.take s) (v.drop (s + 1) ++ y) c l
          rw [e1] at n1 n2 hset
          have HP2 := Lib.hid (And.intro p2 (And.intro hs e1))
          clear p1 p2 hl hs e1
          have z0 : (0 : Int) ≤ (k : Int) + 1 := by omega
          have z1 : (k : Int) < n := by omega
          have z2 : (k : Int) + 1 < n := by omega
          have z3 : ((k : Int) + 1).toNat = k + 1 := by omega
          have z4 : IntKind.i64.wrap ((k : Int) + 1) = (k : Int) + 1 := IntWalk.i64_in _ (by omega)
          have z5 : (k : Int) < (k0 : Int) := by omega
          obtain ⟨a0, a1, a2, a3, a4, a5, a6, a7⟩ := hw.cells n1
          obtain ⟨c0, c1, c2, c3, c4, c5, c6, c7⟩ := hw.cells n2
          obtain ⟨k1, k2⟩ := hw.swap4 n1 n2 (by omega)
          obtain ⟨d0, d1, d2, d3, d4, d5, d6, d7⟩ := k1.cells k2
          have g0 : ∀ j, wr.frozen? ⟨b, j, none⟩ = false := fun j => hw.free j
          have g1 := fun j => k1.free j
          have hfin := hw.swap8 n1 n2
          rw [hset] at hfin
          have HFIN := Lib.hid hfin
          clear k1 k2 hw n1 n2 hset hfin
          go_wp2_with fail
          go_big_region
          all_goals
            go_wp2_with fail
            go_roundg (k0 - (k + 1))
            case measure => omega
            case rel => exact ⟨k + 1, by go_num, by omega, by omega, Nat.le_refl _, Lib.hid (by
              rw [show k + 1 - a = s + 1 by have := HP2.out.2.1; omega, HP2.out.1]
              simpa [List.append_assoc] using HFIN.out)⟩
        · obtain rfl : k = k0 := by omega
          have z5 : ¬ (k : Int) < (k : Int) := by omega
          go_wp2_with fail
          refine bodyPost_ret (results_none rfl _ _ _) rfl ?_
          refine ⟨rfl, putIn v c t, putIn_perm v c t, HS.out.2, ?_⟩
          have := HP.out
          rwa [show k - a = t by have := HK.out; have := HQ.out.2; omega] at this
set_option maxHeartbeats 8000000 in
set_option maxRecDepth 100000 in
theorem sym_last (w : World) (b : Nat) (sp : List Value) (x u : List Ev) (c : Ev) (y : List Ev) (n cap a m bb : Nat) (h : Bk w b ((x ++ (u ++ c :: y)).flatMap evC ++ sp) 41) (hn : n = x.length + u.length + 1 + y.length) (hu2 : 2 ≤ u.length)
    (ha : a = x.length) (hm : m = x.length + u.length) (hb : bb = x.length + u.length + 1) (hok : ∀ e ∈ u ++ [c], EvOk e) (hu : Srt ltE u) (h1000 : n ≤ 1000) (hcap : n ≤ cap) (hmax : cap ≤ maxLen) :
    Calls Tryd.prog 49 #[.slice (some ⟨b, 0, none⟩) n cap, .int .i64 a, .int .i64 m, .int .i64 bb, .func (.func 16) #[] #[]] w fun e w' => e = .returned (.tuple #[]) ∧ Sorted w b sp x (u ++ [c]) y w' := by
  have H0 := Lib.hid (SW.start h)
  have HOK := Lib.hid hok
  have HV := Lib.hid hu
  have HQ := Lib.hid (And.intro hn (And.intro ha (And.intro hm hb)))
  unfold maxLen at hmax
  have q1 : a + 2 ≤ m := by omega
  have q2 : m + 1 ≤ bb := by omega
  have q3 : bb ≤ n := by omega
  have q4 : (((m : Int) - a) == 1) = false := by simp; omega
  have q5 : (((bb : Int) - m) == 1) = true := by simp; omega
  have HA := Lib.hid (show (x ++ (u ++ c :: y))[m]? = some c by rw [hm, List.getElem?_append_right (by omega)]; simp)
  have HG : Hid (∀ q e, u[q]? = some e → (x ++ (u ++ c :: y))[a + q]? = some e) := Lib.hid (fun q e he => by
    rw [ha, List.getElem?_append_right (by omega), Nat.add_sub_cancel_left, List.getElem?_append_left (List.getElem?_eq_some_iff.1 he).1]; exact he)
  clear h hn ha hm hb hok hu hu2
  go_enter Tryd.func49, Tryd.ntmps49
  go_wp2_with fail
  go_loopg [14, 15] (m - a) (fun g si sj wr => ∃ (i j : Nat), si = .int .i64 i ∧ sj = .int .i64 j ∧ a ≤ i ∧ i ≤ j ∧ j ≤ m ∧ j - i ≤ g ∧ Hid (SW w b sp (x ++ (u ++ c :: y)) wr ∧ Seb u c a i j))
  case atStart => exact ⟨a, m, rfl, rfl, Nat.le_refl _, by omega, Nat.le_refl _, Nat.le_refl _, Lib.hid ⟨H0.out, fun q e he hlt => by omega, fun q e he hle => by
    have k1 := (List.getElem?_eq_some_iff.1 he).1
    have k2 := HQ.out.2
    omega⟩⟩
  case round =>
    obtain ⟨i, j, rfl, rfl, hmi, hij, hjb, hg, H⟩ := hrel
    clear H0
    by_cases hlt : i < j
    · obtain ⟨h, hh⟩ : ∃ h, h = (i + j) / 2 := ⟨_, rfl⟩
      have hh1 : i ≤ h := by omega
      have hh2 : h < j := by omega
      have hhi : ((i : Int) + (j : Int)) / 2 = (h : Int) := by omega
      clear hh
      obtain ⟨q, rfl⟩ : ∃ q, h = a + q := ⟨h - a, by omega⟩
      obtain ⟨e, he⟩ : ∃ e, u[q]? = some e := ⟨u[q]'(by have := HQ.out.2; omega), List.getElem?_eq_getElem _⟩
      have hx := HG.out q e he
      obtain ⟨hp, hhp⟩ : ∃ hp, a + q = hp := ⟨_, rfl⟩
      have HC : Hid (∀ W, Calls Tryd.prog 16 #[.agg #[.string c.src, .int .i64 c.num, .int .i64 c.at_, .int .i64 c.kind, .string c.per, .string c.item, .int .i64 c.val, .string c.txt], .agg #[.string e.src, .int .i64 e.num, .int .i64 e.at_, .int .i64 e.kind, .string e.per, .string e.item, .int .i64 e.val, .string e.txt]] W fun e' w' => e' = .returned (.int .i64 (cE c e)) ∧ Below W.heap.size W w') := Lib.hid (fun W => clo_any (HOK.out _ (by simp)) (HOK.out _ (by simp [List.mem_of_getElem? he])) W)
      have hsw := H.out.1
      rw [hhp] at hx hhi hh1 hh2
      have HB : Hid (∀ X, Below wr.heap.size wr X → _) := Lib.hid (fun X hX => SW.bels hsw HA.out hx hX)
      have HW : Hid (∀ W, Below wr.heap.size wr W → SW w b sp (x ++ (u ++ c :: y)) W) := Lib.hid (fun W hW => hsw.bel hW)
      obtain ⟨cv, hcv⟩ : ∃ cv, cE c e = cv := ⟨_, rfl⟩
      rw [hcv] at HC
      have HCV := Lib.hid hcv
      have HE := Lib.hid (And.intro he hhp)
      have z0 : (0 : Int) ≤ (hp : Int) := by omega
      have z1 : (hp : Int) < n := by omega
      have z2 : (m : Int) < n := by omega
      clear hcv hsw hx he hhp
      by_cases hneg : cv < 0
      · have t1 : decide (cv < 0) = true := decide_eq_true hneg
        go_wp2_with fail
        go_region_held3 (fun X => X.cell? ⟨b, m * 8, none⟩ = some (.string c.src) ∧ X.cell? ⟨b, m * 8 + 1, none⟩ = some (.int .i64 c.num) ∧ X.cell? ⟨b, m * 8 + 2, none⟩ = some (.int .i64 c.at_) ∧ X.cell? ⟨b, m * 8 + 3, none⟩ = some (.int .i64 c.kind) ∧ X.cell? ⟨b, m * 8 + 4, none⟩ = some (.string c.per) ∧ X.cell? ⟨b, m * 8 + 5, none⟩ = some (.string c.item) ∧ X.cell? ⟨b, m * 8 + 6, none⟩ = some (.int .i64 c.val) ∧ X.cell? ⟨b, m * 8 + 7, none⟩ = some (.string c.txt) ∧ X.cell? ⟨b, hp * 8, none⟩ = some (.string e.src) ∧ X.cell? ⟨b, hp * 8 + 1, none⟩ = some (.int .i64 e.num) ∧ X.cell? ⟨b, hp * 8 + 2, none⟩ = some (.int .i64 e.at_) ∧ X.cell? ⟨b, hp * 8 + 3, none⟩ = some (.int .i64 e.kind) ∧ X.cell? ⟨b, hp * 8 + 4, none⟩ = some (.string e.per) ∧ X.cell? ⟨b, hp * 8 + 5, none⟩ = some (.string e.item) ∧ X.cell? ⟨b, hp * 8 + 6, none⟩ = some (.int .i64 e.val) ∧ X.cell? ⟨b, hp * 8 + 7, none⟩ = some (.string e.txt))
          ((refine HB.out _ ?_; repeat (first | assumption | exact Below.refl _ _ | refine Below.drew ?_ | refine bel_alloc ?_ _)))
          (first
            | (go_at_call 16
               (with_reducible refine (HC.out _).mono ?_); rintro e wx ⟨rfl, bx⟩; have bv := bel_trans (V := wr) (by repeat (first | assumption | exact Below.refl _ _ | refine Below.drew ?_)) bx)
            | fail)
        have HWX := Lib.hid (HW.out wx bv)
        clear HB HC bx bv
        clear hhi
        go_wp2_with fail
        go_roundg (hp - i)
        case measure => omega
        case rel => exact ⟨i, hp, rfl, rfl, hmi, hh1, by omega, Nat.le_refl _, Lib.hid ⟨HWX.out, by
          have := H.out.2.down HV.out HE.out.1 (cE_yes.2 (by rw [HCV.out]; omega))
          rwa [HE.out.2] at this⟩⟩
      · have t1 : decide (cv < 0) = false := decide_eq_false hneg
        go_wp2_with fail
        go_region_held3 (fun X => X.cell? ⟨b, m * 8, none⟩ = some (.string c.src) ∧ X.cell? ⟨b, m * 8 + 1, none⟩ = some (.int .i64 c.num) ∧ X.cell? ⟨b, m * 8 + 2, none⟩ = some (.int .i64 c.at_) ∧ X.cell? ⟨b, m * 8 + 3, none⟩ = some (.int .i64 c.kind) ∧ X.cell? ⟨b, m * 8 + 4, none⟩ = some (.string c.per) ∧ X.cell? ⟨b, m * 8 + 5, none⟩ = some (.string c.item) ∧ X.cell? ⟨b, m * 8 + 6, none⟩ = some (.int .i64 c.val) ∧ X.cell? ⟨b, m * 8 + 7, none⟩ = some (.string c.txt) ∧ X.cell? ⟨b, hp * 8, none⟩ = some (.string e.src) ∧ X.cell? ⟨b, hp * 8 + 1, none⟩ = some (.int .i64 e.num) ∧ X.cell? ⟨b, hp * 8 + 2, none⟩ = some (.int .i64 e.at_) ∧ X.cell? ⟨b, hp * 8 + 3, none⟩ = some (.int .i64 e.kind) ∧ X.cell? ⟨b, hp * 8 + 4, none⟩ = some (.string e.per) ∧ X.cell? ⟨b, hp * 8 + 5, none⟩ = some (.string e.item) ∧ X.cell? ⟨b, hp * 8 + 6, none⟩ = some (.int .i64 e.val) ∧ X.cell? ⟨b, hp * 8 + 7, none⟩ = some (.string e.txt))
          ((refine HB.out _ ?_; repeat (first | assumption | exact Below.refl _ _ | refine Below.drew ?_ | refine bel_alloc ?_ _)))
          (first
            | (go_at_call 16
               (with_reducible refine (HC.out _).mono ?_); rintro e wx ⟨rfl, bx⟩; have bv := bel_trans (V := wr) (by repeat (first | assumption | exact Below.refl _ _ | refine Below.drew ?_)) bx)
            | fail)
        have HWX := Lib.hid (HW.out wx bv)
        clear HB HC bx bv
        clear hhi
        go_wp2_with fail
        go_roundg (j - (hp + 1))
        case measure => omega
        case rel => exact ⟨hp + 1, j, by go_num, rfl, by omega, by omega, hjb, Nat.le_refl _, Lib.hid ⟨HWX.out, by
          have := H.out.2.up HV.out HE.out.1 (cE_no.2 (by rw [HCV.out]; omega))
          rwa [HE.out.2] at this⟩⟩
    · obtain rfl : i = j := by omega
      clear hlt hij hg
      have HS := Lib.hid (show Srt ltE (putIn u c (i - a)) from putIn_srt HV.out (fun q e he hlt => H.out.2.lo q e he (by omega)) (fun q e he hle => preE.as _ _ (H.out.2.hi q e he (by omega))))
      have HSW := Lib.hid H.out.1
      clear H
      go_wp2_with fail
      go_loopg [17] (m - i) (fun g sk wr => ∃ k : Nat, sk = .int .i64 k ∧ i ≤ k ∧ k ≤ m ∧ k - i ≤ g ∧ Hid (SW w b sp (x ++ (putIn u c (k - a) ++ y)) wr))
      case atStart => exact ⟨m, rfl, hjb, Nat.le_refl _, Nat.le_refl _, Lib.hid (by
        have e : m - a = u.length := by have := HQ.out.2; omega
        rw [e]
        simpa [putIn] using HSW.out)⟩
      case round =>
        obtain ⟨k, rfl, hik, hkm, hg2, HP⟩ := hrel
        by_cases hlt : i < k
        · obtain ⟨kp, rfl⟩ : ∃ kp, k = kp + 1 := ⟨k - 1, by omega⟩
          obtain ⟨s, hs⟩ : ∃ s, kp = a + s := ⟨kp - a, by omega⟩
          obtain ⟨l, hl⟩ : ∃ l, u[s]? = some l := ⟨u[s]'(by have := HQ.out.2; omega), List.getElem?_eq_getElem _⟩
          have hw := HP.out
          obtain ⟨p1, p2⟩ := put_near (c := c) hl
          rw [show kp + 1 - a = s + 1 by omega, p2, show x ++ (u.take s ++ l :: c :: u.drop (s + 1) ++ y) = (x ++ u.take s) ++ l :: c :: (u.drop (s + 1) ++ y) by simp [List.append_assoc]] at hw
          obtain ⟨n1, n2⟩ := near_at (x ++ u.take s) (u.drop (s + 1) ++ y) l c
          have e1 : (x ++ u.take s).length = kp := by
            have := (List.getElem?_eq_some_iff.1 hl).1
            have := HQ.out.2.1
            rw [List.length_append, List.length_take]; omega
          have hset := set_near (x ++ u.take s) (u.drop (s + 1) ++ y) l c
          rw [e1] at n1 n2 hset
          have HP2 := Lib.hid (And.intro p1 (And.intro hs e1))
          clear p1 p2 hl hs e1
          have z0 : (0 : Int) ≤ (kp : Int) + 1 := by omega
          have z1 : (kp : Int) < n := by omega
          have z2 : (kp : Int) + 1 < n := by omega
          have z3 : ((kp : Int) + 1).toNat = kp + 1 := by omega
          have z4 : IntKind.i64.wrap ((kp : Int) + 1) = (kp : Int) + 1 := IntWalk.i64_in _ (by omega)
          have z5 : (i : Int) < (kp : Int) + 1 := by omega
          have z6 : IntKind.i64.wrap (kp : Int) = (kp : Int) := by rw [IntKind.wrap_i64]; omega
          obtain ⟨a0, a1, a2, a3, a4, a5, a6, a7⟩ := hw.cells n2
          obtain ⟨c0, c1, c2, c3, c4, c5, c6, c7⟩ := hw.cells n1
          obtain ⟨k1, k2⟩ := hw.swap4 n2 n1 (by omega)
          obtain ⟨d0, d1, d2, d3, d4, d5, d6, d7⟩ := k1.cells k2
          have g0 : ∀ j, wr.frozen? ⟨b, j, none⟩ = false := fun j => hw.free j
          have g1 := fun j => k1.free j
          have hfin := hw.swap8 n2 n1
          rw [hset] at hfin
          have HFIN := Lib.hid hfin
          clear k1 k2 hw n2 n1 hset hfin
          go_wp2_with fail
          go_big_region
          all_goals
            go_wp2_with fail
            go_roundg (kp - i)
            case measure => omega
            case rel => exact ⟨kp, by first | rfl | go_num, by omega, by omega, Nat.le_refl _, Lib.hid (by
              rw [show kp - a = s by have := HP2.out.2.1; omega, putIn, HP2.out.1]
              simpa [List.append_assoc] using HFIN.out)⟩
        · obtain rfl : k = i := by omega
          have z5 : ¬ (k : Int) < (k : Int) := by omega
          go_wp2_with fail
          refine bodyPost_ret (results_none rfl _ _ _) rfl ?_
          exact ⟨rfl, putIn u c (k - a), (putIn_perm u c (k - a)).trans (List.perm_append_comm (l₁ := [c])), HS.out, HP.out⟩
end Es
end Go.Proofs.YtbhghelegonbbaaDoor
namespace Go.Proofs.YtbhghelegonbbaaDoor
open Go.RowKit Go.ChangeShapes Go.WideShapes
set_option linter.unusedVariables false
set_option linter.unusedSimpArgs false
namespace Es
open Rk
/-- the search for the split: u stands at a, v behind it at m -/
structure Mid (u v : List Ev) (a m mid st r : Nat) : Prop where
  ast : a ≤ st
  sr : st ≤ r
  rm : r ≤ m
  rmid : r ≤ mid
  vm : mid ≤ st + v.length
  lo : ∀ q e q' e', u[q]? = some e → v[q']? = some e' → a + q < st → mid ≤ q' + st → ltE e' e = false
  hi : ∀ q e q' e', u[q]? = some e → v[q']? = some e' → r ≤ a + q → q' + r < mid → ltE e e' = false
theorem Mid.up {u v : List Ev} {a m mid st r c q q' : Nat} {e e' : Ev} (H : Mid u v a m mid st r) (hu : Srt ltE u) (hv : Srt ltE v) (h1 : st ≤ c) (h2 : c < r) (hq : a + q = c) (hq' : q' + c + 1 = mid) (he : u[q]? = some e) (he' : v[q']? = some e') (hl : ltE e' e = false) : Mid u v a m mid (c + 1) r :=
  ⟨by have := H.ast; omega, h2, H.rm, H.rmid, by have := H.vm; omega, fun p f p' f' hf hf' k1 k2 => preE.tr f e f' (hu.le (by omega) hf he) (preE.tr e e' f' hl (hv.le (by omega) he' hf')), H.hi⟩
theorem Mid.down {u v : List Ev} {a m mid st r c q q' : Nat} {e e' : Ev} (H : Mid u v a m mid st r) (hu : Srt ltE u) (hv : Srt ltE v) (h1 : st ≤ c) (h2 : c < r) (hq : a + q = c) (hq' : q' + c + 1 = mid) (he : u[q]? = some e) (he' : v[q']? = some e') (hl : ltE e' e = true) : Mid u v a m mid st c :=
  ⟨H.ast, h1, by have := H.rm; omega, by have := H.rmid; omega, H.vm, H.lo, fun p f p' f' hf hf' k1 k2 => preE.tr f' e f (preE.tr f' e' e (hv.le (by omega) hf' he') (preE.as _ _ hl)) (hu.le (by omega) he hf)⟩
theorem Mid.split {u v : List Ev} {a m mid s : Nat} (H : Mid u v a m mid s s) {z1 z2 : List Ev} (hu : Srt ltE u) (hv : Srt ltE v) (p1 : z1.Perm (u.take (s - a) ++ v.take (mid - s))) (p2 : z2.Perm (u.drop (s - a) ++ v.drop (mid - s))) (s1 : Srt ltE z1) (s2 : Srt ltE z2) :
    Srt ltE (z1 ++ z2) ∧ (z1 ++ z2).Perm (u ++ v) := by
  have h := merge_step (hu.part (s - a)) (hv.part (mid - s)) (fun x hx y hy => by
    obtain ⟨q, k1, k2⟩ := mem_take_get hx
    obtain ⟨q', k3, k4⟩ := mem_drop_get hy
    exact H.lo q x q' y k2 k4 (by omega) (by omega)) (fun y hy x hx => by
    obtain ⟨q', k1, k2⟩ := mem_take_get hy
    obtain ⟨q, k3, k4⟩ := mem_drop_get hx
    exact H.hi q x q' y k4 k2 (by omega) (by omega)) p1 p2 s1 s2
  rw [List.take_append_drop, List.take_append_drop] at h
  exact h
/-- the contract of symMerge, for parts of d elements together at most -/
def SymC (d : Nat) : Prop := ∀ (w : World) (b : Nat) (sp : List Value) (x u v y : List Ev) (n cap a m bb : Nat), Bk w b ((x ++ (u ++ (v ++ y))).flatMap evC ++ sp) 41 → n = x.length + u.length + v.length + y.length →
    a = x.length → m = x.length + u.length → bb = x.length + u.length + v.length → 1 ≤ u.length → 1 ≤ v.length → u.length + v.length ≤ d → (∀ e ∈ u ++ v, EvOk e) → Srt ltE u → Srt ltE v → n ≤ 1000 → n ≤ cap → cap ≤ maxLen →
    Calls Tryd.prog 49 #[.slice (some ⟨b, 0, none⟩) n cap, .int .i64 a, .int .i64 m, .int .i64 bb, .func (.func 16) #[] #[]] w fun e w' => e = .returned (.tuple #[]) ∧ Sorted w b sp x (u ++ v) y w'
theorem SymC.use {d : Nat} (h : SymC d) (w : World) (b : Nat) (sp : List Value) (x u v y : List Ev) (n cap a m bb : Nat) (h1 : Bk w b ((x ++ (u ++ (v ++ y))).flatMap evC ++ sp) 41) (h2 : n = x.length + u.length + v.length + y.length)
    (h3 : a = x.length) (h4 : m = x.length + u.length) (h5 : bb = x.length + u.length + v.length) (h6 : 1 ≤ u.length) (h7 : 1 ≤ v.length) (h8 : u.length + v.length ≤ d) (h9 : ∀ e ∈ u ++ v, EvOk e) (h10 : Srt ltE u) (h11 : Srt ltE v) (h12 : n ≤ 1000) (h13 : n ≤ cap) (h14 : cap ≤ maxLen) :
    Calls Tryd.prog 49 #[.slice (some ⟨b, 0, none⟩) n cap, .int .i64 a, .int .i64 m, .int .i64 bb, .func (.func 16) #[] #[]] w fun e w' => e = .returned (.tuple #[]) ∧ Sorted w b sp x (u ++ v) y w' :=
  h w b sp x u v y n cap a m bb h1 h2 h3 h4 h5 h6 h7 h8 h9 h10 h11 h12 h13 h14
set_option maxHeartbeats 16000000 in
set_option maxRecDepth 100000 in
theorem sym_mid (d : Nat) (IH : SymC d) (w : World) (b : Nat) (sp : List Value) (x u v y : List Ev) (n cap a m bb : Nat) (h : Bk w b ((x ++ (u ++ (v ++ y))).flatMap evC ++ sp) 41) (hn : n = x.length + u.length + v.length + y.length) (hu2 : 2 ≤ u.length) (hv2 : 2 ≤ v.length) (hd : u.length + v.length ≤ d + 1)
    (ha : a = x.length) (hm : m = x.length + u.length) (hb : bb = x.length + u.length + v.length) (hok : ∀ e ∈ u ++ v, EvOk e) (hu : Srt ltE u) (hv : Srt ltE v) (h1000 : n ≤ 1000) (hcap : n ≤ cap) (hmax : cap ≤ maxLen) :
    Calls Tryd.prog 49 #[.slice (some ⟨b, 0, none⟩) n cap, .int .i64 a, .int .i64 m, .int .i64 bb, .func (.func 16) #[] #[]] w fun e w' => e = .returned (.tuple #[]) ∧ Sorted w b sp x (u ++ v) y w' := by
  have HIH := Lib.hid IH
  have H0 := Lib.hid (SW.start h)
  have HOK := Lib.hid hok
  have HU := Lib.hid hu
  have HV := Lib.hid hv
  have HMX := Lib.hid hmax
  obtain ⟨mid, hmid⟩ : ∃ mid, mid = (a + bb) / 2 := ⟨_, rfl⟩
  obtain ⟨N, hN⟩ : ∃ N, N = mid + m := ⟨_, rfl⟩
  have HQ := Lib.hid (And.intro hn (And.intro ha (And.intro hm (And.intro hb (And.intro hmid (And.intro hN hd))))))
  unfold maxLen at hmax
  have q1 : a + 2 ≤ m := by omega
  have q2 : m + 2 ≤ bb := by omega
  have q3 : bb ≤ n := by omega
  have q4 : (((m : Int) - a) == 1) = false := by simp; omega
  have q5 : (((bb : Int) - m) == 1) = false := by simp; omega
  have q6 : ((a : Int) + (bb : Int)) / 2 = (mid : Int) := by omega
  have q7 : (mid : Int) + (m : Int) = (N : Int) := by omega
  have HGU : Hid (∀ q e, u[q]? = some e → (x ++ (u ++ (v ++ y)))[a + q]? = some e) := Lib.hid (fun q e he => by
    rw [ha, List.getElem?_append_right (by omega), Nat.add_sub_cancel_left, List.getElem?_append_left (List.getElem?_eq_some_iff.1 he).1]; exact he)
  have HGV : Hid (∀ q e, v[q]? = some e → (x ++ (u ++ (v ++ y)))[m + q]? = some e) := Lib.hid (fun q e he => by
    rw [hm, List.getElem?_append_right (by omega), show x.length + u.length + q - x.length = u.length + q by omega, List.getElem?_append_right (by omega), Nat.add_sub_cancel_left, List.getElem?_append_left (List.getElem?_eq_some_iff.1 he).1]; exact he)
  have HUL := Lib.hid (And.intro hu2 hv2)
  have r1 : a ≤ mid := by omega
  have r2 : mid ≤ bb := by omega
  have r3 : N ≤ 2000 := by omega
  have r4 : m ≤ N := by omega
  have r5 : mid ≤ N := by omega
  have r6 : a + 2 ≤ mid := by omega
  have r7 : mid + 2 ≤ bb := by omega
  clear IH h hn ha hm hb hok hu hv hu2 hv2 hd hmid hN
  go_enter Tryd.func49, Tryd.ntmps49
  go_upto_if 140 with fail
  go_cut [20, 21] (fun s20 s21 wx => ∃ st r : Nat, s20 = .int .i64 st ∧ s21 = .int .i64 r ∧ w = wx ∧ Hid (Mid u v a m mid st r))
  case first =>
    by_cases hmm : mid < m
    · obtain ⟨st, hst⟩ : ∃ st, st = N - bb := ⟨_, rfl⟩
      have k1 : (N : Int) - (bb : Int) = (st : Int) := by have := HQ.out.2; omega
      have k2 : (mid : Int) < (m : Int) := by omega
      have k3 : decide ((mid : Int) < (m : Int)) = true := decide_eq_true k2
      have HM : Hid (Mid u v a m mid st mid) := Lib.hid (by
        have hq := HQ.out.2
        refine ⟨by omega, by omega, by omega, Nat.le_refl _, by omega, fun q e q' e' he he' c1 c2 => ?_, fun q e q' e' he he' c1 c2 => ?_⟩
        · have := (List.getElem?_eq_some_iff.1 he').1; omega
        · omega)
      clear hst hmm
      go_wp2_with fail
      go_meet
      exact ⟨st, mid, rfl, rfl, rfl, HM⟩
    · have k2 : ¬ (mid : Int) < (m : Int) := by omega
      have k3 : decide ((mid : Int) < (m : Int)) = false := decide_eq_false k2
      have HM : Hid (Mid u v a m mid a m) := Lib.hid (by
        have hq := HQ.out.2
        refine ⟨Nat.le_refl _, by omega, Nat.le_refl _, by omega, by omega, fun q e q' e' he he' c1 c2 => ?_, fun q e q' e' he he' c1 c2 => ?_⟩
        · omega
        · have := (List.getElem?_eq_some_iff.1 he).1; omega)
      clear hmm
      go_wp2_with fail
      go_meet
      exact ⟨a, m, rfl, rfl, rfl, HM⟩
  case rest =>
    obtain ⟨st0, r0, rfl, rfl, rfl, HM0⟩ := hcut
    obtain ⟨P, hP⟩ : ∃ P, P + 1 = N := ⟨N - 1, by omega⟩
    have q8 : (N : Int) - 1 = (P : Int) := by omega
    have HPN := Lib.hid hP
    clear hP q4 q5 q6 q7
    go_wp2_with fail
    go_loopg [20, 21] (r0 - st0) (fun g si sj wr => ∃ (st r : Nat), si = .int .i64 st ∧ sj = .int .i64 r ∧ r - st ≤ g ∧ Hid (SW w b sp (x ++ (u ++ (v ++ y))) wr ∧ Mid u v a m mid st r))
    case atStart => exact ⟨st0, r0, rfl, rfl, Nat.le_refl _, Lib.hid ⟨H0.out, HM0.out⟩⟩
    case round =>
      obtain ⟨st, r, rfl, rfl, hg, H⟩ := hrel
      clear HM0 H0
      have b1 := H.out.2.ast
      have b2 := H.out.2.sr
      have b3 := H.out.2.rm
      have b4 := H.out.2.rmid
      by_cases hlt : st < r
      · obtain ⟨c, hc⟩ : ∃ c, c = (st + r) / 2 := ⟨_, rfl⟩
        have hh1 : st ≤ c := by omega
        have hh2 : c < r := by omega
        have hhi : ((st : Int) + (r : Int)) / 2 = (c : Int) := by omega
        clear hc
        obtain ⟨q, hq⟩ : ∃ q, a + q = c := ⟨c - a, by omega⟩
        obtain ⟨q', hq'⟩ : ∃ q', q' + c + 1 = mid := ⟨mid - 1 - c, by omega⟩
        obtain ⟨dd, hdd⟩ : ∃ dd, m + q' = dd := ⟨_, rfl⟩
        have hpc : (P : Int) - (c : Int) = (dd : Int) := by have := HPN.out; have := HQ.out.2; omega
        obtain ⟨e, he⟩ : ∃ e, u[q]? = some e := ⟨u[q]'(by have := HQ.out.2; omega), List.getElem?_eq_getElem _⟩
        obtain ⟨f, hf⟩ : ∃ f, v[q']? = some f := ⟨v[q']'(by have := HQ.out.2; have := H.out.2.vm; omega), List.getElem?_eq_getElem _⟩
        have hxe := HGU.out q e he
        have hxf := HGV.out q' f hf
        rw [hq] at hxe
        rw [hdd] at hxf
        have HC : Hid (∀ W, Calls Tryd.prog 16 #[.agg #[.string f.src, .int .i64 f.num, .int .i64 f.at_, .int .i64 f.kind, .string f.per, .string f.item, .int .i64 f.val, .string f.txt], .agg #[.string e.src, .int .i64 e.num, .int .i64 e.at_, .int .i64 e.kind, .string e.per, .string e.item, .int .i64 e.val, .string e.txt]] W fun e' w' => e' = .returned (.int .i64 (cE f e)) ∧ Below W.heap.size W w') := Lib.hid (fun W => clo_any (HOK.out _ (by simp [List.mem_of_getElem? hf])) (HOK.out _ (by simp [List.mem_of_getElem? he])) W)
        have hsw := H.out.1
        have HB : Hid (∀ X, Below wr.heap.size wr X → _) := Lib.hid (fun X hX => SW.bels hsw hxf hxe hX)
        have HW : Hid (∀ W, Below wr.heap.size wr W → SW w b sp (x ++ (u ++ (v ++ y))) W) := Lib.hid (fun W hW => hsw.bel hW)
        obtain ⟨cv, hcv⟩ : ∃ cv, cE f e = cv := ⟨_, rfl⟩
        rw [hcv] at HC
        have HCV := Lib.hid hcv
        have HE := Lib.hid (And.intro he (And.intro hf (And.intro hq hq')))
        have hvl := H.out.2.vm
        have z0 : (0 : Int) ≤ (c : Int) := by omega
        have z1 : (c : Int) < n := by omega
        have z2 : (dd : Int) < n := by have := HQ.out.2; omega
        have z3 : IntKind.i64.wrap (dd : Int) = (dd : Int) := by rw [IntKind.wrap_i64]; omega
        have z4 : IntKind.i64.wrap ((P : Int) - (c : Int)) = (dd : Int) := by rw [hpc]; exact z3
        clear hcv hsw hxe hxf he hf hq hq' hdd hvl q8
        by_cases hneg : cv < 0
        · have t1 : decide (cv < 0) = true := decide_eq_true hneg
          go_wp2_with fail
          go_region_held3 (fun X => X.cell? ⟨b, dd * 8, none⟩ = some (.string f.src) ∧ X.cell? ⟨b, dd * 8 + 1, none⟩ = some (.int .i64 f.num) ∧ X.cell? ⟨b, dd * 8 + 2, none⟩ = some (.int .i64 f.at_) ∧ X.cell? ⟨b, dd * 8 + 3, none⟩ = some (.int .i64 f.kind) ∧ X.cell? ⟨b, dd * 8 + 4, none⟩ = some (.string f.per) ∧ X.cell? ⟨b, dd * 8 + 5, none⟩ = some (.string f.item) ∧ X.cell? ⟨b, dd * 8 + 6, none⟩ = some (.int .i64 f.val) ∧ X.cell? ⟨b, dd * 8 + 7, none⟩ = some (.string f.txt) ∧ X.cell? ⟨b, c * 8, none⟩ = some (.string e.src) ∧ X.cell? ⟨b, c * 8 + 1, none⟩ = some (.int .i64 e.num) ∧ X.cell? ⟨b, c * 8 + 2, none⟩ = some (.int .i64 e.at_) ∧ X.cell? ⟨b, c * 8 + 3, none⟩ = some (.int .i64 e.kind) ∧ X.cell? ⟨b, c * 8 + 4, none⟩ = some (.string e.per) ∧ X.cell? ⟨b, c * 8 + 5, none⟩ = some (.string e.item) ∧ X.cell? ⟨b, c * 8 + 6, none⟩ = some (.int .i64 e.val) ∧ X.cell? ⟨b, c * 8 + 7, none⟩ = some (.string e.txt))
            ((refine HB.out _ ?_; repeat (first | assumption | exact Below.refl _ _ | refine Below.drew ?_ | refine bel_alloc ?_ _)))
            (first
              | (go_at_call 16
                 (with_reducible refine (HC.out _).mono ?_); rintro e wx ⟨rfl, bx⟩; have bv := bel_trans (V := wr) (by repeat (first | assumption | exact Below.refl _ _ | refine Below.drew ?_)) bx)
              | fail)
          have HWX := Lib.hid (HW.out wx bv)
          clear HB HC bx bv
          clear hhi hpc z4
          go_wp2_with fail
          go_roundg (c - st)
          case measure => omega
          case rel => exact ⟨st, c, rfl, rfl, Nat.le_refl _, Lib.hid ⟨HWX.out, H.out.2.down HU.out HV.out hh1 hh2 HE.out.2.2.1 HE.out.2.2.2 HE.out.1 HE.out.2.1 (cE_yes.2 (by rw [HCV.out]; omega))⟩⟩
        · have t1 : decide (cv < 0) = false := decide_eq_false hneg
          go_wp2_with fail
          go_region_held3 (fun X => X.cell? ⟨b, dd * 8, none⟩ = some (.string f.src) ∧ X.cell? ⟨b, dd * 8 + 1, none⟩ = some (.int .i64 f.num) ∧ X.cell? ⟨b, dd * 8 + 2, none⟩ = some (.int .i64 f.at_) ∧ X.cell? ⟨b, dd * 8 + 3, none⟩ = some (.int .i64 f.kind) ∧ X.cell? ⟨b, dd * 8 + 4, none⟩ = some (.string f.per) ∧ X.cell? ⟨b, dd * 8 + 5, none⟩ = some (.string f.item) ∧ X.cell? ⟨b, dd * 8 + 6, none⟩ = some (.int .i64 f.val) ∧ X.cell? ⟨b, dd * 8 + 7, none⟩ = some (.string f.txt) ∧ X.cell? ⟨b, c * 8, none⟩ = some (.string e.src) ∧ X.cell? ⟨b, c * 8 + 1, none⟩ = some (.int .i64 e.num) ∧ X.cell? ⟨b, c * 8 + 2, none⟩ = some (.int .i64 e.at_) ∧ X.cell? ⟨b, c * 8 + 3, none⟩ = some (.int .i64 e.kind) ∧ X.cell? ⟨b, c * 8 + 4, none⟩ = some (.string e.per) ∧ X.cell? ⟨b, c * 8 + 5, none⟩ = some (.string e.item) ∧ X.cell? ⟨b, c * 8 + 6, none⟩ = some (.int .i64 e.val) ∧ X.cell? ⟨b, c * 8 + 7, none⟩ = some (.string e.txt))
            ((refine HB.out _ ?_; repeat (first | assumption | exact Below.refl _ _ | refine Below.drew ?_ | refine bel_alloc ?_ _)))
            (first
              | (go_at_call 16
                 (with_reducible refine (HC.out _).mono ?_); rintro e wx ⟨rfl, bx⟩; have bv := bel_trans (V := wr) (by repeat (first | assumption | exact Below.refl _ _ | refine Below.drew ?_)) bx)
              | fail)
          have HWX := Lib.hid (HW.out wx bv)
          clear HB HC bx bv
          clear hhi hpc z4
          go_wp2_with fail
          go_roundg (r - (c + 1))
          case measure => omega
          case rel => exact ⟨c + 1, r, by go_num, rfl, Nat.le_refl _, Lib.hid ⟨HWX.out, H.out.2.up HU.out HV.out hh1 hh2 HE.out.2.2.1 HE.out.2.2.2 HE.out.1 HE.out.2.1 (cE_no.2 (by rw [HCV.out]; omega))⟩⟩
      · obtain rfl : st = r := by omega
        obtain ⟨E, hE⟩ : ∃ E, E + st = N := ⟨N - st, by omega⟩
        have hE2 : (N : Int) - (st : Int) = (E : Int) := by omega
        have HEE := Lib.hid hE
        have hvl := H.out.2.vm
        have e1 : m ≤ E := by have := HQ.out.2; omega
        have e2 : E ≤ bb := by have := HQ.out.2; omega
        have e3 : mid ≤ E := by have := HQ.out.2; omega
        obtain ⟨u1, hu1⟩ : ∃ u1, u.take (st - a) = u1 := ⟨_, rfl⟩
        obtain ⟨u2, hu2⟩ : ∃ u2, u.drop (st - a) = u2 := ⟨_, rfl⟩
        obtain ⟨v1, hv1⟩ : ∃ v1, v.take (mid - st) = v1 := ⟨_, rfl⟩
        obtain ⟨v2, hv2⟩ : ∃ v2, v.drop (mid - st) = v2 := ⟨_, rfl⟩
        have lu1 : u1.length = st - a := by rw [← hu1, List.length_take]; have := HQ.out.2; omega
        have lu2 : u2.length = m - st := by rw [← hu2, List.length_drop]; have := HQ.out.2; omega
        have lv1 : v1.length = mid - st := by rw [← hv1, List.length_take]; have := HQ.out.2; omega
        have lv2 : v2.length = bb - E := by rw [← hv2, List.length_drop]; have := HQ.out.2; omega
        have huu : u = u1 ++ u2 := by rw [← hu1, ← hu2, List.take_append_drop]
        have hvv : v = v1 ++ v2 := by rw [← hv1, ← hv2, List.take_append_drop]
        have sw0 := H.out.1
        rw [huu, hvv] at sw0
        have HSP : Hid (∀ z1 z2, z1.Perm (u1 ++ v1) → z2.Perm (u2 ++ v2) → Srt ltE z1 → Srt ltE z2 → Srt ltE (z1 ++ z2) ∧ (z1 ++ z2).Perm (u ++ v)) := Lib.hid (fun z1 z2 p1 p2 s1 s2 => H.out.2.split HU.out HV.out (by rw [hu1, hv1]; exact p1) (by rw [hu2, hv2]; exact p2) s1 s2)
        have hus := HU.out
        have hvs := HV.out
        rw [huu] at hus
        rw [hvv] at hvs
        have HSS : Hid (Srt ltE u1 ∧ Srt ltE u2 ∧ Srt ltE v1 ∧ Srt ltE v2) := Lib.hid (And.intro (List.pairwise_append.1 hus).1 (And.intro (List.pairwise_append.1 hus).2.1 (And.intro (List.pairwise_append.1 hvs).1 (List.pairwise_append.1 hvs).2.1)))
        have HOK1 : Hid (∀ e ∈ u1 ++ v1, EvOk e) := Lib.hid (fun e he => HOK.out e (by rw [huu, hvv]; rcases List.mem_append.1 he with k | k <;> simp [k]))
        have HOK2 : Hid (∀ e ∈ u2 ++ v2, EvOk e) := Lib.hid (fun e he => HOK.out e (by rw [huu, hvv]; rcases List.mem_append.1 he with k | k <;> simp [k]))
        have HL := Lib.hid (And.intro lu1 (And.intro lu2 (And.intro lv1 (And.intro lv2 (And.intro (show u.length = u1.length + u2.length by rw [huu, List.length_append]) (show v.length = v1.length + v2.length by rw [hvv, List.length_append]))))))
        have HSW := Lib.hid sw0
        clear hE hu1 hu2 hv1 hv2 lu1 lu2 lv1 lv2 huu hvv sw0 hus hvs hlt hg q8 hvl
        have c4 : decide ((st : Int) < (m : Int)) = decide (st < m) := by simp
        by_cases hA : st < m ∧ m < E
        · obtain ⟨g1, g2⟩ := hA
          have t1 : decide ((st : Int) < (m : Int)) = true := decide_eq_true (by omega)
          have t2 : decide ((m : Int) < (E : Int)) = true := decide_eq_true (by omega)
          clear c4
          go_wp2_with fail
          with_reducible refine (rot_parts _ b sp (x ++ u1) u2 v1 (v2 ++ y) n cap _ _ _ _ (by have := HSW.out.row; simpa [List.append_assoc] using this) (by have k1 := HL.out; have k2 := HQ.out; simp at k1 k2 ⊢; omega) (by have := HL.out; omega) (by have := HL.out; have := HEE.out; have := HQ.out.2; omega) (by have k1 := HL.out; have k2 := HQ.out.2; simp at k1 k2 ⊢; omega) (by have k1 := HL.out; have k2 := HQ.out.2; simp at k1 k2 ⊢; omega) (by have k1 := HL.out; have k2 := HQ.out.2; have k3 := HEE.out; simp at k1 k2 ⊢; omega) h1000 hcap HMX.out).mono ?_
          rintro e w2 ⟨rfl, k2⟩
          have SW2 : Hid (SW w b sp (x ++ (u1 ++ (v1 ++ (u2 ++ (v2 ++ y))))) w2) := Lib.hid (by have := HSW.out.on k2; simpa [List.append_assoc] using this)
          clear k2 g1 g2
          by_cases hB : a < st ∧ st < mid
          · obtain ⟨g1, g2⟩ := hB
            have t3 : decide ((a : Int) < (st : Int)) = true := decide_eq_true (by omega)
            have t4 : decide ((st : Int) < (mid : Int)) = true := decide_eq_true (by omega)
            go_wp2_with fail
            with_reducible refine (SymC.use HIH.out _ b sp x u1 v1 (u2 ++ (v2 ++ y)) n cap a st mid (by have := SW2.out.row; simpa [List.append_assoc] using this) (by have := HL.out; have := HQ.out; simp at *; omega) HQ.out.2.1 (by have := HL.out; have := HQ.out.2; omega) (by have := HL.out; have := HQ.out.2; omega) (by have := HL.out; omega) (by have := HL.out; omega) (by have := HL.out; have := HQ.out.2; omega) HOK1.out HSS.out.1 HSS.out.2.2.1 h1000 hcap HMX.out).mono ?_
            rintro e w3 ⟨rfl, z1, pz1, sz1, k3⟩
            have HZ := Lib.hid (And.intro pz1 (And.intro sz1 (And.intro (show n = (x ++ z1).length + u2.length + v2.length + y.length by have k1 := HL.out; have k2 := HQ.out; have k3 := HEE.out; have k4 := pz1.length_eq; simp at k1 k2 k4 ⊢; omega) (And.intro (show mid = (x ++ z1).length by have k1 := HL.out; have k2 := HQ.out; have k3 := HEE.out; have k4 := pz1.length_eq; simp at k1 k2 k4 ⊢; omega) (And.intro (show E = (x ++ z1).length + u2.length by have k1 := HL.out; have k2 := HQ.out; have k3 := HEE.out; have k4 := pz1.length_eq; simp at k1 k2 k4 ⊢; omega) (show bb = (x ++ z1).length + u2.length + v2.length by have k1 := HL.out; have k2 := HQ.out; have k3 := HEE.out; have k4 := pz1.length_eq; simp at k1 k2 k4 ⊢; omega))))))
            have SW3 := Lib.hid (SW2.out.on k3)
            clear pz1 sz1 k3
            by_cases hC : mid < E ∧ E < bb
            · obtain ⟨g1, g2⟩ := hC
              have t5 : decide ((mid : Int) < (E : Int)) = true := decide_eq_true (by omega)
              have t6 : decide ((E : Int) < (bb : Int)) = true := decide_eq_true (by omega)
              go_wp2_with fail
              with_reducible refine (SymC.use HIH.out _ b sp (x ++ z1) u2 v2 y n cap mid E bb (by have := SW3.out.row; simpa [List.append_assoc] using this) HZ.out.2.2.1 HZ.out.2.2.2.1 HZ.out.2.2.2.2.1 HZ.out.2.2.2.2.2 (by have := HL.out; have := HEE.out; have := HQ.out.2; omega) (by have := HL.out; have := HEE.out; have := HQ.out.2; omega) (by have := HL.out; have := HEE.out; have := HQ.out.2; omega) HOK2.out HSS.out.2.1 HSS.out.2.2.2 h1000 hcap HMX.out).mono ?_
              rintro e w4 ⟨rfl, z2, pz2, sz2, k4⟩
              have SW4 := Lib.hid (And.intro pz2 (And.intro sz2 (SW3.out.on k4)))
              clear pz2 sz2 k4
              go_wp2_with fail
              go_end0
              have fin := HSP.out z1 z2 HZ.out.1 SW4.out.1 HZ.out.2.1 SW4.out.2.1
              exact ⟨rfl, z1 ++ z2, fin.2, fin.1, by have := SW4.out.2.2; simpa [List.append_assoc] using this⟩
            · have HCC := Lib.hid hC
              clear hC
              have HE2 : Hid (u2 = [] ∨ v2 = []) := Lib.hid (by
                have k1 := HCC.out
                have k2 := HL.out
                have k3 := HQ.out.2
                have k4 := HEE.out
                rcases (by omega : u2.length = 0 ∨ v2.length = 0) with k | k
                · exact .inl (List.eq_nil_of_length_eq_zero k)
                · exact .inr (List.eq_nil_of_length_eq_zero k))
              by_cases g1 : mid < E
              all_goals
                first
                | (have t5 : decide ((mid : Int) < (E : Int)) = true := decide_eq_true (by omega))
                | (have t5 : decide ((mid : Int) < (E : Int)) = false := decide_eq_false (by omega); have t5n : decide (mid < E) = false := decide_eq_false (by omega); have t5m : ¬ mid < E := by omega)
                first
                | (have t6 : decide ((E : Int) < (bb : Int)) = false := decide_eq_false (by have := HCC.out; omega); have t6n : decide (E < bb) = false := decide_eq_false (by have := HCC.out; omega); have t6m : ¬ E < bb := by have := HCC.out; omega)
                | skip
                go_wp2_with fail
                go_end0
                have s2 : Srt ltE (u2 ++ v2) := by
                  rcases HE2.out with k | k
                  · rw [k]; exact HSS.out.2.2.2
                  · rw [k, List.append_nil]; exact HSS.out.2.1
                have fin := HSP.out z1 (u2 ++ v2) HZ.out.1 (List.Perm.refl _) HZ.out.2.1 s2
                exact ⟨rfl, z1 ++ (u2 ++ v2), fin.2, fin.1, by have := SW3.out; simpa [List.append_assoc] using this⟩
          · have HBB := Lib.hid hB
            clear hB
            obtain ⟨z1, hz1⟩ : ∃ z1, u1 ++ v1 = z1 := ⟨_, rfl⟩
            have s1 : Srt ltE z1 := by
              have k1 := HBB.out
              have k2 := HL.out
              rw [← hz1]
              rcases (by omega : u1.length = 0 ∨ v1.length = 0) with k | k
              · rw [List.eq_nil_of_length_eq_zero k]; exact HSS.out.2.2.1
              · rw [List.eq_nil_of_length_eq_zero k, List.append_nil]; exact HSS.out.1
            have HZ := Lib.hid (And.intro (show z1.Perm (u1 ++ v1) from hz1 ▸ List.Perm.refl _) (And.intro s1 (And.intro (show n = (x ++ z1).length + u2.length + v2.length + y.length by have k1 := HL.out; have k2 := HQ.out; have k3 := HEE.out; have k4 := congrArg List.length hz1; simp at k1 k2 k4 ⊢; omega) (And.intro (show mid = (x ++ z1).length by have k1 := HL.out; have k2 := HQ.out; have k3 := HEE.out; have k4 := congrArg List.length hz1; simp at k1 k2 k4 ⊢; omega) (And.intro (show E = (x ++ z1).length + u2.length by have k1 := HL.out; have k2 := HQ.out; have k3 := HEE.out; have k4 := congrArg List.length hz1; simp at k1 k2 k4 ⊢; omega) (show bb = (x ++ z1).length + u2.length + v2.length by have k1 := HL.out; have k2 := HQ.out; have k3 := HEE.out; have k4 := congrArg List.length hz1; simp at k1 k2 k4 ⊢; omega))))))
            have SW3 := Lib.hid (show SW w b sp (x ++ (z1 ++ (u2 ++ (v2 ++ y)))) _ from by have := SW2.out; rw [← hz1]; simpa [List.append_assoc] using this)
            clear s1 hz1
            by_cases g0 : a < st
            all_goals
              first
              | (have t3 : decide ((a : Int) < (st : Int)) = true := decide_eq_true (by omega))
              | (have t3 : decide ((a : Int) < (st : Int)) = false := decide_eq_false (by omega); have t3n : decide (a < st) = false := decide_eq_false (by omega); have t3m : ¬ a < st := by omega)
              first
              | (have t4 : decide ((st : Int) < (mid : Int)) = false := decide_eq_false (by have := HBB.out; omega); have t4n : decide (st < mid) = false := decide_eq_false (by have := HBB.out; omega); have t4m : ¬ st < mid := by have := HBB.out; omega)
              | skip
              by_cases hC : mid < E ∧ E < bb
              · obtain ⟨g1, g2⟩ := hC
                have t5 : decide ((mid : Int) < (E : Int)) = true := decide_eq_true (by omega)
                have t6 : decide ((E : Int) < (bb : Int)) = true := decide_eq_true (by omega)
                go_wp2_with fail
                with_reducible refine (SymC.use HIH.out _ b sp (x ++ z1) u2 v2 y n cap mid E bb (by have := SW3.out.row; simpa [List.append_assoc] using this) HZ.out.2.2.1 HZ.out.2.2.2.1 HZ.out.2.2.2.2.1 HZ.out.2.2.2.2.2 (by have := HL.out; have := HEE.out; have := HQ.out.2; omega) (by have := HL.out; have := HEE.out; have := HQ.out.2; omega) (by have := HL.out; have := HEE.out; have := HQ.out.2; omega) HOK2.out HSS.out.2.1 HSS.out.2.2.2 h1000 hcap HMX.out).mono ?_
                rintro e w4 ⟨rfl, z2, pz2, sz2, k4⟩
                have SW4 := Lib.hid (And.intro pz2 (And.intro sz2 (SW3.out.on k4)))
                clear pz2 sz2 k4
                go_wp2_with fail
                go_end0
                have fin := HSP.out z1 z2 HZ.out.1 SW4.out.1 HZ.out.2.1 SW4.out.2.1
                exact ⟨rfl, z1 ++ z2, fin.2, fin.1, by have := SW4.out.2.2; simpa [List.append_assoc] using this⟩
              · have HCC := Lib.hid hC
                clear hC
                have HE2 : Hid (u2 = [] ∨ v2 = []) := Lib.hid (by
                  have k1 := HCC.out
                  have k2 := HL.out
                  have k3 := HQ.out.2
                  have k4 := HEE.out
                  rcases (by omega : u2.length = 0 ∨ v2.length = 0) with k | k
                  · exact .inl (List.eq_nil_of_length_eq_zero k)
                  · exact .inr (List.eq_nil_of_length_eq_zero k))
                by_cases g1 : mid < E
                all_goals
                  first
                  | (have t5 : decide ((mid : Int) < (E : Int)) = true := decide_eq_true (by omega))
                  | (have t5 : decide ((mid : Int) < (E : Int)) = false := decide_eq_false (by omega); have t5n : decide (mid < E) = false := decide_eq_false (by omega); have t5m : ¬ mid < E := by omega)
                  first
                  | (have t6 : decide ((E : Int) < (bb : Int)) = false := decide_eq_false (by have := HCC.out; omega); have t6n : decide (E < bb) = false := decide_eq_false (by have := HCC.out; omega); have t6m : ¬ E < bb := by have := HCC.out; omega)
                  | skip
                  go_wp2_with fail
                  go_end0
                  have s2 : Srt ltE (u2 ++ v2) := by
                    rcases HE2.out with k | k
                    · rw [k]; exact HSS.out.2.2.2
                    · rw [k, List.append_nil]; exact HSS.out.2.1
                  have fin := HSP.out z1 (u2 ++ v2) HZ.out.1 (List.Perm.refl _) HZ.out.2.1 s2
                  exact ⟨rfl, z1 ++ (u2 ++ v2), fin.2, fin.1, by have := SW3.out; simpa [List.append_assoc] using this⟩
        · have HAA := Lib.hid hA
          clear hA
          have SW2 : Hid (SW w b sp (x ++ (u1 ++ (v1 ++ (u2 ++ (v2 ++ y))))) wr) := Lib.hid (by
            have k0 := HSW.out
            have k1 := HAA.out
            have k2 := HL.out
            have k3 := HEE.out
            have k4 := HQ.out.2
            rcases (by omega : u2.length = 0 ∨ v1.length = 0) with k | k
            all_goals
              have e := List.eq_nil_of_length_eq_zero k
              rw [e] at k0 ⊢
              simpa [List.append_assoc] using k0)
          by_cases g0 : st < m
          all_goals
            clear c4
            first
            | (have t1 : decide ((st : Int) < (m : Int)) = true := decide_eq_true (by omega))
            | (have t1 : decide ((st : Int) < (m : Int)) = false := decide_eq_false (by omega); have t1n : decide (st < m) = false := decide_eq_false (by omega); have t1m : ¬ st < m := by omega)
            first
            | (have t2 : decide ((m : Int) < (E : Int)) = false := decide_eq_false (by have := HAA.out; omega); have t2n : decide (m < E) = false := decide_eq_false (by have := HAA.out; omega); have t2m : ¬ m < E := by have := HAA.out; omega)
            | skip
            by_cases hB : a < st ∧ st < mid
            · obtain ⟨g1, g2⟩ := hB
              have t3 : decide ((a : Int) < (st : Int)) = true := decide_eq_true (by omega)
              have t4 : decide ((st : Int) < (mid : Int)) = true := decide_eq_true (by omega)
              go_wp2_with fail
              with_reducible refine (SymC.use HIH.out _ b sp x u1 v1 (u2 ++ (v2 ++ y)) n cap a st mid (by have := SW2.out.row; simpa [List.append_assoc] using this) (by have := HL.out; have := HQ.out; simp at *; omega) HQ.out.2.1 (by have := HL.out; have := HQ.out.2; omega) (by have := HL.out; have := HQ.out.2; omega) (by have := HL.out; omega) (by have := HL.out; omega) (by have := HL.out; have := HQ.out.2; omega) HOK1.out HSS.out.1 HSS.out.2.2.1 h1000 hcap HMX.out).mono ?_
              rintro e w3 ⟨rfl, z1, pz1, sz1, k3⟩
              have HZ := Lib.hid (And.intro pz1 (And.intro sz1 (And.intro (show n = (x ++ z1).length + u2.length + v2.length + y.length by have k1 := HL.out; have k2 := HQ.out; have k3 := HEE.out; have k4 := pz1.length_eq; simp at k1 k2 k4 ⊢; omega) (And.intro (show mid = (x ++ z1).length by have k1 := HL.out; have k2 := HQ.out; have k3 := HEE.out; have k4 := pz1.length_eq; simp at k1 k2 k4 ⊢; omega) (And.intro (show E = (x ++ z1).length + u2.length by have k1 := HL.out; have k2 := HQ.out; have k3 := HEE.out; have k4 := pz1.length_eq; simp at k1 k2 k4 ⊢; omega) (show bb = (x ++ z1).length + u2.length + v2.length by have k1 := HL.out; have k2 := HQ.out; have k3 := HEE.out; have k4 := pz1.length_eq; simp at k1 k2 k4 ⊢; omega))))))
              have SW3 := Lib.hid (SW2.out.on k3)
              clear pz1 sz1 k3
              by_cases hC : mid < E ∧ E < bb
              · obtain ⟨g1, g2⟩ := hC
                have t5 : decide ((mid : Int) < (E : Int)) = true := decide_eq_true (by omega)
                have t6 : decide ((E : Int) < (bb : Int)) = true := decide_eq_true (by omega)
                go_wp2_with fail
                with_reducible refine (SymC.use HIH.out _ b sp (x ++ z1) u2 v2 y n cap mid E bb (by have := SW3.out.row; simpa [List.append_assoc] using this) HZ.out.2.2.1 HZ.out.2.2.2.1 HZ.out.2.2.2.2.1 HZ.out.2.2.2.2.2 (by have := HL.out; have := HEE.out; have := HQ.out.2; omega) (by have := HL.out; have := HEE.out; have := HQ.out.2; omega) (by have := HL.out; have := HEE.out; have := HQ.out.2; omega) HOK2.out HSS.out.2.1 HSS.out.2.2.2 h1000 hcap HMX.out).mono ?_
                rintro e w4 ⟨rfl, z2, pz2, sz2, k4⟩
                have SW4 := Lib.hid (And.intro pz2 (And.intro sz2 (SW3.out.on k4)))
                clear pz2 sz2 k4
                go_wp2_with fail
                go_end0
                have fin := HSP.out z1 z2 HZ.out.1 SW4.out.1 HZ.out.2.1 SW4.out.2.1
                exact ⟨rfl, z1 ++ z2, fin.2, fin.1, by have := SW4.out.2.2; simpa [List.append_assoc] using this⟩
              · have HCC := Lib.hid hC
                clear hC
                have HE2 : Hid (u2 = [] ∨ v2 = []) := Lib.hid (by
                  have k1 := HCC.out
                  have k2 := HL.out
                  have k3 := HQ.out.2
                  have k4 := HEE.out
                  rcases (by omega : u2.length = 0 ∨ v2.length = 0) with k | k
                  · exact .inl (List.eq_nil_of_length_eq_zero k)
                  · exact .inr (List.eq_nil_of_length_eq_zero k))
                by_cases g1 : mid < E
                all_goals
                  first
                  | (have t5 : decide ((mid : Int) < (E : Int)) = true := decide_eq_true (by omega))
                  | (have t5 : decide ((mid : Int) < (E : Int)) = false := decide_eq_false (by omega); have t5n : decide (mid < E) = false := decide_eq_false (by omega); have t5m : ¬ mid < E := by omega)
                  first
                  | (have t6 : decide ((E : Int) < (bb : Int)) = false := decide_eq_false (by have := HCC.out; omega); have t6n : decide (E < bb) = false := decide_eq_false (by have := HCC.out; omega); have t6m : ¬ E < bb := by have := HCC.out; omega)
                  | skip
                  go_wp2_with fail
                  go_end0
                  have s2 : Srt ltE (u2 ++ v2) := by
                    rcases HE2.out with k | k
                    · rw [k]; exact HSS.out.2.2.2
                    · rw [k, List.append_nil]; exact HSS.out.2.1
                  have fin := HSP.out z1 (u2 ++ v2) HZ.out.1 (List.Perm.refl _) HZ.out.2.1 s2
                  exact ⟨rfl, z1 ++ (u2 ++ v2), fin.2, fin.1, by have := SW3.out; simpa [List.append_assoc] using this⟩
            · have HBB := Lib.hid hB
              clear hB
              obtain ⟨z1, hz1⟩ : ∃ z1, u1 ++ v1 = z1 := ⟨_, rfl⟩
              have s1 : Srt ltE z1 := by
                have k1 := HBB.out
                have k2 := HL.out
                rw [← hz1]
                rcases (by omega : u1.length = 0 ∨ v1.length = 0) with k | k
                · rw [List.eq_nil_of_length_eq_zero k]; exact HSS.out.2.2.1
                · rw [List.eq_nil_of_length_eq_zero k, List.append_nil]; exact HSS.out.1
              have HZ := Lib.hid (And.intro (show z1.Perm (u1 ++ v1) from hz1 ▸ List.Perm.refl _) (And.intro s1 (And.intro (show n = (x ++ z1).length + u2.length + v2.length + y.length by have k1 := HL.out; have k2 := HQ.out; have k3 := HEE.out; have k4 := congrArg List.length hz1; simp at k1 k2 k4 ⊢; omega) (And.intro (show mid = (x ++ z1).length by have k1 := HL.out; have k2 := HQ.out; have k3 := HEE.out; have k4 := congrArg List.length hz1; simp at k1 k2 k4 ⊢; omega) (And.intro (show E = (x ++ z1).length + u2.length by have k1 := HL.out; have k2 := HQ.out; have k3 := HEE.out; have k4 := congrArg List.length hz1; simp at k1 k2 k4 ⊢; omega) (show bb = (x ++ z1).length + u2.length + v2.length by have k1 := HL.out; have k2 := HQ.out; have k3 := HEE.out; have k4 := congrArg List.length hz1; simp at k1 k2 k4 ⊢; omega))))))
              have SW3 := Lib.hid (show SW w b sp (x ++ (z1 ++ (u2 ++ (v2 ++ y)))) _ from by have := SW2.out; rw [← hz1]; simpa [List.append_assoc] using this)
              clear s1 hz1
              by_cases g0 : a < st
              all_goals
                first
                | (have t3 : decide ((a : Int) < (st : Int)) = true := decide_eq_true (by omega))
                | (have t3 : decide ((a : Int) < (st : Int)) = false := decide_eq_false (by omega); have t3n : decide (a < st) = false := decide_eq_false (by omega); have t3m : ¬ a < st := by omega)
                first
                | (have t4 : decide ((st : Int) < (mid : Int)) = false := decide_eq_false (by have := HBB.out; omega); have t4n : decide (st < mid) = false := decide_eq_false (by have := HBB.out; omega); have t4m : ¬ st < mid := by have := HBB.out; omega)
                | skip
                by_cases hC : mid < E ∧ E < bb
                · obtain ⟨g1, g2⟩ := hC
                  have t5 : decide ((mid : Int) < (E : Int)) = true := decide_eq_true (by omega)
                  have t6 : decide ((E : Int) < (bb : Int)) = true := decide_eq_true (by omega)
                  go_wp2_with fail
                  with_reducible refine (SymC.use HIH.out _ b sp (x ++ z1) u2 v2 y n cap mid E bb (by have := SW3.out.row; simpa [List.append_assoc] using this) HZ.out.2.2.1 HZ.out.2.2.2.1 HZ.out.2.2.2.2.1 HZ.out.2.2.2.2.2 (by have := HL.out; have := HEE.out; have := HQ.out.2; omega) (by have := HL.out; have := HEE.out; have := HQ.out.2; omega) (by have := HL.out; have := HEE.out; have := HQ.out.2; omega) HOK2.out HSS.out.2.1 HSS.out.2.2.2 h1000 hcap HMX.out).mono ?_
                  rintro e w4 ⟨rfl, z2, pz2, sz2, k4⟩
                  have SW4 := Lib.hid (And.intro pz2 (And.intro sz2 (SW3.out.on k4)))
                  clear pz2 sz2 k4
                  go_wp2_with fail
                  go_end0
                  have fin := HSP.out z1 z2 HZ.out.1 SW4.out.1 HZ.out.2.1 SW4.out.2.1
                  exact ⟨rfl, z1 ++ z2, fin.2, fin.1, by have := SW4.out.2.2; simpa [List.append_assoc] using this⟩
                · have HCC := Lib.hid hC
                  clear hC
                  have HE2 : Hid (u2 = [] ∨ v2 = []) := Lib.hid (by
                    have k1 := HCC.out
                    have k2 := HL.out
                    have k3 := HQ.out.2
                    have k4 := HEE.out
                    rcases (by omega : u2.length = 0 ∨ v2.length = 0) with k | k
                    · exact .inl (List.eq_nil_of_length_eq_zero k)
                    · exact .inr (List.eq_nil_of_length_eq_zero k))
                  by_cases g1 : mid < E
                  all_goals
                    first
                    | (have t5 : decide ((mid : Int) < (E : Int)) = true := decide_eq_true (by omega))
                    | (have t5 : decide ((mid : Int) < (E : Int)) = false := decide_eq_false (by omega); have t5n : decide (mid < E) = false := decide_eq_false (by omega); have t5m : ¬ mid < E := by omega)
                    first
                    | (have t6 : decide ((E : Int) < (bb : Int)) = false := decide_eq_false (by have := HCC.out; omega); have t6n : decide (E < bb) = false := decide_eq_false (by have := HCC.out; omega); have t6m : ¬ E < bb := by have := HCC.out; omega)
                    | skip
                    go_wp2_with fail
                    go_end0
                    have s2 : Srt ltE (u2 ++ v2) := by
                      rcases HE2.out with k | k
                      · rw [k]; exact HSS.out.2.2.2
                      · rw [k, List.append_nil]; exact HSS.out.2.1
                    have fin := HSP.out z1 (u2 ++ v2) HZ.out.1 (List.Perm.refl _) HZ.out.2.1 s2
                    exact ⟨rfl, z1 ++ (u2 ++ v2), fin.2, fin.1, by have := SW3.out; simpa [List.append_assoc] using this⟩
end Es
end Go.Proofs.YtbhghelegonbbaaDoor
namespace Go.Proofs.YtbhghelegonbbaaDoor
open Go.RowKit Go.ChangeShapes Go.WideShapes
set_option linter.unusedVariables false
set_option linter.unusedSimpArgs false
namespace Es
open Rk
theorem sym_parts : ∀ d, SymC d
  | 0 => fun w b sp x u v y n cap a m bb h hn ha hm hb hu hv hd hok su sv h1000 hcap hmax => by omega
  | d + 1 => fun w b sp x u v y n cap a m bb h hn ha hm hb hu hv hd hok su sv h1000 hcap hmax => by
    by_cases h1 : u.length = 1
    · obtain ⟨c, rfl⟩ := List.length_eq_one_iff.1 h1
      exact sym_one w b sp x c v y n cap a m bb h (by simpa using hn) ha (by simpa using hm) (by simpa using hb) (fun e he => hok e (by simpa using he)) sv h1000 hcap hmax
    · by_cases h2 : v.length = 1
      · obtain ⟨c, rfl⟩ := List.length_eq_one_iff.1 h2
        exact sym_last w b sp x u c y n cap a m bb h (by simpa using hn) (by omega) ha hm (by simpa using hb) hok su h1000 hcap hmax
      · exact sym_mid d (sym_parts d) w b sp x u v y n cap a m bb h hn (by omega) (by omega) hd ha hm hb hok su sv h1000 hcap hmax
theorem isort_nil (w : World) (b n cap a : Nat) (fv : Value) (hb : a ≤ 1000) :
    Calls Tryd.prog 48 #[.slice (some ⟨b, 0, none⟩) n cap, .int .i64 a, .int .i64 a, fv] w fun e w' => e = .returned (.tuple #[]) ∧ w = w' := by
  go_enter Tryd.func48, Tryd.ntmps48
  go_wp2_with fail
  go_loopg [8] 0 (fun g1 vi wr => vi = .int .i64 ((a : Int) + 1) ∧ w = wr)
  case atStart => exact ⟨by first | rfl | go_num, rfl⟩
  case round =>
    obtain ⟨rfl, rfl⟩ := hrel
    have t : ¬ (a : Int) + 1 < (a : Int) := by omega
    go_wp2_with fail
    go_end0
    exact ⟨rfl, rfl⟩
theorem isort_any (w : World) (b : Nat) (sp : List Value) (x u y : List Ev) (n cap : Nat) (ai bi : Int) (h : Bk w b ((x ++ (u ++ y)).flatMap evC ++ sp) 41) (hn : n = x.length + u.length + y.length)
    (ha : ai = x.length) (hb : bi = x.length + u.length) (hok : ∀ e ∈ u, EvOk e) (h1000 : n ≤ 1000) (hcap : n ≤ cap) (hmax : cap ≤ maxLen) :
    Calls Tryd.prog 48 #[.slice (some ⟨b, 0, none⟩) n cap, .int .i64 ai, .int .i64 bi, .func (.func 16) #[] #[]] w fun e w' => e = .returned (.tuple #[]) ∧ Sorted w b sp x u y w' := by
  cases u with
  | nil =>
    obtain rfl : bi = ai := by simp at hb; omega
    subst ha
    refine (isort_nil w b n cap x.length _ (by omega)).mono ?_
    rintro e w' ⟨rfl, rfl⟩
    exact ⟨rfl, [], List.Perm.refl _, List.Pairwise.nil, SW.start h⟩
  | cons u0 u => exact isort_parts w b sp x u0 u y n cap ai bi h (by simpa [Nat.add_assoc] using hn) ha (by simpa using hb) hok h1000 hcap hmax
def AllSorted (w : World) (b : Nat) (sp : List Value) (l : List Ev) (w' : World) : Prop := ∃ z, z.Perm l ∧ Srt ltE z ∧ SW w b sp z w'
set_option maxHeartbeats 2000000 in
theorem stable_small (w : World) (b : Nat) (sp : List Value) (l : List Ev) (n cap : Nat) (h : Bk w b (l.flatMap evC ++ sp) 41) (hn : l.length = n) (hs : n < 20) (hok : ∀ e ∈ l, EvOk e) (hcap : n ≤ cap) (hmax : cap ≤ maxLen) :
    Calls Tryd.prog 32 #[.slice (some ⟨b, 0, none⟩) n cap, .int .i64 n, .func (.func 16) #[] #[]] w fun e w' => e = .returned (.tuple #[]) ∧ AllSorted w b sp l w' := by
  have HI := Lib.hid (isort_any w b sp [] l [] n cap 0 n (by simpa using h) (by simp [hn]) (by simp) (by simp [hn]) hok (by omega) hcap hmax)
  clear h hn hok hmax
  have t1 : ¬ (20 : Int) ≤ (n : Int) := by omega
  have t2 : ¬ (20 : Int) < (n : Int) := by omega
  go_enter Tryd.func32, Tryd.ntmps32
  go_wp2_with fail
  go_loopg [7, 8] 0 (fun g s7 s8 wr => s7 = .int .i64 0 ∧ s8 = .int .i64 20 ∧ w = wr)
  case atStart => exact ⟨rfl, rfl, rfl⟩
  case round =>
    obtain ⟨rfl, rfl, rfl⟩ := hrel
    go_wp2_with fail
    refine HI.out.mono ?_
    rintro e w1 ⟨rfl, k⟩
    have K := Lib.hid k
    clear k HI
    go_wp2_with fail
    go_loopg [6, 7, 8, 9] 0 (fun g s6 s7 s8 s9 wr => s6 = .int .i64 20 ∧ w1 = wr)
    case atStart => exact ⟨rfl, rfl⟩
    case round =>
      obtain ⟨rfl, rfl⟩ := hrel
      go_wp2_with fail
      go_end0
      obtain ⟨z, p, s, q⟩ := K.out
      exact ⟨rfl, z, p, s, by simpa using q⟩
def Blk1 (w : World) (b : Nat) (sp : List Value) (l1 l2 : List Ev) (g : Nat) (s7 s8 : Value) (wr : World) : Prop :=
  (s7 = .int .i64 0 ∧ s8 = .int .i64 20 ∧ w = wr ∧ 1 ≤ g) ∨ (s7 = .int .i64 20 ∧ s8 = .int .i64 40 ∧ Sorted w b sp [] l1 l2 wr)
def Blk2 (w : World) (b : Nat) (sp : List Value) (l : List Ev) (w2 : World) (g : Nat) (s6 : Value) (wr : World) : Prop :=
  (s6 = .int .i64 20 ∧ w2 = wr ∧ 1 ≤ g) ∨ (s6 = .int .i64 40 ∧ AllSorted w b sp l wr)
set_option maxHeartbeats 4000000 in
theorem stable_big (w : World) (b : Nat) (sp : List Value) (l1 l2 : List Ev) (n cap : Nat) (h : Bk w b ((l1 ++ l2).flatMap evC ++ sp) 41) (h1 : l1.length = 20) (hn : n = 20 + l2.length) (hs : n < 40) (hok : ∀ e ∈ l1 ++ l2, EvOk e) (hcap : n ≤ cap) (hmax : cap ≤ maxLen) :
    Calls Tryd.prog 32 #[.slice (some ⟨b, 0, none⟩) n cap, .int .i64 n, .func (.func 16) #[] #[]] w fun e w' => e = .returned (.tuple #[]) ∧ AllSorted w b sp (l1 ++ l2) w' := by
  have HI := Lib.hid (isort_any w b sp [] l1 l2 n cap 0 20 (by simpa using h) (by simp [h1]; omega) (by simp) (by simp [h1]) (fun e he => hok e (by simp [he])) (by omega) hcap hmax)
  have HOK := Lib.hid hok
  have HQ := Lib.hid (And.intro h1 (And.intro hn hmax))
  have hn2 : 20 ≤ n := by omega
  clear h h1 hn hok hmax
  have t1 : (20 : Int) ≤ (n : Int) := by omega
  have t2 : ¬ (40 : Int) ≤ (n : Int) := by omega
  have t3 : ¬ (40 : Int) < (n : Int) := by omega
  go_enter Tryd.func32, Tryd.ntmps32
  go_wp2_with fail
  go_loopg [7, 8] 1 (fun g s7 s8 wr => Blk1 w b sp l1 l2 g s7 s8 wr)
  case atStart => exact .inl ⟨rfl, rfl, rfl, Nat.le_refl _⟩
  case round =>
    rcases hrel with ⟨rfl, rfl, rfl, hg⟩ | ⟨rfl, rfl, k⟩
    · go_wp2_with fail
      refine HI.out.mono ?_
      rintro e w1 ⟨rfl, k⟩
      have K := Lib.hid k
      clear k HI
      go_wp2_with fail
      go_roundg 0
      case measure => omega
      case rel => exact .inr ⟨rfl, rfl, K.out⟩
    · obtain ⟨z1, p1, s1, k1⟩ := k
      have K1 := Lib.hid (And.intro p1 (And.intro s1 (And.intro k1 p1.length_eq)))
      have HI2 := Lib.hid (isort_any wr b sp z1 l2 [] n cap 20 n (by simpa using k1.row) (by have := HQ.out; have := p1.length_eq; simp; omega) (by have := HQ.out; have := p1.length_eq; omega) (by have := HQ.out; have := p1.length_eq; omega) (fun e he => HOK.out e (by simp [he])) (by omega) hcap HQ.out.2.2)
      clear p1 s1 k1 HI
      go_wp2_with fail
      refine HI2.out.mono ?_
      rintro e w2 ⟨rfl, z2, p2, s2, k2⟩
      have K2 := Lib.hid (And.intro p2 (And.intro s2 (And.intro (show SW w b sp (z1 ++ z2) w2 by simpa using K1.out.2.2.1.on k2) p2.length_eq)))
      clear p2 s2 k2 HI2
      go_wp2_with fail
      go_loopg [6, 7, 8, 9] 1 (fun g s6 s7 s8 s9 wx => Blk2 w b sp (l1 ++ l2) w2 g s6 wx)
      case atStart => exact .inl ⟨rfl, rfl, Nat.le_refl _⟩
      case round =>
        rcases hrel with ⟨rfl, rfl, hg⟩ | ⟨rfl, k⟩
        · by_cases hlt : 20 < n
          · have t4 : (20 : Int) < (n : Int) := by omega
            have HM := Lib.hid (sym_parts n w2 b sp [] z1 z2 [] n cap 0 20 n (by simpa using K2.out.2.2.1.row) (by have := HQ.out; have := K1.out.2.2.2; have := K2.out.2.2.2; simp; omega) rfl (by have := HQ.out; have := K1.out.2.2.2; simp; omega) (by have := HQ.out; have := K1.out.2.2.2; have := K2.out.2.2.2; simp; omega) (by have := HQ.out; have := K1.out.2.2.2; omega) (by have := HQ.out; have := K2.out.2.2.2; omega) (by have := HQ.out; have := K1.out.2.2.2; have := K2.out.2.2.2; omega)
              (fun e he => HOK.out e (by
                rcases List.mem_append.1 he with k | k
                · exact List.mem_append.2 (.inl (K1.out.1.mem_iff.1 k))
                · exact List.mem_append.2 (.inr (K2.out.1.mem_iff.1 k)))) K1.out.2.1 K2.out.2.1 (by omega) hcap HQ.out.2.2)
            go_wp2_with fail
            go_loopg [7, 8] 0 (fun g s7 s8 wx => s7 = .int .i64 0 ∧ s8 = .int .i64 40 ∧ w2 = wx)
            case atStart => exact ⟨rfl, rfl, rfl⟩
            case round =>
              obtain ⟨rfl, rfl, rfl⟩ := hrel
              go_wp2_with fail
              refine HM.out.mono ?_
              rintro e w3 ⟨rfl, z, p, s, k⟩
              have K3 : Hid (AllSorted w b sp (l1 ++ l2) w3) := Lib.hid ⟨z, p.trans (K1.out.1.append K2.out.1), s, by simpa using K2.out.2.2.1.on k⟩
              clear p s k HM
              go_wp2_with fail
              go_roundg 0
              case measure => omega
              case rel => exact .inr ⟨rfl, K3.out⟩
          · have t4 : ¬ (20 : Int) < (n : Int) := by omega
            go_wp2_with fail
            go_end0
            have e2 : z2 = [] := List.eq_nil_of_length_eq_zero (by have := HQ.out; have := K2.out.2.2.2; omega)
            refine ⟨rfl, z1 ++ z2, K1.out.1.append K2.out.1, ?_, K2.out.2.2.1⟩
            rw [e2, List.append_nil]; exact K1.out.2.1
        · have K := Lib.hid k
          clear k
          go_wp2_with fail
          go_end0
          exact ⟨rfl, K.out⟩
theorem stable_any (w : World) (b : Nat) (sp : List Value) (l : List Ev) (n cap : Nat) (h : Bk w b (l.flatMap evC ++ sp) 41) (hn : l.length = n) (hs : n < 40) (hok : ∀ e ∈ l, EvOk e) (hcap : n ≤ cap) (hmax : cap ≤ maxLen) :
    Calls Tryd.prog 32 #[.slice (some ⟨b, 0, none⟩) n cap, .int .i64 n, .func (.func 16) #[] #[]] w fun e w' => e = .returned (.tuple #[]) ∧ AllSorted w b sp l w' := by
  by_cases h20 : n < 20
  · exact stable_small w b sp l n cap h hn h20 hok hcap hmax
  · obtain ⟨l1, l2, rfl, h1⟩ : ∃ l1 l2, l = l1 ++ l2 ∧ l1.length = 20 := ⟨l.take 20, l.drop 20, (List.take_append_drop 20 l).symm, by simp; omega⟩
    exact stable_big w b sp l1 l2 n cap h h1 (by simp at hn; omega) hs hok hcap hmax
def Blk3 (w : World) (b : Nat) (sp : List Value) (l1 l2 l3 : List Ev) (g : Nat) (s7 s8 : Value) (wr : World) : Prop :=
  (s7 = .int .i64 0 ∧ s8 = .int .i64 20 ∧ w = wr ∧ 2 ≤ g) ∨ (s7 = .int .i64 20 ∧ s8 = .int .i64 40 ∧ Sorted w b sp [] l1 (l2 ++ l3) wr ∧ 1 ≤ g) ∨
  (s7 = .int .i64 40 ∧ s8 = .int .i64 60 ∧ ∃ z1 z2, z1.Perm l1 ∧ z2.Perm l2 ∧ Srt ltE z1 ∧ Srt ltE z2 ∧ SW w b sp (z1 ++ (z2 ++ l3)) wr)
def Blk4 (w : World) (b : Nat) (sp : List Value) (z1 z2 z3 l : List Ev) (w3 : World) (g : Nat) (s6 : Value) (wr : World) : Prop :=
  (s6 = .int .i64 20 ∧ w3 = wr ∧ 2 ≤ g) ∨ (s6 = .int .i64 40 ∧ (∃ z, z.Perm (z1 ++ z2) ∧ Srt ltE z ∧ SW w b sp (z ++ z3) wr) ∧ 1 ≤ g) ∨ (s6 = .int .i64 80 ∧ AllSorted w b sp l wr)
def Blk5 (w : World) (b : Nat) (sp : List Value) (z1 z2 z3 : List Ev) (w3 : World) (g : Nat) (s7 s8 : Value) (wr : World) : Prop :=
  (s7 = .int .i64 0 ∧ s8 = .int .i64 40 ∧ w3 = wr ∧ 1 ≤ g) ∨ (s7 = .int .i64 40 ∧ s8 = .int .i64 80 ∧ ∃ z, z.Perm (z1 ++ z2) ∧ Srt ltE z ∧ SW w b sp (z ++ z3) wr)
set_option maxHeartbeats 8000000 in
theorem stable_great (w : World) (b : Nat) (sp : List Value) (l1 l2 l3 : List Ev) (n cap : Nat) (h : Bk w b ((l1 ++ (l2 ++ l3)).flatMap evC ++ sp) 41) (h1 : l1.length = 20) (h2 : l2.length = 20) (hn : n = 40 + l3.length) (hs : n < 60) (hok : ∀ e ∈ l1 ++ (l2 ++ l3), EvOk e) (hcap : n ≤ cap) (hmax : cap ≤ maxLen) :
    Calls Tryd.prog 32 #[.slice (some ⟨b, 0, none⟩) n cap, .int .i64 n, .func (.func 16) #[] #[]] w fun e w' => e = .returned (.tuple #[]) ∧ AllSorted w b sp (l1 ++ (l2 ++ l3)) w' := by
  have HI := Lib.hid (isort_any w b sp [] l1 (l2 ++ l3) n cap 0 20 (by simpa using h) (by simp [h1, h2]; omega) (by simp) (by simp [h1]) (fun e he => hok e (by simp [he])) (by omega) hcap hmax)
  have HOK := Lib.hid hok
  have HQ := Lib.hid (And.intro h1 (And.intro h2 (And.intro hn hmax)))
  have hn2 : 40 ≤ n := by omega
  clear h h1 h2 hn hok hmax
  have t0 : (20 : Int) ≤ (n : Int) := by omega
  have t1 : (40 : Int) ≤ (n : Int) := by omega
  have t2 : ¬ (60 : Int) ≤ (n : Int) := by omega
  have t3 : (20 : Int) < (n : Int) := by omega
  have t5 : ¬ (60 : Int) < (n : Int) := by omega
  have t6 : ¬ (80 : Int) ≤ (n : Int) := by omega
  have t7 : ¬ (80 : Int) < (n : Int) := by omega
  go_enter Tryd.func32, Tryd.ntmps32
  go_wp2_with fail
  go_loopg [7, 8] 2 (fun g s7 s8 wr => Blk3 w b sp l1 l2 l3 g s7 s8 wr)
  case atStart => exact .inl ⟨rfl, rfl, rfl, Nat.le_refl _⟩
  case round =>
    rcases hrel with ⟨rfl, rfl, rfl, hg⟩ | ⟨rfl, rfl, k, hg⟩ | ⟨rfl, rfl, k⟩
    · go_wp2_with fail
      refine HI.out.mono ?_
      rintro e w1 ⟨rfl, k⟩
      have K := Lib.hid k
      clear k HI
      go_wp2_with fail
      go_roundg 1
      case measure => omega
      case rel => exact .inr (.inl ⟨rfl, rfl, K.out, Nat.le_refl _⟩)
    · obtain ⟨z1, p1, s1, k1⟩ := k
      have K1 := Lib.hid (And.intro p1 (And.intro s1 (And.intro k1 p1.length_eq)))
      have HI2 := Lib.hid (isort_any wr b sp z1 l2 l3 n cap 20 40 (by simpa using k1.row) (by have := HQ.out; have := p1.length_eq; omega) (by have := HQ.out; have := p1.length_eq; omega) (by have := HQ.out; have := p1.length_eq; omega) (fun e he => HOK.out e (by simp [he])) (by omega) hcap HQ.out.2.2.2)
      clear p1 s1 k1 HI
      go_wp2_with fail
      refine HI2.out.mono ?_
      rintro e w2 ⟨rfl, z2, p2, s2, k2⟩
      have K2 := Lib.hid (And.intro p2 (And.intro s2 (show SW w b sp (z1 ++ (z2 ++ l3)) w2 by simpa using K1.out.2.2.1.on k2)))
      clear p2 s2 k2 HI2
      go_wp2_with fail
      go_roundg 0
      case measure => omega
      case rel => exact .inr (.inr ⟨rfl, rfl, z1, z2, K1.out.1, K2.out.1, K1.out.2.1, K2.out.2.1, K2.out.2.2⟩)
    · obtain ⟨z1, z2, p1, p2, s1, s2, k2⟩ := k
      have K2 := Lib.hid (And.intro p1 (And.intro p2 (And.intro s1 (And.intro s2 (And.intro k2 (And.intro p1.length_eq p2.length_eq))))))
      have HI3 := Lib.hid (isort_any wr b sp (z1 ++ z2) l3 [] n cap 40 n (by simpa using k2.row) (by have := HQ.out; have := p1.length_eq; have := p2.length_eq; simp; omega) (by have := HQ.out; have := p1.length_eq; have := p2.length_eq; simp; omega) (by have := HQ.out; have := p1.length_eq; have := p2.length_eq; simp; omega) (fun e he => HOK.out e (by simp [he])) (by omega) hcap HQ.out.2.2.2)
      clear p1 p2 s1 s2 k2 HI
      go_wp2_with fail
      refine HI3.out.mono ?_
      rintro e w3 ⟨rfl, z3, p3, s3, k3⟩
      have K3 := Lib.hid (And.intro p3 (And.intro s3 (And.intro (show SW w b sp (z1 ++ (z2 ++ z3)) w3 by simpa using K2.out.2.2.2.2.1.on k3) p3.length_eq)))
      clear p3 s3 k3 HI3
      have HM1 := Lib.hid (sym_parts n w3 b sp [] z1 z2 z3 n cap 0 20 40 (by simpa using K3.out.2.2.1.row) (by have := HQ.out; have := K2.out; have := K3.out; simp; omega) rfl (by have := HQ.out; have := K2.out; simp; omega) (by have := HQ.out; have := K2.out; simp; omega) (by have := HQ.out; have := K2.out; omega) (by have := HQ.out; have := K2.out; omega) (by have := HQ.out; have := K2.out; omega)
        (fun e he => HOK.out e (by
          rcases List.mem_append.1 he with k | k
          · exact List.mem_append.2 (.inl (K2.out.1.mem_iff.1 k))
          · exact List.mem_append.2 (.inr (List.mem_append.2 (.inl (K2.out.2.1.mem_iff.1 k)))))) K2.out.2.2.1 K2.out.2.2.2.1 (by omega) hcap HQ.out.2.2.2)
      go_wp2_with fail
      go_loopg [6, 7, 8, 9] 2 (fun g s6 s7 s8 s9 wx => Blk4 w b sp z1 z2 z3 (l1 ++ (l2 ++ l3)) w3 g s6 wx)
      case atStart => exact .inl ⟨rfl, rfl, Nat.le_refl _⟩
      case round =>
        rcases hrel with ⟨rfl, rfl, hg⟩ | ⟨rfl, k, hg⟩ | ⟨rfl, k⟩
        · go_wp2_with fail
          go_loopg [7, 8] 1 (fun g s7 s8 wx => Blk5 w b sp z1 z2 z3 w3 g s7 s8 wx)
          case atStart => exact .inl ⟨rfl, rfl, rfl, Nat.le_refl _⟩
          case round =>
            rcases hrel with ⟨rfl, rfl, rfl, hg⟩ | ⟨rfl, rfl, k⟩
            · go_wp2_with fail
              refine HM1.out.mono ?_
              rintro e w4 ⟨rfl, z, p, s, k⟩
              have K4 := Lib.hid (And.intro p (And.intro s (show SW w b sp (z ++ z3) w4 by simpa using K3.out.2.2.1.on (show SW w3 b sp _ w4 from by simpa using k))))
              clear p s k HM1
              go_wp2_with fail
              go_roundg 0
              case measure => omega
              case rel => exact .inr ⟨rfl, rfl, z, K4.out.1, K4.out.2.1, K4.out.2.2⟩
            · have K5 := Lib.hid k
              clear k HM1
              go_wp2_with fail
              go_roundg 1
              case measure => omega
              case rel => exact .inr (.inl ⟨rfl, K5.out, Nat.le_refl _⟩)
        · obtain ⟨z, p, s, k⟩ := k
          have K4 := Lib.hid (And.intro p (And.intro s (And.intro k p.length_eq)))
          clear p s k HM1
          by_cases hlt : 40 < n
          · have t4 : (40 : Int) < (n : Int) := by omega
            have HM2 := Lib.hid (sym_parts n wr b sp [] z z3 [] n cap 0 40 n (by simpa using K4.out.2.2.1.row) (by have k1 := HQ.out; have k2 := K2.out.2.2.2.2.2; have k3 := K3.out.2.2.2; have k4 := K4.out.2.2.2; simp at k4 ⊢; omega) rfl (by have k1 := HQ.out; have k2 := K2.out.2.2.2.2.2; have k3 := K3.out.2.2.2; have k4 := K4.out.2.2.2; simp at k4 ⊢; omega) (by have k1 := HQ.out; have k2 := K2.out.2.2.2.2.2; have k3 := K3.out.2.2.2; have k4 := K4.out.2.2.2; simp at k4 ⊢; omega) (by have k1 := HQ.out; have k2 := K2.out.2.2.2.2.2; have k4 := K4.out.2.2.2; simp at k4; omega) (by have k1 := HQ.out; have k3 := K3.out.2.2.2; omega) (by have k1 := HQ.out; have k2 := K2.out.2.2.2.2.2; have k3 := K3.out.2.2.2; have k4 := K4.out.2.2.2; simp at k4; omega)
              (fun e he => HOK.out e (by
                rcases List.mem_append.1 he with k | k
                · rcases List.mem_append.1 (K4.out.1.mem_iff.1 k) with k | k
                  · exact List.mem_append.2 (.inl (K2.out.1.mem_iff.1 k))
                  · exact List.mem_append.2 (.inr (List.mem_append.2 (.inl (K2.out.2.1.mem_iff.1 k))))
                · exact List.mem_append.2 (.inr (List.mem_append.2 (.inr (K3.out.1.mem_iff.1 k)))))) K4.out.2.1 K3.out.2.1 (by omega) hcap HQ.out.2.2.2)
            go_wp2_with fail
            go_loopg [7, 8] 0 (fun g s7 s8 wx => s7 = .int .i64 0 ∧ s8 = .int .i64 80 ∧ wr = wx)
            case atStart => exact ⟨rfl, rfl, rfl⟩
            case round =>
              obtain ⟨rfl, rfl, rfl⟩ := hrel
              go_wp2_with fail
              refine HM2.out.mono ?_
              rintro e w5 ⟨rfl, y, p, s, k⟩
              have K6 : Hid (AllSorted w b sp (l1 ++ (l2 ++ l3)) w5) := Lib.hid ⟨y, p.trans ((K4.out.1.append K3.out.1).trans (by rw [List.append_assoc]; exact K2.out.1.append (K2.out.2.1.append (List.Perm.refl _)))), s, by simpa using K4.out.2.2.1.on k⟩
              clear p s k HM2
              go_wp2_with fail
              go_roundg 0
              case measure => omega
              case rel => exact .inr (.inr ⟨rfl, K6.out⟩)
          · have t4 : ¬ (40 : Int) < (n : Int) := by omega
            go_wp2_with fail
            go_end0
            have e3 : z3 = [] := List.eq_nil_of_length_eq_zero (by have := HQ.out; have := K3.out.2.2.2; omega)
            have e4 : l3 = [] := List.eq_nil_of_length_eq_zero (by have := HQ.out; omega)
            refine ⟨rfl, z ++ z3, ?_, ?_, K4.out.2.2.1⟩
            · rw [e3, e4, List.append_nil, List.append_nil]; exact K4.out.1.trans (K2.out.1.append K2.out.2.1)
            · rw [e3, List.append_nil]; exact K4.out.2.1
        · have K := Lib.hid k
          clear k HM1
          go_wp2_with fail
          go_end0
          exact ⟨rfl, K.out⟩
theorem stable_all (w : World) (b : Nat) (sp : List Value) (l : List Ev) (n cap : Nat) (h : Bk w b (l.flatMap evC ++ sp) 41) (hn : l.length = n) (hs : n < 60) (hok : ∀ e ∈ l, EvOk e) (hcap : n ≤ cap) (hmax : cap ≤ maxLen) :
    Calls Tryd.prog 32 #[.slice (some ⟨b, 0, none⟩) n cap, .int .i64 n, .func (.func 16) #[] #[]] w fun e w' => e = .returned (.tuple #[]) ∧ AllSorted w b sp l w' := by
  by_cases h40 : n < 40
  · exact stable_any w b sp l n cap h hn h40 hok hcap hmax
  · obtain ⟨l1, l2, l3, rfl, h1, h2⟩ : ∃ l1 l2 l3, l = l1 ++ (l2 ++ l3) ∧ l1.length = 20 ∧ l2.length = 20 := ⟨l.take 20, (l.drop 20).take 20, (l.drop 20).drop 20, by rw [List.take_append_drop, List.take_append_drop], by simp; omega, by simp; omega⟩
    exact stable_great w b sp l1 l2 l3 n cap h h1 h2 (by simp at hn; omega) hs hok hcap hmax
end Es
end Go.Proofs.YtbhghelegonbbaaDoor
namespace Go.Proofs.YtbhghelegonbbaaDoor
open Go.RowKit Go.ChangeShapes Go.WideShapes
set_option linter.unusedVariables false
set_option linter.unusedSimpArgs false
namespace Tl
open Es Rk
abbrev MkE (w0 wr : World) (u : Value) (xs : List Ev) : Prop := MkG 41 8 evC w0 wr u xs
theorem clone_any (b : Option Addr) (n cap : Nat) (l : List Ev) (w : World) (hi : InW w b 8 (l.map evC)) (hn : n = l.length) (h1000 : n ≤ 1000) :
    Calls Tryd.prog 14 #[.slice b n cap] w fun e w' => ∃ v, e = .returned v ∧ MkE w w' v l := by
  obtain ⟨i0, hi0, hz0, hz1, hz2⟩ := tinfo infoEv
  cases b with
  | none =>
    have hl : l = [] := by
      rcases hi with h | ⟨B, off, h, _⟩
      · exact List.map_eq_nil_iff.1 h
      · cases h
    subst hl
    obtain rfl : n = 0 := hn
    clear hi0 hz0 hz1 hz2
    have hq : Sem.run Tryd.prog (binOp BinOp.eql 23 (.slice none 0 cap) (.slice none 0 0)) w = .ok (.bool true) w := by kernel_rfl
    go_enter Tryd.func14, Tryd.ntmps14
    go_wp2_with fail
    go_ret
    exact ⟨_, rfl, MkG.nil w⟩
  | some a =>
    have ME := Lib.hid (MkG.empty (t := 41) (sz := 8) (f := evC) w)
    have HI := Lib.hid (InW.bel hi ME.out.bl)
    have HN := Lib.hid hn
    have HL : Hid (([] : List Ev).length + l.length ≤ 1000000) := Lib.hid (by simp; omega)
    clear hi hn
    have hq : Sem.run Tryd.prog (binOp BinOp.eql 23 (.slice (some a) n cap) (.slice none 0 0)) w = .ok (.bool false) w := by kernel_rfl
    go_enter Tryd.func14, Tryd.ntmps14
    go_wp2_with (at_builtin; refine wpList_append_m evLen evOne _ rfl _ _ _ rfl 41 i0 _ 96 Tryd.underlying23 hi0 hz0 hz1 hz2 rfl (by decide) (by omega) _ [] l rfl ME.out.tx (some a) n cap rfl HN.out HI.out HL.out ?_; intro v4 w4 o4 f4 h4)
    have M4 := Lib.hid (ME.out.more o4 f4 h4)
    clear o4 f4 h4 ME HI
    go_wp2_with fail
    go_ret
    exact ⟨_, rfl, M4.out⟩
/-- a row, whole -/
theorem row_whole {w0 w : World} {v : Value} {l : List Ev} (h : MkE w0 w v l) : (v = .slice none 0 0 ∧ l = []) ∨ ∃ g cap sp, v = .slice (some ⟨g, 0, none⟩) l.length cap ∧ w0.heap.size ≤ g ∧ l.length ≤ cap ∧ cap ≤ maxLen ∧ Bk w g (l.flatMap evC ++ sp) 41 := by
  rcases h.tx.2 with ⟨h1, h2⟩ | ⟨g, cap, cur, rfl, _, h3, h4, h5, h6, h7⟩
  · exact .inl ⟨h1, List.eq_nil_of_length_eq_zero h2⟩
  · refine .inr ⟨g, cap, cur.toList.drop (l.length * 8), rfl, h.nw g rfl, h4, h5, ?_⟩
    rw [← h7, List.take_append_drop]
    simpa [Bk] using h3
theorem isort_none (w : World) (n cap a : Nat) (fv : Value) (hb : a ≤ 1000) :
    Calls Tryd.prog 48 #[.slice none n cap, .int .i64 a, .int .i64 a, fv] w fun e w' => e = .returned (.tuple #[]) ∧ w = w' := by
  go_enter Tryd.func48, Tryd.ntmps48
  go_wp2_with fail
  go_loopg [8] 0 (fun g1 vi wr => vi = .int .i64 ((a : Int) + 1) ∧ w = wr)
  case atStart => exact ⟨by first | rfl | go_num, rfl⟩
  case round =>
    obtain ⟨rfl, rfl⟩ := hrel
    have t : ¬ (a : Int) + 1 < (a : Int) := by omega
    go_wp2_with fail
    go_end0
    exact ⟨rfl, rfl⟩
theorem stable_none (w : World) :
    Calls Tryd.prog 32 #[.slice none 0 0, .int .i64 0, .func (.func 16) #[] #[]] w fun e w' => e = .returned (.tuple #[]) ∧ w = w' := by
  have HI := Lib.hid (isort_none w 0 0 0 (.func (.func 16) #[] #[]) (by omega))
  rw [Int.natCast_zero] at HI
  go_enter Tryd.func32, Tryd.ntmps32
  go_wp2_with fail
  go_loopg [7, 8] 0 (fun g s7 s8 wr => s7 = .int .i64 0 ∧ s8 = .int .i64 20 ∧ w = wr)
  case atStart => exact ⟨rfl, rfl, rfl⟩
  case round =>
    obtain ⟨rfl, rfl, rfl⟩ := hrel
    go_wp2_with fail
    refine HI.out.mono ?_
    rintro e w1 ⟨rfl, rfl⟩
    clear HI
    go_wp2_with fail
    go_loopg [6, 7, 8, 9] 0 (fun g s6 s7 s8 s9 wr => s6 = .int .i64 20 ∧ w = wr)
    case atStart => exact ⟨rfl, rfl⟩
    case round =>
      obtain ⟨rfl, rfl⟩ := hrel
      go_wp2_with fail
      go_end0
      exact ⟨rfl, rfl⟩
/-- a slice of the call's own, sorted in place -/
def SortedAt (w0 : World) (v : Value) (l : List Ev) (w' : World) : Prop := ∃ z, z.Perm l ∧ Srt ltE z ∧ MkE w0 w' v z
theorem sort_any (w0 w : World) (v : Value) (l : List Ev) (h : MkE w0 w v l) (hs : l.length < 60) (hok : ∀ e ∈ l, EvOk e) :
    Calls Tryd.prog 15 #[v, .func (.func 16) #[] #[]] w fun e w' => e = .returned (.tuple #[]) ∧ SortedAt w0 v l w' := by
  rcases row_whole h with ⟨rfl, rfl⟩ | ⟨g, cap, sp, rfl, h1, h2, h3, h4⟩
  · have HS := Lib.hid (stable_none w)
    have H := Lib.hid h
    clear h hok hs
    go_enter Tryd.func15, Tryd.ntmps15
    go_wp2_with fail
    refine HS.out.mono ?_
    rintro e w1 ⟨rfl, rfl⟩
    go_wp2_with fail
    go_end0
    exact ⟨rfl, [], List.Perm.refl _, List.Pairwise.nil, H.out⟩
  · obtain ⟨n, hn⟩ : ∃ n, l.length = n := ⟨_, rfl⟩
    have HS := Lib.hid (stable_all w g sp l n cap h4 hn (by omega) hok (by omega) h3)
    have HQ := Lib.hid (And.intro h (And.intro h1 (And.intro h2 (And.intro h3 (And.intro h4 hn)))))
    rw [hn]
    rw [hn] at hs
    have h1000 : n ≤ cap := by omega
    unfold maxLen at h3
    clear h h1 h2 h4 hok hn
    go_enter Tryd.func15, Tryd.ntmps15
    go_wp2_with fail
    refine HS.out.mono ?_
    rintro e w1 ⟨rfl, z, p, s, k⟩
    have K := Lib.hid (And.intro p (And.intro s k))
    clear p s k HS
    go_wp2_with fail
    go_end0
    obtain ⟨q1, q2, q3, q4, q5, q6⟩ := HQ.out
    obtain ⟨p, s, k⟩ := K.out
    have hzl := p.length_eq
    refine ⟨rfl, z, p, s, ?_, ?_, ?_⟩
    · refine ⟨by rw [flat_len evLen], .inr ⟨g, cap, ((z.flatMap evC) ++ sp).toArray, by rw [hzl, q6], Nat.zero_le _, k.row, by omega, q4, ?_, ?_⟩⟩
      · rcases row_whole q1 with ⟨c, _⟩ | ⟨g', cap', sp', e1, _, _, _, e2⟩
        · cases c
        · rcases q1.tx.2 with ⟨c, _⟩ | ⟨g2, cap2, cur, e3, _, h3', h4', h5', h6', h7'⟩
          · cases c
          · cases e3
            have e4 : cur = (l.flatMap evC ++ sp).toArray := by
              have := q5
              unfold Bk at this
              rw [h3'] at this
              injection this with this
              injection this
            rw [e4] at h6'
            simp only [List.size_toArray, List.length_append, flat_len evLen] at h6' ⊢
            omega
      · simp [flat_len evLen, List.take_left' (flat_len evLen z)]
    · intro b hb
      exact q1.nw b hb
    · exact q1.bl.trans (k.fr.below q1.bl.size (fun b e => by subst e; exact q2))

end Tl
end Go.Proofs.YtbhghelegonbbaaDoor

/- For every input ciceronelaw13.DistinctParts returns true, and its arguments read behind the call as before. No conditions. -/
import Derived.Test.YtipblbmpckfigaaDMerge
import Derived.Test.YtipblbmpckfigaaRowAny
import Derived.Test.YtipblbmpckfigaaRows
import Derived.ProofKit
import Derived.OpenShut
import Derived.ShutString
import Derived.ChangeOld
import Derived.Below
import Derived.Lib.SmallJoins
namespace Go.Proofs.Ytipblbmpckfigaa.distinctParts
open Go.ChangeShapes Go.WideShapes Go.ChangeAt Go.RowKit Go.Joins
open Go.ChangeMaps (open_string shut_string)
set_option linter.unusedVariables false

open Dist
section
variable {H : Type} {enc : TypeId × Value → H} {W : World}
theorem open_cuts {r : Reach} {b0 : Nat} {v : Value} {d : DataW H} {p : List MemPlace} (hval : Value.okWide Try.prog W r b0 43 v) (h : DataW.Trod enc Try.prog W 0 (fun _ => true) true 43 v d p) :
    ∃ (b : Option Addr) (cap : Nat) (xs : List Int), v = .slice b xs.length cap ∧ xs.length ≤ cap ∧ cap ≤ maxLen ∧ InW W b 1 (xs.map fun x => [.int .u8 x]) ∧ ∀ x ∈ xs, (Lit.int .u8 x).wf = true :=
  open_ints Try.underlying43 Try.underlying5 (by kernel_rfl) hval h
end
theorem infoB : (Try.prog.info? 5).map (fun i => (i.zero, i.size, i.bytes)) = some (some (.int .u8 0), 1, 1) := by kernel_rfl
/-- a part more -/
theorem parts_next (xs : List ByteArray) (a E : Nat) (h : a ≤ E) : allOf (allOf (hs ((xs.drop a).take (E - a))) []) (allOf (hs (xs.take a)) []) = allOf (hs (xs.take E)) [] := by
  have e : xs.take E = xs.take a ++ (xs.drop a).take (E - a) := by
    obtain ⟨d, rfl⟩ := Nat.exists_eq_add_of_le h
    rw [List.take_add, Nat.add_sub_cancel_left]
  refine up_ext (up_all _ (up_all _ up_nil)) (up_all _ up_nil) fun x => ?_
  rw [mem_all, mem_all, mem_all, mem_all, e]
  simp only [hs, List.map_append, List.mem_append]
  constructor
  · rintro ((h | h) | (h | h))
    · exact .inl (.inr h)
    · cases h
    · exact .inl (.inl h)
    · cases h
  · rintro ((h | h) | h)
    · exact .inr (.inl h)
    · exact .inl (.inl h)
    · cases h
theorem cuts_row {w : World} {e : TypeId} {v : Value} {n nz : Nat} {ys zs : List Int} (hz : ys ++ [255] = zs) (hn : zs.length = nz) (h : w.ownsRow 0 e 1 v n (([] ++ ys).map (Value.int .u8) ++ [.int .u8 255])) : ∃ b cap, v = .slice b nz cap ∧ nz ≤ cap ∧ cap ≤ maxLen ∧ w.ownsRow 0 e 1 (.slice b nz cap) nz (zs.map (Value.int .u8)) := by
  have h1 : w.ownsRow 0 e 1 v n (zs.map (Value.int .u8)) := by rw [← hz]; simpa using h
  obtain ⟨b, cap, rfl, h2, h3, h4, rfl⟩ := inw_of_row (Value.int .u8) h1
  subst hn
  exact ⟨b, cap, rfl, h2, h3, h1⟩
theorem part_last (xs : List ByteArray) : (xs.drop xs.length).take (xs.length - xs.length) = [] := by simp
set_option maxHeartbeats 2000000 in
set_option maxRecDepth 100000 in
theorem walk_full (w : World) (k : Int) (wk : (Lit.int .i64 k).wf = true) (b : Option Addr) (cap : Nat) (xs : List ByteArray) (hl : xs.length ≤ cap) (hm : cap ≤ maxLen) (hi : InW w b 1 (xs.map fun s => [.string s])) (ho : ∀ s ∈ xs, s.size ≤ maxLen)
    (b2 : Option Addr) (c2 : Nat) (ys : List Int) (l2 : ys.length ≤ c2) (m2 : c2 ≤ maxLen) (i2 : InW w b2 1 (ys.map fun x => [.int .u8 x])) (o2 : ∀ x ∈ ys, (Lit.int .u8 x).wf = true) (hlong : longB xs = false) (h20 : ¬ 20 < ys.length) (hcn : cap = xs.length) :
    Calls Try.prog 9 #[.int .i64 k, .slice b xs.length cap, .slice b2 ys.length c2] w fun e w' => e = .returned (.bool true) ∧ Below w.heap.size w w' := by
  subst hcn
  have HLo := Lib.hid (long_any b xs.length xs w hi hm hl ho)
  unfold maxLen at hm m2
  rw [hlong] at HLo
  have hsh := (short_of hlong).1
  clear hlong
  have HF := Lib.hid (fill_any k b xs.length xs w hi ho (by omega))
  have HN := Lib.hid (fun w => New_any k w)
  have HE : Hid (∀ wx b' c', Calls Try.prog 23 #[.int .i64 k, .slice b' 0 c'] wx (FillPost (sizeK k) [] wx)) := fun wx b' c' => fill_any k b' c' [] wx (Or.inl rfl) (fun _ h => by cases h) (by simp)
  have HP : Hid (∀ wx b' c' a E d, a ≤ E → E ≤ xs.length → E - a = d → Strs wx b' (xs.drop a) → Calls Try.prog 23 #[.int .i64 k, .slice b' d c'] wx (FillPost (sizeK k) ((xs.drop a).take d) wx)) := by
    intro wx b' c' a E d h1 h2 h3 h4
    have h5 := fill_any k b' c' ((xs.drop a).take d) wx (h4.take _) (fun s hs => ho s (List.mem_of_mem_drop (List.mem_of_mem_take hs))) (by rw [List.length_take]; omega)
    have h6 : ((xs.drop a).take d).length = d := by rw [List.length_take, List.length_drop]; omega
    rwa [h6] at h5
  have hLl : (allOf (hs xs) []).length ≤ 1000000 := by have := all_length (hs xs) []; have h2 : (hs xs).length = xs.length := List.length_map _; simp only [List.length_nil] at this; omega
  obtain ⟨i0, hi0, hz0, hz1, hz2⟩ := info_parts infoB
  obtain ⟨zs, hzs⟩ : ∃ zs, ys ++ [255] = zs := ⟨_, rfl⟩
  have hzl : zs.length = ys.length + 1 := by rw [← hzs]; simp
  have HZb : Hid (∀ x ∈ zs, 0 ≤ x ∧ x ≤ 255) := fun x hx => by
    rw [← hzs] at hx
    rcases List.mem_append.1 hx with h | h
    · exact bounds_u8 (o2 x h)
    · cases List.mem_singleton.1 h; omega
  have HZ := Lib.hid hzs
  clear hzs
  obtain ⟨nz, hnz⟩ : ∃ nz, zs.length = nz := ⟨_, rfl⟩
  rw [hnz] at hzl
  have Hnz := Lib.hid hnz
  clear hnz
  generalize hn : xs.length = n at *
  have Hn := Lib.hid hn
  clear hn
  generalize hny : ys.length = m at *
  have Hny := Lib.hid hny
  clear hny
  have hnz21 : nz ≤ 21 := by omega
  clear hzl
  generalize sizeK k = K at *
  go_enter Try.func9, Try.ntmps9
  go_wp2_with fail
  refine HLo.out.mono ?_
  rintro e w1 ⟨rfl, rfl⟩
  go_wp2_with fail
  refine HF.out.mono ?_
  rintro e w1 ⟨va, rfl, CA, hva, B1⟩
  go_wp2_with fail
  refine (HN.out _).mono ?_
  rintro e w2 ⟨rfl, CB, hw2⟩
  have b12 : Below w1.heap.size w1 w2 := by rw [hw2]; exact (Below.refl _ _).alloc (Nat.le_refl _) _
  have hNM : w.heap.size < w1.heap.size := CA.lt.1
  have hvM : ∀ b, va.ownBlock = some b → b < w1.heap.size := fun b hb => (CA.lt.2 b hb).1
  replace CA := CA.bel b12
  have B2 : Below w.heap.size w w2 := B1.trans (b12.mono B1.size)
  obtain ⟨M, hM⟩ : ∃ M, w1.heap.size = M := ⟨_, rfl⟩
  rw [hM] at CB hNM hvM b12
  have hMs : M < w2.heap.size := CB.lt.1
  clear hw2 HF HN HLo B1 b12
  have Rs : (w2.alloc (.cells #[] 5)).ownsRow 0 5 1 (.slice (some ⟨w2.heap.size, 0, none⟩) 0 0) ([] : List Int).length (([] : List Int).map (Value.int .u8)) := World.ownsRow_made w2 #[] 0 (Nat.zero_le _) (by unfold maxLen; omega) rfl
  have Bs : Below w.heap.size w (w2.alloc (.cells #[] 5)) := B2.alloc B2.size _
  have fs : Fr none' w2 (w2.alloc (.cells #[] 5)) := (Fr.refl _ _).alloc _
  go_wp2_with (first
    | (at_builtin; refine wpList_append_any (Value.int .u8) (fun _ => rfl) _ rfl (.tmp 33) (.tmp 34) 43 rfl 5 i0 _ _ Try.underlying43 hi0 hz0 hz1 hz2 rfl (by decide) _ [] ys rfl Rs b2 m c2 rfl Hny.out.symm (InW.bel i2 Bs) (by have := Hny.out; simp only [List.length_nil]; omega) ?_; intro t1 w9 r9 f9 e9; have B9 : Below w.heap.size w w9 := Bs.trans (f9.below Bs.size (fun b hb => by cases hb; exact B2.size)))
    | (at_builtin; refine wpList_append_row _ rfl (.tmp 35) (.tmp 36) 43 rfl 5 i0 (.int .u8 0) 1 1 Try.underlying43 hi0 hz0 hz1 hz2 rfl (by decide) _ _ _ rfl (r9.alloc _) ⟨w9.heap.size, 0, none⟩ 1 1 [.int .u8 255] rfl rfl (cell_one_new _ _ _) (fun u hu => by cases List.mem_singleton.1 hu; rfl) (by have := Hny.out; simp only [List.nil_append]; unfold maxLen; omega) (by have := Hny.out; simp only [List.nil_append]; omega) ?_; intro t2 w10 r10 f10 e10; have RX := cuts_row HZ.out Hnz.out r10; obtain ⟨p2, q2, rfl, hq1, hq2, RZ0⟩ := RX)
    | fail)
  clear hM
  have h9 : ∀ b, t1.ownBlock = some b → w2.heap.size ≤ b := fun b hb => by
    rcases e9 with e | e
    · rw [e] at hb; cases hb; exact Nat.le_refl _
    · rw [e] at hb; cases hb; simp
  have s9 : w2.heap.size ≤ w9.heap.size := by have := f9.size; simp at this; omega
  have h10 : ∀ b, (Value.slice p2 nz q2).ownBlock = some b → w2.heap.size ≤ b := fun b hb => by
    rcases e10 with e | e
    · rw [e] at hb; exact h9 b hb
    · rw [e] at hb; cases hb; simp; omega
  have F10 : Fr none' w2 w10 := (((fs.trans f9 (fun b hb e => by cases e; exact absurd hb (Nat.lt_irrefl _))).alloc _).trans f10 (fun b hb e => by have := h9 b e; omega))
  have b10 : Below w2.heap.size w2 w10 := F10.below (Nat.le_refl _) (fun _ h => h.elim)
  replace CA := CA.bel b10
  replace CB := CB.bel b10
  have B10 : Below w.heap.size w w10 := B2.trans (b10.mono B2.size)
  have hr0 : ∀ b, (Value.slice p2 nz q2).ownBlock = some b → M < b ∧ (Value.slice none 0 0).ownBlock ≠ some b := fun b hb => ⟨by have := h10 b hb; omega, fun e => by cases e⟩
  clear r9 f9 e9 r10 f10 e10 h9 h10 F10 b10 B2 Bs fs Rs B9 s9 hMs
  unfold maxLen at hq2
  go_wp2_with fail
  go_loopg [9, 39] nz (fun gm s9 c wr => ∃ (i a : Nat) (L : List Int) (v : Value), i ≤ nz ∧ nz - i ≤ gm ∧ a ≤ n ∧ s9 = .int .i64 a ∧ c = .int .i64 i ∧ L = allOf (hs (xs.take a)) [] ∧ Cnt wr w.heap.size va K (allOf (hs xs) []) ∧ Cnt wr M v K L ∧ (∀ b, v.ownBlock = some b → M ≤ b) ∧ (∀ b, (Value.slice p2 nz q2).ownBlock = some b → M < b ∧ v.ownBlock ≠ some b) ∧ wr.ownsRow 0 5 1 (.slice p2 nz q2) nz (zs.map (Value.int .u8)) ∧ Below w.heap.size w wr)
  case atStart => exact ⟨0, 0, [], .slice none 0 0, by omega, by omega, by omega, rfl, rfl, rfl, CA, CB, (fun b hb => by cases hb), hr0, RZ0, B10⟩
  case round =>
    clear CA CB hr0 RZ0 B10
    obtain ⟨i, a, L, v, hin, hmi, han, rfl, rfl, hL, CA, CB, hv, hrw, RZ, hB⟩ := hrel
    have HLa := Lib.hid hL
    clear hL
    by_cases hlt : i < nz
    · obtain ⟨x, hx⟩ : ∃ x, zs[i]? = some x := ⟨zs[i]'(by have := Hnz.out; omega), List.getElem?_eq_getElem _⟩
      have hxb := HZb.out x (List.mem_of_getElem? hx)
      obtain ⟨p3, q3, e3, -, -, N3, -⟩ := inw_of_row (Value.int .u8) RZ
      rw [Hnz.out] at e3
      cases e3
      obtain ⟨Bz, oz, rfl, lz, cz⟩ := inw_at (Value.int .u8) N3 hx
      clear hx N3
      obtain ⟨y, rfl⟩ := Int.eq_ofNat_of_zero_le hxb.1
      obtain ⟨E, hE⟩ : ∃ E : Nat, min (a + y) n = E := ⟨_, rfl⟩
      have e1 : min ((a : Int) + (y : Int)) (n : Int) = (E : Int) := by omega
      have hE1 : a ≤ E := by omega
      have hE2 : E ≤ n := by omega
      have hy : y ≤ 255 := by omega
      have k1 : (a : Int) ≤ (E : Int) := by omega
      have k2 : (E : Int) ≤ (n : Int) := by omega
      have k3 : (i : Int) < (nz : Int) := by omega
      have RZl : ∀ b, (Value.slice (some ⟨Bz, oz, none⟩) nz q2).ownBlock = some b → b < wr.heap.size := fun b hb => (RZ.lt b hb).2
      have CBl : M < wr.heap.size ∧ ∀ b, v.ownBlock = some b → b < wr.heap.size := ⟨CB.lt.1, fun b hb => (CB.lt.2 b hb).1⟩
      clear hE hxb
      by_cases hal : a < n
      · have HPN := Lib.hid (parts_next xs a E hE1)
        obtain ⟨s0, hs0⟩ : ∃ s, xs[a]? = some s := ⟨xs[a]'(by have := Hn.out; omega), List.getElem?_eq_getElem _⟩
        obtain ⟨B, off, rfl, hBl, hc⟩ := Strs.at hi hs0
        clear hs0 hc
        have hne : ¬ n = a := by omega
        have HQ := Lib.hid (HP.out wr (some ⟨B, off + a, none⟩) (n - a) a E (E - a) hE1 hE2 rfl (Strs.drop (Strs.bel hi hB) a))
        generalize hpt : (xs.drop a).take (E - a) = pt at *
        clear hpt
        go_wp2_with fail
        refine HQ.out.mono ?_
        rintro e w5 ⟨vp, rfl, CP, hvp, bp⟩
        clear HQ
        replace CA := CA.bel bp
        replace CB := CB.bel bp
        have RZ5 := (Fr.of_bel (S := none') bp).row RZ (fun _ _ => id)
        have B5 : Below w.heap.size w w5 := hB.trans (bp.mono hB.size)
        have s5 := bp.size
        have hgM : M < wr.heap.size := CBl.1
        have hd : Disj M v wr.heap.size vp := ⟨by omega, fun e => by have := CBl.2 _ e; omega, fun e => by have := hvp _ e; omega, fun b h1 h2 => by have := CBl.2 b h1; have := hvp b h2; omega⟩
        clear bp RZ hB
        obtain ⟨gp, hgp⟩ : ∃ gp, wr.heap.size = gp := ⟨_, rfl⟩
        rw [hgp] at CP hd
        have MY := Lib.hid (merge_yes M gp K v vp L _ _ CB CP hd)
        rw [HLa.out, HPN.out] at MY
        rw [hgp]
        go_wp2_with fail
        clear hgp
        refine MY.out.mono ?_
        rintro e w7 ⟨v7, rfl, C7, F7, S7⟩
        have CA7 := CA.apart hNM hvM F7 hv
        have RZ7 := F7.row RZ5 (fun b hb e => by
          have h := hrw b hb
          rcases e with e | e
          · omega
          · exact h.2 e)
        have B7 : Below w.heap.size w w7 := B5.trans (F7.below B5.size (fun b hb => by rcases hb with rfl | hb; omega; have := hv b hb; omega))
        have hv7 : ∀ b, v7.ownBlock = some b → M ≤ b := fun b hb => by
          rcases S7 with e | ⟨c, e, hc⟩
          · rw [e] at hb; exact hv b hb
          · rw [e] at hb; cases hb; omega
        have hrw7 : ∀ b, (Value.slice (some ⟨Bz, oz, none⟩) nz q2).ownBlock = some b → M < b ∧ v7.ownBlock ≠ some b := fun b hb => by
          refine ⟨(hrw b hb).1, fun e => ?_⟩
          rcases S7 with e' | ⟨c, e', hc⟩
          · rw [e'] at e; exact (hrw b hb).2 e
          · rw [e'] at e; cases e; have := (RZl b hb); omega
        clear F7 S7 MY CA CB CP RZ5 B5 hd
        go_wp2_with fail
        go_roundg (nz - (i + 1))
        case measure => omega
        case rel => exact ⟨i + 1, E, _, v7, by omega, Nat.le_refl _, by omega, rfl, by go_num, rfl, CA7, C7, hv7, hrw7, RZ7, B7⟩
      · have hEa : E = n := by omega
        have haa : a = n := by omega
        subst hEa
        subst haa
        have HPN0 := parts_next xs a a (Nat.le_refl _)
        rw [Nat.sub_self, List.take_zero] at HPN0
        have HPN := Lib.hid HPN0
        clear HPN0
        obtain ⟨pt, hpt⟩ : ∃ pt : List ByteArray, pt = [] := ⟨_, rfl⟩
        rw [← hpt] at HPN HE
        have Hpt := Lib.hid hpt
        clear hpt
        go_wp2_with fail
        refine (HE.out _ _ _).mono ?_
        rintro e w5 ⟨vp, rfl, CP, hvp, bp⟩
        replace CA := CA.bel bp
        replace CB := CB.bel bp
        have RZ5 := (Fr.of_bel (S := none') bp).row RZ (fun _ _ => id)
        have B5 : Below w.heap.size w w5 := hB.trans (bp.mono hB.size)
        have s5 := bp.size
        have hgM : M < wr.heap.size := CBl.1
        have hd : Disj M v wr.heap.size vp := ⟨by omega, fun e => by have := CBl.2 _ e; omega, fun e => by have := hvp _ e; omega, fun b h1 h2 => by have := CBl.2 b h1; have := hvp b h2; omega⟩
        clear bp RZ hB
        obtain ⟨gp, hgp⟩ : ∃ gp, wr.heap.size = gp := ⟨_, rfl⟩
        rw [hgp] at CP hd
        have MY := Lib.hid (merge_yes M gp K v vp L _ _ CB CP hd)
        rw [HLa.out, HPN.out] at MY
        rw [hgp]
        go_wp2_with fail
        clear hgp
        refine MY.out.mono ?_
        rintro e w7 ⟨v7, rfl, C7, F7, S7⟩
        have CA7 := CA.apart hNM hvM F7 hv
        have RZ7 := F7.row RZ5 (fun b hb e => by
          have h := hrw b hb
          rcases e with e | e
          · omega
          · exact h.2 e)
        have B7 : Below w.heap.size w w7 := B5.trans (F7.below B5.size (fun b hb => by rcases hb with rfl | hb; omega; have := hv b hb; omega))
        have hv7 : ∀ b, v7.ownBlock = some b → M ≤ b := fun b hb => by
          rcases S7 with e | ⟨c, e, hc⟩
          · rw [e] at hb; exact hv b hb
          · rw [e] at hb; cases hb; omega
        have hrw7 : ∀ b, (Value.slice (some ⟨Bz, oz, none⟩) nz q2).ownBlock = some b → M < b ∧ v7.ownBlock ≠ some b := fun b hb => by
          refine ⟨(hrw b hb).1, fun e => ?_⟩
          rcases S7 with e' | ⟨c, e', hc⟩
          · rw [e'] at e; exact (hrw b hb).2 e
          · rw [e'] at e; cases e; have := (RZl b hb); omega
        clear F7 S7 MY CA CB CP RZ5 B5 hd
        go_wp2_with fail
        go_roundg (nz - (i + 1))
        case measure => omega
        case rel => exact ⟨i + 1, a, _, v7, by omega, Nat.le_refl _, by omega, rfl, by go_num, rfl, CA7, C7, hv7, hrw7, RZ7, B7⟩
    · obtain rfl : i = nz := by omega
      by_cases hal : a < n
      · go_wp2_with fail
        refine (awake_any _).mono ?_
        rintro e w9 ⟨rfl, b9⟩
        go_wp2_with fail
        go_ret
        exact ⟨rfl, hB.trans (b9.mono hB.size)⟩
      · have haa : a = n := by omega
        subst haa
        have hL2 : L = allOf (hs xs) [] := by
          have h1 := HLa.out
          rw [List.take_of_length_le (by have := Hn.out; omega)] at h1
          exact h1
        subst hL2
        clear HLa HE HP HZb HZ RZ hrw hi ho i2 o2 hal
        generalize allOf (hs xs) [] = L at *
        obtain ⟨T, hT⟩ : ∃ T, L.take K = T := ⟨_, rfl⟩
        have hk := CA.k2
        have hll : T.length ≤ 1000000 := by rw [← hT, List.length_take]; omega
        have HT := Lib.hid hT
        clear hT
        go_wp2_with fail
        refine (Hashes_as w.heap.size K va L T _ CA HT.out).mono ?_
        rintro e w3 ⟨x1, rfl, R1, X1, b3⟩
        obtain ⟨p1, q1, rfl, -, -, N1, -⟩ := nums_of_row R1
        replace CA := CA.bel b3
        replace CB := CB.bel b3
        replace hB := hB.trans (b3.mono hB.size)
        clear R1 X1 b3
        go_wp2_with fail
        refine (Hashes_as M K v L T _ CB HT.out).mono ?_
        rintro e w4 ⟨x2, rfl, R2, X2, b4⟩
        obtain ⟨p4, q4, rfl, -, -, N2, -⟩ := nums_of_row R2
        replace CA := CA.bel b4
        replace CB := CB.bel b4
        replace N1 := N1.bel b4
        replace hB := hB.trans (b4.mono hB.size)
        clear R2 X2 b4
        go_wp2_with fail
        refine (same_any p1 p4 q1 q4 T T _ N1 N2 hll hll).mono ?_
        rintro e w5 ⟨rfl, b5⟩
        rw [decide_eq_true (rfl : T = T)]
        replace CA := CA.bel b5
        replace CB := CB.bel b5
        replace hB := hB.trans (b5.mono hB.size)
        clear N1 N2 b5
        go_wp2_with fail
        refine (Exact_any w.heap.size K va L _ CA).mono ?_
        rintro e w6 ⟨rfl, rfl⟩
        go_wp2_with fail
        refine (Exact_any M K v L _ CB).mono ?_
        rintro e w6 ⟨rfl, rfl⟩
        generalize (!decide (K < L.length)) = z at *
        have zz : (z == z) = true := by simp
        go_wp2_with fail
        refine (Count_any w.heap.size K va L _ CA).mono ?_
        rintro e w6 ⟨rfl, b6⟩
        replace CA := CA.bel b6
        replace CB := CB.bel b6
        replace hB := hB.trans (b6.mono hB.size)
        clear b6
        go_wp2_with fail
        refine (Count_any M K v L _ CB).mono ?_
        rintro e w7 ⟨rfl, b7⟩
        replace hB := hB.trans (b7.mono hB.size)
        clear b7
        generalize countOf K L = cc at *
        go_wp2_with fail
        refine (awake_any _).mono ?_
        rintro e w9 ⟨rfl, b9⟩
        go_wp2_with fail
        go_ret
        exact ⟨rfl, hB.trans (b9.mono hB.size)⟩
set_option maxHeartbeats 2000000 in
set_option maxRecDepth 100000 in
theorem walk_part (w : World) (k : Int) (wk : (Lit.int .i64 k).wf = true) (b : Option Addr) (cap : Nat) (xs : List ByteArray) (hl : xs.length ≤ cap) (hm : cap ≤ maxLen) (hi : InW w b 1 (xs.map fun s => [.string s])) (ho : ∀ s ∈ xs, s.size ≤ maxLen)
    (b2 : Option Addr) (c2 : Nat) (ys : List Int) (l2 : ys.length ≤ c2) (m2 : c2 ≤ maxLen) (i2 : InW w b2 1 (ys.map fun x => [.int .u8 x])) (o2 : ∀ x ∈ ys, (Lit.int .u8 x).wf = true) (hlong : longB xs = false) (h20 : ¬ 20 < ys.length) (hcn : ¬ cap = xs.length) :
    Calls Try.prog 9 #[.int .i64 k, .slice b xs.length cap, .slice b2 ys.length c2] w fun e w' => e = .returned (.bool true) ∧ Below w.heap.size w w' := by
  have HLo := Lib.hid (long_any b cap xs w hi hm hl ho)
  unfold maxLen at hm m2
  rw [hlong] at HLo
  have hsh := (short_of hlong).1
  clear hlong
  have HF := Lib.hid (fill_any k b cap xs w hi ho (by omega))
  have HN := Lib.hid (fun w => New_any k w)
  have HE : Hid (∀ wx b' c', Calls Try.prog 23 #[.int .i64 k, .slice b' 0 c'] wx (FillPost (sizeK k) [] wx)) := fun wx b' c' => fill_any k b' c' [] wx (Or.inl rfl) (fun _ h => by cases h) (by simp)
  have HP : Hid (∀ wx b' c' a E d, a ≤ E → E ≤ xs.length → E - a = d → Strs wx b' (xs.drop a) → Calls Try.prog 23 #[.int .i64 k, .slice b' d c'] wx (FillPost (sizeK k) ((xs.drop a).take d) wx)) := by
    intro wx b' c' a E d h1 h2 h3 h4
    have h5 := fill_any k b' c' ((xs.drop a).take d) wx (h4.take _) (fun s hs => ho s (List.mem_of_mem_drop (List.mem_of_mem_take hs))) (by rw [List.length_take]; omega)
    have h6 : ((xs.drop a).take d).length = d := by rw [List.length_take, List.length_drop]; omega
    rwa [h6] at h5
  have hLl : (allOf (hs xs) []).length ≤ 1000000 := by have := all_length (hs xs) []; have h2 : (hs xs).length = xs.length := List.length_map _; simp only [List.length_nil] at this; omega
  obtain ⟨i0, hi0, hz0, hz1, hz2⟩ := info_parts infoB
  obtain ⟨zs, hzs⟩ : ∃ zs, ys ++ [255] = zs := ⟨_, rfl⟩
  have hzl : zs.length = ys.length + 1 := by rw [← hzs]; simp
  have HZb : Hid (∀ x ∈ zs, 0 ≤ x ∧ x ≤ 255) := fun x hx => by
    rw [← hzs] at hx
    rcases List.mem_append.1 hx with h | h
    · exact bounds_u8 (o2 x h)
    · cases List.mem_singleton.1 h; omega
  have HZ := Lib.hid hzs
  clear hzs
  obtain ⟨nz, hnz⟩ : ∃ nz, zs.length = nz := ⟨_, rfl⟩
  rw [hnz] at hzl
  have Hnz := Lib.hid hnz
  clear hnz
  generalize hn : xs.length = n at *
  have Hn := Lib.hid hn
  clear hn
  generalize hny : ys.length = m at *
  have Hny := Lib.hid hny
  clear hny
  have hnz21 : nz ≤ 21 := by omega
  clear hzl
  generalize sizeK k = K at *
  go_enter Try.func9, Try.ntmps9
  go_wp2_with fail
  refine HLo.out.mono ?_
  rintro e w1 ⟨rfl, rfl⟩
  go_wp2_with fail
  refine HF.out.mono ?_
  rintro e w1 ⟨va, rfl, CA, hva, B1⟩
  go_wp2_with fail
  refine (HN.out _).mono ?_
  rintro e w2 ⟨rfl, CB, hw2⟩
  have b12 : Below w1.heap.size w1 w2 := by rw [hw2]; exact (Below.refl _ _).alloc (Nat.le_refl _) _
  have hNM : w.heap.size < w1.heap.size := CA.lt.1
  have hvM : ∀ b, va.ownBlock = some b → b < w1.heap.size := fun b hb => (CA.lt.2 b hb).1
  replace CA := CA.bel b12
  have B2 : Below w.heap.size w w2 := B1.trans (b12.mono B1.size)
  obtain ⟨M, hM⟩ : ∃ M, w1.heap.size = M := ⟨_, rfl⟩
  rw [hM] at CB hNM hvM b12
  have hMs : M < w2.heap.size := CB.lt.1
  clear hw2 HF HN HLo B1 b12
  have Rs : (w2.alloc (.cells #[] 5)).ownsRow 0 5 1 (.slice (some ⟨w2.heap.size, 0, none⟩) 0 0) ([] : List Int).length (([] : List Int).map (Value.int .u8)) := World.ownsRow_made w2 #[] 0 (Nat.zero_le _) (by unfold maxLen; omega) rfl
  have Bs : Below w.heap.size w (w2.alloc (.cells #[] 5)) := B2.alloc B2.size _
  have fs : Fr none' w2 (w2.alloc (.cells #[] 5)) := (Fr.refl _ _).alloc _
  go_wp2_with (first
    | (at_builtin; refine wpList_append_any (Value.int .u8) (fun _ => rfl) _ rfl (.tmp 33) (.tmp 34) 43 rfl 5 i0 _ _ Try.underlying43 hi0 hz0 hz1 hz2 rfl (by decide) _ [] ys rfl Rs b2 m c2 rfl Hny.out.symm (InW.bel i2 Bs) (by have := Hny.out; simp only [List.length_nil]; omega) ?_; intro t1 w9 r9 f9 e9; have B9 : Below w.heap.size w w9 := Bs.trans (f9.below Bs.size (fun b hb => by cases hb; exact B2.size)))
    | (at_builtin; refine wpList_append_row _ rfl (.tmp 35) (.tmp 36) 43 rfl 5 i0 (.int .u8 0) 1 1 Try.underlying43 hi0 hz0 hz1 hz2 rfl (by decide) _ _ _ rfl (r9.alloc _) ⟨w9.heap.size, 0, none⟩ 1 1 [.int .u8 255] rfl rfl (cell_one_new _ _ _) (fun u hu => by cases List.mem_singleton.1 hu; rfl) (by have := Hny.out; simp only [List.nil_append]; unfold maxLen; omega) (by have := Hny.out; simp only [List.nil_append]; omega) ?_; intro t2 w10 r10 f10 e10; have RX := cuts_row HZ.out Hnz.out r10; obtain ⟨p2, q2, rfl, hq1, hq2, RZ0⟩ := RX)
    | fail)
  clear hM
  have h9 : ∀ b, t1.ownBlock = some b → w2.heap.size ≤ b := fun b hb => by
    rcases e9 with e | e
    · rw [e] at hb; cases hb; exact Nat.le_refl _
    · rw [e] at hb; cases hb; simp
  have s9 : w2.heap.size ≤ w9.heap.size := by have := f9.size; simp at this; omega
  have h10 : ∀ b, (Value.slice p2 nz q2).ownBlock = some b → w2.heap.size ≤ b := fun b hb => by
    rcases e10 with e | e
    · rw [e] at hb; exact h9 b hb
    · rw [e] at hb; cases hb; simp; omega
  have F10 : Fr none' w2 w10 := (((fs.trans f9 (fun b hb e => by cases e; exact absurd hb (Nat.lt_irrefl _))).alloc _).trans f10 (fun b hb e => by have := h9 b e; omega))
  have b10 : Below w2.heap.size w2 w10 := F10.below (Nat.le_refl _) (fun _ h => h.elim)
  replace CA := CA.bel b10
  replace CB := CB.bel b10
  have B10 : Below w.heap.size w w10 := B2.trans (b10.mono B2.size)
  have hr0 : ∀ b, (Value.slice p2 nz q2).ownBlock = some b → M < b ∧ (Value.slice none 0 0).ownBlock ≠ some b := fun b hb => ⟨by have := h10 b hb; omega, fun e => by cases e⟩
  clear r9 f9 e9 r10 f10 e10 h9 h10 F10 b10 B2 Bs fs Rs B9 s9 hMs
  unfold maxLen at hq2
  go_wp2_with fail
  go_loopg [9, 39] nz (fun gm s9 c wr => ∃ (i a : Nat) (L : List Int) (v : Value), i ≤ nz ∧ nz - i ≤ gm ∧ a ≤ n ∧ s9 = .int .i64 a ∧ c = .int .i64 i ∧ L = allOf (hs (xs.take a)) [] ∧ Cnt wr w.heap.size va K (allOf (hs xs) []) ∧ Cnt wr M v K L ∧ (∀ b, v.ownBlock = some b → M ≤ b) ∧ (∀ b, (Value.slice p2 nz q2).ownBlock = some b → M < b ∧ v.ownBlock ≠ some b) ∧ wr.ownsRow 0 5 1 (.slice p2 nz q2) nz (zs.map (Value.int .u8)) ∧ Below w.heap.size w wr)
  case atStart => exact ⟨0, 0, [], .slice none 0 0, by omega, by omega, by omega, rfl, rfl, rfl, CA, CB, (fun b hb => by cases hb), hr0, RZ0, B10⟩
  case round =>
    clear CA CB hr0 RZ0 B10
    obtain ⟨i, a, L, v, hin, hmi, han, rfl, rfl, hL, CA, CB, hv, hrw, RZ, hB⟩ := hrel
    have HLa := Lib.hid hL
    clear hL
    by_cases hlt : i < nz
    · obtain ⟨x, hx⟩ : ∃ x, zs[i]? = some x := ⟨zs[i]'(by have := Hnz.out; omega), List.getElem?_eq_getElem _⟩
      have hxb := HZb.out x (List.mem_of_getElem? hx)
      obtain ⟨p3, q3, e3, -, -, N3, -⟩ := inw_of_row (Value.int .u8) RZ
      rw [Hnz.out] at e3
      cases e3
      obtain ⟨Bz, oz, rfl, lz, cz⟩ := inw_at (Value.int .u8) N3 hx
      clear hx N3
      obtain ⟨y, rfl⟩ := Int.eq_ofNat_of_zero_le hxb.1
      obtain ⟨E, hE⟩ : ∃ E : Nat, min (a + y) n = E := ⟨_, rfl⟩
      have e1 : min ((a : Int) + (y : Int)) (n : Int) = (E : Int) := by omega
      have hE1 : a ≤ E := by omega
      have hE2 : E ≤ n := by omega
      have hy : y ≤ 255 := by omega
      have k1 : (a : Int) ≤ (E : Int) := by omega
      have k2 : (E : Int) ≤ (cap : Int) := by omega
      have k3 : (i : Int) < (nz : Int) := by omega
      have RZl : ∀ b, (Value.slice (some ⟨Bz, oz, none⟩) nz q2).ownBlock = some b → b < wr.heap.size := fun b hb => (RZ.lt b hb).2
      have CBl : M < wr.heap.size ∧ ∀ b, v.ownBlock = some b → b < wr.heap.size := ⟨CB.lt.1, fun b hb => (CB.lt.2 b hb).1⟩
      clear hE hxb
      by_cases hal : a < n
      · have HPN := Lib.hid (parts_next xs a E hE1)
        obtain ⟨s0, hs0⟩ : ∃ s, xs[a]? = some s := ⟨xs[a]'(by have := Hn.out; omega), List.getElem?_eq_getElem _⟩
        obtain ⟨B, off, rfl, hBl, hc⟩ := Strs.at hi hs0
        clear hs0 hc
        have hne : ¬ cap = a := by omega
        have HQ := Lib.hid (HP.out wr (some ⟨B, off + a, none⟩) (cap - a) a E (E - a) hE1 hE2 rfl (Strs.drop (Strs.bel hi hB) a))
        generalize hpt : (xs.drop a).take (E - a) = pt at *
        clear hpt
        go_wp2_with fail
        refine HQ.out.mono ?_
        rintro e w5 ⟨vp, rfl, CP, hvp, bp⟩
        clear HQ
        replace CA := CA.bel bp
        replace CB := CB.bel bp
        have RZ5 := (Fr.of_bel (S := none') bp).row RZ (fun _ _ => id)
        have B5 : Below w.heap.size w w5 := hB.trans (bp.mono hB.size)
        have s5 := bp.size
        have hgM : M < wr.heap.size := CBl.1
        have hd : Disj M v wr.heap.size vp := ⟨by omega, fun e => by have := CBl.2 _ e; omega, fun e => by have := hvp _ e; omega, fun b h1 h2 => by have := CBl.2 b h1; have := hvp b h2; omega⟩
        clear bp RZ hB
        obtain ⟨gp, hgp⟩ : ∃ gp, wr.heap.size = gp := ⟨_, rfl⟩
        rw [hgp] at CP hd
        have MY := Lib.hid (merge_yes M gp K v vp L _ _ CB CP hd)
        rw [HLa.out, HPN.out] at MY
        rw [hgp]
        go_wp2_with fail
        clear hgp
        refine MY.out.mono ?_
        rintro e w7 ⟨v7, rfl, C7, F7, S7⟩
        have CA7 := CA.apart hNM hvM F7 hv
        have RZ7 := F7.row RZ5 (fun b hb e => by
          have h := hrw b hb
          rcases e with e | e
          · omega
          · exact h.2 e)
        have B7 : Below w.heap.size w w7 := B5.trans (F7.below B5.size (fun b hb => by rcases hb with rfl | hb; omega; have := hv b hb; omega))
        have hv7 : ∀ b, v7.ownBlock = some b → M ≤ b := fun b hb => by
          rcases S7 with e | ⟨c, e, hc⟩
          · rw [e] at hb; exact hv b hb
          · rw [e] at hb; cases hb; omega
        have hrw7 : ∀ b, (Value.slice (some ⟨Bz, oz, none⟩) nz q2).ownBlock = some b → M < b ∧ v7.ownBlock ≠ some b := fun b hb => by
          refine ⟨(hrw b hb).1, fun e => ?_⟩
          rcases S7 with e' | ⟨c, e', hc⟩
          · rw [e'] at e; exact (hrw b hb).2 e
          · rw [e'] at e; cases e; have := (RZl b hb); omega
        clear F7 S7 MY CA CB CP RZ5 B5 hd
        go_wp2_with fail
        go_roundg (nz - (i + 1))
        case measure => omega
        case rel => exact ⟨i + 1, E, _, v7, by omega, Nat.le_refl _, by omega, rfl, by go_num, rfl, CA7, C7, hv7, hrw7, RZ7, B7⟩
      · have hEa : E = n := by omega
        have haa : a = n := by omega
        subst hEa
        subst haa
        have HPN0 := parts_next xs a a (Nat.le_refl _)
        rw [Nat.sub_self, List.take_zero] at HPN0
        have HPN := Lib.hid HPN0
        clear HPN0
        obtain ⟨pt, hpt⟩ : ∃ pt : List ByteArray, pt = [] := ⟨_, rfl⟩
        rw [← hpt] at HPN HE
        have Hpt := Lib.hid hpt
        clear hpt
        go_wp2_with fail
        refine (HE.out _ _ _).mono ?_
        rintro e w5 ⟨vp, rfl, CP, hvp, bp⟩
        replace CA := CA.bel bp
        replace CB := CB.bel bp
        have RZ5 := (Fr.of_bel (S := none') bp).row RZ (fun _ _ => id)
        have B5 : Below w.heap.size w w5 := hB.trans (bp.mono hB.size)
        have s5 := bp.size
        have hgM : M < wr.heap.size := CBl.1
        have hd : Disj M v wr.heap.size vp := ⟨by omega, fun e => by have := CBl.2 _ e; omega, fun e => by have := hvp _ e; omega, fun b h1 h2 => by have := CBl.2 b h1; have := hvp b h2; omega⟩
        clear bp RZ hB
        obtain ⟨gp, hgp⟩ : ∃ gp, wr.heap.size = gp := ⟨_, rfl⟩
        rw [hgp] at CP hd
        have MY := Lib.hid (merge_yes M gp K v vp L _ _ CB CP hd)
        rw [HLa.out, HPN.out] at MY
        rw [hgp]
        go_wp2_with fail
        clear hgp
        refine MY.out.mono ?_
        rintro e w7 ⟨v7, rfl, C7, F7, S7⟩
        have CA7 := CA.apart hNM hvM F7 hv
        have RZ7 := F7.row RZ5 (fun b hb e => by
          have h := hrw b hb
          rcases e with e | e
          · omega
          · exact h.2 e)
        have B7 : Below w.heap.size w w7 := B5.trans (F7.below B5.size (fun b hb => by rcases hb with rfl | hb; omega; have := hv b hb; omega))
        have hv7 : ∀ b, v7.ownBlock = some b → M ≤ b := fun b hb => by
          rcases S7 with e | ⟨c, e, hc⟩
          · rw [e] at hb; exact hv b hb
          · rw [e] at hb; cases hb; omega
        have hrw7 : ∀ b, (Value.slice (some ⟨Bz, oz, none⟩) nz q2).ownBlock = some b → M < b ∧ v7.ownBlock ≠ some b := fun b hb => by
          refine ⟨(hrw b hb).1, fun e => ?_⟩
          rcases S7 with e' | ⟨c, e', hc⟩
          · rw [e'] at e; exact (hrw b hb).2 e
          · rw [e'] at e; cases e; have := (RZl b hb); omega
        clear F7 S7 MY CA CB CP RZ5 B5 hd
        go_wp2_with fail
        go_roundg (nz - (i + 1))
        case measure => omega
        case rel => exact ⟨i + 1, a, _, v7, by omega, Nat.le_refl _, by omega, rfl, by go_num, rfl, CA7, C7, hv7, hrw7, RZ7, B7⟩
    · obtain rfl : i = nz := by omega
      by_cases hal : a < n
      · go_wp2_with fail
        refine (awake_any _).mono ?_
        rintro e w9 ⟨rfl, b9⟩
        go_wp2_with fail
        go_ret
        exact ⟨rfl, hB.trans (b9.mono hB.size)⟩
      · have haa : a = n := by omega
        subst haa
        have hL2 : L = allOf (hs xs) [] := by
          have h1 := HLa.out
          rw [List.take_of_length_le (by have := Hn.out; omega)] at h1
          exact h1
        subst hL2
        clear HLa HE HP HZb HZ RZ hrw hi ho i2 o2 hal
        generalize allOf (hs xs) [] = L at *
        obtain ⟨T, hT⟩ : ∃ T, L.take K = T := ⟨_, rfl⟩
        have hk := CA.k2
        have hll : T.length ≤ 1000000 := by rw [← hT, List.length_take]; omega
        have HT := Lib.hid hT
        clear hT
        go_wp2_with fail
        refine (Hashes_as w.heap.size K va L T _ CA HT.out).mono ?_
        rintro e w3 ⟨x1, rfl, R1, X1, b3⟩
        obtain ⟨p1, q1, rfl, -, -, N1, -⟩ := nums_of_row R1
        replace CA := CA.bel b3
        replace CB := CB.bel b3
        replace hB := hB.trans (b3.mono hB.size)
        clear R1 X1 b3
        go_wp2_with fail
        refine (Hashes_as M K v L T _ CB HT.out).mono ?_
        rintro e w4 ⟨x2, rfl, R2, X2, b4⟩
        obtain ⟨p4, q4, rfl, -, -, N2, -⟩ := nums_of_row R2
        replace CA := CA.bel b4
        replace CB := CB.bel b4
        replace N1 := N1.bel b4
        replace hB := hB.trans (b4.mono hB.size)
        clear R2 X2 b4
        go_wp2_with fail
        refine (same_any p1 p4 q1 q4 T T _ N1 N2 hll hll).mono ?_
        rintro e w5 ⟨rfl, b5⟩
        rw [decide_eq_true (rfl : T = T)]
        replace CA := CA.bel b5
        replace CB := CB.bel b5
        replace hB := hB.trans (b5.mono hB.size)
        clear N1 N2 b5
        go_wp2_with fail
        refine (Exact_any w.heap.size K va L _ CA).mono ?_
        rintro e w6 ⟨rfl, rfl⟩
        go_wp2_with fail
        refine (Exact_any M K v L _ CB).mono ?_
        rintro e w6 ⟨rfl, rfl⟩
        generalize (!decide (K < L.length)) = z at *
        have zz : (z == z) = true := by simp
        go_wp2_with fail
        refine (Count_any w.heap.size K va L _ CA).mono ?_
        rintro e w6 ⟨rfl, b6⟩
        replace CA := CA.bel b6
        replace CB := CB.bel b6
        replace hB := hB.trans (b6.mono hB.size)
        clear b6
        go_wp2_with fail
        refine (Count_any M K v L _ CB).mono ?_
        rintro e w7 ⟨rfl, b7⟩
        replace hB := hB.trans (b7.mono hB.size)
        clear b7
        generalize countOf K L = cc at *
        go_wp2_with fail
        refine (awake_any _).mono ?_
        rintro e w9 ⟨rfl, b9⟩
        go_wp2_with fail
        go_ret
        exact ⟨rfl, hB.trans (b9.mono hB.size)⟩
set_option maxHeartbeats 2000000 in
set_option maxRecDepth 100000 in
theorem walk (w : World) (k : Int) (wk : (Lit.int .i64 k).wf = true) (b : Option Addr) (cap : Nat) (xs : List ByteArray) (hl : xs.length ≤ cap) (hm : cap ≤ maxLen) (hi : InW w b 1 (xs.map fun s => [.string s])) (ho : ∀ s ∈ xs, s.size ≤ maxLen)
    (b2 : Option Addr) (c2 : Nat) (ys : List Int) (l2 : ys.length ≤ c2) (m2 : c2 ≤ maxLen) (i2 : InW w b2 1 (ys.map fun x => [.int .u8 x])) (o2 : ∀ x ∈ ys, (Lit.int .u8 x).wf = true) :
    Calls Try.prog 9 #[.int .i64 k, .slice b xs.length cap, .slice b2 ys.length c2] w fun e w' => e = .returned (.bool true) ∧ Below w.heap.size w w' := by
  have HLo := Lib.hid (long_any b cap xs w hi hm hl ho)
  unfold maxLen at hm m2
  cases hlong : longB xs
  · rw [hlong] at HLo
    have hsh := (short_of hlong).1
    by_cases h20 : 20 < ys.length
    · generalize xs.length = n at *
      generalize ys.length = m at *
      go_enter Try.func9, Try.ntmps9
      go_wp2_with fail
      refine HLo.out.mono ?_
      rintro e w0 ⟨rfl, rfl⟩
      go_wp2_with fail
      refine (awake_any _).mono ?_
      rintro e w2 ⟨rfl, b2⟩
      go_wp2_with fail
      go_ret
      exact ⟨rfl, b2⟩
    · by_cases hcn : cap = xs.length
      · exact walk_full w k wk b cap xs hl hm hi ho b2 c2 ys l2 m2 i2 o2 hlong h20 hcn
      · exact walk_part w k wk b cap xs hl hm hi ho b2 c2 ys l2 m2 i2 o2 hlong h20 hcn
  · rw [hlong] at HLo
    generalize xs.length = n at *
    generalize ys.length = m at *
    go_enter Try.func9, Try.ntmps9
    go_wp2_with fail
    refine HLo.out.mono ?_
    rintro e w0 ⟨rfl, rfl⟩
    go_wp2_with fail
    refine (awake_any _).mono ?_
    rintro e w2 ⟨rfl, b2⟩
    go_wp2_with fail
    go_ret
    exact ⟨rfl, b2⟩

theorem own : ownKnob Try.prog.godebug = none := by kernel_rfl
theorem laidOut : laidOutB Try.prog = true := by kernel_rfl

set_option maxRecDepth 100000 in
theorem lifted (os : Os) (started : os.Started) (H : Type) (enc : TypeId × Value → H) :
    ReturnsInHanded {} Try.checked os 9 .any (Rows.distinctPartsSpec.pre6 enc Try.prog Try.f9 Rows.distinctPartsRow.domain false) (Rows.distinctPartsSpec.post enc Try.prog Try.f9 false true false false) := by
  refine returnsInHanded_of_change (C := Try.checked) own started (by kernel_rfl) Try.func9
    (ChangeSpec.witness6 (enc := enc) (C := Try.checked) false ⟨#[], #[.int .i64 0, .slice none 0 0, .slice none 0 0], []⟩ 8 (by kernel_rfl) (by kernel_rfl) (by kernel_rfl) (by kernel_rfl)) ?_
  intro W base args ds gs before hval0 hW hcnd _
  have hval : ∀ (j : Nat) t v, Try.f9.params[j]? = some t → args[j]? = some v → Value.okWide Try.prog W .any base t v := hval0
  have hW' := hW
  obtain ⟨p, q, hA0, hV, rfl, hfz, hnd⟩ := hW
  have hA : DataW.TrodAll enc Try.prog W 0 (fun _ => true) true Try.f9.params.toList args.toList ds p := hA0
  rw [Try.params9] at hA hval
  obtain ⟨v0, vs0, d0, ds0, p0, q0, hargs, rfl, rfl, h0, r0⟩ := trodAll_cons hA
  obtain ⟨v1, vs1, d1, ds1, p1, q1, rfl, rfl, rfl, h1, r1⟩ := trodAll_cons r0
  obtain ⟨v2, vs2, d2, ds2, p2, q2, rfl, rfl, rfl, h2, r2⟩ := trodAll_cons r1
  obtain ⟨rfl, rfl, rfl⟩ := trodAll_nil r2
  obtain rfl : args = #[v0, v1, v2] := by cases args; simp_all
  obtain ⟨rfl, rfl⟩ := trodVars_none hV
  have k0 := h0
  have lt0 : ∀ x ∈ p0, x.block < W.heap.size := by obtain ⟨m, hm⟩ := k0; exact DataW.trod_lt m _ _ _ hm
  obtain ⟨a0, rfl, rfl, rfl, w0⟩ := open_int Try.underlying3 (hval 0 3 v0 rfl rfl) h0
  have k1 := h1
  have lt1 : ∀ x ∈ p1, x.block < W.heap.size := by obtain ⟨m, hm⟩ := k1; exact DataW.trod_lt m _ _ _ hm
  obtain ⟨b1, c1, x1, rfl, l1, m1, i1, o1⟩ := open_l (hval 1 26 v1 rfl rfl) h1
  have k2 := h2
  have lt2 : ∀ x ∈ p2, x.block < W.heap.size := by obtain ⟨m, hm⟩ := k2; exact DataW.trod_lt m _ _ _ hm
  obtain ⟨b2, c2, x2, rfl, l2, m2, i2, o2⟩ := open_cuts (hval 2 43 v2 rfl rfl) h2
  clear hA0 hval0
  refine (walk W a0 w0 b1 c1 x1 l1 m1 i1 o1 b2 c2 x2 l2 m2 i2 o2).mono fun e W' ⟨he, bel⟩ => ?_
  subst he
  exact ⟨_, rfl, _, _, _, [], _, [], hW', trodAll_mk1 (shut_bool Try.underlying4 _), (trodAll_cons_mk (Below.trod laidOut (by kernel_rfl) (of_decide_eq_true (by kernel_rfl)) k0 bel lt0) (trodAll_cons_mk (Below.trod laidOut (by kernel_rfl) (of_decide_eq_true (by kernel_rfl)) k1 bel lt1) (trodAll_cons_mk (Below.trod laidOut (by kernel_rfl) (of_decide_eq_true (by kernel_rfl)) k2 bel lt2) trodAll_mk0))), rfl, bel.frame _, fun h => by cases h⟩

theorem over : Rows.distinctPartsRow.holds Try.pinned (OpenSpec.ofChange Rows.distinctPartsSpec) :=
  OpenClaim.holds_of_wide 9 Try.f9 rfl rfl rfl rfl rfl rfl rfl ⟨rfl, rfl, rfl, rfl, rfl⟩ rfl rfl rfl rfl rfl (by kernel_rfl) Try.func9 (by kernel_rfl)
    (of_decide_eq_true (by kernel_rfl)) (by unfold Func.isWrapper; first | (rw [if_pos (by decide +kernel)]; kernel_rfl) | (rw [if_neg (by decide +kernel)]; exact ⟨rfl, rfl⟩))
    (fun os started H enc _ => lifted os started H enc)

theorem proved : Rows.DistinctPartsSaid := over
#print axioms proved
end Go.Proofs.Ytipblbmpckfigaa.distinctParts

/- Contracts of Apply of aliases, and of the document's. -/
import Derived.Test.YtgflfjmlhapplaaAHere
import Derived.Test.YtgflfjmlhapplaaAEv
namespace Go.Proofs.Ytgflfjmlhapplaa
open Go.RowKit Go.MapKept Go.Maps
set_option linter.unusedVariables false
set_option linter.unusedSimpArgs false
/-- a kind that stands for a thing that is listed -/
def listedK (k : Int) : Prop := k = 11 ∨ k = 12 ∨ k = 13
instance (k : Int) : Decidable (listedK k) := inferInstanceAs (Decidable (k = 11 ∨ k = 12 ∨ k = 13))
/-- what an event becomes -/
def applyS (l : List Two) (e : Ev) : List Ev := if listedK e.kind ∧ ¬ e.item = nameR l e.item then [] else [{ e with item := nameR l e.item }]
def applyR (l : List Two) (evs : List Ev) : List Ev := evs.flatMap (applyS l)
theorem applyR_snoc (l : List Two) (evs : List Ev) (e : Ev) : applyR l (evs ++ [e]) = applyR l evs ++ applyS l e := by simp [applyR]
theorem applyS_len (l : List Two) (e : Ev) : (applyS l e).length ≤ 1 := by unfold applyS; split <;> simp
theorem applyR_len (l : List Two) : ∀ evs : List Ev, (applyR l evs).length ≤ evs.length
  | [] => by simp [applyR]
  | e :: evs => by
    have h1 := applyR_len l evs
    have h2 := applyS_len l e
    unfold applyR at h1 ⊢
    rw [List.flatMap_cons, List.length_append, List.length_cons]; omega
theorem applyR_again {l : List Two} (hid : ∀ x, nameR l (nameR l x) = nameR l x) : ∀ evs : List Ev, applyR l (applyR l evs) = applyR l evs
  | [] => rfl
  | e :: evs => by
    have ih := applyR_again hid evs
    unfold applyR at ih ⊢
    rw [List.flatMap_cons, List.flatMap_append, ih]
    congr 1
    unfold applyS
    split
    · rfl
    · rw [List.flatMap_cons, List.flatMap_nil, List.append_nil, if_neg (fun c => c.2 (hid _).symm)]
      simp [hid]
set_option maxRecDepth 100000 in
set_option maxHeartbeats 8000000 in
theorem apply_at {p : Nat} {Bl : List Nat} {l : List Two} {w : World} (ha : AlAt w p Bl l) (b : Option Addr) (cap : Nat) (evs : List Ev) (h : InW w b 8 (evs.map evC)) (hl : evs.length ≤ 1000) (hs : ∀ e ∈ evs, e.item.size ≤ 1000) :
    Calls Try.prog 20 #[.pointer (some ⟨p, 0, none⟩), .slice b evs.length cap] w fun x w' => ∃ v, x = .returned v ∧ MkG 62 8 evC w w' v (applyR l evs) := by
  obtain ⟨i0, hi0T, hz0, hz1, hz2⟩ := info_parts infoEv
  have HIW := Lib.hid h
  have HS := Lib.hid hs
  have NA : Hid (∀ W z, Below w.heap.size w W → z.size ≤ 1000 → Calls Try.prog 18 #[.pointer (some ⟨p, 0, none⟩), .string z] W fun e w' => e = .returned (.string (nameR l z)) ∧ W = w') := Lib.hid (fun W z hb hz => name_at (ha.bel hb) z hz)
  have HAL : Hid (∀ i, (applyR l (evs.take i)).length ≤ 1000) := Lib.hid (fun i => by have := applyR_len l (evs.take i); rw [List.length_take] at this; omega)
  have HEND : Hid (evs.take evs.length = evs) := Lib.hid List.take_length
  have HM0 : Hid (MkG 62 8 evC w w (.slice none 0 0) (applyR l (evs.take 0))) := Lib.hid (MkG.nil w)
  clear ha h hs
  generalize hn : evs.length = n at *
  have Hn := Lib.hid hn
  clear hn
  go_enter Try.func20, Try.ntmps20
  go_wp2_with fail
  go_loopw [5, 11] (fun u c wr => ∃ i : Nat, i ≤ n ∧ c = .int .i64 i ∧ MkG 62 8 evC w wr u (applyR l (evs.take i))) (fun _ c _ => n - (intOf c).toNat)
  case atStart => exact ⟨0, by omega, rfl, HM0.out⟩
  case round =>
    obtain ⟨i, hi, rfl, hmi⟩ := hrel
    have HMI := Lib.hid hmi
    clear hmi
    by_cases hlt : i < n
    · obtain ⟨e, hei⟩ : ∃ e, evs[i]? = some e := ⟨evs[i]'(by rw [Hn.out]; exact hlt), List.getElem?_eq_getElem _⟩
      obtain ⟨B, off, rfl, hB, c0, c1, c2, c3, c4, c5, c6, c7⟩ := evs_at (InW.bel HIW.out HMI.out.bl) hei
      have hes := HS.out e (List.mem_of_getElem? hei)
      have hi0 : (0 : Int) ≤ (i : Int) := by omega
      have hi1 : (i : Int) < (n : Int) := by omega
      have HSN : Hid (applyR l (evs.take (i + 1)) = applyR l (evs.take i) ++ applyS l e) := Lib.hid (by rw [List.take_add_one, hei]; exact applyR_snoc _ _ _)
      have hol := HAL.out i
      clear hei
      generalize applyR l (evs.take i) = o at *
      have HM2 := Lib.hid (HMI.out.alloc (.cells #[.string e.src, .int .i64 e.num, .int .i64 e.at_, .int .i64 e.kind, .string e.per, .string e.item, .int .i64 e.val, .string e.txt] 62))
      have NM := Lib.hid (NA.out _ e.item HM2.out.bl hes)
      by_cases he : e.item = nameR l e.item
      · rcases (show e.kind = 11 ∨ e.kind = 12 ∨ e.kind = 13 ∨ (e.kind ≠ 11 ∧ e.kind ≠ 12 ∧ e.kind ≠ 13) by omega) with hk | hk | hk | hk
        · have k11 : (e.kind == 11) = true := by rw [hk]; rfl
          have t9 : (e.item.toList == (nameR l e.item).toList) = true := by rw [bytesEq]; exact decide_eq_true he
          have HST : Hid (applyS l e = [{ e with item := nameR l e.item }]) := Lib.hid (by unfold applyS; rw [if_neg (fun c => c.2 he)])
          clear hk he
          go_wp2_with fail
          refine NM.out.mono ?_
          rintro x wx ⟨rfl, rfl⟩
          clear NM
          have HM3 := Lib.hid ((HMI.out.alloc (.cells #[.string e.src, .int .i64 e.num, .int .i64 e.at_, .int .i64 e.kind, .string e.per, .string (nameR l e.item), .int .i64 e.val, .string e.txt] 62)).alloc (.cells #[.string e.src, .int .i64 e.num, .int .i64 e.at_, .int .i64 e.kind, .string e.per, .string (nameR l e.item), .int .i64 e.val, .string e.txt] 62))
          have HIN : Hid (InW ((wr.alloc (.cells #[.string e.src, .int .i64 e.num, .int .i64 e.at_, .int .i64 e.kind, .string e.per, .string (nameR l e.item), .int .i64 e.val, .string e.txt] 62)).alloc (.cells #[.string e.src, .int .i64 e.num, .int .i64 e.at_, .int .i64 e.kind, .string e.per, .string (nameR l e.item), .int .i64 e.val, .string e.txt] 62)) (some ⟨wr.heap.size + 1, 0, none⟩) 8 ([{ e with item := nameR l e.item }].map evC)) := Lib.hid (inw_one (f := evC) (x := { e with item := nameR l e.item }) (bk_at _ _ (by simp)))
          have HLN : Hid (o.length + [{ e with item := nameR l e.item }].length ≤ 1000000) := Lib.hid (by simp only [List.length_cons, List.length_nil]; omega)
          go_wp2_with (at_builtin; refine wpList_append_m evLen evOne _ rfl _ _ _ rfl 62 i0 _ 96 Try.underlying40 hi0T hz0 hz1 hz2 rfl (by decide) (by omega) u5 o [{ e with item := nameR l e.item }] rfl HM3.out.tx (some ⟨wr.heap.size + 1, 0, none⟩) 1 1 rfl rfl HIN.out HLN.out ?_; intro v5 w5 o5 f5 h5)
          have HM5 := Lib.hid (HM3.out.more o5 f5 h5)
          clear o5 f5 h5 HM3 HIN HLN
          go_wp2_with fail
          go_roundw
          case rel => exact ⟨i + 1, by omega, by go_num, by rw [HSN.out, HST.out]; exact HM5.out⟩
          case measure => simp [intOf]; omega
        · have k11 : (e.kind == 11) = false := by rw [hk]; rfl
          have k12 : (e.kind == 12) = true := by rw [hk]; rfl
          have t9 : (e.item.toList == (nameR l e.item).toList) = true := by rw [bytesEq]; exact decide_eq_true he
          have HST : Hid (applyS l e = [{ e with item := nameR l e.item }]) := Lib.hid (by unfold applyS; rw [if_neg (fun c => c.2 he)])
          clear hk he
          go_wp2_with fail
          refine NM.out.mono ?_
          rintro x wx ⟨rfl, rfl⟩
          clear NM
          have HM3 := Lib.hid ((HMI.out.alloc (.cells #[.string e.src, .int .i64 e.num, .int .i64 e.at_, .int .i64 e.kind, .string e.per, .string (nameR l e.item), .int .i64 e.val, .string e.txt] 62)).alloc (.cells #[.string e.src, .int .i64 e.num, .int .i64 e.at_, .int .i64 e.kind, .string e.per, .string (nameR l e.item), .int .i64 e.val, .string e.txt] 62))
          have HIN : Hid (InW ((wr.alloc (.cells #[.string e.src, .int .i64 e.num, .int .i64 e.at_, .int .i64 e.kind, .string e.per, .string (nameR l e.item), .int .i64 e.val, .string e.txt] 62)).alloc (.cells #[.string e.src, .int .i64 e.num, .int .i64 e.at_, .int .i64 e.kind, .string e.per, .string (nameR l e.item), .int .i64 e.val, .string e.txt] 62)) (some ⟨wr.heap.size + 1, 0, none⟩) 8 ([{ e with item := nameR l e.item }].map evC)) := Lib.hid (inw_one (f := evC) (x := { e with item := nameR l e.item }) (bk_at _ _ (by simp)))
          have HLN : Hid (o.length + [{ e with item := nameR l e.item }].length ≤ 1000000) := Lib.hid (by simp only [List.length_cons, List.length_nil]; omega)
          go_wp2_with (at_builtin; refine wpList_append_m evLen evOne _ rfl _ _ _ rfl 62 i0 _ 96 Try.underlying40 hi0T hz0 hz1 hz2 rfl (by decide) (by omega) u5 o [{ e with item := nameR l e.item }] rfl HM3.out.tx (some ⟨wr.heap.size + 1, 0, none⟩) 1 1 rfl rfl HIN.out HLN.out ?_; intro v5 w5 o5 f5 h5)
          have HM5 := Lib.hid (HM3.out.more o5 f5 h5)
          clear o5 f5 h5 HM3 HIN HLN
          go_wp2_with fail
          go_roundw
          case rel => exact ⟨i + 1, by omega, by go_num, by rw [HSN.out, HST.out]; exact HM5.out⟩
          case measure => simp [intOf]; omega
        · have k11 : (e.kind == 11) = false := by rw [hk]; rfl
          have k12 : (e.kind == 12) = false := by rw [hk]; rfl
          have k13 : (e.kind == 13) = true := by rw [hk]; rfl
          have t9 : (e.item.toList == (nameR l e.item).toList) = true := by rw [bytesEq]; exact decide_eq_true he
          have HST : Hid (applyS l e = [{ e with item := nameR l e.item }]) := Lib.hid (by unfold applyS; rw [if_neg (fun c => c.2 he)])
          clear hk he
          go_wp2_with fail
          refine NM.out.mono ?_
          rintro x wx ⟨rfl, rfl⟩
          clear NM
          have HM3 := Lib.hid ((HMI.out.alloc (.cells #[.string e.src, .int .i64 e.num, .int .i64 e.at_, .int .i64 e.kind, .string e.per, .string (nameR l e.item), .int .i64 e.val, .string e.txt] 62)).alloc (.cells #[.string e.src, .int .i64 e.num, .int .i64 e.at_, .int .i64 e.kind, .string e.per, .string (nameR l e.item), .int .i64 e.val, .string e.txt] 62))
          have HIN : Hid (InW ((wr.alloc (.cells #[.string e.src, .int .i64 e.num, .int .i64 e.at_, .int .i64 e.kind, .string e.per, .string (nameR l e.item), .int .i64 e.val, .string e.txt] 62)).alloc (.cells #[.string e.src, .int .i64 e.num, .int .i64 e.at_, .int .i64 e.kind, .string e.per, .string (nameR l e.item), .int .i64 e.val, .string e.txt] 62)) (some ⟨wr.heap.size + 1, 0, none⟩) 8 ([{ e with item := nameR l e.item }].map evC)) := Lib.hid (inw_one (f := evC) (x := { e with item := nameR l e.item }) (bk_at _ _ (by simp)))
          have HLN : Hid (o.length + [{ e with item := nameR l e.item }].length ≤ 1000000) := Lib.hid (by simp only [List.length_cons, List.length_nil]; omega)
          go_wp2_with (at_builtin; refine wpList_append_m evLen evOne _ rfl _ _ _ rfl 62 i0 _ 96 Try.underlying40 hi0T hz0 hz1 hz2 rfl (by decide) (by omega) u5 o [{ e with item := nameR l e.item }] rfl HM3.out.tx (some ⟨wr.heap.size + 1, 0, none⟩) 1 1 rfl rfl HIN.out HLN.out ?_; intro v5 w5 o5 f5 h5)
          have HM5 := Lib.hid (HM3.out.more o5 f5 h5)
          clear o5 f5 h5 HM3 HIN HLN
          go_wp2_with fail
          go_roundw
          case rel => exact ⟨i + 1, by omega, by go_num, by rw [HSN.out, HST.out]; exact HM5.out⟩
          case measure => simp [intOf]; omega
        · have k11 : (e.kind == 11) = false := by simp; omega
          have k12 : (e.kind == 12) = false := by simp; omega
          have k13 : (e.kind == 13) = false := by simp; omega
          have t9 : (e.item.toList == (nameR l e.item).toList) = true := by rw [bytesEq]; exact decide_eq_true he
          have HST : Hid (applyS l e = [{ e with item := nameR l e.item }]) := Lib.hid (by unfold applyS; rw [if_neg (fun c => c.2 he)])
          clear hk he
          go_wp2_with fail
          refine NM.out.mono ?_
          rintro x wx ⟨rfl, rfl⟩
          clear NM
          have HM3 := Lib.hid ((HMI.out.alloc (.cells #[.string e.src, .int .i64 e.num, .int .i64 e.at_, .int .i64 e.kind, .string e.per, .string (nameR l e.item), .int .i64 e.val, .string e.txt] 62)).alloc (.cells #[.string e.src, .int .i64 e.num, .int .i64 e.at_, .int .i64 e.kind, .string e.per, .string (nameR l e.item), .int .i64 e.val, .string e.txt] 62))
          have HIN : Hid (InW ((wr.alloc (.cells #[.string e.src, .int .i64 e.num, .int .i64 e.at_, .int .i64 e.kind, .string e.per, .string (nameR l e.item), .int .i64 e.val, .string e.txt] 62)).alloc (.cells #[.string e.src, .int .i64 e.num, .int .i64 e.at_, .int .i64 e.kind, .string e.per, .string (nameR l e.item), .int .i64 e.val, .string e.txt] 62)) (some ⟨wr.heap.size + 1, 0, none⟩) 8 ([{ e with item := nameR l e.item }].map evC)) := Lib.hid (inw_one (f := evC) (x := { e with item := nameR l e.item }) (bk_at _ _ (by simp)))
          have HLN : Hid (o.length + [{ e with item := nameR l e.item }].length ≤ 1000000) := Lib.hid (by simp only [List.length_cons, List.length_nil]; omega)
          go_wp2_with (at_builtin; refine wpList_append_m evLen evOne _ rfl _ _ _ rfl 62 i0 _ 96 Try.underlying40 hi0T hz0 hz1 hz2 rfl (by decide) (by omega) u5 o [{ e with item := nameR l e.item }] rfl HM3.out.tx (some ⟨wr.heap.size + 1, 0, none⟩) 1 1 rfl rfl HIN.out HLN.out ?_; intro v5 w5 o5 f5 h5)
          have HM5 := Lib.hid (HM3.out.more o5 f5 h5)
          clear o5 f5 h5 HM3 HIN HLN
          go_wp2_with fail
          go_roundw
          case rel => exact ⟨i + 1, by omega, by go_num, by rw [HSN.out, HST.out]; exact HM5.out⟩
          case measure => simp [intOf]; omega
      · rcases (show e.kind = 11 ∨ e.kind = 12 ∨ e.kind = 13 ∨ (e.kind ≠ 11 ∧ e.kind ≠ 12 ∧ e.kind ≠ 13) by omega) with hk | hk | hk | hk
        · have k11 : (e.kind == 11) = true := by rw [hk]; rfl
          have t9 : (e.item.toList == (nameR l e.item).toList) = false := by rw [bytesEq]; exact decide_eq_false he
          have HST : Hid (applyS l e = []) := Lib.hid (by unfold applyS; rw [if_pos ⟨by unfold listedK; omega, fun c => he c⟩])
          clear hk he
          go_wp2_with fail
          refine NM.out.mono ?_
          rintro x wx ⟨rfl, rfl⟩
          clear NM
          go_wp2_with fail
          go_roundw
          case rel => exact ⟨i + 1, by omega, by go_num, by rw [HSN.out, HST.out, List.append_nil]; exact HM2.out⟩
          case measure => simp [intOf]; omega
        · have k11 : (e.kind == 11) = false := by rw [hk]; rfl
          have k12 : (e.kind == 12) = true := by rw [hk]; rfl
          have t9 : (e.item.toList == (nameR l e.item).toList) = false := by rw [bytesEq]; exact decide_eq_false he
          have HST : Hid (applyS l e = []) := Lib.hid (by unfold applyS; rw [if_pos ⟨by unfold listedK; omega, fun c => he c⟩])
          clear hk he
          go_wp2_with fail
          refine NM.out.mono ?_
          rintro x wx ⟨rfl, rfl⟩
          clear NM
          go_wp2_with fail
          go_roundw
          case rel => exact ⟨i + 1, by omega, by go_num, by rw [HSN.out, HST.out, List.append_nil]; exact HM2.out⟩
          case measure => simp [intOf]; omega
        · have k11 : (e.kind == 11) = false := by rw [hk]; rfl
          have k12 : (e.kind == 12) = false := by rw [hk]; rfl
          have k13 : (e.kind == 13) = true := by rw [hk]; rfl
          have t9 : (e.item.toList == (nameR l e.item).toList) = false := by rw [bytesEq]; exact decide_eq_false he
          have HST : Hid (applyS l e = []) := Lib.hid (by unfold applyS; rw [if_pos ⟨by unfold listedK; omega, fun c => he c⟩])
          clear hk he
          go_wp2_with fail
          refine NM.out.mono ?_
          rintro x wx ⟨rfl, rfl⟩
          clear NM
          go_wp2_with fail
          go_roundw
          case rel => exact ⟨i + 1, by omega, by go_num, by rw [HSN.out, HST.out, List.append_nil]; exact HM2.out⟩
          case measure => simp [intOf]; omega
        · have k11 : (e.kind == 11) = false := by simp; omega
          have k12 : (e.kind == 12) = false := by simp; omega
          have k13 : (e.kind == 13) = false := by simp; omega
          have t9 : (e.item.toList == (nameR l e.item).toList) = false := by rw [bytesEq]; exact decide_eq_false he
          have HST : Hid (applyS l e = [{ e with item := nameR l e.item }]) := Lib.hid (by unfold applyS; rw [if_neg (fun c => by have := c.1; unfold listedK at this; omega)])
          clear hk he
          go_wp2_with fail
          refine NM.out.mono ?_
          rintro x wx ⟨rfl, rfl⟩
          clear NM
          have HM3 := Lib.hid ((HMI.out.alloc (.cells #[.string e.src, .int .i64 e.num, .int .i64 e.at_, .int .i64 e.kind, .string e.per, .string (nameR l e.item), .int .i64 e.val, .string e.txt] 62)).alloc (.cells #[.string e.src, .int .i64 e.num, .int .i64 e.at_, .int .i64 e.kind, .string e.per, .string (nameR l e.item), .int .i64 e.val, .string e.txt] 62))
          have HIN : Hid (InW ((wr.alloc (.cells #[.string e.src, .int .i64 e.num, .int .i64 e.at_, .int .i64 e.kind, .string e.per, .string (nameR l e.item), .int .i64 e.val, .string e.txt] 62)).alloc (.cells #[.string e.src, .int .i64 e.num, .int .i64 e.at_, .int .i64 e.kind, .string e.per, .string (nameR l e.item), .int .i64 e.val, .string e.txt] 62)) (some ⟨wr.heap.size + 1, 0, none⟩) 8 ([{ e with item := nameR l e.item }].map evC)) := Lib.hid (inw_one (f := evC) (x := { e with item := nameR l e.item }) (bk_at _ _ (by simp)))
          have HLN : Hid (o.length + [{ e with item := nameR l e.item }].length ≤ 1000000) := Lib.hid (by simp only [List.length_cons, List.length_nil]; omega)
          go_wp2_with (at_builtin; refine wpList_append_m evLen evOne _ rfl _ _ _ rfl 62 i0 _ 96 Try.underlying40 hi0T hz0 hz1 hz2 rfl (by decide) (by omega) u5 o [{ e with item := nameR l e.item }] rfl HM3.out.tx (some ⟨wr.heap.size + 1, 0, none⟩) 1 1 rfl rfl HIN.out HLN.out ?_; intro v5 w5 o5 f5 h5)
          have HM5 := Lib.hid (HM3.out.more o5 f5 h5)
          clear o5 f5 h5 HM3 HIN HLN
          go_wp2_with fail
          go_roundw
          case rel => exact ⟨i + 1, by omega, by go_num, by rw [HSN.out, HST.out]; exact HM5.out⟩
          case measure => simp [intOf]; omega
    · obtain rfl : i = n := by omega
      rw [HEND.out] at HMI
      go_wp2_with fail
      go_ret
      exact ⟨u5, rfl, HMI.out⟩
end Go.Proofs.Ytgflfjmlhapplaa

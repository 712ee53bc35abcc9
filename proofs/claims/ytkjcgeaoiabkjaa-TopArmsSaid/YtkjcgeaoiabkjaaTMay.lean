/- trial.Bucket, Trial.May. -/
import Derived.Test.YtkjcgeaoiabkjaaTDraw
import Derived.Test.YtkjcgeaoiabkjaaSub
import Derived.Lib.SlicesS
namespace Go.Proofs.Ytkjcgeaoiabkjaa
open Go.RowKit Go.ChangeShapes Go.WideShapes
set_option linter.unusedVariables false
theorem infoStrT : (Try.prog.info? 9).map (fun i => (i.zero, i.size, i.bytes)) = some (some (.string ⟨#[]⟩), 1, 16) := by kernel_rfl
theorem txts_of {w : World} {b : Option Addr} {xs : List ByteArray} (h : InW w b 1 (xs.map fun s => [.string s])) (hn : 1 ≤ xs.length) :
    ∃ B off, b = some ⟨B, off, none⟩ ∧ B < w.heap.size ∧ ∀ j, j < xs.length → w.cell? ⟨B, off + j, none⟩ = some (.string (xs.getD j ByteArray.empty)) := by
  rcases h with h | ⟨B, off, hb, hl, hc⟩
  · rw [List.map_eq_nil_iff.1 h] at hn; simp at hn
  · refine ⟨B, off, hb, hl, fun j hj => ?_⟩
    have hm : (xs.map fun s => [Value.string s])[j]? = some [.string (xs.getD j ByteArray.empty)] := by
      rw [List.getElem?_map, List.getD_eq_getElem?_getD, List.getElem?_eq_getElem hj]; rfl
    have := hc j _ hm 0 _ rfl
    rw [Nat.mul_one] at this
    exact this
theorem bk_inw {w : World} {B : Nat} {t : TypeId} {xs : List ByteArray} (h : Bk w B (xs.map Value.string) t) : InW w (some ⟨B, 0, none⟩) 1 (xs.map fun s => [.string s]) := by
  refine .inr ⟨B, 0, rfl, h.lt, fun i r hr k v hv => ?_⟩
  rw [List.getElem?_map] at hr
  cases hx : xs[i]? with
  | none => rw [hx] at hr; cases hr
  | some s =>
    rw [hx] at hr
    simp only [Option.map_some, Option.some.injEq] at hr
    subst hr
    cases k with
    | zero =>
      simp only [List.getElem?_cons_zero, Option.some.injEq] at hv
      subst hv
      have := h.cell i
      rw [List.getElem?_map, hx] at this
      rw [Nat.mul_one, Nat.zero_add]
      exact this
    | succ k => simp at hv
def bucketF (ly pn : ByteArray) : Nat := belowF (dhash 1 [ly, pn]).toNat 1000
theorem dhash_lt (q : Int) (l : List ByteArray) : (dhash q l).toNat < 18446744073709551616 ∧ dhash q l = ((dhash q l).toNat : Int) := by
  have := dhash_bd q l
  omega
theorem bucketF_lt (ly pn : ByteArray) : bucketF ly pn < 1000 := belowF_lt (dhash_lt 1 _).1 (by omega)
set_option maxHeartbeats 1000000 in
theorem bucket_any (ly pn : ByteArray) (w : World) (h1 : ly.size ≤ maxLen) (h2 : pn.size ≤ maxLen) :
    Calls Try.prog 15 #[.string ly, .string pn] w fun e w' => e = .returned (.int .i64 (bucketF ly pn : Nat)) ∧ Below w.heap.size w w' := by
  have HB : Hid (Below w.heap.size w (w.alloc (.cells #[.string ly, .string pn] 9))) := Lib.hid ((Below.refl _ _).alloc (Nat.le_refl _) _)
  have hi := bk_inw (xs := [ly, pn]) (Bk.new w [.string ly, .string pn] 9)
  have hh := dhash_any 1 (some ⟨w.heap.size, 0, none⟩) 2 [ly, pn] _ (by omega) (by omega) hi (by simp) (by unfold maxLen; omega) (by intro s hs; simp at hs; rcases hs with rfl | rfl <;> assumption)
  obtain ⟨g, hg⟩ : ∃ g, (dhash 1 [ly, pn]).toNat = g := ⟨_, rfl⟩
  have hl := dhash_lt 1 [ly, pn]
  rw [hg] at hl
  rw [hl.2] at hh
  have HH := Lib.hid hh
  have HW := Lib.hid (below_any g 1000 (w.alloc (.cells #[.string ly, .string pn] 9)) hl.1 (by omega) (by omega))
  have HF : Hid (bucketF ly pn = belowF g 1000) := Lib.hid (by rw [bucketF, hg])
  rw [HF.out]
  clear hi hh hg hl
  generalize belowF g 1000 = r at *
  go_enter Try.func15, Try.ntmps15
  go_wp2_with fail
  refine HH.out.mono ?_
  rintro e w1 ⟨rfl, rfl⟩
  go_wp2_with fail
  refine HW.out.mono ?_
  rintro e w1 ⟨rfl, rfl⟩
  go_wp2_with fail
  go_ret
  exact ⟨rfl, HB.out⟩
structure TrOk (nm ly : ByteArray) (f t : Int) (arms : List ByteArray) : Prop where
  n : nameB nm = true
  l : nameB ly = true
  f0 : 0 ≤ f
  ft : f < t
  t1 : t ≤ 1000
  a1 : 1 ≤ arms.length
  a2 : arms.length ≤ 16
  an : ∀ a ∈ arms, nameB a = true
  nd : arms.Nodup
theorem nameB_max {s : ByteArray} (h : nameB s = true) : s.size ≤ maxLen := by
  have := (nameB_size h).2
  unfold maxLen; omega
theorem not_before {arms : List ByteArray} (h : arms.Nodup) {i : Nat} {a : ByteArray} (ha : arms[i]? = some a) : Lib.containsS (arms.take i) a = false := by
  cases hc : Lib.containsS (arms.take i) a with
  | false => rfl
  | true =>
    exfalso
    rw [Lib.containsS_iff] at hc
    obtain ⟨j, hj⟩ := List.getElem?_of_mem hc
    rw [List.getElem?_take] at hj
    split at hj
    · rename_i hji
      obtain ⟨hi', hia⟩ := List.getElem?_eq_some_iff.1 ha
      obtain ⟨hj', hja⟩ := List.getElem?_eq_some_iff.1 hj
      have := (List.getElem_inj h).1 (hja.trans hia.symm)
      omega
    · cases hj
set_option maxHeartbeats 3000000 in
theorem tmay_any (nm ly : ByteArray) (f t : Int) (b : Option Addr) (cap : Nat) (arms : List ByteArray) (w : World) (hi : InW w b 1 (arms.map fun s => [.string s])) (hl : arms.length ≤ cap) (hm : cap ≤ maxLen) (ok : TrOk nm ly f t arms) :
    Calls Try.prog 13 #[.agg #[.string nm, .string ly, .int .i64 f, .int .i64 t, .slice b arms.length cap]] w fun e w' => e = .returned (.bool true) ∧ Below w.heap.size w w' := by
  obtain ⟨i0, hi0T, hz0, hz1, hz2⟩ := info_parts infoStrT
  have HB : Hid (Below w.heap.size w (w.alloc (.cells #[.string nm, .string ly, .int .i64 f, .int .i64 t, .slice b arms.length cap] 41))) := Lib.hid ((Below.refl _ _).alloc (Nat.le_refl _) _)
  obtain ⟨B, off, rfl, hB, hc⟩ := txts_of (hi.bel HB.out) ok.a1
  have HC := Lib.hid hc
  have HN1 := ename_any nm (w.alloc (.cells #[.string nm, .string ly, .int .i64 f, .int .i64 t, .slice (some ⟨B, off, none⟩) arms.length cap] 41)) (nameB_max ok.n)
  have HN2 := ename_any ly (w.alloc (.cells #[.string nm, .string ly, .int .i64 f, .int .i64 t, .slice (some ⟨B, off, none⟩) arms.length cap] 41)) (nameB_max ok.l)
  rw [ok.n] at HN1
  rw [ok.l] at HN2
  have H1 := Lib.hid HN1
  have H2 := Lib.hid HN2
  have HOK := Lib.hid ok
  obtain ⟨_, _, p1, p2, p3, p4, p5, _, _⟩ := ok
  unfold maxLen at hm
  have t1 : decide (f < 0) = false := decide_eq_false (by omega)
  have t2 : decide (t ≤ f) = false := decide_eq_false (by omega)
  have t3 : decide ((1000 : Int) < t) = false := decide_eq_false (by omega)
  generalize hln : arms.length = n at *
  have Hn := Lib.hid hln
  have t4 : decide ((n : Int) < 1) = false := decide_eq_false (by omega)
  have t5 : decide ((16 : Int) < (n : Int)) = false := decide_eq_false (by omega)
  clear hi hc HN1 HN2 hln
  go_enter Try.func13, Try.ntmps13
  go_wp2_with fail
  refine H1.out.mono ?_
  rintro e w1 ⟨rfl, rfl⟩
  go_wp2_with fail
  refine H2.out.mono ?_
  rintro e w1 ⟨rfl, rfl⟩
  clear H1 H2
  go_wp2_with fail
  go_loop [45] (fun c => ∃ i : Nat, i ≤ n ∧ c = .int .i64 i) (fun c => n - (intOf c).toNat)
  case atStart => exact ⟨0, Nat.zero_le _, rfl⟩
  case round =>
    obtain ⟨i, hin, rfl⟩ := hrel
    by_cases hlt : i < n
    · obtain ⟨a, ha⟩ : ∃ x, arms[i]? = some x := ⟨arms[i]'(by have := Hn.out; omega), List.getElem?_eq_getElem _⟩
      have hnb := HOK.out.an a (List.mem_of_getElem? ha)
      have cx := HC.out i hlt
      have hg : arms.getD i ByteArray.empty = a := by rw [List.getD_eq_getElem?_getD, ha]; rfl
      rw [hg] at cx
      have hn1 := fun W => ename_any a W (nameB_max hnb)
      simp only [hnb] at hn1
      have HN := Lib.hid hn1
      have hct := Try.slices_Contains_string B off i cap arms a (w.alloc (.cells #[.string nm, .string ly, .int .i64 f, .int .i64 t, .slice (some ⟨B, off, none⟩) n cap] 41)) (by have := Hn.out; omega) (by omega) (fun j hj => HC.out j (by have := Hn.out; omega))
      rw [not_before HOK.out.nd ha] at hct
      have HCT := Lib.hid hct
      have hsl : ∀ W, (Instr.slice 39 (.slice (some ⟨B, off, none⟩) n cap) none (some (.int .i64 i)) none).run Try.prog W = .ok (.slice (some ⟨B, off, none⟩) i cap) W := fun W => run_slice_to (P := Try.prog) W 39 9 _ n cap i 1 Try.underlying39 ⟨i0, hi0T, hz1⟩ (by omega)
      have hi0 : (0 : Int) ≤ (i : Int) := by omega
      have hi1 : (i : Int) < (n : Int) := by omega
      clear hn1 hct hg ha
      go_wp2_with fail
      refine (HN.out _).mono ?_
      rintro e w1 ⟨rfl, rfl⟩
      go_wp2_with fail
      refine HCT.out.mono ?_
      rintro e w1 ⟨rfl, rfl⟩
      go_wp2_with fail
      go_round
      case rel => exact ⟨i + 1, by omega, by go_num⟩
      case measure => simp [intOf]; omega
    · obtain rfl : i = n := by omega
      go_wp2_with fail
      go_ret
      exact ⟨rfl, HB.out⟩
end Go.Proofs.Ytkjcgeaoiabkjaa

/- Layer 44's law: fill, awake. -/
import Derived.Test.YtlmonbclloamiaaSLaw
namespace Go.Proofs.Ytlmonbclloamiaa
open Go.RowKit Go.MapKept Go.Maps Wide
set_option linter.unusedVariables false
/-- what a call has made joins what is here -/
theorem Here.adopt {Ob : Type} {K : Kind Ob} {w0 w w' : World} {os : List Ob} {o : Ob} (h : Here K w0 w os) (g : Here K w w' [o]) : Here K w0 w' (os ++ [o]) := by
  obtain ⟨B, h1, h2, _⟩ := g.use (i := 0) rfl
  exact h.push g.bel h1 h2
theorem mayAdd_okB {a : Add10} {ad : Int} (h : ad < 1048576) : mayAdd a.1 a.2.1 a.2.2 ad = okB a := by simp [mayAdd, okB, h]
theorem addTo_addsS (wd : Int) (l : List Add10) (a : Add10) (h : l.length ≤ 1000000) : addTo wd (addsS wd l).length (addsS wd l) a.1 a.2.1 a.2.2 = (((addsS wd (l ++ [a])).length : Int), addsS wd (l ++ [a])) := by
  have hl := addsS_length wd l
  unfold addTo
  rw [mayAdd_okB (by omega), addsS_snoc]
  by_cases ha : okB a <;> simp [ha]
set_option maxRecDepth 100000 in
set_option maxHeartbeats 4000000 in
theorem fill_any (x : Int) (hx : I64 x) (b : Option Addr) (cap : Nat) (l : List Add10) (w : World) (h : InW w b 3 (l.map a10C)) (hl : l.length ≤ 40) (hk : ∀ a ∈ l, a.1.size ≤ 60) (ho : ∀ a ∈ l, a10Ok a) :
    Calls Try.prog 16 #[.int .i64 x, .slice b l.length cap] w fun e w' => ∃ p, e = .returned (.pointer (some ⟨p, 0, none⟩)) ∧ Here K44 w w' [.pane p (wdOf x) (addsS (wdOf x) l).length (addsS (wdOf x) l)] := by
  have HIW := Lib.hid h
  have HK := Lib.hid hk
  have HO := Lib.hid ho
  have HN := Lib.hid (h_new (Here.nil (K := K44) (Below.refl w.heap.size w)) x hx)
  clear h hk ho
  generalize hn : l.length = n at *
  have Hn := Lib.hid hn
  clear hn
  generalize wdOf x = wd at *
  go_enter Try.func16, Try.ntmps16
  go_wp2_with fail
  refine HN.out.mono ?_
  rintro e w1 ⟨rfl, h1⟩
  have H1 := Lib.hid h1
  clear HN h1
  generalize w.heap.size + 2 = p at *
  go_wp2_with fail
  go_loopw [14] (fun c wr => ∃ i : Nat, i ≤ n ∧ c = .int .i64 i ∧ Here K44 w wr [.pane p wd (addsS wd (l.take i)).length (addsS wd (l.take i))]) (fun c _ => n - (intOf c).toNat)
  case atStart => exact ⟨0, by omega, rfl, H1.out⟩
  case round =>
    obtain ⟨i, hi, rfl, hh⟩ := hrel
    have HH := Lib.hid hh
    clear hh
    by_cases hlt : i < n
    · obtain ⟨a, ha⟩ : ∃ a, l[i]? = some a := ⟨l[i]'(by rw [Hn.out]; exact hlt), List.getElem?_eq_getElem _⟩
      have hmem := List.mem_of_getElem? ha
      obtain ⟨B, off, hbb, hB, c0, c1, c2⟩ := adds10_at (InW.bel HIW.out HH.out.bel) ha
      subst hbb
      have hka := HK.out a hmem
      obtain ⟨hao, oa1, oa2⟩ := HO.out a hmem
      unfold maxLen at hao
      have hi0 : (0 : Int) ≤ (i : Int) := by omega
      have hi1 : (i : Int) < (n : Int) := by omega
      have HT : Hid (l.take (i + 1) = l.take i ++ [a]) := Lib.hid (by rw [List.take_add_one, ha]; rfl)
      have hll : (l.take i).length ≤ 40 := by rw [List.length_take, Hn.out]; omega
      obtain ⟨N, hN⟩ : ∃ N, wr.heap.size = N := ⟨_, rfl⟩
      have hB : Here K44 w (wr.alloc (.cells #[.string a.1, .int .i64 a.2.1, .int .i64 a.2.2] 51)) ([.pane p wd (addsS wd (l.take i)).length (addsS wd (l.take i))] ++ [.box wr.heap.size [.string a.1, .int .i64 a.2.1, .int .i64 a.2.2] 51]) := h_box HH.out [.string a.1, .int .i64 a.2.1, .int .i64 a.2.2] 51
      have hNx : ([Ob.pane p wd (addsS wd (l.take i)).length (addsS wd (l.take i))] ++ [Ob.box wr.heap.size [.string a.1, .int .i64 a.2.1, .int .i64 a.2.2] 51]) = [Ob.pane p wd (addsS wd (l.take i)).length (addsS wd (l.take i)), Ob.box N [.string a.1, .int .i64 a.2.1, .int .i64 a.2.2] 51] := by rw [hN]; rfl
      rw [hNx] at hB
      have hAD := h_add hB.drew (i := 0) rfl a.1 a.2.1 a.2.2 (by omega) oa1 oa2
      rw [addTo_addsS wd (l.take i) a (by omega), ← HT.out, mayAdd_okB (by have := addsS_length wd (l.take i); omega)] at hAD
      have HAD := Lib.hid hAD
      have HCB : Hid (∀ (W : World) (os : List Ob), Here K44 w W os → os[1]? = some (.box N [.string a.1, .int .i64 a.2.1, .int .i64 a.2.2] 51) → W.cell? ⟨N, 0, none⟩ = some (.string a.1) ∧ W.cell? ⟨N, 1, none⟩ = some (.int .i64 a.2.1) ∧ W.cell? ⟨N, 2, none⟩ = some (.int .i64 a.2.2)) := Lib.hid (fun W os h hi => ⟨(h_boxAt h hi).cell 0, (h_boxAt h hi).cell 1, (h_boxAt h hi).cell 2⟩)
      have cB := HCB.out _ _ hB.drew rfl
      have HNN := Lib.hid hN
      have RT : Hid (∀ W, Calls Try.prog 30 #[.agg #[.string a.1, .int .i64 a.2.1, .int .i64 a.2.2]] W fun e w' => e = .returned (.bool (okB a)) ∧ Below W.heap.size W w') := Lib.hid (fun W => right10_any a W hao)
      clear ha hmem hB hNx hAD hN
      generalize okB a = r at *
      go_wp2_with fail
      rw [HNN.out]
      go_region_held3 (fun X => X.cell? ⟨N, 0, none⟩ = some (.string a.1) ∧ X.cell? ⟨N, 1, none⟩ = some (.int .i64 a.2.1) ∧ X.cell? ⟨N, 2, none⟩ = some (.int .i64 a.2.2)) (first | assumption | go_keep)
        (first
          | (go_at_call 24
             (with_reducible refine HAD.out.mono ?_)
             rintro e w2 ⟨rfl, h2⟩
             have H2 := Lib.hid h2
             have hS2 := HCB.out _ _ h2 rfl
             clear h2)
          | (go_at_call 30
             (with_reducible refine (RT.out _).mono ?_)
             rintro e w3 ⟨rfl, b3⟩
             have h3 := H2.out.step_bel b3
             have H3 := Lib.hid h3
             have hS3 := HCB.out _ _ h3 rfl
             clear b3 h3)
          | fail)
      go_wp2_with fail
      go_roundw
      case rel => exact ⟨i + 1, by omega, by go_num, (show Here K44 w w3 ([.pane p wd (addsS wd (l.take (i + 1))).length (addsS wd (l.take (i + 1)))] ++ [.box N _ _]) from H3.out).init⟩
      case measure => simp [intOf]; omega
    · obtain rfl : i = n := by omega
      have htk : l.take i = l := List.take_of_length_le (by rw [Hn.out]; exact Nat.le_refl _)
      rw [htk] at HH
      go_wp2_with fail
      go_ret
      exact ⟨p, rfl, HH.out⟩
def ta : ByteArray := ⟨#[97]⟩
def awA : List Ad := [(ta, 5, 3), (ta, 15, 5), (ta, 25, 9)]
theorem awA_other (k : ByteArray) (h : k ≠ ta) (q : Int) : sget awA k q = 0 := by
  have h' : ¬ ta = k := fun e => h e.symm
  simp [awA, sget, h']
theorem awA_odd {ks : List ByteArray} (h : OddsV awA 10 2 1 25 1 ks) : ks = [ta] := by
  unfold OddsV at h
  rw [if_pos (by decide)] at h
  refine h.1.ext (by unfold Rise; simp) (fun k => ?_)
  rw [h.2, List.mem_singleton]
  constructor
  · intro hk
    refine Decidable.byContradiction fun c => hk.1 ?_
    exact awA_other k c _
  · rintro rfl
    decide
set_option maxRecDepth 100000 in
set_option maxHeartbeats 4000000 in
theorem awake_any (w : World) : Calls Try.prog 9 #[] w fun e w' => e = .returned (.bool true) ∧ Below w.heap.size w w' := by
  have HN := Lib.hid (h_new (Here.nil (K := K44) (Below.refl w.heap.size w)) 1 (by unfold I64; omega))
  rw [show wdOf 1 = 1 by rfl] at HN
  go_enter Try.func9, Try.ntmps9
  go_wp2_with fail
  refine HN.out.mono ?_
  rintro e w1 ⟨rfl, h1⟩
  have A1 := Lib.hid (h_add h1 (i := 0) rfl ta 5 3 (by decide) (by unfold I64; omega) (by unfold I64; omega))
  rw [show mayAdd ta 5 3 0 = true by decide] at A1
  clear HN h1
  generalize w.heap.size + 2 = p at *
  go_wp2_with fail
  refine A1.out.mono ?_
  rintro e w2 ⟨rfl, h2⟩
  have h2' : Here K44 w w2 [.pane p 1 1 [(ta, 5, 3)]] := h2
  have A2 := Lib.hid (h_add h2' (i := 0) rfl ta 15 5 (by decide) (by unfold I64; omega) (by unfold I64; omega))
  rw [show mayAdd ta 15 5 1 = true by decide] at A2
  clear A1 h2 h2'
  go_wp2_with fail
  refine A2.out.mono ?_
  rintro e w3 ⟨rfl, h3⟩
  have h3' : Here K44 w w3 [.pane p 1 2 [(ta, 5, 3), (ta, 15, 5)]] := h3
  have A3 := Lib.hid (h_add h3' (i := 0) rfl ta 25 9 (by decide) (by unfold I64; omega) (by unfold I64; omega))
  rw [show mayAdd ta 25 9 2 = true by decide] at A3
  clear A2 h3 h3'
  go_wp2_with fail
  refine A3.out.mono ?_
  rintro e w4 ⟨rfl, h4⟩
  have h4' : Here K44 w w4 [.pane p 1 3 awA] := h4
  have h5 : Here K44 w (w4.alloc (.cells #[.int .i64 10, .int .i64 2] 23)) [.pane p 1 3 awA, .box w4.heap.size [.int .i64 10, .int .i64 2] 23] := h_box h4' [.int .i64 10, .int .i64 2] 23
  have OD := Lib.hid (h_odd h5 (i := 0) rfl (by decide) 10 2 25 1 (by unfold I64; omega) (by unfold I64; omega) (by unfold I64; omega) (by unfold I64; omega))
  have H5 := Lib.hid h5
  clear A3 h4 h4' h5
  go_wp2_with fail
  refine OD.out.mono ?_
  rintro e w6 ⟨v6, k6, rfl, o6, t6, b6⟩
  have h6 := H5.out.step_bel b6
  have e6 := awA_odd o6
  subst e6
  obtain ⟨bv, cv, rfl, _, _, sv⟩ := t6.strs
  have hk6 := h_boxAt h6 (i := 1) rfl
  have c0 := hk6.cell 0
  have c1 := hk6.cell 1
  have NW := Lib.hid (h_now h6 (i := 0) rfl 10 2 25 ta (by decide) (by unfold I64; omega) (by unfold I64; omega) (by unfold I64; omega))
  rw [show nowV awA 10 2 1 25 ta = 9 by decide] at NW
  have H6 := Lib.hid h6
  have SV := Lib.hid sv
  clear OD H5 h6 b6 o6 t6 hk6 sv
  generalize w4.heap.size = N at *
  go_wp2_with fail
  refine NW.out.mono ?_
  rintro e w7 ⟨rfl, b7⟩
  have h7 := H6.out.step_bel b7
  have hk7 := h_boxAt h7 (i := 1) rfl
  have d0 := hk7.cell 0
  have d1 := hk7.cell 1
  have US := Lib.hid (h_usual h7 (i := 0) rfl (by decide) 10 2 25 ta (by decide) (by unfold I64; omega) (by unfold I64; omega) (by unfold I64; omega))
  rw [show usuN awA 10 2 1 25 ta = 8 by decide, show usuD 10 2 1 25 = 2 by decide] at US
  have H7 := Lib.hid h7
  have SV7 := Lib.hid (SV.out.bel b7)
  clear NW H6 h7 b7 hk7 SV c0 c1
  go_wp2_with fail
  refine US.out.mono ?_
  rintro e w8 ⟨rfl, b8⟩
  have h8 := H7.out.step_bel b8
  have hs8 := SV7.out.bel b8
  obtain ⟨B8, o8, hb8, _, c8⟩ := hs8.at (i := 0) (s := ta) rfl
  subst hb8
  have HB8 := Lib.hid h8.bel
  have c8' : w8.cell? ⟨B8, o8, none⟩ = some (.string ⟨#[97]⟩) := c8
  clear US H7 h8 b8 hs8 SV7 d0 d1 c8
  go_wp2_with fail
  go_ret
  exact ⟨rfl, HB8.out⟩
end Go.Proofs.Ytlmonbclloamiaa

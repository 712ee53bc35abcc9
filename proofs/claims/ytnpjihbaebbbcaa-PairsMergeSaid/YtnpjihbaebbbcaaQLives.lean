/- Law 17: the chapter's example. -/
import Derived.Test.YtnpjihbaebbbcaaQEven
namespace Go.Proofs.Ytnpjihbaebbbcaa
open Go.RowKit Go.MapKept Go.Maps Go.ChangeShapes Go.WideShapes Go.Shelf Go.Sort
set_option linter.unusedVariables false
set_option linter.unusedSimpArgs false
def nE : ByteArray := ⟨#[]⟩
def nA : ByteArray := ⟨#[97]⟩
def nB : ByteArray := ⟨#[98]⟩
def nC : ByteArray := ⟨#[99]⟩
def exL (b1 b2 b3 : Nat) : List Sv := [⟨nE, 0, 0, some ⟨b1, 0, none⟩, 2, [nA, nB]⟩, ⟨nE, 0, 0, some ⟨b2, 0, none⟩, 3, [nA, nB, nC]⟩, ⟨nE, 0, 0, some ⟨b3, 0, none⟩, 1, [nC]⟩]
theorem exL_light (b1 b2 b3 : Nat) : Light (exL b1 b2 b3) := ⟨by simp [exL], fun x hx => by
  simp only [exL, List.mem_cons, List.not_mem_nil, or_false] at hx
  rcases hx with rfl | rfl | rfl <;> simp⟩
theorem exL_1 (b1 b2 b3 : Nat) : cntB (exL b1 b2 b3) nA nA = 2 := by kernel_rfl
theorem exL_2 (b1 b2 b3 : Nat) : cntB (exL b1 b2 b3) nB nA = 2 := by kernel_rfl
theorem exL_3 (b1 b2 b3 : Nat) : cntB (exL b1 b2 b3) nA nC = 1 := by kernel_rfl
theorem exL_near (b1 b2 b3 : Nat) (x : ByteArray) : (x ≠ nA ∧ 0 < cntB (exL b1 b2 b3) nA x) ↔ x ∈ [nB, nC] := by
  have hab : nA ≠ nB := by decide
  have hac : nA ≠ nC := by decide
  have hbc : nB ≠ nC := by decide
  have m1 : memB [nA, nB] nA = true := by kernel_rfl
  have m2 : memB [nA, nB, nC] nA = true := by kernel_rfl
  have m3 : memB [nC] nA = false := by kernel_rfl
  unfold cntB exL hasB
  simp only [List.countP_cons, List.countP_nil, m1, m2, m3, Bool.true_and, Bool.false_and]
  rw [List.mem_cons, List.mem_singleton]
  by_cases h1 : x = nB
  · subst h1
    have : memB [nA, nB] nB = true := by kernel_rfl
    simp [this, hab.symm]
  · by_cases h2 : x = nC
    · subst h2
      have : memB [nA, nB, nC] nC = true := by kernel_rfl
      have n1 : memB [nA, nB] nC = false := by kernel_rfl
      simp [this, n1, hac.symm]
    · by_cases h3 : x = nA
      · simp [h3, hab, hac]
      · have n1 : memB [nA, nB] x = false := memB_no (by simp [h1, h3])
        have n2 : memB [nA, nB, nC] x = false := memB_no (by simp [h1, h2, h3])
        simp [n1, n2, h1, h2]
theorem row_strs {W : World} {g : Nat} {ks : List ByteArray} (h : Bk W g (ks.map Value.string) 9) : Strs W (some ⟨g, 0, none⟩) ks :=
  .inr ⟨g, 0, rfl, h.lt, fun i c hi j u hj => by
    rw [List.getElem?_map] at hi
    obtain ⟨x, hx, rfl⟩ := Option.map_eq_some_iff.1 hi
    match j, hj with
    | 0, hj =>
      cases hj
      have := h.cell i
      rw [List.getElem?_map, hx] at this
      simpa using this⟩
theorem lives_in {W : World} {b1 b2 b3 b4 : Nat} (h1 : Bk W b1 [.string nA, .string nB] 9) (h2 : Bk W b2 [.string nA, .string nB, .string nC] 9) (h3 : Bk W b3 [.string nC] 9)
    (h4 : Bk W b4 [.string nE, .int .i64 0, .int .i64 0, .slice (some ⟨b1, 0, none⟩) 2 2, .string nE, .int .i64 0, .int .i64 0, .slice (some ⟨b2, 0, none⟩) 3 3, .string nE, .int .i64 0, .int .i64 0, .slice (some ⟨b3, 0, none⟩) 1 1] 30) : SvIn W (some ⟨b4, 0, none⟩) (exL b1 b2 b3) := by
  refine ⟨.inr ⟨b4, 0, rfl, h4.lt, fun i c hi j u hj => ?_⟩, fun x hx => ?_⟩
  · have := h4.cell (i * 4 + j)
    rw [Nat.zero_add, this]
    match i, hi with
    | 0, hi => cases hi; match j, hj with
               | 0, hj => exact hj
               | 1, hj => exact hj
               | 2, hj => exact hj
               | 3, hj => exact hj
    | 1, hi => cases hi; match j, hj with
               | 0, hj => exact hj
               | 1, hj => exact hj
               | 2, hj => exact hj
               | 3, hj => exact hj
    | 2, hi => cases hi; match j, hj with
               | 0, hj => exact hj
               | 1, hj => exact hj
               | 2, hj => exact hj
               | 3, hj => exact hj
  · have hsz : nA.size ≤ maxLen ∧ nB.size ≤ maxLen ∧ nC.size ≤ maxLen := ⟨by decide, by decide, by decide⟩
    simp only [exL, List.mem_cons, List.not_mem_nil, or_false] at hx
    rcases hx with rfl | rfl | rfl
    · exact ⟨row_strs (ks := [nA, nB]) h1, by simp, by unfold maxLen; simp, fun s hs => by
        simp only [List.mem_cons, List.not_mem_nil, or_false] at hs
        rcases hs with rfl | rfl
        · exact hsz.1
        · exact hsz.2.1⟩
    · exact ⟨row_strs (ks := [nA, nB, nC]) h2, by simp, by unfold maxLen; simp, fun s hs => by
        simp only [List.mem_cons, List.not_mem_nil, or_false] at hs
        rcases hs with rfl | rfl | rfl
        · exact hsz.1
        · exact hsz.2.1
        · exact hsz.2.2⟩
    · exact ⟨row_strs (ks := [nC]) h3, by simp, by unfold maxLen; simp, fun s hs => by
        simp only [List.mem_cons, List.not_mem_nil, or_false] at hs
        rw [hs]; exact hsz.2.2⟩
set_option maxRecDepth 20000 in
set_option maxHeartbeats 4000000 in
theorem lives_any (w : World) : Calls Try.prog 8 #[] w fun e w' => e = .returned (.bool true) ∧ Below w.heap.size w w' := by
  have HS : Hid (SvIn ((((w.alloc (.cells #[.string nA, .string nB] 9)).alloc (.cells #[.string nA, .string nB, .string nC] 9)).alloc (.cells #[.string nC] 9)).alloc (.cells #[.string nE, .int .i64 0, .int .i64 0, .slice (some ⟨w.heap.size, 0, none⟩) 2 2, .string nE, .int .i64 0, .int .i64 0, .slice (some ⟨w.heap.size + 1, 0, none⟩) 3 3, .string nE, .int .i64 0, .int .i64 0, .slice (some ⟨w.heap.size + 1 + 1, 0, none⟩) 1 1] 30)) (some ⟨w.heap.size + 1 + 1 + 1, 0, none⟩) (exL w.heap.size (w.heap.size + 1) (w.heap.size + 1 + 1))) := Lib.hid (by
    have e1 : (w.alloc (.cells #[.string nA, .string nB] 9)).heap.size = w.heap.size + 1 := by simp
    have e2 : ((w.alloc (.cells #[.string nA, .string nB] 9)).alloc (.cells #[.string nA, .string nB, .string nC] 9)).heap.size = w.heap.size + 1 + 1 := by simp
    have e3 : (((w.alloc (.cells #[.string nA, .string nB] 9)).alloc (.cells #[.string nA, .string nB, .string nC] 9)).alloc (.cells #[.string nC] 9)).heap.size = w.heap.size + 1 + 1 + 1 := by simp
    have h1 := (((Bk.new w [.string nA, .string nB] 9).old (.cells #[.string nA, .string nB, .string nC] 9)).old (.cells #[.string nC] 9)).old (.cells #[.string nE, .int .i64 0, .int .i64 0, .slice (some ⟨w.heap.size, 0, none⟩) 2 2, .string nE, .int .i64 0, .int .i64 0, .slice (some ⟨w.heap.size + 1, 0, none⟩) 3 3, .string nE, .int .i64 0, .int .i64 0, .slice (some ⟨w.heap.size + 1 + 1, 0, none⟩) 1 1] 30)
    have h2 := ((Bk.new (w.alloc (.cells #[.string nA, .string nB] 9)) [.string nA, .string nB, .string nC] 9).old (.cells #[.string nC] 9)).old (.cells #[.string nE, .int .i64 0, .int .i64 0, .slice (some ⟨w.heap.size, 0, none⟩) 2 2, .string nE, .int .i64 0, .int .i64 0, .slice (some ⟨w.heap.size + 1, 0, none⟩) 3 3, .string nE, .int .i64 0, .int .i64 0, .slice (some ⟨w.heap.size + 1 + 1, 0, none⟩) 1 1] 30)
    have h3 := (Bk.new ((w.alloc (.cells #[.string nA, .string nB] 9)).alloc (.cells #[.string nA, .string nB, .string nC] 9)) [.string nC] 9).old (.cells #[.string nE, .int .i64 0, .int .i64 0, .slice (some ⟨w.heap.size, 0, none⟩) 2 2, .string nE, .int .i64 0, .int .i64 0, .slice (some ⟨w.heap.size + 1, 0, none⟩) 3 3, .string nE, .int .i64 0, .int .i64 0, .slice (some ⟨w.heap.size + 1 + 1, 0, none⟩) 1 1] 30)
    have h4 := Bk.new (((w.alloc (.cells #[.string nA, .string nB] 9)).alloc (.cells #[.string nA, .string nB, .string nC] 9)).alloc (.cells #[.string nC] 9)) [.string nE, .int .i64 0, .int .i64 0, .slice (some ⟨w.heap.size, 0, none⟩) 2 2, .string nE, .int .i64 0, .int .i64 0, .slice (some ⟨w.heap.size + 1, 0, none⟩) 3 3, .string nE, .int .i64 0, .int .i64 0, .slice (some ⟨w.heap.size + 1 + 1, 0, none⟩) 1 1] 30
    rw [e1] at h2
    rw [e2] at h3
    rw [e3] at h4
    exact lives_in h1 h2 h3 h4)
  have HB : Hid (Below w.heap.size w ((((w.alloc (.cells #[.string nA, .string nB] 9)).alloc (.cells #[.string nA, .string nB, .string nC] 9)).alloc (.cells #[.string nC] 9)).alloc (.cells #[.string nE, .int .i64 0, .int .i64 0, .slice (some ⟨w.heap.size, 0, none⟩) 2 2, .string nE, .int .i64 0, .int .i64 0, .slice (some ⟨w.heap.size + 1, 0, none⟩) 3 3, .string nE, .int .i64 0, .int .i64 0, .slice (some ⟨w.heap.size + 1 + 1, 0, none⟩) 1 1] 30))) := Lib.hid (((((Below.refl _ _).alloc (Nat.le_refl _) _).alloc (by simp) _).alloc (by simp; omega) _).alloc (by simp; omega) _)
  have HO : Hid _ := Lib.hid (of_any _ 3 _ _ HS.out (exL_light _ _ _) (by unfold maxLen; omega) (by simp [exL]))
  go_enter Try.func8, Try.ntmps8
  go_wp2_with fail
  refine HO.out.mono ?_
  rintro e w1 ⟨p, t, rfl, h1⟩
  have B1 := Lib.hid (Below.trans' HB.out h1.bel)
  have hp := pr_here h1 (i := 1) (j := 0) rfl rfl
  have hC : Tells (cntF (exL w.heap.size (w.heap.size + 1) (w.heap.size + 1 + 1))) (exL w.heap.size (w.heap.size + 1) (w.heap.size + 1 + 1)) := fun a b => cntF_is _ a b
  have szA : nA.size ≤ maxLen := by decide
  have szB : nB.size ≤ maxLen := by decide
  have szC : nC.size ≤ maxLen := by decide
  have c1 := psingle_any hp nA szA
  have c2 := pcount_any hp nB nA szB szA
  have c3 := pcount_any hp nA nC szA szC
  rw [hC, exL_1] at c1
  rw [hC, exL_2] at c2
  rw [hC, exL_3] at c3
  have c4 : Calls Try.prog 20 #[.pointer (some ⟨p, 0, none⟩), .string nA] w1 fun e w' => ∃ (v : Value), e = .returned v ∧ Texts17 w1 w' v [nB, nC] := (pnear_any hp nA szA [nA, nB, nC] (fun z hz => by
    rw [hC] at hz
    have h0 : 0 < cntB (exL w.heap.size (w.heap.size + 1) (w.heap.size + 1 + 1)) nA z := Nat.pos_of_ne_zero (fun c => hz (by rw [c]; rfl))
    by_cases e : z = nA
    · rw [e]; simp
    · have := (exL_near _ _ _ z).1 ⟨e, h0⟩
      exact List.mem_cons_of_mem _ this) (by simp)).mono (by
    rintro e w' ⟨v, ks, rfl, q1, q2, q3⟩
    have hks : ks = [nB, nC] := by
      refine q1.ext ?_ (fun z => ?_)
      · unfold Rise
        simp only [List.pairwise_cons, List.mem_cons, List.not_mem_nil, or_false, forall_eq, false_implies, implies_true, List.Pairwise.nil, and_true]
        decide
      · rw [q2, hC]
        rw [← exL_near w.heap.size (w.heap.size + 1) (w.heap.size + 1 + 1) z]
        exact and_congr_right fun _ => by omega
    rw [hks] at q3
    exact ⟨v, rfl, q3⟩)
  have C1 := Lib.hid c1
  have C2 := Lib.hid c2
  have C3 := Lib.hid c3
  have C4 := Lib.hid c4
  clear c1 c2 c3 c4 hp hC h1 HO HS szA szB szC
  go_wp2_with fail
  refine C1.out.mono ?_
  rintro e w' ⟨rfl, rfl⟩
  go_wp2_with fail
  refine C2.out.mono ?_
  rintro e w' ⟨rfl, rfl⟩
  go_wp2_with fail
  refine C3.out.mono ?_
  rintro e w' ⟨rfl, rfl⟩
  go_wp2_with fail
  refine C4.out.mono ?_
  rintro e w2 ⟨v, rfl, k1⟩
  obtain ⟨b', c', rfl, _, _, st⟩ := k1.1.strs
  have B2 := Lib.hid (Below.trans' B1.out k1.2.2)
  have hbw : Below w2.heap.size w2 (w2.alloc (.cells #[.string nB, .string nC] 9)) := (Below.refl _ _).alloc (Nat.le_refl _) _
  have T := Lib.hid (texts_any b' (some ⟨w2.heap.size, 0, none⟩) 2 2 c' 2 [nB, nC] [nB, nC] (w2.alloc (.cells #[.string nB, .string nC] 9)) (st.bel hbw) (row_strs (ks := [nB, nC]) (Bk.new w2 [.string nB, .string nC] 9)) rfl rfl (by omega) (by omega))
  rw [decide_eq_true rfl] at T
  have B3 := Lib.hid (Below.trans' B2.out hbw)
  clear k1 st hbw C1 C2 C3 C4
  simp only [List.length_cons, List.length_nil, Nat.zero_add, Nat.reduceAdd]
  go_wp2_with fail
  refine T.out.mono ?_
  rintro e w3 ⟨rfl, q, rfl⟩
  have B4 := Lib.hid (bdrewN B3.out q)
  clear T
  go_wp2_with fail
  go_ret
  exact ⟨rfl, B4.out⟩
end Go.Proofs.Ytnpjihbaebbbcaa

/- Contracts of the reference's Reduce and Sum. -/
import Derived.Test.YtlkiondacgcmdaaRDivisor
import Derived.Test.YtlkiondacgcmdaaRedSum
import Derived.Deep.QuietTactic
import Derived.BigQuiet
namespace Go.Proofs.Ytlkiondacgcmdaa
open Go.RowKit Wide Knuth
set_option linter.unusedVariables false

theorem bel_drewN {B : Nat} {a w : World} (h : Below B a w) (n : Nat) : Below B a (w.drewN n) := h.trans ⟨rfl, rfl, rfl, Nat.le_refl _, fun _ _ => rfl⟩
/-- a number's quotient by the greatest common divisor; may both be? -/
def rdQ (n d x : Nat) : Nat := x / Nat.gcd n d
def rdB (n d : Nat) : Bool := decide (rdQ n d n ≤ 9223372036854775807 ∧ rdQ n d d ≤ 9223372036854775807)
theorem rd_no {n d : Nat} (h : rdB n d = false) : Ending.returned (.tuple #[.agg #[.int .i64 (if rdB n d then (rdQ n d n : Int) else 0), .int .i64 (if rdB n d then (rdQ n d d : Int) else 0)], .bool (rdB n d)]) = .returned (.tuple #[.agg #[.int .i64 0, .int .i64 0], .bool false]) := by rw [h]; rfl
theorem rd_yes {n d : Nat} (h : rdB n d = true) : Ending.returned (.tuple #[.agg #[.int .i64 (if rdB n d then (rdQ n d n : Int) else 0), .int .i64 (if rdB n d then (rdQ n d d : Int) else 0)], .bool (rdB n d)]) = .returned (.tuple #[.agg #[.int .i64 (rdQ n d n), .int .i64 (rdQ n d d)], .bool true]) := by rw [h]; rfl
theorem words_big (q : Int) (h0 : 0 ≤ q) : 0 < hi q ∨ (hi q = 0 ∧ 9223372036854775807 < lo q) ↔ 9223372036854775807 < q := by simp only [hi, lo]; omega
theorem words_small (q : Int) (h0 : 0 ≤ q) (h : hi q = 0) : lo q = q := by simp only [hi, lo] at *; omega

set_option maxHeartbeats 2000000 in
set_option maxRecDepth 100000 in
theorem rreduce_any (n d : Nat) (w : World) (hn : n ≤ 340282366920938463463374607431768211455) (hd1 : 1 ≤ d) (hd : d ≤ 170141183460469231731687303715884105728) :
    Calls Try.prog 29 #[.agg #[.int .u64 (hi n), .int .u64 (lo n)], .agg #[.int .u64 (hi d), .int .u64 (lo d)]] w fun e w' =>
      e = .returned (.tuple #[.agg #[.int .i64 (if rdB n d then (rdQ n d n : Int) else 0), .int .i64 (if rdB n d then (rdQ n d d : Int) else 0)], .bool (rdB n d)]) ∧ Below w.heap.size w w' := by
  have hg1 : 0 < Nat.gcd n d := Nat.gcd_pos_of_pos_right _ hd1
  have hg2 : Nat.gcd n d ≤ d := Nat.le_of_dvd hd1 (Nat.gcd_dvd_right _ _)
  have eP : Hid ((n : Int) / (Nat.gcd n d : Int) = (rdQ n d n : Int)) := by show (n : Int) / (Nat.gcd n d : Int) = (rdQ n d n : Int); rw [rdQ]; rfl
  have eQ : Hid ((d : Int) / (Nat.gcd n d : Int) = (rdQ n d d : Int)) := by show (d : Int) / (Nat.gcd n d : Int) = (rdQ n d d : Int); rw [rdQ]; rfl
  have fin : ((0 < hi (rdQ n d n : Int) ∨ (hi (rdQ n d n : Int) = 0 ∧ 0 < hi (rdQ n d d : Int)) ∨ (hi (rdQ n d n : Int) = 0 ∧ hi (rdQ n d d : Int) = 0 ∧ 9223372036854775807 < lo (rdQ n d n : Int)) ∨ (hi (rdQ n d n : Int) = 0 ∧ hi (rdQ n d d : Int) = 0 ∧ lo (rdQ n d n : Int) ≤ 9223372036854775807 ∧ 9223372036854775807 < lo (rdQ n d d : Int))) ∧ rdB n d = false) ∨
      (hi (rdQ n d n : Int) = 0 ∧ hi (rdQ n d d : Int) = 0 ∧ lo (rdQ n d n : Int) ≤ 9223372036854775807 ∧ lo (rdQ n d d : Int) ≤ 9223372036854775807 ∧ rdB n d = true ∧ lo (rdQ n d n : Int) = (rdQ n d n : Int) ∧ lo (rdQ n d d : Int) = (rdQ n d d : Int)) := by
    by_cases hb : rdQ n d n ≤ 9223372036854775807 ∧ rdQ n d d ≤ 9223372036854775807
    · right
      refine ⟨?_, ?_, ?_, ?_, by simp [rdB, hb], ?_, ?_⟩ <;> (simp only [hi, lo]; omega)
    · left
      refine ⟨?_, by simp only [rdB, decide_eq_false_iff_not]; exact hb⟩
      simp only [hi, lo]; omega
  have RY := Lib.hid (@rd_yes n d)
  have RN := Lib.hid (@rd_no n d)
  have bdn := lo_bd (rdQ n d n : Int)
  have bdd := lo_bd (rdQ n d d : Int)
  have Hn := Lib.hid hn
  have Hd := Lib.hid hd
  clear hn hd
  obtain ⟨bb, hbb⟩ : ∃ bb, rdB n d = bb := ⟨_, rfl⟩
  obtain ⟨P, hP⟩ : ∃ P : Int, (rdQ n d n : Int) = P := ⟨_, rfl⟩
  obtain ⟨Q, hQ⟩ : ∃ Q : Int, (rdQ n d d : Int) = Q := ⟨_, rfl⟩
  rw [hbb, hP, hQ] at fin RY RN
  rw [hP] at eP bdn
  rw [hQ] at eQ bdd
  rw [hbb, hP, hQ]
  clear hbb hP hQ
  obtain ⟨bn0, bn1⟩ := bdn
  obtain ⟨bd0, bd1⟩ := bdd
  have hgd : (Nat.gcd n d : Int) ≤ (d : Int) := by omega
  have hg0 : (1 : Int) ≤ (Nat.gcd n d : Int) := by omega
  have DV := rdivisor_any n d (((w.alloc (.cells #[.int .u64 (hi n), .int .u64 (lo n)] 26)).alloc (.cells #[.int .u64 (hi d), .int .u64 (lo d)] 26)).alloc (.cells #[.int .i64 0, .int .i64 0] 37)) Hn.out Hd.out
  generalize Nat.gcd n d = G at *
  have HDV := Lib.hid DV
  clear DV
  go_enter Try.func29, Try.ntmps29
  go_wp2_with fail
  refine HDV.out.mono ?_
  rintro e w1 ⟨rfl, b1⟩
  have tA := (((Two.new w (.int .u64 (hi n)) (.int .u64 (lo n)) 26).old (.cells #[.int .u64 (hi d), .int .u64 (lo d)] 26)).old (.cells #[.int .i64 0, .int .i64 0] 37)).bel b1
  have tB := ((Two.news (w := w) (.int .u64 (hi n)) (.int .u64 (lo n)) (.int .u64 (hi d)) (.int .u64 (lo d)) 26 26).old (.cells #[.int .i64 0, .int .i64 0] 37)).bel b1
  have tR := (Two.news (w := w.alloc (.cells #[.int .u64 (hi n), .int .u64 (lo n)] 26)) (.int .u64 (hi d)) (.int .u64 (lo d)) (.int .i64 0) (.int .i64 0) 26 37).bel b1
  rw [World.size_alloc] at tR
  have bB := bel_alloc (bel_trans (bel3 w _ _ _) b1) (.cells #[.int .u64 (hi (G : Int)), .int .u64 (lo (G : Int))] 26)
  replace tA := tA.old (.cells #[.int .u64 (hi (G : Int)), .int .u64 (lo (G : Int))] 26)
  replace tB := tB.old (.cells #[.int .u64 (hi (G : Int)), .int .u64 (lo (G : Int))] 26)
  have lR := tR.lt
  replace tR := tR.old (.cells #[.int .u64 (hi (G : Int)), .int .u64 (lo (G : Int))] 26)
  have tG := Two.new w1 (.int .u64 (hi (G : Int))) (.int .u64 (lo (G : Int))) 26
  obtain ⟨g, hg⟩ : ∃ g, w1.heap.size = g := ⟨_, rfl⟩
  obtain ⟨c0, c1, _, _, _⟩ := two_facts tA
  rw [hg] at tG lR
  obtain ⟨d0, d1, _, _, _⟩ := two_facts tG
  clear b1 HDV
  go_wp2_with fail
  clear hg
  generalize w1.alloc (.cells #[.int .u64 (hi (G : Int)), .int .u64 (lo (G : Int))] 26) = V at *
  refine (divide_any n G _ (by omega) (by have := Hn.out; omega) hg0 (by have := Hd.out; omega)).mono ?_
  rintro e w2 ⟨rfl, b2⟩
  rw [eP.out]
  generalize hr1 : (n : Int) % (G : Int) = r1 at *
  replace tA := ((tA.bel b2).old (.cells #[.int .u64 (hi P), .int .u64 (lo P)] 26)).old (.cells #[.int .u64 (hi r1), .int .u64 (lo r1)] 26)
  replace tB := ((tB.bel b2).old (.cells #[.int .u64 (hi P), .int .u64 (lo P)] 26)).old (.cells #[.int .u64 (hi r1), .int .u64 (lo r1)] 26)
  have lR2 := (tR.bel b2).lt
  replace tR := ((tR.bel b2).old (.cells #[.int .u64 (hi P), .int .u64 (lo P)] 26)).old (.cells #[.int .u64 (hi r1), .int .u64 (lo r1)] 26)
  have lG2 := (tG.bel b2).lt
  replace tG := ((tG.bel b2).old (.cells #[.int .u64 (hi P), .int .u64 (lo P)] 26)).old (.cells #[.int .u64 (hi r1), .int .u64 (lo r1)] 26)
  have tP := (Two.new w2 (.int .u64 (hi P)) (.int .u64 (lo P)) 26).old (.cells #[.int .u64 (hi r1), .int .u64 (lo r1)] 26)
  replace bB := bel_alloc (bel_alloc (bel_trans bB b2) (.cells #[.int .u64 (hi P), .int .u64 (lo P)] 26)) (.cells #[.int .u64 (hi r1), .int .u64 (lo r1)] 26)
  clear c0 c1 d0 d1 b2 tA hr1
  obtain ⟨p, hp⟩ : ∃ p, w2.heap.size = p := ⟨_, rfl⟩
  rw [hp] at tP lR2 lG2
  obtain ⟨c0, c1, _, _, _⟩ := two_facts tB
  obtain ⟨d0, d1, _, _, _⟩ := two_facts tG
  go_wp2_with fail
  clear hp
  generalize (w2.alloc (.cells #[.int .u64 (hi P), .int .u64 (lo P)] 26)).alloc (.cells #[.int .u64 (hi r1), .int .u64 (lo r1)] 26) = V2 at *
  refine (divide_any d G _ (by omega) (by have := Hd.out; omega) hg0 (by have := Hd.out; omega)).mono ?_
  rintro e w3 ⟨rfl, b3⟩
  rw [eQ.out]
  generalize hr2 : (d : Int) % (G : Int) = r2 at *
  have lR3 := (tR.bel b3).lt
  replace tR := ((tR.bel b3).old (.cells #[.int .u64 (hi Q), .int .u64 (lo Q)] 26)).old (.cells #[.int .u64 (hi r2), .int .u64 (lo r2)] 26)
  have lP3 := (tP.bel b3).lt
  replace tP := ((tP.bel b3).old (.cells #[.int .u64 (hi Q), .int .u64 (lo Q)] 26)).old (.cells #[.int .u64 (hi r2), .int .u64 (lo r2)] 26)
  have tQ := (Two.new w3 (.int .u64 (hi Q)) (.int .u64 (lo Q)) 26).old (.cells #[.int .u64 (hi r2), .int .u64 (lo r2)] 26)
  replace bB := bel_alloc (bel_alloc (bel_trans bB b3) (.cells #[.int .u64 (hi Q), .int .u64 (lo Q)] 26)) (.cells #[.int .u64 (hi r2), .int .u64 (lo r2)] 26)
  clear c0 c1 d0 d1 b3 tB tG hr2
  obtain ⟨q, hq⟩ : ∃ q, w3.heap.size = q := ⟨_, rfl⟩
  rw [hq] at tQ lR3 lP3
  obtain ⟨c0, c1, _, _, _⟩ := two_facts tP
  obtain ⟨d0, d1, _, _, _⟩ := two_facts tQ
  obtain ⟨e0, e1, f0, f1, _⟩ := two_facts tR
  clear RN RY
  generalize hi P = ph at *
  generalize lo P = pl at *
  generalize hi Q = qh at *
  generalize lo Q = ql at *
  rcases fin with ⟨hw, hb⟩ | ⟨rfl, rfl, z3, z4, hb, z5, z6⟩
  · rcases hw with h1 | ⟨rfl, h2⟩ | ⟨rfl, rfl, h3⟩ | ⟨rfl, rfl, h3, h4⟩
    · have v1 : decide (0 < ph) = true := by simp; omega
      go_wp2_with fail
      all_goals
        refine bodyPost_ret (v := .tuple #[.agg #[.int .i64 0, .int .i64 0], .bool false]) (by simp [results, Try.results29, go_sem, e0, e1]) rfl ⟨rfl, ?_⟩
        exact bel_set (bel_set bB _ _ _ (by omega)) _ _ _ (by omega)
    · have v2 : decide (0 < qh) = true := by simp; omega
      go_wp2_with fail
      all_goals
        refine bodyPost_ret (v := .tuple #[.agg #[.int .i64 0, .int .i64 0], .bool false]) (by simp [results, Try.results29, go_sem, e0, e1]) rfl ⟨rfl, ?_⟩
        exact bel_set (bel_set bB _ _ _ (by omega)) _ _ _ (by omega)
    · have v3 : decide (9223372036854775807 < pl) = true := by simp; omega
      go_wp2_with fail
      all_goals
        refine bodyPost_ret (v := .tuple #[.agg #[.int .i64 0, .int .i64 0], .bool false]) (by simp [results, Try.results29, go_sem, e0, e1]) rfl ⟨rfl, ?_⟩
        exact bel_set (bel_set bB _ _ _ (by omega)) _ _ _ (by omega)
    · have v3 : decide (9223372036854775807 < pl) = false := by simp; omega
      have v4 : decide (9223372036854775807 < ql) = true := by simp; omega
      go_wp2_with fail
      all_goals
        refine bodyPost_ret (v := .tuple #[.agg #[.int .i64 0, .int .i64 0], .bool false]) (by simp [results, Try.results29, go_sem, e0, e1]) rfl ⟨rfl, ?_⟩
        exact bel_set (bel_set bB _ _ _ (by omega)) _ _ _ (by omega)
  · have v3 : decide (9223372036854775807 < pl) = false := by simp; omega
    have v4 : decide (9223372036854775807 < ql) = false := by simp; omega
    have Z5 := Lib.hid z5
    have Z6 := Lib.hid z6
    clear z5 z6
    go_wp2_with fail
    refine bodyPost_ret (v := .tuple #[.agg #[.int .i64 (pl), .int .i64 (ql)], .bool true]) (by simp [results, Try.results29, go_sem, e0, e1]) rfl ⟨by rw [Z5.out, Z6.out], ?_⟩
    exact bel_set (bel_set bB _ _ _ (by omega)) _ _ _ (by omega)
def rB (X D : Int) : Bool := decide (X / gcdI X D ≤ 9223372036854775807 ∧ D / gcdI X D ≤ 9223372036854775807)
def rN (X D : Int) : Int := if rB X D then X / gcdI X D else 0
def rD (X D : Int) : Int := if rB X D then D / gcdI X D else 0
theorem rreduce_int (X D : Int) (w : World) (hX0 : 0 ≤ X) (hX : X ≤ 340282366920938463463374607431768211455) (hD1 : 1 ≤ D) (hD : D ≤ 170141183460469231731687303715884105728) :
    Calls Try.prog 29 #[.agg #[.int .u64 (hi X), .int .u64 (lo X)], .agg #[.int .u64 (hi D), .int .u64 (lo D)]] w fun e w' =>
      e = .returned (.tuple #[.agg #[.int .i64 (rN X D), .int .i64 (rD X D)], .bool (rB X D)]) ∧ Below w.heap.size w w' := by
  obtain ⟨n, rfl⟩ := Int.eq_ofNat_of_zero_le hX0
  obtain ⟨d, rfl⟩ := Int.eq_ofNat_of_zero_le (show 0 ≤ D by omega)
  refine (rreduce_any n d w (by omega) (by omega) (by omega)).mono fun e w' ⟨he, hb⟩ => ⟨?_, hb⟩
  have e1 : ((n : Int) / gcdI n d) = (rdQ n d n : Int) := by rw [gcdI_nat, rdQ]; rfl
  have e2 : ((d : Int) / gcdI n d) = (rdQ n d d : Int) := by rw [gcdI_nat, rdQ]; rfl
  have e3 : rB (n : Int) (d : Int) = rdB n d := by
    rw [rB, rdB, e1, e2]
    exact decide_eq_decide.2 (by omega)
  rw [he, rN, rD, e1, e2, e3]
theorem stepR_r (s x : Int × Int) : stepR s x = if rB (s.1 * x.2 + x.1 * s.2) (s.2 * x.2) then some (rN (s.1 * x.2 + x.1 * s.2) (s.2 * x.2), rD (s.1 * x.2 + x.1 * s.2) (s.2 * x.2)) else none := by
  unfold stepR rN rD rB
  by_cases h : (s.1 * x.2 + x.1 * s.2) / gcdI (s.1 * x.2 + x.1 * s.2) (s.2 * x.2) ≤ 9223372036854775807 ∧ s.2 * x.2 / gcdI (s.1 * x.2 + x.1 * s.2) (s.2 * x.2) ≤ 9223372036854775807
  · rw [if_pos h, decide_eq_true h]; rfl
  · rw [if_neg h, decide_eq_false h]; rfl
theorem stepR_fine {s x t : Int × Int} (hs : Fine s) (hx : Fine x) (h : stepR s x = some t) : Fine t := by
  obtain ⟨s1, s2, _, _⟩ := hs
  obtain ⟨x1, x2, _, _⟩ := hx
  have p1 : 0 ≤ s.1 * x.2 + x.1 * s.2 := by
    have := Int.mul_nonneg s1 (show 0 ≤ x.2 by omega)
    have := Int.mul_nonneg x1 (show 0 ≤ s.2 by omega)
    omega
  have p2 : 1 * 1 ≤ s.2 * x.2 := Int.mul_le_mul s2 x2 (by omega) (by omega)
  obtain ⟨g1, g2⟩ := gcdI_pos (s.1 * x.2 + x.1 * s.2) (s.2 * x.2) (by omega)
  obtain ⟨d1, d2⟩ := div_bd (s.2 * x.2) _ g1 g2
  have d3 := Int.ediv_nonneg p1 (show 0 ≤ gcdI (s.1 * x.2 + x.1 * s.2) (s.2 * x.2) by omega)
  unfold stepR at h
  split at h
  · rename_i hb
    cases h
    exact ⟨d3, d1, hb.1, hb.2⟩
  · cases h

set_option maxHeartbeats 4000000 in
set_option maxRecDepth 100000 in
theorem rsum_some_slice (B off cap : Nat) (xs : List (Int × Int)) (w : World) (hR : Ratios w B off xs) (hS : Small xs) (hL : xs.length ≤ 1000000) :
    Calls Try.prog 19 #[.slice (some ⟨B, off, none⟩) xs.length cap] w fun e w' =>
      e = .returned (.tuple #[.agg #[.int .i64 (sumN xs), .int .i64 (sumD xs)], .bool (sumB xs)]) ∧ Below w.heap.size w w' := by
  have hE := Lib.hid (sum_eq hS)
  generalize hn : xs.length = n at *
  have Hn := Lib.hid hn
  clear hn
  generalize hN : sumN xs = N at *
  generalize hD : sumD xs = D at *
  generalize hB : sumB xs = Z at *
  have HN := Lib.hid hN
  have HD := Lib.hid hD
  have HB := Lib.hid hB
  clear hN hD hB
  go_enter Try.func19, Try.ntmps19
  go_wp2_with fail
  go_loopw [4] (fun c wr => ∃ k : Nat, k ≤ n ∧ c = .int .i64 k ∧ allMay (xs.take k) = true ∧ Below w.heap.size w wr ∧ Two wr w.heap.size (.int .i64 0) (.int .i64 0) 37) (fun c _ => n - (intOf c).toNat)
  case atStart => exact ⟨0, by omega, rfl, rfl, (Below.refl _ _).alloc (Nat.le_refl _) _, Two.new _ _ _ _⟩
  case round =>
    obtain ⟨k, hk, rfl, hm, hb, t0⟩ := hrel
    have HM := Lib.hid hm
    clear hm
    by_cases hlt : k < n
    · obtain ⟨x, hx⟩ : ∃ x, xs[k]? = some x := by
        have := Hn.out
        exact ⟨xs[k]'(by omega), List.getElem?_eq_getElem _⟩
      obtain ⟨c0, c1⟩ := hR k x hx
      have l0 := block_lt_of_cell c0
      have c2 := hb.cell (p := ⟨B, off + k * 2, none⟩) l0
      have c3 := hb.cell (p := ⟨B, off + k * 2 + 1, none⟩) l0
      rw [c0] at c2
      rw [c1] at c3
      clear c0 c1
      have HX := Lib.hid hx
      clear hx
      go_wp2_with fail
      refine (rmay_any _ _ _).mono ?_
      rintro e w1 ⟨rfl, rfl⟩
      have bA := bel_alloc hb (.cells #[.int .i64 x.1, .int .i64 x.2] 37)
      have t1 := t0.old (.cells #[.int .i64 x.1, .int .i64 x.2] 37)
      have l1 := t0.lt
      cases hmx : mayB x.1 x.2
      · have hz := sum_none (not_may HX.out hmx)
        have z1 : N = 0 := by rw [← HN.out]; exact hz.1
        have z2 : D = 0 := by rw [← HD.out]; exact hz.2.1
        have z3 : Z = false := by rw [← HB.out]; exact hz.2.2
        subst z1 z2 z3
        obtain ⟨e0, e1, f0, f1, _⟩ := two_facts t1
        generalize (wr.alloc (.cells #[.int .i64 x.1, .int .i64 x.2] 37)) = V at *
        go_wp2_with fail
        refine bodyPost_ret (v := .tuple #[.agg #[.int .i64 0, .int .i64 0], .bool false]) (by simp [results, Try.results19, go_sem, e0, e1]) rfl ⟨rfl, ?_⟩
        exact bel_set (bel_set bA _ _ _ (by omega)) _ _ _ (by omega)
      · have HM2 := Lib.hid (may_next HX.out HM.out hmx)
        go_wp2_with fail
        go_roundw
        case rel => exact ⟨k + 1, by omega, by go_num, HM2.out, bA, t1⟩
        case measure => simp [intOf]; omega
    · obtain rfl : k = n := by omega
      have hall : allMay xs = true := by have h := HM.out; rw [List.take_of_length_le (by have := Hn.out; omega)] at h; exact h
      have HA := Lib.hid hall
      clear hall HM
      have bG := bel_alloc hb (.cells #[.int .i64 0, .int .i64 1] 37)
      have t1 := t0.old (.cells #[.int .i64 0, .int .i64 1] 37)
      have t2 := Two.new wr (.int .i64 0) (.int .i64 1) 37
      have l1 := t0.lt
      have HL := Lib.hid hb.size
      obtain ⟨g, hg⟩ : ∃ g, wr.heap.size = g := ⟨_, rfl⟩
      rw [hg] at t2 l1 HL
      go_wp2_with fail
      clear hb t0
      generalize wr.alloc (.cells #[.int .i64 0, .int .i64 1] 37) = V at *
      clear hg
      go_loopw [6] (fun c wv => ∃ (j : Nat) (S : Int × Int), j ≤ k ∧ c = .int .i64 j ∧ foldR (xs.take j) (0, 1) = some S ∧ Fine S ∧ Below w.heap.size w wv ∧ Two wv w.heap.size (.int .i64 0) (.int .i64 0) 37 ∧ Two wv g (.int .i64 S.1) (.int .i64 S.2) 37) (fun c _ => k - (intOf c).toNat)
      case atStart => exact ⟨0, (0, 1), by omega, rfl, rfl, ⟨by decide, by decide, by decide, by decide⟩, bG, t1, t2⟩
      case round =>
        obtain ⟨j, S, hj, rfl, hf, hF, hb, s0, s1⟩ := hrel
        have HF := Lib.hid hf
        clear hf bG t1 t2
        by_cases hlt2 : j < k
        · obtain ⟨x, hx⟩ : ∃ x, xs[j]? = some x := by
            have := Hn.out
            exact ⟨xs[j]'(by omega), List.getElem?_eq_getElem _⟩
          obtain ⟨c0, c1⟩ := hR j x hx
          have l0 := block_lt_of_cell c0
          have c2 := hb.cell (p := ⟨B, off + j * 2, none⟩) l0
          have c3 := hb.cell (p := ⟨B, off + j * 2 + 1, none⟩) l0
          rw [c0] at c2
          rw [c1] at c3
          clear c0 c1
          obtain ⟨x1, x2, x3, x4⟩ := may_fine HA.out hS hx
          obtain ⟨v1, v2, v3, v4⟩ := hF
          have HX := Lib.hid hx
          clear hx
          obtain ⟨y0, y1, _, _, lg⟩ := two_facts s1
          have ls := s0.lt
          go_wp2_with fail
          have m1 := mul_le S.1 x.2 v1 (by omega) v3 x4
          have m2 := mul_le x.1 S.2 x1 (by omega) x3 v4
          have m3 := mul_le S.2 x.2 (by omega) (by omega) v4 x4
          have m4 := Int.mul_nonneg v1 (show 0 ≤ x.2 by omega)
          have m5 := Int.mul_nonneg x1 (show 0 ≤ S.2 by omega)
          have m6 : 1 * 1 ≤ S.2 * x.2 := Int.mul_le_mul v2 x2 (by omega) (by omega)
          have ST := Lib.hid (stepR_r S x)
          have FS : Hid (Fine S) := ⟨v1, v2, v3, v4⟩
          have FX : Hid (Fine x) := ⟨x1, x2, x3, x4⟩
          have AD : Hid (add (S.1 * x.2) (x.1 * S.2) = S.1 * x.2 + x.1 * S.2) := add_in (by omega) (by omega)
          go_quiet (fail)
          go_wp2_with fail
          refine (times_any S.1 x.2 _ v1 (by omega) (by omega) (by omega)).mono ?_
          rintro e w1 ⟨rfl, b1⟩
          generalize hX : S.1 * x.2 = X at *
          generalize hY : x.1 * S.2 = Y at *
          generalize hW : S.2 * x.2 = W at *
          go_wp2_with fail
          refine (times_any x.1 S.2 _ x1 (by omega) (by omega) (by omega)).mono ?_
          rintro e w2 ⟨rfl, b2⟩
          rw [hY]
          go_wp2_with fail
          refine (plus_any X Y _ m4 m5).mono ?_
          rintro e w3 ⟨rfl, b3⟩
          rw [AD.out]
          go_wp2_with fail
          refine (times_any S.2 x.2 _ (by omega) (by omega) (by omega) (by omega)).mono ?_
          rintro e w4 ⟨rfl, b4⟩
          rw [hW]
          go_wp2_with fail
          refine (rreduce_int (X + Y) W _ (by omega) (by omega) (by omega) (by omega)).mono ?_
          rintro e w5 ⟨rfl, b5⟩
          obtain ⟨ok, hok⟩ : ∃ ok, rB (X + Y) W = ok := ⟨_, rfl⟩
          obtain ⟨nn, hnn⟩ : ∃ nn, rN (X + Y) W = nn := ⟨_, rfl⟩
          obtain ⟨dd, hdd⟩ : ∃ dd, rD (X + Y) W = dd := ⟨_, rfl⟩
          rw [hok, hnn, hdd] at ST ⊢
          clear hok hnn hdd hX hY hW
          have bZ := bel_trans (bel_trans (bel_trans (bel_trans (bel_trans (bel_drewN (Below.refl wr.heap.size wr) _) b1) b2) b3) b4) b5
          have bY := bel_trans hb bZ
          replace s0 := s0.bel bZ
          replace s1 := s1.bel bZ
          clear b1 b2 b3 b4 b5 bZ hb c2 c3 y0 y1 m1 m2 m3 m4 m5 m6 AD
          have l2 := s0.lt
          have l3 := s1.lt
          obtain ⟨c0, c1, f0, f1, _⟩ := two_facts s0
          obtain ⟨d0, d1, g0, g1, _⟩ := two_facts s1
          cases ok
          · have hz : sumS xs = none := by
              have h1 := HF.out
              have h2 : foldR (xs.take (j + 1)) (0, 1) = none := by
                rw [take_next HX.out, foldR_snoc, h1, Option.bind_some, ST.out]; rfl
              have h3 := foldR_none _ (xs.drop (j + 1)) _ h2
              rw [List.take_append_drop] at h3
              rw [hE.out]; simp [sumR, HA.out, h3]
            have hz2 := sum_none hz
            have z1 : N = 0 := by rw [← HN.out]; exact hz2.1
            have z2 : D = 0 := by rw [← HD.out]; exact hz2.2.1
            have z3 : Z = false := by rw [← HB.out]; exact hz2.2.2
            subst z1 z2 z3
            clear hz hz2
            go_wp2_with fail
            obtain ⟨q0, q1, _, _, _⟩ := two_facts ((s0.set (.int .i64 0) (.int .i64 0)).old (.cells #[.int .i64 nn, .int .i64 dd] 37))
            refine bodyPost_ret (v := .tuple #[.agg #[.int .i64 0, .int .i64 0], .bool false]) (by simp [results, Try.results19, go_sem, q0, q1]) rfl ⟨rfl, ?_⟩
            exact bel_alloc (bel_set (bel_set bY _ _ _ (Nat.le_refl _)) _ _ _ (Nat.le_refl _)) _
          · have h0 : stepR S x = some (nn, dd) := by
              rw [ST.out]; rfl
            have h1 : foldR (xs.take (j + 1)) (0, 1) = some (nn, dd) := by
              rw [take_next HX.out, foldR_snoc, HF.out, Option.bind_some, h0]
            have h2 : Fine (nn, dd) := stepR_fine FS.out FX.out h0
            have H1 := Lib.hid h1
            have H2 := Lib.hid h2
            clear h0 h1 h2
            go_wp2_with fail
            go_roundw
            case rel => exact ⟨j + 1, (nn, dd), by omega, by go_num, H1.out, H2.out, bel_alloc (bel_set (bel_set bY _ _ _ HL.out) _ _ _ HL.out) _, (s0.other _ (by omega) _ _).old _, (s1.set _ _).old _⟩
            case measure => simp [intOf]; omega
        · obtain rfl : j = k := by omega
          have h1 : sumS xs = some S := by
            have h := HF.out
            rw [List.take_of_length_le (by have := Hn.out; omega)] at h
            rw [hE.out]; simp [sumR, HA.out, h]
          have hz2 := sum_some h1
          have z1 : N = S.1 := by rw [← HN.out]; exact hz2.1
          have z2 : D = S.2 := by rw [← HD.out]; exact hz2.2.1
          have z3 : Z = true := by rw [← HB.out]; exact hz2.2.2
          subst z1 z2 z3
          obtain ⟨f2, f3, f4, f5, _⟩ := two_facts s0
          obtain ⟨f6, f7, _, _, _⟩ := two_facts s1
          clear hz2 h1
          go_wp2_with fail
          refine bodyPost_ret (v := .tuple #[.agg #[.int .i64 S.1, .int .i64 S.2], .bool true]) (by simp [results, Try.results19, go_sem, f2, f3]) rfl ⟨rfl, ?_⟩
          exact bel_set (bel_set hb _ _ _ (by omega)) _ _ _ (by omega)
theorem sum_nil : sumN [] = 0 ∧ sumD [] = 1 ∧ sumB [] = true := ⟨rfl, rfl, rfl⟩
set_option maxHeartbeats 1000000 in
theorem sum_nil_slice (b : Option Addr) (cap : Nat) (w : World) :
    Calls Try.prog 18 #[.slice b 0 cap] w fun e w' => e = .returned (.tuple #[.agg #[.int .i64 0, .int .i64 1], .bool true]) ∧ Below w.heap.size w w' := by
  go_enter Try.func18, Try.ntmps18
  go_wp2_with fail
  go_loopw [12] (fun c wr => c = .int .i64 0 ∧ wr = w.alloc (.cells #[.int .i64 0, .int .i64 0] 37)) (fun _ _ => 0)
  case atStart => exact ⟨rfl, rfl⟩
  case round =>
    obtain ⟨rfl, rfl⟩ := hrel
    go_wp2_with fail
    go_loopw [24] (fun c wr => c = .int .i64 0 ∧ wr = (w.alloc (.cells #[.int .i64 0, .int .i64 0] 37)).alloc (.cells #[.int .i64 0, .int .i64 1] 37)) (fun _ _ => 0)
    case atStart => exact ⟨rfl, rfl⟩
    case round =>
      obtain ⟨rfl, rfl⟩ := hrel
      go_wp2_with fail
      refine bodyPost_ret (v := .tuple #[.agg #[.int .i64 0, .int .i64 1], .bool true]) (by simp [results, Try.results18, go_sem]) rfl ⟨rfl, ?_⟩
      exact bel2 _ _ _
set_option maxHeartbeats 1000000 in
theorem rsum_nil_slice (b : Option Addr) (cap : Nat) (w : World) :
    Calls Try.prog 19 #[.slice b 0 cap] w fun e w' => e = .returned (.tuple #[.agg #[.int .i64 0, .int .i64 1], .bool true]) ∧ Below w.heap.size w w' := by
  go_enter Try.func19, Try.ntmps19
  go_wp2_with fail
  go_loopw [4] (fun c wr => c = .int .i64 0 ∧ wr = w.alloc (.cells #[.int .i64 0, .int .i64 0] 37)) (fun _ _ => 0)
  case atStart => exact ⟨rfl, rfl⟩
  case round =>
    obtain ⟨rfl, rfl⟩ := hrel
    go_wp2_with fail
    go_loopw [6] (fun c wr => c = .int .i64 0 ∧ wr = (w.alloc (.cells #[.int .i64 0, .int .i64 0] 37)).alloc (.cells #[.int .i64 0, .int .i64 1] 37)) (fun _ _ => 0)
    case atStart => exact ⟨rfl, rfl⟩
    case round =>
      obtain ⟨rfl, rfl⟩ := hrel
      go_wp2_with fail
      refine bodyPost_ret (v := .tuple #[.agg #[.int .i64 0, .int .i64 1], .bool true]) (by simp [results, Try.results19, go_sem]) rfl ⟨rfl, ?_⟩
      exact bel2 _ _ _
end Go.Proofs.Ytlkiondacgcmdaa

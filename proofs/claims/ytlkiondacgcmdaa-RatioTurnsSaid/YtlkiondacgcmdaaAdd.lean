/- Contracts of ratio's reduce and add. -/
import Derived.Test.YtlkiondacgcmdaaScale
import Derived.StillTailTactics
import Derived.Laws.Externs
namespace Go.Proofs.Ytlkiondacgcmdaa
open Go.RowKit Wide Knuth
set_option linter.unusedVariables false

def gcdI (a b : Int) : Int := (Nat.gcd a.toNat b.toNat : Int)
theorem divisor_int (a b : Int) (w : World) (ha0 : 0 ≤ a) (hb0 : 0 ≤ b) (ha : a ≤ 18446744073709551615) (hb : b ≤ 18446744073709551615) :
    Calls Try.prog 33 #[.int .u64 a, .int .u64 b] w fun e w' => e = .returned (.int .u64 (gcdI a b)) ∧ Below w.heap.size w w' := by
  obtain ⟨m, rfl⟩ := Int.eq_ofNat_of_zero_le ha0
  obtain ⟨n, rfl⟩ := Int.eq_ofNat_of_zero_le hb0
  exact divisor_any m n w (by omega) (by omega)
theorem gcdI_pos (a b : Int) (hb : 1 ≤ b) : 1 ≤ gcdI a b ∧ gcdI a b ≤ b := by
  unfold gcdI
  have h1 : 0 < Nat.gcd a.toNat b.toNat := Nat.gcd_pos_of_pos_right _ (by omega)
  have h2 := Nat.le_of_dvd (by omega) (Nat.gcd_dvd_right a.toNat b.toNat)
  omega

set_option maxHeartbeats 400000 in
theorem reduce_any (a b : Int) (w : World) (ha0 : 0 ≤ a) (hb0 : 1 ≤ b) (ha : a ≤ 9223372036854775807) (hb : b ≤ 9223372036854775807) :
    Calls Try.prog 28 #[.agg #[.int .i64 a, .int .i64 b]] w fun e w' => e = .returned (.agg #[.int .i64 (a / gcdI a b), .int .i64 (b / gcdI a b)]) ∧ Below w.heap.size w w' := by
  obtain ⟨g1, g2⟩ := gcdI_pos a b hb0
  generalize hG : gcdI a b = G at *
  have HG := Lib.hid hG
  clear hG
  go_enter Try.func28, Try.ntmps28
  go_wp2_with fail
  refine (divisor_int _ _ _ (by omega) (by omega) (by omega) (by omega)).mono ?_
  rintro e w1 ⟨rfl, b1⟩
  rw [HG.out]
  have t1 := ((Two.new w (.int .i64 a) (.int .i64 b) 37).old _).bel b1
  have t2 := (Two.news (.int .i64 a) (.int .i64 b) (.int .i64 0) (.int .i64 0) 37 37).bel b1
  have bB := bel_trans (bel2 w _ _) b1
  obtain ⟨c0, c1, _, _, _⟩ := two_facts t1
  obtain ⟨d0, d1, f0, f1, _⟩ := two_facts t2
  clear b1
  go_wp2_with fail
  have e1 : IntKind.i64.wrap (a.tdiv G) = a / G := IntWalk.i64_quo a G ⟨ha0, ha, g1⟩
  have e2 : IntKind.i64.wrap (b.tdiv G) = b / G := IntWalk.i64_quo b G ⟨by omega, hb, g1⟩
  have e3 : (G == 0) = false := by simp; omega
  have e4 : ¬ G = 0 := by omega
  go_region
  go_wp2_with fail
  refine bodyPost_ret (v := .agg #[.int .i64 (a / G), .int .i64 (b / G)]) (by simp [results, Try.results28, go_sem, d0, d1]) rfl ⟨rfl, ?_⟩
  exact (bel_set (bel_set bB _ _ _ (by omega)) _ _ _ (by omega)).drew

set_option maxHeartbeats 400000 in
theorem add64_any (x y c : Int) (w : World) (hx : 0 ≤ x) (hy : 0 ≤ y) (hc0 : 0 ≤ c) (hc : c ≤ 1) :
    (callFunc 34 #[.int .u64 x, .int .u64 y, .int .u64 c]).run Try.prog w = .ok (.value (.tuple #[.int .u64 ((x + y + c) % 18446744073709551616), .int .u64 ((x + y + c) / 18446744073709551616)])) w := by
  rw [run_callFunc_extern Try.func34 (by kernel_rfl) (by kernel_rfl) (by kernel_rfl) (e := add64Entry) (by kernel_rfl), run_add64 x y c hx hy hc0 hc]
  rfl

/-- the sum a/b + c/d, as add makes it -/
def addG (b d : Int) : Int := gcdI b d
def addT (a b c d : Int) : Int := a * (d / addG b d) + c * (b / addG b d)
def addH (a b c d : Int) : Int := gcdI (addG b d) (addT a b c d % addG b d)
def addN (a b c d : Int) : Int := addT a b c d / addH a b c d
def addD (a b c d : Int) : Int := b / addG b d * (d / addH a b c d)
def addB (a b c d : Int) : Bool := decide (addN a b c d ≤ 9223372036854775807 ∧ addD a b c d ≤ 9223372036854775807)

theorem gcdI_left (a b : Int) (ha : 1 ≤ a) : 1 ≤ gcdI a b ∧ gcdI a b ≤ a := by
  unfold gcdI
  have h1 : 0 < Nat.gcd a.toNat b.toNat := Nat.gcd_pos_of_pos_left _ (by omega)
  have h2 := Nat.le_of_dvd (by omega) (Nat.gcd_dvd_left a.toNat b.toNat)
  omega
theorem div_bd (x g : Int) (hg : 1 ≤ g) (h : g ≤ x) : 1 ≤ x / g ∧ x / g ≤ x :=
  ⟨Int.le_ediv_of_mul_le (by omega) (by omega), Int.ediv_le_self _ (by omega)⟩
/-- two words' sum -/
theorem carry (X Y : Int) (hX : 0 ≤ X) (hY : 0 ≤ Y) (hX2 : X ≤ 85070591730234615865843651857942052864) (hY2 : Y ≤ 85070591730234615865843651857942052864) :
    ∃ cy c2 : Int, 0 ≤ cy ∧ cy ≤ 1 ∧ (lo X + lo Y + 0) % 18446744073709551616 = lo (X + Y) ∧ (lo X + lo Y + 0) / 18446744073709551616 = cy ∧ (hi X + hi Y + cy) % 18446744073709551616 = hi (X + Y) ∧ (hi X + hi Y + cy) / 18446744073709551616 = c2 := by
  refine ⟨_, _, ?_, ?_, ?_, rfl, ?_, rfl⟩ <;> (simp only [lo, hi]; omega)

theorem pick_no {B : Bool} (h : B = false) (x y : Int) : Ending.returned (.tuple #[.agg #[.int .i64 (if B then x else 0), .int .i64 (if B then y else 0)], .bool B]) = .returned (.tuple #[.agg #[.int .i64 0, .int .i64 0], .bool false]) := by
  subst h; rfl
theorem pick_yes {B : Bool} (h : B = true) (x y : Int) : Ending.returned (.tuple #[.agg #[.int .i64 (if B then x else 0), .int .i64 (if B then y else 0)], .bool B]) = .returned (.tuple #[.agg #[.int .i64 x, .int .i64 y], .bool true]) := by
  subst h; rfl
set_option maxHeartbeats 2000000 in
set_option maxRecDepth 100000 in
theorem add_any (a b c d : Int) (w : World) (ha0 : 0 ≤ a) (hb0 : 1 ≤ b) (hc0 : 0 ≤ c) (hd0 : 1 ≤ d) (ha : a ≤ 9223372036854775807) (hb : b ≤ 9223372036854775807) (hc : c ≤ 9223372036854775807) (hd : d ≤ 9223372036854775807) :
    Calls Try.prog 27 #[.agg #[.int .i64 a, .int .i64 b], .agg #[.int .i64 c, .int .i64 d]] w fun e w' =>
      e = .returned (.tuple #[.agg #[.int .i64 (if addB a b c d then addN a b c d else 0), .int .i64 (if addB a b c d then addD a b c d else 0)], .bool (addB a b c d)]) ∧ Below w.heap.size w w' := by
  obtain ⟨g1, g2⟩ := gcdI_pos b d hd0
  obtain ⟨_, g3⟩ := gcdI_left b d hb0
  obtain ⟨x1, x2⟩ := div_bd b _ g1 g3
  obtain ⟨x3, x4⟩ := div_bd d _ g1 g2
  have eN : addN a b c d = addT a b c d / addH a b c d := rfl
  have eD : addD a b c d = b / addG b d * (d / addH a b c d) := rfl
  have eT : addT a b c d = a * (d / addG b d) + c * (b / addG b d) := rfl
  have eB : addB a b c d = decide (addN a b c d ≤ 9223372036854775807 ∧ addD a b c d ≤ 9223372036854775807) := rfl
  have eH : addH a b c d = gcdI (addG b d) (addT a b c d % addG b d) := rfl
  have eG : addG b d = gcdI b d := rfl
  rw [← eG] at g1 g2 g3 x1 x2 x3 x4
  have h1 := (gcdI_left (addG b d) (addT a b c d % addG b d) g1)
  rw [← eH] at h1
  obtain ⟨h2, h3⟩ := h1
  obtain ⟨x5, x6⟩ := div_bd d _ h2 (by omega)
  have T1 : 0 ≤ a * (d / addG b d) := Int.mul_nonneg ha0 (by omega)
  have T2 : 0 ≤ c * (b / addG b d) := Int.mul_nonneg hc0 (by omega)
  have T3 := mul_le a (d / addG b d) ha0 (by omega) ha (by omega)
  have T4 := mul_le c (b / addG b d) hc0 (by omega) hc (by omega)
  have D1 := mul_le (b / addG b d) (d / addH a b c d) (by omega) (by omega) (by omega) (by omega)
  have D2 : 0 ≤ b / addG b d * (d / addH a b c d) := Int.mul_nonneg (by omega) (by omega)
  have P1 : Hid (prod a (d / addG b d) = a * (d / addG b d)) := prod_nn _ _ ha0 (by omega)
  have P2 : Hid (prod c (b / addG b d) = c * (b / addG b d)) := prod_nn _ _ hc0 (by omega)
  have P3 : Hid (prod (b / addG b d) (d / addH a b c d) = b / addG b d * (d / addH a b c d)) := prod_nn _ _ (by omega) (by omega)
  rw [← eD] at D1 D2 P3
  obtain ⟨cy, c2, y1, y2, y3, y4, y5, y6⟩ := carry (a * (d / addG b d)) (c * (b / addG b d)) T1 T2 T3 T4
  rw [← eT] at y3 y5
  have hT0 : 0 ≤ addT a b c d := by omega
  have hT1 : addT a b c d ≤ 340282366920938463463374607431768211455 := by omega
  have k1 := hi_bd (addT a b c d) hT0 hT1
  have k2 := lo_bd (addT a b c d)
  have k3 := Lib.hid (hi_lo (addT a b c d))
  have k4 := hi_ge (addT a b c d) (addH a b c d) h2 hT0
  have k5 := hi_lt (addT a b c d) (addH a b c d) h2 hT0
  have m1 := hi_bd (a * (d / addG b d)) T1 (by omega)
  have m2 := lo_bd (a * (d / addG b d))
  have m3 := hi_bd (c * (b / addG b d)) T2 (by omega)
  have m4 := lo_bd (c * (b / addG b d))
  have A1 : ∀ w, (callFunc 34 #[.int .u64 (lo (a * (d / addG b d))), .int .u64 (lo (c * (b / addG b d))), .int .u64 0]).run Try.prog w = .ok (.value (.tuple #[.int .u64 (lo (addT a b c d)), .int .u64 cy])) w :=
    fun w => by rw [add64_any _ _ _ w m2.1 m4.1 (by omega) (by omega), y3, y4]
  have A2 : ∀ w, (callFunc 34 #[.int .u64 (hi (a * (d / addG b d))), .int .u64 (hi (c * (b / addG b d))), .int .u64 cy]).run Try.prog w = .ok (.value (.tuple #[.int .u64 (hi (addT a b c d)), .int .u64 c2])) w :=
    fun w => by rw [add64_any _ _ _ w m1.1 m3.1 y1 y2, y5, y6]
  have RM : Hid ((hi (addT a b c d) * 18446744073709551616 + lo (addT a b c d)) % addG b d = addT a b c d % addG b d) := by
    show (hi (addT a b c d) * 18446744073709551616 + lo (addT a b c d)) % addG b d = addT a b c d % addG b d
    rw [hi_lo]
  have DV : Hid ((hi (addT a b c d) * 18446744073709551616 + lo (addT a b c d)) / addH a b c d = addN a b c d) := by
    show (hi (addT a b c d) * 18446744073709551616 + lo (addT a b c d)) / addH a b c d = addN a b c d
    rw [hi_lo, eN]
  have rm0 := Int.emod_nonneg (addT a b c d) (show addG b d ≠ 0 by omega)
  have rm1 := Int.emod_lt_of_pos (addT a b c d) (show 0 < addG b d by omega)
  have n1 := hi_bd (addD a b c d) D2 (by omega)
  have n2 := lo_bd (addD a b c d)
  have n3 : hi (addD a b c d) = 0 ∧ lo (addD a b c d) ≤ 9223372036854775807 ↔ addD a b c d ≤ 9223372036854775807 := by
    simp only [lo, hi]; omega
  have n4 : hi (addD a b c d) = 0 ∧ lo (addD a b c d) ≤ 9223372036854775807 → lo (addD a b c d) = addD a b c d := by
    simp only [lo, hi]; omega
  clear y3 y4 y5 y6 T1 T2 T3 T4 m1 m2 m3 m4 hT0 hT1 D1 D2 eT
  generalize addT a b c d = T at *
  generalize addH a b c d = H at *
  generalize addG b d = G at *
  generalize addN a b c d = Nn at *
  generalize addD a b c d = Dn at *
  generalize addB a b c d = Bb at *
  generalize hRR : d / G = RR at *
  generalize hLL : b / G = LL at *
  generalize hDH : d / H = DH at *
  generalize a * RR = X at *
  generalize c * LL = Y at *
  have HN := Lib.hid eN
  have HB := Lib.hid eB
  have HH := Lib.hid eH.symm
  have HG := Lib.hid eG.symm
  have K4 := Lib.hid k4
  have K5 := Lib.hid k5
  have N3 := Lib.hid n3
  have N4 := Lib.hid n4
  obtain ⟨k6, k7⟩ := k1
  obtain ⟨k8, k9⟩ := k2
  obtain ⟨n6, n7⟩ := n1
  obtain ⟨n8, n9⟩ := n2
  have q1 : IntKind.i64.wrap (b.tdiv G) = LL := by rw [IntWalk.i64_quo b G ⟨by omega, hb, g1⟩, hLL]
  have q2 : IntKind.i64.wrap (d.tdiv G) = RR := by rw [IntWalk.i64_quo d G ⟨by omega, hd, g1⟩, hRR]
  have q3 : IntKind.i64.wrap (d.tdiv H) = DH := by rw [IntWalk.i64_quo d H ⟨by omega, hd, h2⟩, hDH]
  have HRR := Lib.hid hRR
  have HLL := Lib.hid hLL
  have HDH := Lib.hid hDH
  have q4 : (G == 0) = false := by simp; omega
  have q5 : ¬ G = 0 := by omega
  have QQ1 := Lib.hid q1
  have QQ2 := Lib.hid q2
  clear eN eB eH eG eD k4 k5 n3 n4 hRR hLL hDH q1 q2
  have QQ3 := Lib.hid q3
  clear q3
  generalize T % G = rm at *
  generalize hi T = th at *
  generalize lo T = tw at *
  generalize hDh : hi Dn = dh at *
  generalize hDl : lo Dn = dl at *
  have HDh := Lib.hid hDh
  have HDl := Lib.hid hDl
  clear hDh hDl
  go_enter Try.func27, Try.ntmps27
  go_wp2_with fail
  refine (divisor_int _ _ _ (by omega) (by omega) (by omega) (by omega)).mono ?_
  rintro e w1 ⟨rfl, b1⟩
  rw [HG.out]
  have t1 := (((Two.new w (.int .i64 a) (.int .i64 b) 37).old (.cells #[.int .i64 c, .int .i64 d] 37)).old (.cells #[.int .i64 0, .int .i64 0] 37)).bel b1
  have t2 := ((Two.news (w := w) (.int .i64 a) (.int .i64 b) (.int .i64 c) (.int .i64 d) 37 37).old (.cells #[.int .i64 0, .int .i64 0] 37)).bel b1
  have t3 := (Two.news (w := w.alloc (.cells #[.int .i64 a, .int .i64 b] 37)) (.int .i64 c) (.int .i64 d) (.int .i64 0) (.int .i64 0) 37 37).bel b1
  rw [World.size_alloc] at t3
  have bB := bel_trans (bel3 w _ _ _) b1
  obtain ⟨c0, c1, _, _, _⟩ := two_facts t1
  obtain ⟨d0, d1, _, _, _⟩ := two_facts t2
  obtain ⟨e0, e1, f0, f1, _⟩ := two_facts t3
  clear b1
  go_wp2_with fail
  have q1 := QQ1.out
  have q2 := QQ2.out
  go_region
  clear q1 q2 q5
  go_wp2_with fail
  refine (product_any _ _ _ ha (by omega)).mono ?_
  rintro e w2 ⟨rfl, rfl⟩
  rw [P1.out]
  go_wp2_with fail
  refine (product_any _ _ _ hc (by omega)).mono ?_
  rintro e w2 ⟨rfl, rfl⟩
  rw [P2.out]
  go_wp2_with fail
  refine (rem64_any _ _ _ _ k8 k9 k6 k7 g1 (by omega)).mono ?_
  rintro e w2 ⟨rfl, b2⟩
  rw [RM.out]
  have bC := bel_trans bB.drew b2
  have t2b := t2.drew.bel b2
  have t3b := t3.drew.bel b2
  clear A1 A2 c0 c1 d0 d1 e0 e1 f0 f1 b2 t1 t2 t3 bB
  go_wp2_with fail
  refine (divisor_int _ _ _ (by omega) (by omega) (by omega) (by omega)).mono ?_
  rintro e w3 ⟨rfl, b3⟩
  rw [HH.out]
  have bD := bel_trans bC b3
  have t2c := t2b.bel b3
  have t3c := t3b.bel b3
  obtain ⟨_, d1, _, _, _⟩ := two_facts t2c
  obtain ⟨e0, e1, f0, f1, _⟩ := two_facts t3c
  clear b3 t2b t3b bC
  by_cases hge : H ≤ th
  · have bb : Bb = false := by
      rw [HB.out]; simp only [decide_eq_false_iff_not]
      intro k
      have := K4.out hge
      have := HN.out
      omega
    go_wp2_with fail
    all_goals
      refine bodyPost_ret (v := .tuple #[.agg #[.int .i64 0, .int .i64 0], .bool false]) (by simp [results, Try.results27, go_sem, e0, e1]) rfl ⟨rfl, ?_⟩
      exact bel_set (bel_set bD _ _ _ (by omega)) _ _ _ (by omega)
  · go_wp2_with fail
    refine (div64_any _ _ _ _ k8 k9 k6 (by omega) (by omega)).mono ?_
    rintro e w4 ⟨rfl, b4⟩
    rw [DV.out]
    have q3 := QQ3.out
    have q6 : (H == 0) = false := by simp; omega
    have bE := bel_trans bD b4
    have t2d := t2c.bel b4
    have t3d := t3c.bel b4
    clear d1 e0 e1 f0 f1 b4 t2c t3c bD
    obtain ⟨_, d1, _, _, _⟩ := two_facts t2d
    obtain ⟨e0, e1, f0, f1, _⟩ := two_facts t3d
    have nn0 : 0 ≤ Nn := by rw [HN.out]; exact Int.ediv_nonneg (by have := k3.out; omega) (by omega)
    have nn1 : Nn ≤ 18446744073709551615 := by rw [HN.out]; exact K5.out (by omega)
    go_wp2_with fail
    refine (product_any _ _ _ (by omega) (by omega)).mono ?_
    rintro e w5 ⟨rfl, rfl⟩
    rw [P3.out, HDh.out, HDl.out]
    clear q3
    by_cases u1 : Nn ≤ 9223372036854775807
    · by_cases u2 : dh = 0
      · subst u2
        by_cases u3 : dl ≤ 9223372036854775807
        · have bb : Bb = true := by
            rw [HB.out]; simp only [decide_eq_true_eq]
            exact ⟨u1, N3.out.1 ⟨rfl, u3⟩⟩
          have ed := N4.out ⟨rfl, u3⟩
          clear HDl HDh
          subst ed
          have v1 : decide (9223372036854775807 < Nn) = false := by simp; omega
          have v2 : decide (9223372036854775807 < dl) = false := by simp; omega
          go_wp2_with fail
          refine bodyPost_ret (v := .tuple #[.agg #[.int .i64 Nn, .int .i64 dl], .bool true]) (by simp [results, Try.results27, go_sem, e0, e1]) rfl ⟨rfl, ?_⟩
          exact bel_set (bel_set bE _ _ _ (by omega)) _ _ _ (by omega)
        · have bb : Bb = false := by
            rw [HB.out]; simp only [decide_eq_false_iff_not]
            intro k
            exact u3 (N3.out.2 k.2).2
          go_wp2_with fail
          all_goals
            refine bodyPost_ret (v := .tuple #[.agg #[.int .i64 0, .int .i64 0], .bool false]) (by simp [results, Try.results27, go_sem, e0, e1]) rfl ⟨rfl, ?_⟩
            exact bel_set (bel_set bE _ _ _ (by omega)) _ _ _ (by omega)
      · have u3 : (dh != 0) = true := by simpa using u2
        have bb : Bb = false := by
          rw [HB.out]; simp only [decide_eq_false_iff_not]
          intro k
          exact u2 (N3.out.2 k.2).1
        go_wp2_with fail
        all_goals
          refine bodyPost_ret (v := .tuple #[.agg #[.int .i64 0, .int .i64 0], .bool false]) (by simp [results, Try.results27, go_sem, e0, e1]) rfl ⟨rfl, ?_⟩
          exact bel_set (bel_set bE _ _ _ (by omega)) _ _ _ (by omega)
    · have bb : Bb = false := by
        rw [HB.out]; simp only [decide_eq_false_iff_not]
        intro k
        exact u1 k.1
      go_wp2_with fail
      all_goals
        refine bodyPost_ret (v := .tuple #[.agg #[.int .i64 0, .int .i64 0], .bool false]) (by simp [results, Try.results27, go_sem, e0, e1]) rfl ⟨rfl, ?_⟩
        exact bel_set (bel_set bE _ _ _ (by omega)) _ _ _ (by omega)
end Go.Proofs.Ytlkiondacgcmdaa

/- Contract of ratio's Sum. -/
import Derived.Test.YtlkiondacgcmdaaAdd
import Derived.Deep.RegionWith
import Derived.Deep.DeepCutAuto
namespace Go.Proofs.Ytlkiondacgcmdaa
open Go.RowKit Wide Knuth
set_option linter.unusedVariables false

/-- a fraction's bounds -/
def Fine (x : Int × Int) : Prop := 0 ≤ x.1 ∧ 1 ≤ x.2 ∧ x.1 ≤ 9223372036854775807 ∧ x.2 ≤ 9223372036854775807
def red (x : Int × Int) : Int × Int := (x.1 / gcdI x.1 x.2, x.2 / gcdI x.1 x.2)
def stepS (s x : Int × Int) : Option (Int × Int) :=
  if addB s.1 s.2 (red x).1 (red x).2 then some (addN s.1 s.2 (red x).1 (red x).2, addD s.1 s.2 (red x).1 (red x).2) else none
def foldS : List (Int × Int) → Int × Int → Option (Int × Int)
  | [], s => some s
  | x :: r, s => match stepS s x with
    | some t => foldS r t
    | none => none
theorem foldS_snoc : ∀ (l : List (Int × Int)) (s x : Int × Int), foldS (l ++ [x]) s = (foldS l s).bind fun t => stepS t x
  | [], s, x => by
    simp only [List.nil_append, foldS, Option.bind_some]
    cases stepS s x <;> rfl
  | y :: l, s, x => by
    simp only [List.cons_append, foldS]
    cases stepS s y with
    | none => rfl
    | some t => exact foldS_snoc l t x
theorem foldS_none : ∀ (l r : List (Int × Int)) (s : Int × Int), foldS l s = none → foldS (l ++ r) s = none
  | [], r, s, h => by simp [foldS] at h
  | y :: l, r, s, h => by
    simp only [List.cons_append, foldS] at *
    cases hs : stepS s y with
    | none => rfl
    | some t => rw [hs] at h; exact foldS_none l r t h
theorem red_fine {x : Int × Int} (h : Fine x) : Fine (red x) := by
  obtain ⟨h1, h2, h3, h4⟩ := h
  obtain ⟨g1, g2⟩ := gcdI_pos x.1 x.2 h2
  obtain ⟨d1, d2⟩ := div_bd x.2 _ g1 g2
  refine ⟨Int.ediv_nonneg h1 (by omega), d1, ?_, by simp only [red]; omega⟩
  have := Int.ediv_le_self (gcdI x.1 x.2) h1
  simp only [red]; omega
theorem add_pos {a b c d : Int} (ha : 0 ≤ a) (hb : 1 ≤ b) (hc : 0 ≤ c) (hd : 1 ≤ d) : 0 ≤ addN a b c d ∧ 1 ≤ addD a b c d := by
  obtain ⟨g1, g2⟩ := gcdI_pos b d hd
  obtain ⟨_, g3⟩ := gcdI_left b d hb
  obtain ⟨x1, x2⟩ := div_bd b _ g1 g3
  obtain ⟨x3, x4⟩ := div_bd d _ g1 g2
  have h1 := gcdI_left (addG b d) (addT a b c d % addG b d) g1
  have h2 : addH a b c d ≤ d := by unfold addH; unfold addG at *; omega
  obtain ⟨x5, x6⟩ := div_bd d (addH a b c d) h1.1 h2
  have T1 : 0 ≤ addT a b c d := by
    unfold addT addG
    have := Int.mul_nonneg ha (show 0 ≤ d / gcdI b d by omega)
    have := Int.mul_nonneg hc (show 0 ≤ b / gcdI b d by omega)
    omega
  refine ⟨Int.ediv_nonneg T1 (by have := h1.1; unfold addH; omega), ?_⟩
  unfold addD addG
  have := Int.mul_le_mul x1 x5 (by omega) (by omega)
  omega
theorem step_fine {s x t : Int × Int} (hs : Fine s) (hx : Fine x) (h : stepS s x = some t) : Fine t := by
  obtain ⟨r1, r2, _, _⟩ := red_fine hx
  obtain ⟨s1, s2, _, _⟩ := hs
  obtain ⟨p1, p2⟩ := add_pos s1 s2 r1 r2
  unfold stepS at h
  split at h
  · rename_i hb
    simp only [addB, decide_eq_true_eq] at hb
    cases h
    exact ⟨p1, p2, hb.1, hb.2⟩
  · cases h

def allMay (xs : List (Int × Int)) : Bool := xs.all fun x => mayB x.1 x.2
def sumS (xs : List (Int × Int)) : Option (Int × Int) := if allMay xs then foldS xs (0, 1) else none
def sumN (xs : List (Int × Int)) : Int := match sumS xs with | some t => t.1 | none => 0
def sumD (xs : List (Int × Int)) : Int := match sumS xs with | some t => t.2 | none => 0
def sumB (xs : List (Int × Int)) : Bool := (sumS xs).isSome
theorem sum_none {xs : List (Int × Int)} (h : sumS xs = none) : sumN xs = 0 ∧ sumD xs = 0 ∧ sumB xs = false := by simp [sumN, sumD, sumB, h]
theorem sum_some {xs : List (Int × Int)} {t : Int × Int} (h : sumS xs = some t) : sumN xs = t.1 ∧ sumD xs = t.2 ∧ sumB xs = true := by simp [sumN, sumD, sumB, h]

/-- the slice's cells -/
def Ratios (w : World) (B off : Nat) (xs : List (Int × Int)) : Prop :=
  ∀ i x, xs[i]? = some x → w.cell? ⟨B, off + i * 2, none⟩ = some (.int .i64 x.1) ∧ w.cell? ⟨B, off + i * 2 + 1, none⟩ = some (.int .i64 x.2)
theorem Ratios.bel {w w' : World} {B off : Nat} {xs : List (Int × Int)} (h : Ratios w B off xs) (hb : Below w.heap.size w w') : Ratios w' B off xs :=
  fun i x hx => ⟨cell_keep hb (h i x hx).1, cell_keep hb (h i x hx).2⟩
def Small (xs : List (Int × Int)) : Prop := ∀ x ∈ xs, x.1 ≤ 9223372036854775807 ∧ x.2 ≤ 9223372036854775807

theorem take_next {xs : List (Int × Int)} {k : Nat} {x : Int × Int} (h : xs[k]? = some x) : xs.take (k + 1) = xs.take k ++ [x] := by
  rw [List.take_add_one, h]; rfl
theorem may_next {xs : List (Int × Int)} {k : Nat} {x : Int × Int} (h : xs[k]? = some x) (hm : allMay (xs.take k) = true) (hx : mayB x.1 x.2 = true) : allMay (xs.take (k + 1)) = true := by
  rw [take_next h]; simp [allMay] at *; exact ⟨hm, hx⟩
theorem not_may {xs : List (Int × Int)} {k : Nat} {x : Int × Int} (h : xs[k]? = some x) (hx : mayB x.1 x.2 = false) : sumS xs = none := by
  have hx2 : x ∈ xs := List.mem_of_getElem? h
  have : allMay xs = false := by
    simp only [allMay, List.all_eq_false]
    exact ⟨x, hx2, by simp [hx]⟩
  simp [sumS, this]
theorem may_fine {xs : List (Int × Int)} (hm : allMay xs = true) (hS : Small xs) {k : Nat} {x : Int × Int} (h : xs[k]? = some x) : Fine x := by
  have hx2 : x ∈ xs := List.mem_of_getElem? h
  have h1 : mayB x.1 x.2 = true := by simp only [allMay, List.all_eq_true] at hm; exact hm x hx2
  simp only [mayB, decide_eq_true_eq] at h1
  exact ⟨h1.1, h1.2, (hS x hx2).1, (hS x hx2).2⟩

set_option maxHeartbeats 4000000 in
set_option maxRecDepth 100000 in
theorem sum_some_slice (B off cap : Nat) (xs : List (Int × Int)) (w : World) (hR : Ratios w B off xs) (hS : Small xs) (hL : xs.length ≤ 1000000) :
    Calls Try.prog 18 #[.slice (some ⟨B, off, none⟩) xs.length cap] w fun e w' =>
      e = .returned (.tuple #[.agg #[.int .i64 (sumN xs), .int .i64 (sumD xs)], .bool (sumB xs)]) ∧ Below w.heap.size w w' := by
  generalize hn : xs.length = n at *
  have Hn := Lib.hid hn
  clear hn
  generalize hN : sumN xs = N at *
  generalize hD : sumD xs = D at *
  generalize hB : sumB xs = Z at *
  have HN := Lib.hid hN
  have HD := Lib.hid hD
  have HB := Lib.hid hB
  clear hN hD hB
  go_enter Try.func18, Try.ntmps18
  go_wp2_with fail
  go_loopw [12] (fun c wr => ∃ k : Nat, k ≤ n ∧ c = .int .i64 k ∧ allMay (xs.take k) = true ∧ Below w.heap.size w wr ∧ Two wr w.heap.size (.int .i64 0) (.int .i64 0) 37) (fun c _ => n - (intOf c).toNat)
  case atStart => exact ⟨0, by omega, rfl, rfl, (Below.refl _ _).alloc (Nat.le_refl _) _, Two.new _ _ _ _⟩
  case round =>
    obtain ⟨k, hk, rfl, hm, hb, t0⟩ := hrel
    have HM := Lib.hid hm
    clear hm
    by_cases hlt : k < n
    · obtain ⟨x, hx⟩ : ∃ x, xs[k]? = some x := by
        have := Hn.out
        exact ⟨xs[k]'(by omega), List.getElem?_eq_getElem _⟩
      obtain ⟨c0, c1⟩ := hR k x hx
      have l0 := block_lt_of_cell c0
      have c2 := hb.cell (p := ⟨B, off + k * 2, none⟩) l0
      have c3 := hb.cell (p := ⟨B, off + k * 2 + 1, none⟩) l0
      rw [c0] at c2
      rw [c1] at c3
      clear c0 c1
      have HX := Lib.hid hx
      clear hx
      go_wp2_with fail
      refine (may_any _ _ _).mono ?_
      rintro e w1 ⟨rfl, rfl⟩
      have bA := bel_alloc (bel_alloc hb (.cells #[.int .i64 x.1, .int .i64 x.2] 37)) (.cells #[.int .i64 x.1, .int .i64 x.2] 37)
      have t1 := (t0.old (.cells #[.int .i64 x.1, .int .i64 x.2] 37)).old (.cells #[.int .i64 x.1, .int .i64 x.2] 37)
      have l1 := t0.lt
      cases hmx : mayB x.1 x.2
      · have hz := sum_none (not_may HX.out hmx)
        have z1 : N = 0 := by rw [← HN.out]; exact hz.1
        have z2 : D = 0 := by rw [← HD.out]; exact hz.2.1
        have z3 : Z = false := by rw [← HB.out]; exact hz.2.2
        subst z1 z2 z3
        obtain ⟨e0, e1, f0, f1, _⟩ := two_facts t1
        generalize (wr.alloc (.cells #[.int .i64 x.1, .int .i64 x.2] 37)).alloc (.cells #[.int .i64 x.1, .int .i64 x.2] 37) = V at *
        go_wp2_with fail
        refine bodyPost_ret (v := .tuple #[.agg #[.int .i64 0, .int .i64 0], .bool false]) (by simp [results, Try.results18, go_sem, e0, e1]) rfl ⟨rfl, ?_⟩
        exact bel_set (bel_set bA _ _ _ (by omega)) _ _ _ (by omega)
      · have HM2 := Lib.hid (may_next HX.out HM.out hmx)
        go_wp2_with fail
        go_roundw
        case rel => exact ⟨k + 1, by omega, by go_num, HM2.out, bA, t1⟩
        case measure => simp [intOf]; omega
    · obtain rfl : k = n := by omega
      have hall : allMay xs = true := by have h := HM.out; rw [List.take_of_length_le (by have := Hn.out; omega)] at h; exact h
      have HA := Lib.hid hall
      clear hall HM
      have bG := bel_alloc hb (.cells #[.int .i64 0, .int .i64 1] 37)
      have t1 := t0.old (.cells #[.int .i64 0, .int .i64 1] 37)
      have t2 := Two.new wr (.int .i64 0) (.int .i64 1) 37
      have l1 := t0.lt
      have HL := Lib.hid hb.size
      obtain ⟨g, hg⟩ : ∃ g, wr.heap.size = g := ⟨_, rfl⟩
      rw [hg] at t2 l1 HL
      go_wp2_with fail
      clear hb t0
      generalize wr.alloc (.cells #[.int .i64 0, .int .i64 1] 37) = V at *
      clear hg
      go_loopw [24] (fun c wv => ∃ (j : Nat) (S : Int × Int), j ≤ k ∧ c = .int .i64 j ∧ foldS (xs.take j) (0, 1) = some S ∧ Fine S ∧ Below w.heap.size w wv ∧ Two wv w.heap.size (.int .i64 0) (.int .i64 0) 37 ∧ Two wv g (.int .i64 S.1) (.int .i64 S.2) 37) (fun c _ => k - (intOf c).toNat)
      case atStart => exact ⟨0, (0, 1), by omega, rfl, rfl, ⟨by decide, by decide, by decide, by decide⟩, bG, t1, t2⟩
      case round =>
        obtain ⟨j, S, hj, rfl, hf, hF, hb, s0, s1⟩ := hrel
        have HF := Lib.hid hf
        clear hf bG t1 t2
        by_cases hlt2 : j < k
        · obtain ⟨x, hx⟩ : ∃ x, xs[j]? = some x := by
            have := Hn.out
            exact ⟨xs[j]'(by omega), List.getElem?_eq_getElem _⟩
          obtain ⟨c0, c1⟩ := hR j x hx
          have l0 := block_lt_of_cell c0
          have c2 := hb.cell (p := ⟨B, off + j * 2, none⟩) l0
          have c3 := hb.cell (p := ⟨B, off + j * 2 + 1, none⟩) l0
          rw [c0] at c2
          rw [c1] at c3
          clear c0 c1
          obtain ⟨x1, x2, x3, x4⟩ := may_fine HA.out hS hx
          obtain ⟨r1, r2, r3, r4⟩ := red_fine (may_fine HA.out hS hx)
          obtain ⟨v1, v2, v3, v4⟩ := hF
          have HX := Lib.hid hx
          clear hx
          have bX := bel_alloc hb (.cells #[.int .i64 x.1, .int .i64 x.2] 37)
          have s2 := s0.old (.cells #[.int .i64 x.1, .int .i64 x.2] 37)
          have s3 := s1.old (.cells #[.int .i64 x.1, .int .i64 x.2] 37)
          have s4 := Two.new wr (.int .i64 x.1) (.int .i64 x.2) 37
          have lw := s2.lt
          have lg := s3.lt
          go_wp2_with fail
          clear c2 c3 s0 s1 hb
          obtain ⟨p, hp⟩ : ∃ p, wr.heap.size = p := ⟨_, rfl⟩
          rw [hp] at s4
          rw [hp]
          generalize wr.alloc (.cells #[.int .i64 x.1, .int .i64 x.2] 37) = V2 at *
          clear hp
          have HST : Hid (stepS S x = if addB S.1 S.2 (x.1 / gcdI x.1 x.2) (x.2 / gcdI x.1 x.2) then some (addN S.1 S.2 (x.1 / gcdI x.1 x.2) (x.2 / gcdI x.1 x.2), addD S.1 S.2 (x.1 / gcdI x.1 x.2) (x.2 / gcdI x.1 x.2)) else none) := rfl
          have r1' : 0 ≤ x.1 / gcdI x.1 x.2 := r1
          have r2' : 1 ≤ x.2 / gcdI x.1 x.2 := r2
          have r3' : x.1 / gcdI x.1 x.2 ≤ 9223372036854775807 := r3
          have r4' : x.2 / gcdI x.1 x.2 ≤ 9223372036854775807 := r4
          clear r1 r2 r3 r4
          generalize hr1 : x.1 / gcdI x.1 x.2 = ra at *
          generalize hr2 : x.2 / gcdI x.1 x.2 = rb at *
          have HR1 := Lib.hid hr1
          have HR2 := Lib.hid hr2
          clear hr1 hr2
          obtain ⟨c0, c1, _, _, _⟩ := two_facts s3
          obtain ⟨d0, d1, _, _, _⟩ := two_facts s4
          obtain ⟨nn, hnn⟩ : ∃ nn, (if addB S.1 S.2 ra rb then addN S.1 S.2 ra rb else 0) = nn := ⟨_, rfl⟩
          obtain ⟨dd, hdd⟩ : ∃ dd, (if addB S.1 S.2 ra rb then addD S.1 S.2 ra rb else 0) = dd := ⟨_, rfl⟩
          obtain ⟨ok, hok⟩ : ∃ ok, addB S.1 S.2 ra rb = ok := ⟨_, rfl⟩
          have HNN := Lib.hid hnn
          have HDD := Lib.hid hdd
          have HOK := Lib.hid hok
          clear hnn hdd hok
          go_cut [9] (fun s9 wx => s9 = .bool ok ∧ Two wx w.heap.size (.int .i64 0) (.int .i64 0) 37 ∧ Two wx g (.int .i64 nn) (.int .i64 dd) 37 ∧ Below w.heap.size w wx)
          case first =>
            go_region_with ((first | (go_at_call 28; refine (reduce_any _ _ _ x1 x2 x3 x4).mono ?_; rintro e wx ⟨rfl, bx⟩; rw [HR1.out, HR2.out]; have bw1 : Below V2.heap.size V2 wx := (Below.refl V2.heap.size V2).drew.trans bx; have k0 := (s3.bel bw1).c0; have k1 := (s3.bel bw1).c1) | (go_at_call 27; refine (add_any _ _ _ _ _ v1 v2 r1' r2' v3 v4 r3' r4').mono ?_; rintro e wx ⟨rfl, bx⟩; rw [HNN.out, HDD.out, HOK.out]; have bw2 : Below V2.heap.size V2 wx := bw1.trans (bx.mono bw1.size); have k2 := (s3.bel bw2).c0; have k3 := (s3.bel bw2).c1; have m2 := (s3.bel bw2).f 0; have m3 := (s3.bel bw2).f 1)))
            all_goals
              go_wp2_with fail
              go_meet
              exact ⟨rfl, (s2.bel bw2).other _ (by omega) _ _, (s3.bel bw2).set _ _, bel_set (bel_set (bel_trans bX bw2) _ _ _ (by omega)) _ _ _ (by omega)⟩
          case rest =>
            obtain ⟨rfl, y0, y1, bY⟩ := hcut
            obtain ⟨f2, f3, f4, f5, _⟩ := two_facts y0
            clear c0 c1 d0 d1 s2 s3 s4 bX
            cases ok
            · have hz : sumS xs = none := by
                have h1 := HF.out
                have h2 : foldS (xs.take (j + 1)) (0, 1) = none := by
                  rw [take_next HX.out, foldS_snoc, h1, Option.bind_some, HST.out, HOK.out]; rfl
                have h3 := foldS_none _ (xs.drop (j + 1)) _ h2
                rw [List.take_append_drop] at h3
                simp [sumS, HA.out, h3]
              have hz2 := sum_none hz
              have z1 : N = 0 := by rw [← HN.out]; exact hz2.1
              have z2 : D = 0 := by rw [← HD.out]; exact hz2.2.1
              have z3 : Z = false := by rw [← HB.out]; exact hz2.2.2
              subst z1 z2 z3
              go_wp2_with fail
              refine bodyPost_ret (v := .tuple #[.agg #[.int .i64 0, .int .i64 0], .bool false]) (by simp [results, Try.results18, go_sem, f2, f3]) rfl ⟨rfl, ?_⟩
              exact bel_set (bel_set bY _ _ _ (by omega)) _ _ _ (by omega)
            · have h0 : stepS S x = some (nn, dd) := by
                rw [HST.out, ← HNN.out, ← HDD.out, HOK.out]; rfl
              have h1 : foldS (xs.take (j + 1)) (0, 1) = some (nn, dd) := by
                rw [take_next HX.out, foldS_snoc, HF.out, Option.bind_some, h0]
              have h2 : Fine (nn, dd) := step_fine ⟨v1, v2, v3, v4⟩ ⟨x1, x2, x3, x4⟩ h0
              have H1 := Lib.hid h1
              have H2 := Lib.hid h2
              clear h0 h1 h2
              go_wp2_with fail
              go_roundw
              case rel => exact ⟨j + 1, (nn, dd), by omega, by go_num, H1.out, H2.out, bY, y0, y1⟩
              case measure => simp [intOf]; omega
        · obtain rfl : j = k := by omega
          have h1 : sumS xs = some S := by
            have h := HF.out
            rw [List.take_of_length_le (by have := Hn.out; omega)] at h
            simp [sumS, HA.out, h]
          have hz2 := sum_some h1
          have z1 : N = S.1 := by rw [← HN.out]; exact hz2.1
          have z2 : D = S.2 := by rw [← HD.out]; exact hz2.2.1
          have z3 : Z = true := by rw [← HB.out]; exact hz2.2.2
          subst z1 z2 z3
          obtain ⟨f2, f3, f4, f5, _⟩ := two_facts s0
          obtain ⟨f6, f7, _, _, _⟩ := two_facts s1
          clear hz2 h1
          go_wp2_with fail
          refine bodyPost_ret (v := .tuple #[.agg #[.int .i64 S.1, .int .i64 S.2], .bool true]) (by simp [results, Try.results18, go_sem, f2, f3]) rfl ⟨rfl, ?_⟩
          exact bel_set (bel_set hb _ _ _ (by omega)) _ _ _ (by omega)
end Go.Proofs.Ytlkiondacgcmdaa

/- Contracts of (*distinct.Counter).Count and of the reference's. -/
import Derived.Test.YtipblbmpckfigaaDCnt
import Derived.Test.YtipblbmpckfigaaDiv64
namespace Go.Proofs.Ytipblbmpckfigaa
open Go.RowKit Dist
set_option linter.unusedVariables false

/-- (k - 1) times 2^64, divided by h, within bounds -/
def nearly (k : Nat) (x : Int) : Int :=
  if (if x = 0 then 1 else x) ≤ (k : Int) - 1 then 4611686018427387904
  else if 4611686018427387904 < ((k : Int) - 1) * 18446744073709551616 / (if x = 0 then 1 else x) then 4611686018427387904
  else if ((k : Int) - 1) * 18446744073709551616 / (if x = 0 then 1 else x) < (k : Int) + 1 then (k : Int) + 1
  else ((k : Int) - 1) * 18446744073709551616 / (if x = 0 then 1 else x)
def countOf (k : Nat) (L : List Int) : Int := if k < L.length then nearly k (L.getD (k - 1) 0) else L.length
theorem nearly_ge (k : Nat) (x : Int) (hk : k ≤ 4096) : (k : Int) + 1 ≤ nearly k x := by
  unfold nearly
  generalize (if x = 0 then 1 else x) = h
  split
  · omega
  · split
    · omega
    · split <;> omega
theorem ret_i64 {a b : Int} (h : a = b) : Ending.returned (.int .i64 a) = .returned (.int .i64 b) := by rw [h]
set_option maxHeartbeats 2000000 in
theorem Count_more (g k : Nat) (v : Value) (L : List Int) (w : World) (hC : Cnt w g v k L) (hm : k < L.length) :
    Calls Try.prog 15 #[.pointer (some ⟨g, 0, none⟩)] w fun e w' => e = .returned (.int .i64 (nearly k (L.getD (k - 1) 0))) ∧ Below w.heap.size w w' := by
  obtain ⟨c0, c1, c2, _, _, _, _⟩ := hC.ctr.facts
  have hk1 := hC.k1
  have hk2 := hC.k2
  have hx : L[k - 1]? = some (L.getD (k - 1) 0) := by rw [List.getD_eq_getElem?_getD, List.getElem?_eq_getElem (by omega)]; rfl
  have hxb := hC.u64 _ (List.mem_of_getElem? hx)
  have hxt : (L.take k)[k - 1]? = some (L.getD (k - 1) 0) := by rw [List.getElem?_take, if_pos (by omega)]; exact hx
  have hlen : (L.take k).length = k := by rw [List.length_take]; omega
  rw [decide_eq_true hm] at c2
  rcases hC.ctr.val with ⟨_, hK⟩ | ⟨r, cap, cs, rfl, hB, _, hle, hmx, ht, _⟩
  · rw [hK] at hlen; simp at hlen; omega
  · have c3 := row_cell hB ht hxt
    rw [hlen] at c1 hle
    unfold maxLen at hmx
    have e1 : IntKind.i64.wrap ((k : Int) - 1) = ((k - 1 : Nat) : Int) := by rw [IntKind.wrap_i64]; omega
    have e2 : (k : Int) - 1 = ((k - 1 : Nat) : Int) := by omega
    have e3 : (((k - 1 : Nat) : Int)).toNat = k - 1 := by omega
    have e4 : ((k - 1 : Nat) : Int) < (k : Int) := by omega
    generalize L.getD (k - 1) 0 = x at *
    clear hx hxt hC hB ht hlen hm
    obtain ⟨x0, x1⟩ := hxb
    obtain ⟨y, hy, hyc⟩ : ∃ y : Int, (if x = 0 then (1 : Int) else x) = y ∧ ((x = 0 ∧ y = 1) ∨ (1 ≤ x ∧ y = x)) := by
      by_cases h : x = 0
      · exact ⟨1, by rw [if_pos h], .inl ⟨h, rfl⟩⟩
      · exact ⟨x, by rw [if_neg h], .inr ⟨by omega, rfl⟩⟩
    have HN : Hid (nearly k x = if y ≤ (k : Int) - 1 then 4611686018427387904
      else if 4611686018427387904 < ((k : Int) - 1) * 18446744073709551616 / y then 4611686018427387904
      else if ((k : Int) - 1) * 18446744073709551616 / y < (k : Int) + 1 then (k : Int) + 1
      else ((k : Int) - 1) * 18446744073709551616 / y) := by show nearly k x = _; unfold nearly; rw [hy]
    clear hy
    generalize nearly k x = N at *
    have hy1 : 1 ≤ y ∧ y ≤ 18446744073709551615 := by omega
    obtain ⟨y1, y2⟩ := hy1
    by_cases hge : y ≤ (k : Int) - 1
    · have hN : N = 4611686018427387904 := by rw [HN.out, if_pos hge]
      subst hN
      rcases hyc with ⟨rfl, rfl⟩ | ⟨hx1, rfl⟩
      all_goals
        go_enter Try.func15, Try.ntmps15
        go_wp2_with fail
        go_quiet (fail)
        go_wp2_with fail
        go_ret
        exact ⟨rfl, below_drewN (Below.refl _ _) _⟩
    · rw [if_neg hge] at HN
      have dv0 : 0 ≤ ((k : Int) - 1) * 18446744073709551616 / y := Int.ediv_nonneg (by omega) (by omega)
      have dv1 : ((k : Int) - 1) * 18446744073709551616 / y ≤ 18446744073709551615 := by
        have : ((k : Int) - 1) * 18446744073709551616 / y < 18446744073709551616 := Int.ediv_lt_of_lt_mul (by omega) (by omega)
        omega
      have DV := Lib.hid (fun w => div64_any (((k - 1 : Nat) : Int)) 0 y w (by omega) (by omega) (by omega) (by omega) y2)
      have eq1 : ((k - 1 : Nat) : Int) * 18446744073709551616 + 0 = ((k : Int) - 1) * 18446744073709551616 := by omega
      rw [eq1] at DV
      generalize ((k : Int) - 1) * 18446744073709551616 / y = q at *
      generalize ((k : Int) - 1) * 18446744073709551616 % y = rm at *
      clear eq1
      have u1 : IntKind.u64.wrap ((k : Int) + 1) = (k : Int) + 1 := by simp [IntKind.wrap, IntKind.bits, IntKind.signed]; omega
      have q1 : (4611686018427387904 < q ∧ N = 4611686018427387904) ∨ (q ≤ 4611686018427387904 ∧ q < (k : Int) + 1 ∧ N = (k : Int) + 1) ∨ (q ≤ 4611686018427387904 ∧ (k : Int) + 1 ≤ q ∧ N = q) := by
        rw [HN.out]
        by_cases h1 : 4611686018427387904 < q
        · exact .inl ⟨h1, by rw [if_pos h1]⟩
        · rw [if_neg h1]
          by_cases h2 : q < (k : Int) + 1
          · exact .inr (.inl ⟨by omega, h2, by rw [if_pos h2]⟩)
          · exact .inr (.inr ⟨by omega, by omega, by rw [if_neg h2]⟩)
      have Q1 := Lib.hid q1
      clear HN q1
      have mx : max x 1 = y := by omega
      have Mx := Lib.hid mx
      clear mx hyc
      all_goals
        go_enter Try.func15, Try.ntmps15
        go_wp2_with fail
        go_quiet (fail)
        have mx := Mx.out
        go_wp2_with fail
        refine (DV.out _).mono ?_
        rintro e w1 ⟨rfl, b1⟩
        have c4 := b1.cell (p := ⟨g, 0, none⟩) (block_lt_of_cell c0)
        have c5 : w1.cell? ⟨g, 0, none⟩ = some (.int .i64 k) := c4.trans c0
        clear c4
        have bb : Below w.heap.size w w1 := (below_drewN (Below.refl _ _) _).trans b1
        go_wp2_with fail
        go_ret
        exact ⟨ret_i64 (by have := Q1.out; omega), bb⟩
theorem Count_any (g k : Nat) (v : Value) (L : List Int) (w : World) (hC : Cnt w g v k L) :
    Calls Try.prog 15 #[.pointer (some ⟨g, 0, none⟩)] w fun e w' => e = .returned (.int .i64 (countOf k L)) ∧ Below w.heap.size w w' := by
  unfold countOf
  by_cases h : k < L.length
  · rw [if_pos h]; exact Count_more g k v L w hC h
  · rw [if_neg h]
    refine (Count_exact g k v L w hC h).mono ?_
    rintro e w' ⟨rfl, rfl⟩
    exact ⟨rfl, Below.refl _ _⟩
end Go.Proofs.Ytipblbmpckfigaa

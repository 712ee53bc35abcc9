/- The document's New, ahead; Add's refusals. -/
import Derived.Test.YtcnddbcdkpdkbaaEIns
namespace Go.Proofs.Ytcnddbcdkpdkbaa
open Go.RowKit Go.MapKept Go.Maps Go.ChangeShapes Go.WideShapes
set_option linter.unusedVariables false
set_option linter.unusedSimpArgs false
set_option maxHeartbeats 1000000 in
theorem doc_new (x : Int) (w : World) (hx : I64 x) :
    Calls Try.prog 14 #[.int .i64 x] w fun e w' => e = .returned (.pointer (some ⟨w.heap.size, 0, none⟩)) ∧ DocAt w' w.heap.size [w.heap.size] (gapOf x) [] ∧ Below w.heap.size w w' := by
  have HB : Hid (Below w.heap.size w (w.alloc (.cells #[.int .i64 (gapOf x), .slice none 0 0] 62))) := Lib.hid ((Below.refl _ _).alloc (Nat.le_refl _) _)
  have HD : Hid (DocAt (w.alloc (.cells #[.int .i64 (gapOf x), .slice none 0 0] 62)) w.heap.size [w.heap.size] (gapOf x) []) := Lib.hid ⟨SOk.nil, gapOf_in x, Nat.zero_le _, .slice none 0 0, Bk.new w [.int .i64 (gapOf x), .slice none 0 0] 62, ⟨rfl, .inl ⟨rfl, rfl⟩⟩, rfl, by simp [Value.ownBlock]⟩
  unfold I64 at hx
  go_enter Try.func14, Try.ntmps14
  go_wp2_with fail
  go_ret
  exact ⟨rfl, HD.out, HB.out⟩
set_option maxRecDepth 20000 in
set_option maxHeartbeats 1000000 in
theorem ahead_any (a b : Tri) (w : World) :
    Calls Try.prog 31 #[.agg #[.string a.1, .int .i64 a.2.1, .string a.2.2], .agg #[.string b.1, .int .i64 b.2.1, .string b.2.2]] w fun e w' => e = .returned (.bool (decide (aheadP a b))) ∧ Below w.heap.size w w' := by
  have HB : Hid (Below w.heap.size w ((w.alloc (.cells #[.string a.1, .int .i64 a.2.1, .string a.2.2] 31)).alloc (.cells #[.string b.1, .int .i64 b.2.1, .string b.2.2] 31))) := Lib.hid (((Below.refl _ _).alloc (Nat.le_refl _) _).alloc (by simp) _)
  obtain ⟨r, hr⟩ : ∃ r, decide (aheadP a b) = r := ⟨_, rfl⟩
  rw [hr]
  have HR := Lib.hid hr
  clear hr
  obtain ⟨p, t, i⟩ := a
  obtain ⟨q, u, j⟩ := b
  simp only at HB HR ⊢
  by_cases e1 : p = q
  · subst e1
    have t1 : (p.toList != p.toList) = false := by simp
    by_cases e2 : t = u
    · subst e2
      have t2 : (t != t) = false := by simp
      have t3 : Op.bytesLess i.toList j.toList = r := by
        rw [bytesLess_lt, ← HR.out]
        refine decide_eq_decide.2 ⟨fun h => .inr ⟨rfl, .inr ⟨rfl, h⟩⟩, fun h => ?_⟩
        rcases h with h | ⟨_, h | ⟨_, h⟩⟩
        · exact absurd h (ltB_irrefl _)
        · simp only at h; omega
        · exact h
      go_enter Try.func31, Try.ntmps31
      go_wp2_with fail
      go_ret
      exact ⟨rfl, HB.out⟩
    · have t2 : (t != u) = true := by simp [bne, e2]
      have t2b : (t == u) = false := by simp [e2]
      have t3 : decide (t < u) = r := by
        rw [← HR.out]
        refine decide_eq_decide.2 ⟨fun h => .inr ⟨rfl, .inl h⟩, fun h => ?_⟩
        rcases h with h | ⟨_, h | ⟨h, _⟩⟩
        · exact absurd h (ltB_irrefl _)
        · exact h
        · exact absurd h e2
      go_enter Try.func31, Try.ntmps31
      go_wp2_with fail
      go_ret
      exact ⟨rfl, HB.out⟩
  · have t1 : (p.toList == q.toList) = false := by rw [bytesEq]; exact decide_eq_false e1
    have t1b : (p.toList != q.toList) = true := by simp [bne, t1]
    have t3 : Op.bytesLess p.toList q.toList = r := by
      rw [bytesLess_lt, ← HR.out]
      refine decide_eq_decide.2 ⟨fun h => .inl h, fun h => ?_⟩
      rcases h with h | ⟨h, _⟩
      · exact h
      · exact absurd h e1
    go_enter Try.func31, Try.ntmps31
    go_wp2_with fail
    go_ret
    exact ⟨rfl, HB.out⟩
set_option maxRecDepth 20000 in
set_option maxHeartbeats 2000000 in
theorem dadd_no (P : Option Addr) (a : Tri) (w : World) (ha : aOk a) (hno : okT a = false) :
    Calls Try.prog 16 #[.pointer P, .agg #[.string a.1, .int .i64 a.2.1, .string a.2.2]] w fun e w' => e = .returned (.bool false) ∧ Below w.heap.size w w' := by
  have HB : Hid (Below w.heap.size w (w.alloc (.cells #[.string a.1, .int .i64 a.2.1, .string a.2.2] 31))) := Lib.hid ((Below.refl _ _).alloc (Nat.le_refl _) _)
  have hnot : ¬ (1 ≤ a.1.size ∧ a.1.size ≤ 24 ∧ 1 ≤ a.2.2.size ∧ a.2.2.size ≤ 24 ∧ 0 ≤ a.2.1 ∧ a.2.1 ≤ 1099511627776) := fun h => by
    have := (okT_iff a).2 h
    rw [hno] at this
    cases this
  obtain ⟨ha1, ha2, ha3⟩ := ha
  unfold maxLen at ha1 ha3
  unfold I64 at ha2
  by_cases h0 : 1 ≤ a.1.size
  · have t0 : decide ((a.1.size : Int) < 1) = false := decide_eq_false (by omega)
    by_cases h1 : a.1.size ≤ 24
    · have t1 : decide ((24 : Int) < (a.1.size : Int)) = false := decide_eq_false (by omega)
      by_cases h2 : 1 ≤ a.2.2.size
      · have t2 : decide ((a.2.2.size : Int) < 1) = false := decide_eq_false (by omega)
        by_cases h3 : a.2.2.size ≤ 24
        · have t3 : decide ((24 : Int) < (a.2.2.size : Int)) = false := decide_eq_false (by omega)
          by_cases h4 : 0 ≤ a.2.1
          · have t4 : decide (a.2.1 < 0) = false := decide_eq_false (by omega)
            have t5 : decide (1099511627776 < a.2.1) = true := decide_eq_true (by omega)
            clear hnot
            go_enter Try.func16, Try.ntmps16
            go_wp2_with fail
            go_ret
            exact ⟨rfl, HB.out⟩
          · have t4 : decide (a.2.1 < 0) = true := decide_eq_true (by omega)
            clear hnot
            go_enter Try.func16, Try.ntmps16
            go_wp2_with fail
            go_ret
            exact ⟨rfl, HB.out⟩
        · have t3 : decide ((24 : Int) < (a.2.2.size : Int)) = true := decide_eq_true (by omega)
          clear hnot
          go_enter Try.func16, Try.ntmps16
          go_wp2_with fail
          go_ret
          exact ⟨rfl, HB.out⟩
      · have t2 : decide ((a.2.2.size : Int) < 1) = true := decide_eq_true (by omega)
        clear hnot
        go_enter Try.func16, Try.ntmps16
        go_wp2_with fail
        go_ret
        exact ⟨rfl, HB.out⟩
    · have t1 : decide ((24 : Int) < (a.1.size : Int)) = true := decide_eq_true (by omega)
      clear hnot
      go_enter Try.func16, Try.ntmps16
      go_wp2_with fail
      go_ret
      exact ⟨rfl, HB.out⟩
  · have t0 : decide ((a.1.size : Int) < 1) = true := decide_eq_true (by omega)
    clear hnot
    go_enter Try.func16, Try.ntmps16
    go_wp2_with fail
    go_ret
    exact ⟨rfl, HB.out⟩
end Go.Proofs.Ytcnddbcdkpdkbaa

/- Contracts of Single, Count, Items, Near. -/
import Derived.Test.YtbmjddmejmeknaaQRead
namespace Go.Proofs.Ytbmjddmejmeknaa.Pr
open Go.RowKit Go.MapKept Go.Maps Go.ChangeShapes Go.WideShapes Go.Shelf Go.Sort
set_option linter.unusedVariables false
set_option linter.unusedSimpArgs false
/-- pairs, to be read -/
structure PrAt (w : World) (p : Nat) (C : CF) : Prop where
  ex : ∃ t sh B, Bk w p [.pointer (some ⟨t, 0, none⟩), .bool sh] 69 ∧ TabAt w t B C
theorem PrAt.bel {w w' : World} {p : Nat} {C : CF} (h : PrAt w p C) (hb : Below w.heap.size w w') : PrAt w' p C := by
  obtain ⟨t, sh, B, h1, h2⟩ := h.ex
  exact ⟨t, sh, B, h1.bel hb, h2.bel hb⟩
theorem pr_here {w0 w : World} {os : List Ob17} {i j p t : Nat} {sh : Bool} {C : CF} (h : Here K17 w0 w os) (hi : os[i]? = some (.box p [.pointer (some ⟨t, 0, none⟩), .bool sh] 69)) (hj : os[j]? = some (.tab t C)) : PrAt w p C := by
  obtain ⟨B, h1⟩ := q_tabAt h hj
  exact ⟨t, sh, B, q_boxAt h hi, h1⟩
section
variable {w : World} {p : Nat} {C : CF}
set_option maxRecDepth 20000 in
set_option maxHeartbeats 1000000 in
theorem psingle_any (h : PrAt w p C) (a : ByteArray) (ha : a.size ≤ maxLen) :
    Calls Try.prog 11 #[.pointer (some ⟨p, 0, none⟩), .string a] w fun e w' => e = .returned (.int .i64 (C a a)) ∧ w' = w := by
  obtain ⟨t, sh, B, hb, hT⟩ := h.ex
  obtain ⟨s, r, ms, mr, mt, role, h1, h2⟩ := hT.ex
  have c0 : w.cell? ⟨p, 0, none⟩ = some (.pointer (some ⟨t, 0, none⟩)) := hb.cell 0
  have c1 : w.cell? ⟨t, 0, none⟩ = some (.map (some s)) := h1.bk.cell 0
  have l1 := lookI h1.sg ha (x := C a a) (by rw [h2.s0, nz_getD])
  clear h hb hT h1 h2
  go_enter Try.func11, Try.ntmps11
  go_wp2_with fail
  go_ret
  exact ⟨rfl, rfl⟩
set_option maxRecDepth 20000 in
set_option maxHeartbeats 1000000 in
theorem pcount_any (h : PrAt w p C) (a b : ByteArray) (ha : a.size ≤ maxLen) (hb : b.size ≤ maxLen) :
    Calls Try.prog 26 #[.pointer (some ⟨p, 0, none⟩), .string a, .string b] w fun e w' => e = .returned (.int .i64 (C a b)) ∧ w' = w := by
  by_cases hab : a = b
  · subst hab
    have HS := Lib.hid (psingle_any h a ha)
    have t9 : (a.toList == a.toList) = true := by rw [bytesEq]; exact decide_eq_true rfl
    clear h
    go_enter Try.func26, Try.ntmps26
    go_wp2_with fail
    refine HS.out.mono ?_
    rintro e w' ⟨rfl, rfl⟩
    go_wp2_with fail
    go_ret
    exact ⟨rfl, rfl⟩
  · have t9 : (a.toList == b.toList) = false := by rw [bytesEq]; exact decide_eq_false hab
    have t8 : ¬ a.toList = b.toList := by
      have := t9
      rw [beq_eq_false_iff_ne] at this
      exact this
    obtain ⟨t, sh, B, hbx, hT⟩ := h.ex
    obtain ⟨s, r, ms, mr, mt, role, h1, h2⟩ := hT.ex
    have c0 : w.cell? ⟨p, 0, none⟩ = some (.pointer (some ⟨t, 0, none⟩)) := hbx.cell 0
    have c1 : w.cell? ⟨t, 1, none⟩ = some (.map (some r)) := h1.bk.cell 1
    cases hk : mget mr a with
    | none =>
      have l1 := lookM h1.mp ha (v := .map none) (by rw [hk]; rfl)
      have l2 := lookI0 b hb w
      have hC : C a b = 0 := h2.r1 a hk b (fun e => hab e.symm)
      rw [hC]
      clear h hbx hT h1 h2 hk hC
      go_enter Try.func26, Try.ntmps26
      go_wp2_with fail
      go_ret
      exact ⟨rfl, rfl⟩
    | some k =>
      have l1 := lookM h1.mp ha (v := .map (some k)) (by rw [hk]; rfl)
      have l2 := lookI (h1.rw' a k hk) hb (x := C a b) (by rw [h2.r0 a k hk, if_neg (fun e => hab e.symm), nz_getD])
      clear h hbx hT h1 h2 hk
      go_enter Try.func26, Try.ntmps26
      go_wp2_with fail
      go_ret
      exact ⟨rfl, rfl⟩
end
end Go.Proofs.Ytbmjddmejmeknaa.Pr

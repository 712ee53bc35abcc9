/- Contracts of Single, Count, Items, Near. -/
import Derived.Test.YtnpjihbaebbbcaaQRead
namespace Go.Proofs.Ytnpjihbaebbbcaa
open Go.RowKit Go.MapKept Go.Maps Go.ChangeShapes Go.WideShapes Go.Shelf Go.Sort
set_option linter.unusedVariables false
set_option linter.unusedSimpArgs false
/-- pairs, to be read -/
structure PrAt (w : World) (p : Nat) (C : CF) : Prop where
  ex : ∃ t sh B, Bk w p [.pointer (some ⟨t, 0, none⟩), .bool sh] 52 ∧ TabAt w t B C
theorem PrAt.bel {w w' : World} {p : Nat} {C : CF} (h : PrAt w p C) (hb : Below w.heap.size w w') : PrAt w' p C := by
  obtain ⟨t, sh, B, h1, h2⟩ := h.ex
  exact ⟨t, sh, B, h1.bel hb, h2.bel hb⟩
theorem pr_here {w0 w : World} {os : List Ob17} {i j p t : Nat} {sh : Bool} {C : CF} (h : Here K17 w0 w os) (hi : os[i]? = some (.box p [.pointer (some ⟨t, 0, none⟩), .bool sh] 52)) (hj : os[j]? = some (.tab t C)) : PrAt w p C := by
  obtain ⟨B, h1⟩ := q_tabAt h hj
  exact ⟨t, sh, B, q_boxAt h hi, h1⟩
section
variable {w : World} {p : Nat} {C : CF}
set_option maxRecDepth 20000 in
set_option maxHeartbeats 1000000 in
theorem psingle_any (h : PrAt w p C) (a : ByteArray) (ha : a.size ≤ maxLen) :
    Calls Try.prog 15 #[.pointer (some ⟨p, 0, none⟩), .string a] w fun e w' => e = .returned (.int .i64 (C a a)) ∧ w' = w := by
  obtain ⟨t, sh, B, hb, hT⟩ := h.ex
  obtain ⟨s, r, ms, mr, mt, role, h1, h2⟩ := hT.ex
  have c0 : w.cell? ⟨p, 0, none⟩ = some (.pointer (some ⟨t, 0, none⟩)) := hb.cell 0
  have c1 : w.cell? ⟨t, 0, none⟩ = some (.map (some s)) := h1.bk.cell 0
  have l1 := lookI h1.sg ha (x := C a a) (by rw [h2.s0, nz_getD])
  clear h hb hT h1 h2
  go_enter Try.func15, Try.ntmps15
  go_wp2_with fail
  go_ret
  exact ⟨rfl, rfl⟩
set_option maxRecDepth 20000 in
set_option maxHeartbeats 1000000 in
theorem pcount_any (h : PrAt w p C) (a b : ByteArray) (ha : a.size ≤ maxLen) (hb : b.size ≤ maxLen) :
    Calls Try.prog 12 #[.pointer (some ⟨p, 0, none⟩), .string a, .string b] w fun e w' => e = .returned (.int .i64 (C a b)) ∧ w' = w := by
  by_cases hab : a = b
  · subst hab
    have HS := Lib.hid (psingle_any h a ha)
    have t9 : (a.toList == a.toList) = true := by rw [bytesEq]; exact decide_eq_true rfl
    clear h
    go_enter Try.func12, Try.ntmps12
    go_wp2_with fail
    refine HS.out.mono ?_
    rintro e w' ⟨rfl, rfl⟩
    go_wp2_with fail
    go_ret
    exact ⟨rfl, rfl⟩
  · have t9 : (a.toList == b.toList) = false := by rw [bytesEq]; exact decide_eq_false hab
    have t8 : ¬ a.toList = b.toList := by
      have := t9
      rw [beq_eq_false_iff_ne] at this
      exact this
    obtain ⟨t, sh, B, hbx, hT⟩ := h.ex
    obtain ⟨s, r, ms, mr, mt, role, h1, h2⟩ := hT.ex
    have c0 : w.cell? ⟨p, 0, none⟩ = some (.pointer (some ⟨t, 0, none⟩)) := hbx.cell 0
    have c1 : w.cell? ⟨t, 1, none⟩ = some (.map (some r)) := h1.bk.cell 1
    cases hk : mget mr a with
    | none =>
      have l1 := lookM h1.mp ha (v := .map none) (by rw [hk]; rfl)
      have l2 := lookI0 b hb w
      have hC : C a b = 0 := h2.r1 a hk b (fun e => hab e.symm)
      rw [hC]
      clear h hbx hT h1 h2 hk hC
      go_enter Try.func12, Try.ntmps12
      go_wp2_with fail
      go_ret
      exact ⟨rfl, rfl⟩
    | some k =>
      have l1 := lookM h1.mp ha (v := .map (some k)) (by rw [hk]; rfl)
      have l2 := lookI (h1.rw' a k hk) hb (x := C a b) (by rw [h2.r0 a k hk, if_neg (fun e => hab e.symm), nz_getD])
      clear h hbx hT h1 h2 hk
      go_enter Try.func12, Try.ntmps12
      go_wp2_with fail
      go_ret
      exact ⟨rfl, rfl⟩
/-- a list of texts that a call hands back -/
def Texts17 (w w' : World) (v : Value) (ks : List ByteArray) : Prop := TextsAt w' v ks ∧ (∀ b, v.ownBlock = some b → w.heap.size ≤ b) ∧ Below w.heap.size w w'
set_option maxRecDepth 20000 in
set_option maxHeartbeats 1000000 in
theorem pitems_any (h : PrAt w p C) (sup : List ByteArray) (hsup : ∀ x, C x x ≠ 0 → x ∈ sup) (hl : sup.length ≤ 1048576) :
    Calls Try.prog 19 #[.pointer (some ⟨p, 0, none⟩)] w fun e w' => ∃ (v : Value) (ks : List ByteArray), e = .returned v ∧ Rise ks ∧ (∀ x, x ∈ ks ↔ C x x ≠ 0) ∧ Texts17 w w' v ks := by
  obtain ⟨t, sh, B, hb, hT⟩ := h.ex
  obtain ⟨s, r, ms, mr, mt, role, h1, h2⟩ := hT.ex
  have c0 : w.cell? ⟨p, 0, none⟩ = some (.pointer (some ⟨t, 0, none⟩)) := hb.cell 0
  have c1 : w.cell? ⟨t, 0, none⟩ = some (.map (some s)) := h1.bk.cell 0
  have hkey : ∀ x, x ∈ mkeys ms ↔ C x x ≠ 0 := fun x => by
    rw [key_iff, h2.s0]
    unfold nz
    by_cases e : C x x = 0
    · rw [if_pos e]; simp [e]
    · rw [if_neg e]; simp [e]
  have hlen : ms.length ≤ 1048576 := by
    have hnd : (mkeys ms).Nodup := by have := h1.sg.nd; rwa [vals_keys] at this
    have := nodup_len hnd (m := sup) (fun x hx => hsup x ((hkey x).1 hx))
    unfold mkeys at this
    rw [List.length_map] at this
    omega
  have hbw : Below w.heap.size w (w.alloc (.cells #[.map (some s)] 55)) := (Below.refl _ _).alloc (Nat.le_refl _) _
  have CS := Lib.hid (sortedI_any s (vals vI ms) (w.alloc (.cells #[.map (some s)] 55)) (h1.sg.bel hbw) (by rw [vals_len]; exact hlen) w.heap.size (by simp) ((Bk.new w [.map (some s)] 55).cell 0))
  have CK := Lib.hid (keysI_fn (some s) w)
  have HK := Lib.hid hkey
  have HB := Lib.hid hbw
  clear h hb hT h1 h2 hkey hlen hbw
  go_enter Try.func19, Try.ntmps19
  go_wp2_with fail
  refine CK.out.mono ?_
  rintro e w1 ⟨rfl, rfl⟩
  generalize w.alloc (.cells #[.map (some s)] 55) = w2 at *
  go_wp2_with fail
  refine CS.out.mono ?_
  rintro e w3 ⟨v, ks, rfl, q1, q2, q3, q4, q5⟩
  have HE : Hid (Rise ks ∧ (∀ x, x ∈ ks ↔ C x x ≠ 0) ∧ Texts17 w w3 v ks) := Lib.hid ⟨q1, fun x => by rw [q2, vals_keys, HK.out], q3, fun b hb => by have := q4 b hb; have := HB.out.size; omega, HB.out.trans (q5.mono HB.out.size)⟩
  obtain ⟨b', n', c', rfl⟩ : ∃ b n c, v = .slice b n c := by
    obtain ⟨b', cap', h, _⟩ := strs_of_row q3
    exact ⟨_, _, _, h⟩
  clear q1 q2 q3 q4 q5 CS CK
  go_wp2_with fail
  go_ret
  exact ⟨_, ks, rfl, HE.out⟩
set_option maxRecDepth 20000 in
set_option maxHeartbeats 1000000 in
theorem pnear_any (h : PrAt w p C) (a : ByteArray) (ha : a.size ≤ maxLen) (sup : List ByteArray) (hsup : ∀ x, C a x ≠ 0 → x ∈ sup) (hl : sup.length ≤ 1048576) :
    Calls Try.prog 20 #[.pointer (some ⟨p, 0, none⟩), .string a] w fun e w' => ∃ (v : Value) (ks : List ByteArray), e = .returned v ∧ Rise ks ∧ (∀ x, x ∈ ks ↔ (x ≠ a ∧ C a x ≠ 0)) ∧ Texts17 w w' v ks := by
  obtain ⟨t, sh, B, hb, hT⟩ := h.ex
  obtain ⟨s, r, ms, mr, mt, role, h1, h2⟩ := hT.ex
  have c0 : w.cell? ⟨p, 0, none⟩ = some (.pointer (some ⟨t, 0, none⟩)) := hb.cell 0
  have c1 : w.cell? ⟨t, 1, none⟩ = some (.map (some r)) := h1.bk.cell 1
  cases hk : mget mr a with
  | none =>
    have l1 := lookM h1.mp ha (v := .map none) (by rw [hk]; rfl)
    have hbw : Below w.heap.size w (w.alloc (.cells #[.map none] 55)) := (Below.refl _ _).alloc (Nat.le_refl _) _
    have CS := Lib.hid (sortedI_nil (w.alloc (.cells #[.map none] 55)) w.heap.size (by simp) ((Bk.new w [.map none] 55).cell 0))
    have CK := Lib.hid (keysI_fn none w)
    have HB := Lib.hid hbw
    have HK : Hid (∀ x, x ∈ ([] : List ByteArray) ↔ (x ≠ a ∧ C a x ≠ 0)) := Lib.hid (fun x => ⟨fun h => (by cases h), fun q => absurd (h2.r1 a hk x q.1) q.2⟩)
    clear h hb hT h1 h2 hk hbw
    go_enter Try.func20, Try.ntmps20
    go_wp2_with fail
    refine CK.out.mono ?_
    rintro e w1 ⟨rfl, rfl⟩
    generalize w.alloc (.cells #[.map none] 55) = w2 at *
    go_wp2_with fail
    refine CS.out.mono ?_
    rintro e w3 ⟨rfl, q5⟩
    have HE : Hid (Texts17 w w3 (.slice none 0 0) []) := Lib.hid ⟨own_nil w3 _, by simp [Value.ownBlock], HB.out.trans (q5.mono HB.out.size)⟩
    clear q5 CS CK
    go_wp2_with fail
    go_ret
    exact ⟨_, [], rfl, List.Pairwise.nil, HK.out, HE.out⟩
  | some k =>
    have l1 := lookM h1.mp ha (v := .map (some k)) (by rw [hk]; rfl)
    have hrow := h1.rw' a k hk
    have hkey : ∀ x, x ∈ mkeys (mt a) ↔ (x ≠ a ∧ C a x ≠ 0) := fun x => by
      rw [key_iff, h2.r0 a k hk]
      by_cases e : x = a
      · rw [if_pos e]; simp [e]
      · rw [if_neg e]
        unfold nz
        by_cases e2 : C a x = 0
        · rw [if_pos e2]; simp [e2]
        · rw [if_neg e2]; simp [e, e2]
    have hlen : (mt a).length ≤ 1048576 := by
      have hnd : (mkeys (mt a)).Nodup := by have := hrow.nd; rwa [vals_keys] at this
      have := nodup_len hnd (m := sup) (fun x hx => hsup x ((hkey x).1 hx).2)
      unfold mkeys at this
      rw [List.length_map] at this
      omega
    have hbw : Below w.heap.size w (w.alloc (.cells #[.map (some k)] 55)) := (Below.refl _ _).alloc (Nat.le_refl _) _
    have CS := Lib.hid (sortedI_any k (vals vI (mt a)) (w.alloc (.cells #[.map (some k)] 55)) (hrow.bel hbw) (by rw [vals_len]; exact hlen) w.heap.size (by simp) ((Bk.new w [.map (some k)] 55).cell 0))
    have CK := Lib.hid (keysI_fn (some k) w)
    have HK := Lib.hid hkey
    have HB := Lib.hid hbw
    clear h hb hT h1 h2 hkey hlen hbw hrow hk
    go_enter Try.func20, Try.ntmps20
    go_wp2_with fail
    refine CK.out.mono ?_
    rintro e w1 ⟨rfl, rfl⟩
    generalize w.alloc (.cells #[.map (some k)] 55) = w2 at *
    go_wp2_with fail
    refine CS.out.mono ?_
    rintro e w3 ⟨v, ks, rfl, q1, q2, q3, q4, q5⟩
    have HE : Hid (Rise ks ∧ (∀ x, x ∈ ks ↔ (x ≠ a ∧ C a x ≠ 0)) ∧ Texts17 w w3 v ks) := Lib.hid ⟨q1, fun x => by rw [q2, vals_keys, HK.out], q3, fun b hb => by have := q4 b hb; have := HB.out.size; omega, HB.out.trans (q5.mono HB.out.size)⟩
    obtain ⟨b', n', c', rfl⟩ : ∃ b n c, v = .slice b n c := by
      obtain ⟨b', cap', h, _⟩ := strs_of_row q3
      exact ⟨_, _, _, h⟩
    clear q1 q2 q3 q4 q5 CS CK
    go_wp2_with fail
    go_ret
    exact ⟨_, ks, rfl, HE.out⟩
end
end Go.Proofs.Ytnpjihbaebbbcaa

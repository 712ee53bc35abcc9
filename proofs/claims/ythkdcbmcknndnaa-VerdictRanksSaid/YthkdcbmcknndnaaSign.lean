/- Contracts of verdict.Sign and verdict.Of. -/
import Derived.Test.YthkdcbmcknndnaaChoices
import Derived.Test.YthkdcbmcknndnaaRatio
namespace Go.Proofs.Ythkdcbmcknndnaa
open Go.RowKit Pasc Wide
set_option linter.unusedVariables false

theorem tail_int (n k : Int) (w : World) (h0 : 0 ≤ n) (hn : n ≤ 62) :
    Calls Try.prog 9 #[.int .i64 n, .int .i64 k] w fun e w' => e = .returned (.tuple #[.agg #[.int .i64 (tl n.toNat k 63 : Int), .int .i64 (pw n.toNat)], .bool true]) ∧ Below w.heap.size w w' := by
  obtain ⟨m, rfl⟩ := Int.eq_ofNat_of_zero_le h0
  exact tail_yes m k w (by omega)

/-- the sign test's numerator -/
def sgn (a b : Int) : Int := if pw (a + b).toNat - tl (a + b).toNat (max a b) 63 ≤ tl (a + b).toNat (max a b) 63 then pw (a + b).toNat else tl (a + b).toNat (max a b) 63 * 2
def sB (a b : Int) : Bool := decide (0 ≤ a ∧ 0 ≤ b ∧ a + b ≤ 62)

theorem sgn_more {a b : Int} (h : pw (a + b).toNat - tl (a + b).toNat (max a b) 63 ≤ tl (a + b).toNat (max a b) 63) : sgn a b = pw (a + b).toNat := by unfold sgn; rw [if_pos h]
theorem sgn_less {a b : Int} (h : ¬ pw (a + b).toNat - tl (a + b).toNat (max a b) 63 ≤ tl (a + b).toNat (max a b) 63) : sgn a b = tl (a + b).toNat (max a b) 63 * 2 := by unfold sgn; rw [if_neg h]

set_option maxHeartbeats 800000 in
theorem sign_yes (a b : Int) (w : World) (ha : 0 ≤ a) (hb : 0 ≤ b) (hs : a + b ≤ 62) :
    Calls Try.prog 10 #[.int .i64 a, .int .i64 b] w fun e w' => e = .returned (.tuple #[.agg #[.int .i64 (sgn a b), .int .i64 (pw (a + b).toNat)], .bool true]) ∧ Below w.heap.size w w' := by
  have hm := sgn_more (a := a) (b := b)
  have hl := sgn_less (a := a) (b := b)
  have tb := tl_pw (a + b).toNat (max a b) 63
  obtain ⟨p1, p2⟩ := pw_bd (a + b).toNat (by omega)
  have t0 : (0 : Int) ≤ tl (a + b).toNat (max a b) 63 := by omega
  by_cases hab : a < b
  all_goals
    first
    | rw [show max a b = b from by omega] at hm hl tb t0
    | rw [show max a b = a from by omega] at hm hl tb t0
    have t1 : decide (a < 0) = false := by simp; omega
    have t2 : decide (b < 0) = false := by simp; omega
    have t3 : decide (62 < a) = false := by simp; omega
    have t4 : decide (62 - a < b) = false := by simp; omega
    generalize hP : pw (a + b).toNat = P at *
    generalize sgn a b = G at *
    generalize hT : ((tl (a + b).toNat _ 63 : Nat) : Int) = TT at *
    have Hm := Lib.hid hm
    have Hl := Lib.hid hl
    have HP := Lib.hid hP
    have HT := Lib.hid hT
    clear hm hl hP hT
    go_enter Try.func10, Try.ntmps10
    go_wp2_with fail
    refine (tail_int _ _ _ (by omega) (by omega)).mono ?_
    rintro e w1 ⟨rfl, hbel⟩
    rw [HP.out, HT.out]
    obtain ⟨hc, hf⟩ := Bel.cells hbel
    have hz : w.heap.size < w1.heap.size := by have := hbel.size; simp at this; omega
    have c0 : w1.cell? ⟨w.heap.size, 0, none⟩ = some (.int .i64 0) := by rw [hbel.cell (p := ⟨w.heap.size, 0, none⟩) (by simp)]; simp [go_sem]
    have c1 : w1.cell? ⟨w.heap.size, 1, none⟩ = some (.int .i64 0) := by rw [hbel.cell (p := ⟨w.heap.size, 1, none⟩) (by simp)]; simp [go_sem]
    have f0 : w1.frozen? ⟨w.heap.size, 0, none⟩ = false := by rw [hbel.frozen (p := ⟨w.heap.size, 0, none⟩) (by simp)]; simp [go_sem]
    have f1 : w1.frozen? ⟨w.heap.size, 1, none⟩ = false := by rw [hbel.frozen (p := ⟨w.heap.size, 1, none⟩) (by simp)]; simp [go_sem]
    have hb0 := (((Below.refl w.heap.size w).alloc (Nat.le_refl _) (Obj.cells #[Value.int IntKind.i64 0, Value.int IntKind.i64 0] 35)).trans (hbel.mono (by simp)))
    clear hc hf hbel
    by_cases hh : P - TT ≤ TT
    · have e1 := Hm.out hh
      subst e1
      go_wp2_with fail
      refine bodyPost_ret (v := .tuple #[.agg #[.int .i64 _, .int .i64 _], .bool true]) (by simp [results, Try.results10, go_sem, c0, c1, hz]) rfl ⟨rfl, ?_⟩
      exact ((hb0.setCell (Nat.le_refl _) _).setCell (Nat.le_refl _) _).alloc (by simp; omega) _
    · have e1 := Hl.out (by omega)
      subst e1
      go_wp2_with fail
      refine bodyPost_ret (v := .tuple #[.agg #[.int .i64 _, .int .i64 _], .bool true]) (by simp [results, Try.results10, go_sem, c0, c1, hz]) rfl ⟨rfl, ?_⟩
      exact ((hb0.setCell (Nat.le_refl _) _).setCell (Nat.le_refl _) _).alloc (by simp; omega) _

theorem sign_no (a b : Int) (w : World) (h : ¬ (0 ≤ a ∧ 0 ≤ b ∧ a + b ≤ 62)) (ha2 : a ≤ 9223372036854775807) (hb2 : b ≤ 9223372036854775807) :
    Calls Try.prog 10 #[.int .i64 a, .int .i64 b] w fun e w' => e = .returned (.tuple #[.agg #[.int .i64 0, .int .i64 1], .bool false]) ∧ Below w.heap.size w w' := by
  by_cases h1 : a < 0
  · clear h
    go_enter Try.func10, Try.ntmps10
    go_wp2_with fail
    exact bodyPost_ret (v := .tuple #[.agg #[.int .i64 0, .int .i64 1], .bool false]) (by simp [results, Try.results10, go_sem]) rfl ⟨rfl, (Below.refl _ _).alloc (Nat.le_refl _) _⟩
  · by_cases h2 : b < 0
    · clear h
      go_enter Try.func10, Try.ntmps10
      go_wp2_with fail
      exact bodyPost_ret (v := .tuple #[.agg #[.int .i64 0, .int .i64 1], .bool false]) (by simp [results, Try.results10, go_sem]) rfl ⟨rfl, (Below.refl _ _).alloc (Nat.le_refl _) _⟩
    · by_cases h3 : 62 < a
      · clear h
        go_enter Try.func10, Try.ntmps10
        go_wp2_with fail
        exact bodyPost_ret (v := .tuple #[.agg #[.int .i64 0, .int .i64 1], .bool false]) (by simp [results, Try.results10, go_sem]) rfl ⟨rfl, (Below.refl _ _).alloc (Nat.le_refl _) _⟩
      · have h4 : 62 - a < b := by omega
        clear h
        go_enter Try.func10, Try.ntmps10
        go_wp2_with fail
        exact bodyPost_ret (v := .tuple #[.agg #[.int .i64 0, .int .i64 1], .bool false]) (by simp [results, Try.results10, go_sem]) rfl ⟨rfl, (Below.refl _ _).alloc (Nat.le_refl _) _⟩

/-- the call of two rows: People, Bought of each, the level's two numbers -/
def callV (pa ba pb bb n d : Int) : Int :=
  if pa ≠ pb ∨ pa < 1 then 0 else if ¬ (0 ≤ ba ∧ 0 ≤ bb ∧ ba + bb ≤ 62) then 0
  else if 0 < cmpR (sgn ba bb) (pw (ba + bb).toNat) n d then 0 else if bb < ba then 1 else if ba < bb then 2 else 0

theorem sgn_bd (a b : Int) (h : a + b ≤ 62) : sgn a b ≤ 9223372036854775807 := by
  have h1 := tl_pw (a + b).toNat (max a b) 63
  have h2 := pw_bd (a + b).toNat (by omega)
  unfold sgn; split <;> omega

theorem of_shut (s t : ByteArray) (pa ba wa pb bb wb n d : Int) (w : World) (h : pa ≠ pb ∨ pa < 1) :
    Calls Try.prog 11 #[.agg #[.string s, .int .i64 pa, .int .i64 ba, .int .i64 wa], .agg #[.string t, .int .i64 pb, .int .i64 bb, .int .i64 wb], .agg #[.int .i64 n, .int .i64 d]] w
      fun e w' => e = .returned (.int .i64 (callV pa ba pb bb n d)) ∧ Below w.heap.size w w' := by
  have e0 : callV pa ba pb bb n d = 0 := by unfold callV; rw [if_pos h]
  rw [e0]
  by_cases h1 : pa = pb
  · have h2 : pa < 1 := by omega
    subst h1
    clear h e0
    go_enter Try.func11, Try.ntmps11
    go_wp2_with fail
    go_ret
    exact ⟨rfl, bel3 _ _ _ _⟩
  · have h2 : (pa != pb) = true := by simpa using h1
    clear h e0 h1
    go_enter Try.func11, Try.ntmps11
    go_wp2_with fail
    go_ret
    exact ⟨rfl, bel3 _ _ _ _⟩

theorem of_no (s t : ByteArray) (pa ba wa bb wb n d : Int) (w : World) (h0 : 1 ≤ pa) (h : ¬ (0 ≤ ba ∧ 0 ≤ bb ∧ ba + bb ≤ 62)) (ha2 : ba ≤ 9223372036854775807) (hb2 : bb ≤ 9223372036854775807) :
    Calls Try.prog 11 #[.agg #[.string s, .int .i64 pa, .int .i64 ba, .int .i64 wa], .agg #[.string t, .int .i64 pa, .int .i64 bb, .int .i64 wb], .agg #[.int .i64 n, .int .i64 d]] w
      fun e w' => e = .returned (.int .i64 (callV pa ba pa bb n d)) ∧ Below w.heap.size w w' := by
  have e0 : callV pa ba pa bb n d = 0 := by unfold callV; rw [if_neg (by omega), if_pos h]
  rw [e0]
  have H := Lib.hid h
  clear h e0
  go_enter Try.func11, Try.ntmps11
  go_wp2_with fail
  refine (sign_no ba bb _ H.out ha2 hb2).mono ?_
  rintro e w1 ⟨rfl, hbel⟩
  have hb0 := (bel3 w _ _ _).trans (hbel.mono (by simp; omega))
  clear hbel
  go_wp2_with fail
  go_ret
  exact ⟨rfl, hb0.alloc (by have := hb0.size; omega) _⟩

set_option maxHeartbeats 800000 in
theorem of_yes (s t : ByteArray) (pa ba wa bb wb n d : Int) (w : World) (h0 : 1 ≤ pa) (h1 : 0 ≤ ba) (h2 : 0 ≤ bb) (h3 : ba + bb ≤ 62) (hn2 : n ≤ 9223372036854775807) (hd2 : d ≤ 9223372036854775807) :
    Calls Try.prog 11 #[.agg #[.string s, .int .i64 pa, .int .i64 ba, .int .i64 wa], .agg #[.string t, .int .i64 pa, .int .i64 bb, .int .i64 wb], .agg #[.int .i64 n, .int .i64 d]] w
      fun e w' => e = .returned (.int .i64 (callV pa ba pa bb n d)) ∧ Below w.heap.size w w' := by
  have e0 : callV pa ba pa bb n d = if 0 < cmpR (sgn ba bb) (pw (ba + bb).toNat) n d then 0 else if bb < ba then 1 else if ba < bb then 2 else 0 := by
    unfold callV; rw [if_neg (by omega), if_neg (by omega)]
  rw [e0]
  clear e0
  have g2 := sgn_bd ba bb h3
  have p2 := (pw_bd (ba + bb).toNat (by omega)).2
  generalize hS : sgn ba bb = G at *
  generalize hP : pw (ba + bb).toNat = P at *
  generalize hC : cmpR G P n d = c at *
  have HS := Lib.hid hS
  have HP := Lib.hid hP
  have HC := Lib.hid hC
  generalize hR : (if 0 < c then (0 : Int) else if bb < ba then 1 else if ba < bb then 2 else 0) = R
  have HR := Lib.hid hR
  clear hS hP hC hR
  go_enter Try.func11, Try.ntmps11
  go_wp2_with fail
  refine (sign_yes ba bb _ h1 h2 h3).mono ?_
  rintro e w1 ⟨rfl, hbel⟩
  rw [HS.out, HP.out]
  obtain ⟨hc, hf⟩ := Bel.cells hbel
  have hz2 : w.heap.size + 1 + 1 < w1.heap.size := by have := hbel.size; simp at this; omega
  have hz1 : w.heap.size + 1 < w1.heap.size := by omega
  have hz0 : w.heap.size < w1.heap.size := by omega
  have hb0 := (bel3 w _ _ _).trans (hbel.mono (by simp; omega))
  clear hbel
  go_wp2_with fail
  refine (compare_any _ _ _ _ _ (by omega) (by omega) (by omega) (by omega)).mono ?_
  rintro e w2 ⟨rfl, hbel⟩
  rw [HC.out]
  obtain ⟨hc2, hf2⟩ := Bel.cells hbel
  have hb2 := (hb0.alloc (by omega) _).trans (hbel.mono (by simp; omega))
  clear hbel hb0
  by_cases hp : 0 < c
  · have hp' : decide (0 < c) = true := by simpa using hp
    go_wp2_with fail
    go_ret
    exact ⟨ret_i64 (by rw [← HR.out, if_pos hp]), hb2⟩
  · have hp' : decide (0 < c) = false := by simpa using hp
    by_cases h4 : bb < ba
    · go_wp2_with fail
      go_ret
      exact ⟨ret_i64 (by rw [← HR.out, if_neg (by omega), if_pos h4]), hb2⟩
    · by_cases h5 : ba < bb
      · go_wp2_with fail
        go_ret
        exact ⟨ret_i64 (by rw [← HR.out, if_neg (by omega), if_neg (by omega), if_pos h5]), hb2⟩
      · go_wp2_with fail
        go_ret
        exact ⟨ret_i64 (by rw [← HR.out, if_neg (by omega), if_neg (by omega), if_neg (by omega)]), hb2⟩

theorem of_any (s t : ByteArray) (pa ba wa pb bb wb n d : Int) (w : World) (ha2 : ba ≤ 9223372036854775807) (hb2 : bb ≤ 9223372036854775807) (hn2 : n ≤ 9223372036854775807) (hd2 : d ≤ 9223372036854775807) :
    Calls Try.prog 11 #[.agg #[.string s, .int .i64 pa, .int .i64 ba, .int .i64 wa], .agg #[.string t, .int .i64 pb, .int .i64 bb, .int .i64 wb], .agg #[.int .i64 n, .int .i64 d]] w
      fun e w' => e = .returned (.int .i64 (callV pa ba pb bb n d)) ∧ Below w.heap.size w w' := by
  by_cases h : pa ≠ pb ∨ pa < 1
  · exact of_shut s t pa ba wa pb bb wb n d w h
  · obtain rfl : pa = pb := by omega
    by_cases h2 : 0 ≤ ba ∧ 0 ≤ bb ∧ ba + bb ≤ 62
    · exact of_yes s t pa ba wa bb wb n d w (by omega) h2.1 h2.2.1 h2.2.2 hn2 hd2
    · exact of_no s t pa ba wa bb wb n d w (by omega) h2 ha2 hb2
end Go.Proofs.Ythkdcbmcknndnaa

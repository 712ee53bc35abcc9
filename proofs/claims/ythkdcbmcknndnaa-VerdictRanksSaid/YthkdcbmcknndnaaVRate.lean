/- The rate of a row, comparing numbers and texts, the first that isn't 0; the closure of Rank and Less of the document. -/
import Derived.Test.YthkdcbmcknndnaaVPre
import Derived.Test.YthkdcbmcknndnaaRef01
import Derived.Test.YthkdcbmcknndnaaRowM
import Derived.BigQuiet
import Derived.Deep.RegionHeld3
namespace Go.Proofs.Ythkdcbmcknndnaa
open Go.RowKit Go.ChangeShapes Go.WideShapes
set_option linter.unusedVariables false
set_option linter.unusedSimpArgs false
namespace Rk
def rwC (x : Rw) : List Value := [.string x.arm, .int .i64 x.pe, .int .i64 x.bo, .int .i64 x.wo]
def rwV (x : Rw) : Value := .agg #[.string x.arm, .int .i64 x.pe, .int .i64 x.bo, .int .i64 x.wo]
/-- numbers of a row may be held in their types -/
structure Ok (x : Rw) : Prop where
  pe : -9223372036854775808 ≤ x.pe ∧ x.pe ≤ 9223372036854775807
  bo : -9223372036854775808 ≤ x.bo ∧ x.bo ≤ 9223372036854775807
  arm : x.arm.size ≤ maxLen
theorem rt_bd {x : Rw} (h : Ok x) : (-9223372036854775808 ≤ rtN x ∧ rtN x ≤ 9223372036854775807) ∧ (-9223372036854775808 ≤ rtD x ∧ rtD x ≤ 9223372036854775807) := by
  have h1 := h.pe
  have h2 := h.bo
  unfold rtN rtD
  split <;> omega
theorem rateG (x : Rw) (w : World) :
    Calls Try.prog 17 #[rwV x] w fun e w' => e = .returned (.agg #[.int .i64 (rtN x), .int .i64 (rtD x)]) ∧ Below w.heap.size w w' := by
  obtain ⟨s, p, b, wo⟩ := x
  unfold rwV
  show Calls _ _ #[.agg #[.string s, .int .i64 p, .int .i64 b, .int .i64 wo]] w fun e w' => e = .returned (.agg #[.int .i64 (if p < 1 ∨ b < 0 then 0 else b), .int .i64 (if p < 1 ∨ b < 0 then 1 else p)]) ∧ Below w.heap.size w w'
  by_cases h1 : p < 1
  · rw [if_pos (.inl h1), if_pos (.inl h1)]
    go_enter Try.func17, Try.ntmps17
    go_wp2_with fail
    exact bodyPost_ret (v := .agg #[.int .i64 0, .int .i64 1]) (by simp [results, Try.results17, go_sem]) rfl ⟨rfl, ((Below.refl _ _).alloc (Nat.le_refl _) _).alloc (by simp) _⟩
  · by_cases h2 : b < 0
    · rw [if_pos (.inr h2), if_pos (.inr h2)]
      have t1 : decide (p < 1) = false := decide_eq_false h1
      go_enter Try.func17, Try.ntmps17
      go_wp2_with fail
      exact bodyPost_ret (v := .agg #[.int .i64 0, .int .i64 1]) (by simp [results, Try.results17, go_sem]) rfl ⟨rfl, ((Below.refl _ _).alloc (Nat.le_refl _) _).alloc (by simp) _⟩
    · rw [if_neg (by omega), if_neg (by omega)]
      have t1 : decide (p < 1) = false := decide_eq_false h1
      go_enter Try.func17, Try.ntmps17
      go_wp2_with fail
      exact bodyPost_ret (v := .agg #[.int .i64 b, .int .i64 p]) (by simp [results, Try.results17, go_sem]) rfl ⟨rfl, ((Below.refl _ _).alloc (Nat.le_refl _) _).alloc (by simp) _⟩
theorem rateD (x : Rw) (w : World) :
    Calls Try.prog 28 #[rwV x] w fun e w' => e = .returned (.agg #[.int .i64 (rtN x), .int .i64 (rtD x)]) ∧ Below w.heap.size w w' := by
  obtain ⟨s, p, b, wo⟩ := x
  unfold rwV
  show Calls _ _ #[.agg #[.string s, .int .i64 p, .int .i64 b, .int .i64 wo]] w fun e w' => e = .returned (.agg #[.int .i64 (if p < 1 ∨ b < 0 then 0 else b), .int .i64 (if p < 1 ∨ b < 0 then 1 else p)]) ∧ Below w.heap.size w w'
  by_cases h1 : p < 1
  · rw [if_pos (.inl h1), if_pos (.inl h1)]
    go_enter Try.func28, Try.ntmps28
    go_wp2_with fail
    exact bodyPost_ret (v := .agg #[.int .i64 0, .int .i64 1]) (by simp [results, Try.results28, go_sem]) rfl ⟨rfl, ((Below.refl _ _).alloc (Nat.le_refl _) _).alloc (by simp) _⟩
  · by_cases h2 : b < 0
    · rw [if_pos (.inr h2), if_pos (.inr h2)]
      have t1 : decide (p < 1) = false := decide_eq_false h1
      go_enter Try.func28, Try.ntmps28
      go_wp2_with fail
      exact bodyPost_ret (v := .agg #[.int .i64 0, .int .i64 1]) (by simp [results, Try.results28, go_sem]) rfl ⟨rfl, ((Below.refl _ _).alloc (Nat.le_refl _) _).alloc (by simp) _⟩
    · rw [if_neg (by omega), if_neg (by omega)]
      have t1 : decide (p < 1) = false := decide_eq_false h1
      go_enter Try.func28, Try.ntmps28
      go_wp2_with fail
      exact bodyPost_ret (v := .agg #[.int .i64 b, .int .i64 p]) (by simp [results, Try.results28, go_sem]) rfl ⟨rfl, ((Below.refl _ _).alloc (Nat.le_refl _) _).alloc (by simp) _⟩
/-- numbers held against one another -/
def cI (a b : Int) : Int := if a < b then -1 else if b < a then 1 else 0
def cB (a b : ByteArray) : Int := if ltB a b then -1 else if ltB b a then 1 else 0
theorem nanI (a : Int) (w : World) : Calls Try.prog 25 #[.int .i64 a] w fun e w' => e = .returned (.bool false) ∧ w = w' := by
  go_enter Try.func25, Try.ntmps25
  go_wp2_with fail
  go_ret
  exact ⟨by simp, rfl⟩
theorem nanS (a : ByteArray) (w : World) : Calls Try.prog 26 #[.string a] w fun e w' => e = .returned (.bool false) ∧ w = w' := by
  have t : (a.toList == a.toList) = true := by simp
  go_enter Try.func26, Try.ntmps26
  go_wp2_with fail
  go_ret
  exact ⟨by simp, rfl⟩
theorem cmpI_any (a b : Int) (w : World) : Calls Try.prog 18 #[.int .i64 a, .int .i64 b] w fun e w' => e = .returned (.int .i64 (cI a b)) ∧ w = w' := by
  by_cases h1 : a < b
  · have e0 : cI a b = -1 := by unfold cI; rw [if_pos h1]
    rw [e0]
    clear e0
    go_enter Try.func18, Try.ntmps18
    go_wp2_with (go_at_call 25; refine (nanI _ _).mono ?_; rintro e w' ⟨rfl, rfl⟩)
    go_ret
    exact ⟨rfl, rfl⟩
  · by_cases h2 : b < a
    · have e0 : cI a b = 1 := by unfold cI; rw [if_neg h1, if_pos h2]
      rw [e0]
      clear e0
      go_enter Try.func18, Try.ntmps18
      go_wp2_with (go_at_call 25; refine (nanI _ _).mono ?_; rintro e w' ⟨rfl, rfl⟩)
      go_ret
      exact ⟨rfl, rfl⟩
    · have e0 : cI a b = 0 := by unfold cI; rw [if_neg h1, if_neg h2]
      rw [e0]
      clear e0
      go_enter Try.func18, Try.ntmps18
      go_wp2_with (go_at_call 25; refine (nanI _ _).mono ?_; rintro e w' ⟨rfl, rfl⟩)
      go_ret
      exact ⟨rfl, rfl⟩
theorem cmpS_any (a b : ByteArray) (w : World) : Calls Try.prog 19 #[.string a, .string b] w fun e w' => e = .returned (.int .i64 (cB a b)) ∧ w = w' := by
  by_cases h1 : ltB a b
  · have e0 : cB a b = -1 := by unfold cB; rw [if_pos h1]
    have t1 : Op.bytesLess a.toList b.toList = true := by rw [bytesLess_lt]; exact decide_eq_true h1
    rw [e0]
    clear e0 h1
    go_enter Try.func19, Try.ntmps19
    go_wp2_with (go_at_call 26; refine (nanS _ _).mono ?_; rintro e w' ⟨rfl, rfl⟩)
    go_ret
    exact ⟨rfl, rfl⟩
  · have t1 : Op.bytesLess a.toList b.toList = false := by rw [bytesLess_lt]; exact decide_eq_false h1
    by_cases h2 : ltB b a
    · have e0 : cB a b = 1 := by unfold cB; rw [if_neg h1, if_pos h2]
      have t2 : (a.toList == b.toList) = false := by rw [bytesEq]; exact decide_eq_false (fun e => by subst e; exact ltB_irrefl _ h2)
      rw [e0]
      clear e0 h1 h2
      go_enter Try.func19, Try.ntmps19
      go_wp2_with (go_at_call 26; refine (nanS _ _).mono ?_; rintro e w' ⟨rfl, rfl⟩)
      go_ret
      exact ⟨rfl, rfl⟩
    · have e0 : cB a b = 0 := by unfold cB; rw [if_neg h1, if_neg h2]
      have t2 : (a.toList == b.toList) = true := by
        rw [bytesEq]
        refine decide_eq_true (Classical.byContradiction fun e => ?_)
        rcases ltB_total e with h | h
        · exact h1 h
        · exact h2 h
      rw [e0]
      clear e0 h1 h2
      go_enter Try.func19, Try.ntmps19
      go_wp2_with (go_at_call 26; refine (nanS _ _).mono ?_; rintro e w' ⟨rfl, rfl⟩)
      go_ret
      exact ⟨rfl, rfl⟩
/-- the first of three that isn't 0 -/
def or3 (a b c : Int) : Int := if a ≠ 0 then a else if b ≠ 0 then b else c
theorem or3_any (a b c : Int) (k : Nat) (w : World) (hb : Bk w k [.int .i64 a, .int .i64 b, .int .i64 c] 3) :
    Calls Try.prog 15 #[.slice (some ⟨k, 0, none⟩) 3 3] w fun e w' => e = .returned (.int .i64 (or3 a b c)) ∧ w = w' := by
  have c0 : w.cell? ⟨k, 0, none⟩ = some (.int .i64 a) := hb.cell 0
  have c1 : w.cell? ⟨k, 1, none⟩ = some (.int .i64 b) := hb.cell 1
  have c2 : w.cell? ⟨k, 2, none⟩ = some (.int .i64 c) := hb.cell 2
  obtain ⟨r, hr⟩ : ∃ r, or3 a b c = r := ⟨_, rfl⟩
  have HR := Lib.hid hr
  rw [hr]
  clear hr hb
  go_enter Try.func15, Try.ntmps15
  go_wp2_with fail
  go_loop [8] (fun x => ∃ i : Nat, i ≤ 3 ∧ x = .int .i64 i ∧ Hid ((0 < i → a = 0) ∧ (1 < i → b = 0) ∧ (2 < i → c = 0))) (fun x => 3 - (intOf x).toNat)
  case atStart => exact ⟨0, by omega, rfl, Lib.hid ⟨by omega, by omega, by omega⟩⟩
  case round =>
    obtain ⟨i, hi, rfl, H⟩ := hrel
    rcases (by omega : i = 0 ∨ i = 1 ∨ i = 2 ∨ i = 3) with e | e | e | e
    · subst e
      by_cases h : a = 0
      · have t1 : ((a : Int) == 0) = true := by simp [h]
        have t2 : ((a : Int) != 0) = false := by simp [h]
        have H2 := Lib.hid h
        clear h
        go_wp2_with fail
        go_round
        case rel => exact ⟨1, by omega, rfl, Lib.hid ⟨fun _ => H2.out, by omega, by omega⟩⟩
        case measure => simp [intOf]
      · have t1 : ((a : Int) == 0) = false := by simp [h]
        have t2 : ((a : Int) != 0) = true := by simp [h]
        have H2 := Lib.hid h
        clear h
        go_wp2_with fail
        go_ret
        refine ⟨ret_i64 ?_, rfl⟩
        have := HR.out; unfold or3 at this; rw [if_pos H2.out] at this; exact this
    · subst e
      by_cases h : b = 0
      · have t1 : ((b : Int) == 0) = true := by simp [h]
        have t2 : ((b : Int) != 0) = false := by simp [h]
        have H2 := Lib.hid h
        clear h
        go_wp2_with fail
        go_round
        case rel => exact ⟨2, by omega, rfl, Lib.hid ⟨fun _ => H.out.1 (by omega), fun _ => H2.out, by omega⟩⟩
        case measure => simp [intOf]
      · have t1 : ((b : Int) == 0) = false := by simp [h]
        have t2 : ((b : Int) != 0) = true := by simp [h]
        have H2 := Lib.hid h
        clear h
        go_wp2_with fail
        go_ret
        refine ⟨ret_i64 ?_, rfl⟩
        have := HR.out; unfold or3 at this; rw [if_neg (by simpa using H.out.1 (by omega)), if_pos H2.out] at this; exact this
    · subst e
      by_cases h : c = 0
      · have t1 : ((c : Int) == 0) = true := by simp [h]
        have t2 : ((c : Int) != 0) = false := by simp [h]
        have H2 := Lib.hid h
        clear h
        go_wp2_with fail
        go_round
        case rel => exact ⟨3, by omega, rfl, Lib.hid ⟨fun _ => H.out.1 (by omega), fun _ => H.out.2.1 (by omega), fun _ => H2.out⟩⟩
        case measure => simp [intOf]
      · have t1 : ((c : Int) == 0) = false := by simp [h]
        have t2 : ((c : Int) != 0) = true := by simp [h]
        have H2 := Lib.hid h
        clear h
        go_wp2_with fail
        go_ret
        refine ⟨ret_i64 ?_, rfl⟩
        have := HR.out; unfold or3 at this; rw [if_neg (by simpa using H.out.1 (by omega)), if_neg (by simpa using H.out.2.1 (by omega))] at this; exact this
    · subst e
      go_wp2_with fail
      go_ret
      refine ⟨ret_i64 ?_, rfl⟩
      have := HR.out; unfold or3 at this; rw [if_neg (by simpa using H.out.1 (by omega)), if_neg (by simpa using H.out.2.1 (by omega)), H.out.2.2 (by omega)] at this; exact this
/-- what the closure of Rank tells of two rows -/
def cRw (x y : Rw) : Int := or3 (cR y x) (cI y.pe x.pe) (cB x.arm y.arm)
theorem cRw_lt (x y : Rw) : cRw x y < 0 ↔ LT x y := by
  unfold cRw or3 LT cI cB
  by_cases h1 : cR y x = 0
  · rw [if_neg (by simpa using h1)]
    by_cases h2 : y.pe < x.pe
    · rw [if_pos h2, if_pos (by decide)]
      exact ⟨fun _ => .inr ⟨h1, .inl h2⟩, fun _ => by decide⟩
    · rw [if_neg h2]
      by_cases h3 : x.pe < y.pe
      · rw [if_pos h3, if_pos (by decide)]
        refine ⟨fun h => by omega, fun h => ?_⟩
        rcases h with h | ⟨_, h | ⟨h, _⟩⟩ <;> omega
      · rw [if_neg h3, if_neg (by decide)]
        have e : y.pe = x.pe := by omega
        by_cases h4 : ltB x.arm y.arm
        · rw [if_pos h4]; exact ⟨fun _ => .inr ⟨h1, .inr ⟨e, h4⟩⟩, fun _ => by decide⟩
        · rw [if_neg h4]
          constructor
          · intro h; split at h <;> omega
          · rintro (h | ⟨_, h | ⟨_, h⟩⟩)
            · omega
            · omega
            · exact absurd h h4
  · rw [if_pos h1]
    constructor
    · exact .inl
    · rintro (h | ⟨h, _⟩)
      · exact h
      · exact absurd h h1
theorem cRw_bd (x y : Rw) : -1 ≤ cRw x y ∧ cRw x y ≤ 1 := by
  have := cmpR_bd (rtN y) (rtD y) (rtN x) (rtD x)
  unfold cRw or3 cI cB cR
  split
  · exact this
  · split <;> split <;> first | omega | (split <;> omega) | skip
end Rk
end Go.Proofs.Ythkdcbmcknndnaa

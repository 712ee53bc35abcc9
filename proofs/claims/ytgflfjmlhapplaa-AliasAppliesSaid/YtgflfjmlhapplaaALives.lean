/- The law's own functions of layer 45: lives. -/
import Derived.Test.YtgflfjmlhapplaaAEven
namespace Go.Proofs.Ytgflfjmlhapplaa
open Go.RowKit Go.MapKept Go.Maps
set_option linter.unusedVariables false
def ta : ByteArray := ⟨#[97]⟩
def tb : ByteArray := ⟨#[98]⟩
def tc : ByteArray := ⟨#[99]⟩
def livesL : List Two := [(tb, tc), (tc, ta), (ta, tb)]
theorem lives_facts : canB [] tb tc = true ∧ canB [(tb, tc)] tc ta = true ∧ canB [(tb, tc), (tc, ta)] ta tb = false ∧ nameR livesL tb = ta ∧ groupR livesL tc = [ta, tb, tc] ∧ (countN livesL livesL).length = 1 := by
  decide
set_option maxRecDepth 100000 in
set_option maxHeartbeats 4000000 in
theorem lives_any (w : World) : Calls Try.prog 8 #[] w fun e w' => e = .returned (.bool true) ∧ Below w.heap.size w w' := by
  obtain ⟨f1, f2, f3, f4, f5, f6⟩ := lives_facts
  have NW := Lib.hid (h_new (Here.nil (K := K45) (Below.refl w.heap.size w)))
  have F1 := Lib.hid f1
  have F2 := Lib.hid f2
  have F3 := Lib.hid f3
  have F4 := Lib.hid f4
  have F5 := Lib.hid f5
  have F6 := Lib.hid f6
  clear f1 f2 f3 f4 f5 f6
  have t5 : (ta.toList == [97]) = true := by rw [Go.ByteArray.toList_eq]; decide
  go_enter Try.func8, Try.ntmps8
  go_wp2_with fail
  refine NW.out.mono ?_
  rintro e w1 ⟨p, rfl, h1⟩
  have J1 := Lib.hid (h_join h1 (i := 0) rfl tb tc (by decide) (by decide))
  rw [F1.out] at J1
  clear h1 NW
  go_wp2_with fail
  refine J1.out.mono ?_
  rintro e w2 ⟨rfl, h2⟩
  have h2' : Here K45 w w2 [.alias p [(tb, tc)]] := h2
  have J2 := Lib.hid (h_join h2' (i := 0) rfl tc ta (by decide) (by decide))
  rw [F2.out] at J2
  clear h2 h2' J1
  go_wp2_with fail
  refine J2.out.mono ?_
  rintro e w3 ⟨rfl, h3⟩
  have h3' : Here K45 w w3 [.alias p [(tb, tc), (tc, ta)]] := h3
  have J3 := Lib.hid (h_join h3' (i := 0) rfl ta tb (by decide) (by decide))
  rw [F3.out] at J3
  clear h3 h3' J2
  go_wp2_with fail
  refine J3.out.mono ?_
  rintro e w4 ⟨rfl, h4⟩
  have h4' : Here K45 w w4 [.alias p livesL] := h4
  have H4 := Lib.hid h4'
  obtain ⟨Bl, ha⟩ := h_at h4' (i := 0) rfl
  have N4 := Lib.hid (name_at ha tb (by decide))
  have G4 := Lib.hid (group_at ha (by decide) tc (by decide))
  have CC : Hid (∀ W, Below w4.heap.size w4 W → Calls Try.prog 26 #[.pointer (some ⟨p, 0, none⟩)] W fun e w' => e = .returned (.int .i64 (countN livesL livesL).length) ∧ Below W.heap.size W w') := Lib.hid (fun W hb => count_at (ha.bel hb) (by decide))
  rw [F4.out] at N4
  rw [F5.out] at G4
  rw [F6.out] at CC
  clear h4 h4' ha J3
  go_wp2_with fail
  refine N4.out.mono ?_
  rintro e w5 ⟨rfl, rfl⟩
  clear N4
  go_wp2_with fail
  refine G4.out.mono ?_
  rintro e w6 ⟨v6, rfl, m6⟩
  have h7 := Bk.new w6 [.string ta, .string tb, .string tc] 9
  have hb7 := (Below.refl w6.heap.size w6).alloc (Nat.le_refl _) (.cells #[.string ta, .string tb, .string tc] 9)
  have t7 : TextsAt (w6.alloc (.cells #[.string ta, .string tb, .string tc] 9)) (.slice (some ⟨w6.heap.size, 0, none⟩) 3 3) [ta, tb, tc] := row_of_bk h7 rfl (Nat.le_refl _) (by unfold maxLen; omega) rfl
  obtain ⟨b6, c6, rfl, _, _, s6⟩ := (m6.tx.bel hb7).strs
  obtain ⟨b8, c8, hv8, _, _, s8⟩ := t7.strs
  have htx := texts_any b6 b8 3 3 c6 c8 [ta, tb, tc] [ta, tb, tc] _ s6 s8 rfl rfl (by omega) (by omega)
  rw [decide_eq_true rfl] at htx
  have e8 : b8 = some ⟨w6.heap.size, 0, none⟩ ∧ c8 = 3 := by
    have := hv8
    simp only [List.length_cons, List.length_nil, Value.slice.injEq] at this
    exact ⟨this.1.symm, this.2.2.symm⟩
  rw [e8.1, e8.2] at htx
  have TX := Lib.hid htx
  have B7 : Hid (Below w4.heap.size w4 (w6.alloc (.cells #[.string ta, .string tb, .string tc] 9))) := Lib.hid (m6.bl.trans (hb7.mono m6.bl.size))
  clear h7 hb7 t7 s6 s8 hv8 e8 htx m6 G4
  simp only [List.length_cons, List.length_nil, Nat.zero_add, Nat.reduceAdd] at *
  go_wp2_with fail
  refine TX.out.mono ?_
  rintro e w8 ⟨rfl, q8, hw8⟩
  have b8 := bdrewN B7.out q8
  rw [← hw8] at b8
  have C8 := Lib.hid (CC.out w8 b8)
  have H8 := Lib.hid (H4.out.step_bel b8)
  clear b8 hw8 TX CC
  go_wp2_with fail
  refine C8.out.mono ?_
  rintro e w9 ⟨rfl, b9⟩
  have H9 := Lib.hid (H8.out.step_bel b9)
  clear b9 C8
  go_wp2_with fail
  go_ret
  exact ⟨rfl, H9.out.bel⟩
end Go.Proofs.Ytgflfjmlhapplaa

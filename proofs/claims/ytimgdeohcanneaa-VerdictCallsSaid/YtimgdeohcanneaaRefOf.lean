/- Contract of the reference's Of. -/
import Derived.Test.YtimgdeohcanneaaRefSign
import Derived.Test.YtimgdeohcanneaaRef01
namespace Go.Proofs.Ytimgdeohcanneaa
open Go.RowKit Pasc Wide
set_option linter.unusedVariables false

/-- what the reference's Sign tells -/
def rsgn (a b : Int) : Int := if 0 ≤ a ∧ 0 ≤ b ∧ a + b ≤ 62 then sgn a b else -1
theorem rsign_any (a b : Int) (w : World) (ha2 : a ≤ 9223372036854775807) (hb2 : b ≤ 9223372036854775807) :
    Calls Try.prog 17 #[.int .i64 a, .int .i64 b] w fun e w' => e = .returned (.int .i64 (rsgn a b)) ∧ Below w.heap.size w w' := by
  unfold rsgn
  by_cases h : 0 ≤ a ∧ 0 ≤ b ∧ a + b ≤ 62
  · rw [if_pos h]; exact rsign_yes a b w h.1 h.2.1 h.2.2
  · rw [if_neg h]; refine (rsign_no a b w h ha2 hb2).mono ?_
    rintro e w' ⟨rfl, rfl⟩; exact ⟨rfl, Below.refl _ _⟩
theorem sgn_nonneg (a b : Int) : 0 ≤ sgn a b := by
  have h2 : 0 ≤ pw (a + b).toNat := by rw [pw_nat]; exact Int.natCast_nonneg _
  unfold sgn; split <;> omega

/-- the cells of two rows and a level -/
def Rows3 (N : Nat) (s0 : ByteArray) (a0 b0 g0 : Int) (s1 : ByteArray) (a1 b1 g1 n d : Int) (w' : World) : Prop :=
  w'.cell? ⟨N, 1, none⟩ = some (.int .i64 a0) ∧ w'.cell? ⟨N, 2, none⟩ = some (.int .i64 b0) ∧
  w'.cell? ⟨N + 1, 1, none⟩ = some (.int .i64 a1) ∧ w'.cell? ⟨N + 1, 2, none⟩ = some (.int .i64 b1) ∧
  w'.cell? ⟨N + 1 + 1, 0, none⟩ = some (.int .i64 n) ∧ w'.cell? ⟨N + 1 + 1, 1, none⟩ = some (.int .i64 d)
theorem Rows3.bel {N : Nat} {s0 : ByteArray} {a0 b0 g0 : Int} {s1 : ByteArray} {a1 b1 g1 n d : Int} {w w' : World} (h : Rows3 N s0 a0 b0 g0 s1 a1 b1 g1 n d w) (hb : Below w.heap.size w w') : Rows3 N s0 a0 b0 g0 s1 a1 b1 g1 n d w' :=
  ⟨cell_keep hb h.1, cell_keep hb h.2.1, cell_keep hb h.2.2.1, cell_keep hb h.2.2.2.1, cell_keep hb h.2.2.2.2.1, cell_keep hb h.2.2.2.2.2⟩

set_option maxHeartbeats 1000000 in
theorem rof_any (s t : ByteArray) (pa ba wa pb bb wb n d : Int) (w : World) (ha2 : ba ≤ 9223372036854775807) (hb2 : bb ≤ 9223372036854775807) (hn2 : n ≤ 9223372036854775807) (hd2 : d ≤ 9223372036854775807) :
    Calls Try.prog 19 #[.agg #[.string s, .int .i64 pa, .int .i64 ba, .int .i64 wa], .agg #[.string t, .int .i64 pb, .int .i64 bb, .int .i64 wb], .agg #[.int .i64 n, .int .i64 d]] w
      fun e w' => e = .returned (.int .i64 (callV pa ba pb bb n d)) ∧ Below w.heap.size w w' := by
  generalize hV : callV pa ba pb bb n d = R
  have HV := Lib.hid hV
  generalize hG : rsgn ba bb = G
  have HG := Lib.hid hG
  clear hV hG
  go_enter Try.func19, Try.ntmps19
  go_wp2_with fail
  refine (rsign_any ba bb _ ha2 hb2).mono ?_
  rintro e w1 ⟨rfl, b1⟩
  rw [HG.out]
  have F : Rows3 w.heap.size s pa ba wa t pb bb wb n d w1 := by
    refine Rows3.bel ?_ b1
    refine ⟨?_, ?_, ?_, ?_, ?_, ?_⟩ <;> simp [go_sem]
  have bB := bel_trans (bel3 w _ _ _) b1
  clear b1
  obtain ⟨c0, c1, c2, c3, c4, c5⟩ := F
  have F : Rows3 w.heap.size s pa ba wa t pb bb wb n d w1 := ⟨c0, c1, c2, c3, c4, c5⟩
  by_cases hp : pa = pb
  · subst hp
    by_cases hq : pa < 1
    · have t1 : decide (pa < 1) = true := by simpa using hq
      go_wp2_with fail
      go_ret
      exact ⟨ret_i64 (by rw [← HV.out]; unfold callV; rw [if_pos (by omega)]), bB⟩
    · have t1 : decide (pa < 1) = false := by simpa using hq
      by_cases hr : 0 ≤ ba ∧ 0 ≤ bb ∧ ba + bb ≤ 62
      · obtain ⟨r1, r2, r3⟩ := hr
        have g0 : 0 ≤ G := by rw [← HG.out]; unfold rsgn; rw [if_pos ⟨r1, r2, r3⟩]; exact sgn_nonneg _ _
        have g1 : G ≤ 9223372036854775807 := by rw [← HG.out]; unfold rsgn; rw [if_pos ⟨r1, r2, r3⟩]; exact sgn_bd _ _ r3
        have t2 : decide (G < 0) = false := by simp; omega
        have p2 := (pw_bd (ba + bb).toNat (by omega)).2
        have HV2 : Hid (R = if 0 < cmpR G (pw (ba + bb).toNat) n d then 0 else if bb < ba then 1 else if ba < bb then 2 else 0) := by
          have h1 := HV.out
          have h2 := HG.out
          unfold rsgn at h2; rw [if_pos ⟨r1, r2, r3⟩] at h2
          unfold callV at h1; rw [if_neg (by omega), if_neg (by omega), h2] at h1
          exact h1.symm
        clear HV HG
        generalize hP : pw (ba + bb).toNat = P at *
        have HP := Lib.hid hP
        clear hP
        go_wp2_with fail
        have wz : IntKind.i64.wrap (ba + bb) = ba + bb := IntWalk.i64_in _ (by omega)
        have sz : 0 ≤ ba + bb := by omega
        go_cut [37] (fun s37 wx => s37 = .bool (decide (0 < cmpR G P n d)) ∧ Rows3 w.heap.size s pa ba wa t pa bb wb n d wx ∧ Below w.heap.size w wx)
        case first =>
          go_region_held3 (fun w' => w'.cell? ⟨w.heap.size, 1, none⟩ = some (.int .i64 pa) ∧ w'.cell? ⟨w.heap.size, 2, none⟩ = some (.int .i64 ba) ∧ w'.cell? ⟨w.heap.size + 1, 1, none⟩ = some (.int .i64 pa) ∧ w'.cell? ⟨w.heap.size + 1, 2, none⟩ = some (.int .i64 bb) ∧ w'.cell? ⟨w.heap.size + 1 + 1, 0, none⟩ = some (.int .i64 n) ∧ w'.cell? ⟨w.heap.size + 1 + 1, 1, none⟩ = some (.int .i64 d))
            ((refine (F.bel ?_); repeat (first | assumption | exact Below.refl _ _ | refine Below.drew ?_)))
            (first | (go_at_call 15; refine (rpower_int _ _ sz r3).mono ?_; rintro e wx ⟨rfl, rfl⟩; rw [HP.out]) | (go_at_call 25; refine (rcompare_any _ _ _ _ _ g1 (Int.le_trans p2 (by decide)) hn2 hd2).mono ?_; rintro e wx ⟨rfl, bx⟩; have bv := bel_trans (V := w1) (by repeat (first | assumption | exact Below.refl _ _ | refine Below.drew ?_)) bx))
          all_goals
            go_wp2_with fail
            go_meet
            exact ⟨rfl, F.bel bv, bel_trans bB bv⟩
        case rest =>
          obtain ⟨rfl, F2, bX⟩ := hcut
          obtain ⟨k0, k1, k2, k3, k4, k5⟩ := F2
          clear F c0 c1 c2 c3 c4 c5 wz
          generalize cmpR G P n d = q at *
          by_cases h1 : 0 < q
          · have t3 : decide (0 < q) = true := by simpa using h1
            go_wp2_with fail
            go_ret
            exact ⟨ret_i64 (by rw [HV2.out, if_pos h1]), bX⟩
          · have t3 : decide (0 < q) = false := by simpa using h1
            by_cases h2 : bb < ba
            · go_wp2_with fail
              go_ret
              exact ⟨ret_i64 (by rw [HV2.out, if_neg (by omega), if_pos h2]), bX⟩
            · by_cases h3 : ba < bb
              · go_wp2_with fail
                go_ret
                exact ⟨ret_i64 (by rw [HV2.out, if_neg (by omega), if_neg (by omega), if_pos h3]), bX⟩
              · go_wp2_with fail
                go_ret
                exact ⟨ret_i64 (by rw [HV2.out, if_neg (by omega), if_neg (by omega), if_neg (by omega)]), bX⟩
      · have g0 : G = -1 := by rw [← HG.out]; unfold rsgn; rw [if_neg hr]
        subst g0
        have HR := Lib.hid hr
        clear hr
        go_wp2_with fail
        go_ret
        exact ⟨ret_i64 (by rw [← HV.out]; unfold callV; rw [if_neg (by omega), if_pos HR.out]), bB⟩
  · have t1 : (pa != pb) = true := by simpa using hp
    have HPP := Lib.hid hp
    clear hp
    go_wp2_with fail
    go_ret
    exact ⟨ret_i64 (by rw [← HV.out]; unfold callV; rw [if_pos (.inl HPP.out)]), bB⟩
end Go.Proofs.Ytimgdeohcanneaa

/- Contract of (*distinct.Counter).Merge. -/
import Derived.Test.YtipblbmpckfigaaDMisc
namespace Go.Proofs.Ytipblbmpckfigaa
open Go.RowKit Dist
set_option linter.unusedVariables false

theorem allOf_self {T L : List Int} (hL : Up L) (h : ∀ x ∈ T, x ∈ L) : allOf T L = L := by
  refine up_ext (up_all _ hL) hL fun x => ?_
  rw [mem_all]
  exact ⟨fun k => k.elim (h x) id, .inr⟩
theorem all_take_snoc {T : List Int} {i : Nat} {x : Int} (h : T[i]? = some x) (L : List Int) : allOf (T.take (i + 1)) L = insU (allOf (T.take i) L) x := by
  rw [List.take_add_one, h]; exact all_snoc _ _ _
def MergePost (g : Nat) (v : Value) (k : Nat) (L : List Int) (w : World) (e : Ending) (w' : World) : Prop :=
  ∃ v', e = .returned (.bool true) ∧ Cnt w' g v' k L ∧ Fr (own2 g v) w w' ∧ Since w v v'
theorem merge_none (g k : Nat) (v : Value) (L : List Int) (w : World) (hC : Cnt w g v k L) :
    Calls Try.prog 27 #[.pointer (some ⟨g, 0, none⟩), .pointer none] w fun e w' => e = .returned (.bool false) ∧ Below w.heap.size w w' := by
  go_enter Try.func27, Try.ntmps27
  go_wp2_with fail
  go_quiet (fail)
  go_wp2_with fail
  go_ret
  exact ⟨rfl, below_drewN (Below.refl _ _) _⟩
theorem merge_other (g g' k k' : Nat) (v v' : Value) (L L' : List Int) (w : World) (hC : Cnt w g v k L) (hO : Cnt w g' v' k' L') (hk : k' ≠ k) :
    Calls Try.prog 27 #[.pointer (some ⟨g, 0, none⟩), .pointer (some ⟨g', 0, none⟩)] w fun e w' => e = .returned (.bool false) ∧ Below w.heap.size w w' := by
  obtain ⟨c0, _, _, _, _, _, _⟩ := hC.ctr.facts
  obtain ⟨d0, _, _, _, _, _, _⟩ := hO.ctr.facts
  have q : ((k' : Int) != (k : Int)) = true := by simp; omega
  clear hC hO
  go_enter Try.func27, Try.ntmps27
  go_wp2_with fail
  go_quiet (fail)
  go_wp2_with fail
  go_ret
  exact ⟨rfl, below_drewN (Below.refl _ _) _⟩
/-- two counters have no memory in common -/
structure Disj (g : Nat) (v : Value) (g' : Nat) (v' : Value) : Prop where
  gg : g' ≠ g
  vg : v.ownBlock ≠ some g'
  gv : v'.ownBlock ≠ some g
  vv : ∀ b, v.ownBlock = some b → v'.ownBlock ≠ some b
theorem Disj.fr {w w1 : World} {g g' k : Nat} {v v' : Value} {L : List Int} (d : Disj g v g' v') (h : Cnt w g' v' k L) (F : Fr (own2 g v) w w1) : Cnt w1 g' v' k L :=
  h.fr F (fun e => e.elim d.gg d.vg) (fun b hb e => e.elim (fun e => d.gv (by rw [hb, e])) (fun e => d.vv b e hb))
theorem Disj.since {w wx : World} {g g' k' : Nat} {v v1 v' : Value} {L' : List Int} (d : Disj g v g' v') (h : Cnt w g' v' k' L') (S : Since wx v v1) (hx : w.heap.size ≤ wx.heap.size) (hg : g < w.heap.size) : Disj g v1 g' v' := by
  obtain ⟨h1, h2⟩ := h.lt
  rcases S with e | ⟨c, e, hc⟩
  · exact ⟨d.gg, by rw [e]; exact d.vg, d.gv, fun b hb => d.vv b (by rw [← e]; exact hb)⟩
  · refine ⟨d.gg, fun k => by rw [e] at k; cases k; omega, d.gv, fun b hb hb2 => ?_⟩
    rw [e] at hb; cases hb
    have := (h2 _ hb2).1; omega

set_option maxHeartbeats 4000000 in
set_option maxRecDepth 100000 in
theorem merge_yes (g g' k : Nat) (v v' : Value) (L L' : List Int) (w : World) (hC : Cnt w g v k L) (hO : Cnt w g' v' k L') (hd : Disj g v g' v') :
    Calls Try.prog 27 #[.pointer (some ⟨g, 0, none⟩), .pointer (some ⟨g', 0, none⟩)] w (MergePost g v k (allOf L' L) w) := by
  obtain ⟨c0, c1, c2, _, _, _, lg⟩ := hC.ctr.facts
  obtain ⟨d0, d1, d2, _, _, _, lg'⟩ := hO.ctr.facts
  obtain ⟨T, hT⟩ : ∃ T, L'.take k = T := ⟨_, rfl⟩
  have hk1 := hC.k1
  have hk2 := hC.k2
  have hTl : T.length ≤ 4096 := by rw [← hT, List.length_take]; omega
  have hTu : ∀ x ∈ T, 0 ≤ x ∧ x ≤ 18446744073709551615 := fun x hx => hO.u64 x (by rw [← hT] at hx; exact List.mem_of_mem_take hx)
  have HCl := Lib.hid (fun n => clone_any v' T (w.drewN n) (by have := hO.ctr.row; rw [hT] at this; exact this) (by omega))
  have fin : ∀ wx v1, Cnt wx g v1 k (allOf T L) → Fr (own2 g v) w wx → Since w v v1 → MergePost g v k (allOf L' L) w (.returned (.bool true)) (wx.setCell ⟨g, 2, none⟩ (.bool (decide (k < (allOf T L).length) || decide (k < L'.length)))) := by
    intro wx v1 c f s
    refine ⟨v1, rfl, ⟨?_, up_all _ hC.up, hC.k1, hC.k2, fun x hx => ?_⟩, f.setCell _ _ _ (.inr (.inl rfl)), s⟩
    · have mm : (decide (k < (allOf T L).length) || decide (k < L'.length)) = decide (k < (allOf L' L).length) := by rw [← hT]; exact merge_more hC.up hO.up k
      have tt : (allOf T L).take k = (allOf L' L).take k := by rw [← hT]; exact merge_take hC.up hO.up k
      rw [mm]
      have := c.ctr.more (decide (k < (allOf L' L).length))
      rw [tt] at this
      exact this
    · rcases mem_all _ |>.1 hx with hx | hx
      · exact hO.u64 x hx
      · exact hC.u64 x hx
  have FIN := Lib.hid fin
  have DD := Lib.hid hd
  have HC0 := Lib.hid hC
  have HO0 := Lib.hid hO
  clear fin hd
  go_enter Try.func27, Try.ntmps27
  go_wp2_with fail
  go_quiet (fail)
  go_wp2_with fail
  refine (HCl.out _).mono ?_
  rintro e w1 ⟨vc, rfl, R1, X1, b1⟩
  have hs1 : w.heap.size ≤ w1.heap.size := b1.size
  have b1' : Below w.heap.size w w1 := (below_drewN (Below.refl _ _) _).trans b1
  have C1 := hC.bel b1'
  have O1 := hO.bel b1'
  have F1 : Fr (own2 g v) w w1 := Fr.of_bel b1'
  have hcb : ∀ b, vc.ownBlock = some b → w.heap.size ≤ b ∧ b < w1.heap.size := fun b hb => ⟨X1 b hb, (R1.lt b hb).2⟩
  have hvlt := hC.lt.2
  obtain ⟨p1, q1, rfl, _, _, N1, _⟩ := nums_of_row R1
  clear HCl b1 b1' c0 c1 c2 d0 d1 d2 hC hO X1
  go_wp2_with fail
  generalize hn : T.length = n at *
  have Hn := Lib.hid hn
  clear hn
  go_loopw [26] (fun c wr => ∃ (i : Nat) (v1 : Value), i ≤ n ∧ c = .int .i64 i ∧ Cnt wr g v1 k (allOf (T.take i) L) ∧ Cnt wr g' v' k L' ∧ Disj g v1 g' v' ∧ wr.ownsRow 0 23 1 (.slice p1 n q1) n (T.map (Value.int .u64)) ∧ Since w1 v v1 ∧ Fr (own2 g v) w wr ∧ w1.heap.size ≤ wr.heap.size) (fun c _ => n - (intOf c).toNat)
  case atStart => exact ⟨0, v, by omega, rfl, C1, O1, DD.out, by rw [← Hn.out] at R1 ⊢; exact R1, Since.refl _ _, F1, Nat.le_refl _⟩
  case round =>
    obtain ⟨i, v1, hin, rfl, Ci, Oi, Di, Ri, Si, Fi, hsz⟩ := hrel
    clear C1 O1 F1 R1 N1
    by_cases hlt : i < n
    · obtain ⟨x, hx⟩ : ∃ x, T[i]? = some x := ⟨T[i]'(by have := Hn.out; omega), List.getElem?_eq_getElem _⟩
      obtain ⟨p2, q2, e2, _, _, Ni, _⟩ := nums_of_row Ri
      cases e2
      obtain ⟨B, o, rfl, lb, cx⟩ := Ni.at hx
      have hxb := hTu x (List.mem_of_getElem? hx)
      have HX := Lib.hid (all_take_snoc hx L)
      have HA := Lib.hid (cadd_any g k v1 _ x wr Ci hxb.1 hxb.2)
      clear hx hxb
      go_wp2_with fail
      refine HA.out.mono ?_
      rintro e w2 ⟨v2, rfl, C2, F2, S2⟩
      rw [← HX.out] at C2
      have O2 := Di.fr Oi F2
      have D2 := Di.since Oi S2 (Nat.le_refl _) (by have := HC0.out.lt.1; omega)
      have hB := hcb B rfl
      have R2 := F2.row Ri (fun b hb e => by
        have hb' : B = b := by simpa [Value.ownBlock] using hb
        subst hb'
        rcases e with e | e
        · have := HC0.out.lt.1; omega
        · rcases Si with e3 | ⟨c, e3, hc⟩
          · rw [e3] at e; have := (hvlt _ e).1; omega
          · rw [e3] at e; cases e; omega)
      have F3 : Fr (own2 g v) w w2 := Fi.trans F2 (fun j hj e => by
        rcases e with e | e
        · exact .inl e
        · rcases Si with e3 | ⟨c, e3, hc⟩
          · rw [e3] at e; exact .inr e
          · rw [e3] at e; cases e; omega)
      have S3 : Since w1 v v2 := Si.trans S2 hsz
      have hs3 : w1.heap.size ≤ w2.heap.size := by have := F2.size; omega
      clear Ci Oi Di Ri Si Fi F2 S2 HA
      go_wp2_with fail
      go_roundw
      case rel => exact ⟨i + 1, v2, by omega, by go_num, C2, O2, D2, R2, S3, F3, hs3⟩
      case measure => simp [intOf]; omega
    · obtain rfl : i = n := by omega
      rw [List.take_of_length_le (by have := Hn.out; omega)] at Ci
      have S4 : Since w v v1 := by
        rcases Si with e | ⟨c, e, hc⟩
        · exact .inl e
        · exact .inr ⟨c, e, by omega⟩
      have P := Lib.hid (FIN.out wr v1 Ci Fi S4)
      obtain ⟨_, _, c2, _, _, f2, _⟩ := Ci.ctr.facts
      obtain ⟨_, _, d2, _, _, _, _⟩ := Oi.ctr.facts
      generalize decide (k < (allOf T L).length) = z1 at *
      generalize decide (k < L'.length) = z2 at *
      clear FIN Ci Oi Di Ri Si Fi
      cases z1
      · cases z2
        all_goals
          go_wp2_with fail
          go_ret
          exact P.out
      · go_wp2_with fail
        go_ret
        exact P.out

set_option maxHeartbeats 4000000 in
set_option maxRecDepth 100000 in
theorem merge_self (g k : Nat) (v : Value) (L : List Int) (w : World) (hC : Cnt w g v k L) :
    Calls Try.prog 27 #[.pointer (some ⟨g, 0, none⟩), .pointer (some ⟨g, 0, none⟩)] w (MergePost g v k L w) := by
  obtain ⟨c0, c1, c2, _, _, _, lg⟩ := hC.ctr.facts
  obtain ⟨T, hT⟩ : ∃ T, L.take k = T := ⟨_, rfl⟩
  have hk1 := hC.k1
  have hk2 := hC.k2
  have hTl : T.length ≤ 4096 := by rw [← hT, List.length_take]; omega
  have hTm : ∀ x ∈ T, x ∈ L := fun x hx => by rw [← hT] at hx; exact List.mem_of_mem_take hx
  have HCl := Lib.hid (fun n => clone_any v T (w.drewN n) (by have := hC.ctr.row; rw [hT] at this; exact this) (by omega))
  have HC0 := Lib.hid hC
  have q0 : ((k : Int) != (k : Int)) = false := by simp
  go_enter Try.func27, Try.ntmps27
  go_wp2_with fail
  go_quiet (fail)
  go_wp2_with fail
  refine (HCl.out _).mono ?_
  rintro e w1 ⟨vc, rfl, R1, X1, b1⟩
  have hs1 : w.heap.size ≤ w1.heap.size := b1.size
  have b1' : Below w.heap.size w w1 := (below_drewN (Below.refl _ _) _).trans b1
  have C1 := hC.bel b1'
  have F1 : Fr (own2 g v) w w1 := Fr.of_bel b1'
  have hcb : ∀ b, vc.ownBlock = some b → w.heap.size ≤ b ∧ b < w1.heap.size := fun b hb => ⟨X1 b hb, (R1.lt b hb).2⟩
  have hvlt := hC.lt.2
  obtain ⟨p1, q1, rfl, _, _, N1, _⟩ := nums_of_row R1
  clear HCl b1 b1' c0 c1 c2 hC X1
  go_wp2_with fail
  generalize hn : T.length = n at *
  have Hn := Lib.hid hn
  clear hn
  go_loopw [26] (fun c wr => ∃ (i : Nat) (v1 : Value), i ≤ n ∧ c = .int .i64 i ∧ Cnt wr g v1 k L ∧ wr.ownsRow 0 23 1 (.slice p1 n q1) n (T.map (Value.int .u64)) ∧ Since w1 v v1 ∧ Fr (own2 g v) w wr ∧ w1.heap.size ≤ wr.heap.size) (fun c _ => n - (intOf c).toNat)
  case atStart => exact ⟨0, v, by omega, rfl, C1, by rw [← Hn.out] at R1 ⊢; exact R1, Since.refl _ _, F1, Nat.le_refl _⟩
  case round =>
    obtain ⟨i, v1, hin, rfl, Ci, Ri, Si, Fi, hsz⟩ := hrel
    clear C1 F1 R1 N1
    by_cases hlt : i < n
    · obtain ⟨x, hx⟩ : ∃ x, T[i]? = some x := ⟨T[i]'(by have := Hn.out; omega), List.getElem?_eq_getElem _⟩
      obtain ⟨p2, q2, e2, _, _, Ni, _⟩ := nums_of_row Ri
      cases e2
      obtain ⟨B, o, rfl, lb, cx⟩ := Ni.at hx
      have hxm := hTm x (List.mem_of_getElem? hx)
      have hxb := Ci.u64 x hxm
      have HX : Hid (insU L x = L) := by show insU L x = L; rw [insU, if_pos hxm]
      have HA := Lib.hid (cadd_any g k v1 _ x wr Ci hxb.1 hxb.2)
      clear hx hxb hxm
      go_wp2_with fail
      refine HA.out.mono ?_
      rintro e w2 ⟨v2, rfl, C2, F2, S2⟩
      rw [HX.out] at C2
      have hB := hcb B rfl
      have R2 := F2.row Ri (fun b hb e => by
        have hb' : B = b := by simpa [Value.ownBlock] using hb
        subst hb'
        rcases e with e | e
        · have := HC0.out.lt.1; omega
        · rcases Si with e3 | ⟨c, e3, hc⟩
          · rw [e3] at e; have := (hvlt _ e).1; omega
          · rw [e3] at e; cases e; omega)
      have F3 : Fr (own2 g v) w w2 := Fi.trans F2 (fun j hj e => by
        rcases e with e | e
        · exact .inl e
        · rcases Si with e3 | ⟨c, e3, hc⟩
          · rw [e3] at e; exact .inr e
          · rw [e3] at e; cases e; omega)
      have S3 : Since w1 v v2 := Si.trans S2 hsz
      have hs3 : w1.heap.size ≤ w2.heap.size := by have := F2.size; omega
      clear Ci Ri Si Fi F2 S2 HA
      go_wp2_with fail
      go_roundw
      case rel => exact ⟨i + 1, v2, by omega, by go_num, C2, R2, S3, F3, hs3⟩
      case measure => simp [intOf]; omega
    · obtain rfl : i = n := by omega
      have S4 : Since w v v1 := by
        rcases Si with e | ⟨c, e, hc⟩
        · exact .inl e
        · exact .inr ⟨c, e, by omega⟩
      obtain ⟨_, _, c2, _, _, f2, _⟩ := Ci.ctr.facts
      have P : Hid (MergePost g v k L w (.returned (.bool true)) (wr.setCell ⟨g, 2, none⟩ (.bool (decide (k < L.length))))) :=
        ⟨v1, rfl, ⟨Ci.ctr.more _, Ci.up, Ci.k1, Ci.k2, Ci.u64⟩, Fi.setCell _ _ _ (.inr (.inl rfl)), S4⟩
      generalize decide (k < L.length) = z1 at *
      clear Ci Ri Si Fi
      cases z1
      all_goals
        go_wp2_with fail
        go_ret
        exact P.out
end Go.Proofs.Ytipblbmpckfigaa

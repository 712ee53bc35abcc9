/- Add to a table that others may have; small facts of PairsMerge. -/
import Derived.Test.YtnpjihbaebbbcaaQMerge

namespace Go.Proofs.Ytnpjihbaebbbcaa
open Go.RowKit Go.MapKept Go.Maps Go.ChangeShapes Go.WideShapes Go.Shelf Go.Sort
set_option linter.unusedVariables false
set_option linter.unusedSimpArgs false
theorem cntB_append (l d : List Sv) (x y : ByteArray) : cntB (l ++ d) x y = cntB l x y + cntB d x y := by unfold cntB; rw [List.countP_append]
theorem cntB_mono (l : List Sv) (x y : ByteArray) : cntB l x y ≤ cntB l x x := by
  unfold cntB
  refine List.countP_mono_left fun s _ h => ?_
  unfold hasB at *
  rw [Bool.and_eq_true] at h
  rw [Bool.and_eq_true]; exact ⟨h.1, h.1⟩
theorem sizeSv : ∃ i, Try.prog.info? 30 = some i ∧ i.size = 4 := by
  obtain ⟨i0, hi0, hz0, hz1, hz2⟩ := info_parts sv_info
  exact ⟨i0, hi0, hz1⟩
def nN : ByteArray := ⟨#[110, 101, 119, 32, 116, 104, 105, 110, 103]⟩
theorem two_tells {E : CF} {l : List Sv} (h : Tells E l) (x y : ByteArray) : sumC E E x y = 2 * ((cntB l x y : Nat) : Int) := by
  unfold sumC
  rw [h]; omega
set_option maxRecDepth 20000 in
set_option maxHeartbeats 4000000 in
theorem q_add_yes {w0 w : World} {os : List Ob17} {i j m p t : Nat} {C : CF} (h : Here K17 w0 w os) (hi : os[i]? = some (.box p [.pointer (some ⟨t, 0, none⟩), .bool true] 52)) (hj : os[j]? = some (.tab t C)) (hC : Small C) (xp : ByteArray) (xf xt : Int) (xb : Option Addr) (n xc : Nat) (xs : List ByteArray) (hm : os[m]? = some (.row (.slice xb n xc) 9 1 n (xs.map Value.string))) (hmi : m ≠ i) (hsz : ∀ s ∈ xs, s.size ≤ maxLen) (hl : n ≤ 1000) :
    Calls Try.prog 11 #[.pointer (some ⟨p, 0, none⟩), .agg #[.string xp, .int .i64 xf, .int .i64 xt, .slice xb n xc]] w fun e w' => e = .returned (.tuple #[]) ∧ ∃ t2, Here K17 w0 w' (os.set i (.box p [.pointer (some ⟨t2, 0, none⟩), .bool false] 52)) := by
  have H := Lib.hid h
  have HS := Lib.hid hsz
  have HL := Lib.hid hl
  have HC := Lib.hid hC
  have HJ := Lib.hid hj
  have HI := Lib.hid hi
  have HM := Lib.hid hm
  have HMI := Lib.hid hmi
  have H1 := Lib.hid (q_box H.out [.string xp, .int .i64 xf, .int .i64 xt, .slice xb n xc] 30)
  clear h hsz hl hC hj hi hm hmi
  go_enter Try.func11, Try.ntmps11
  go_wp2_with fail
  generalize w.alloc (.cells #[.string xp, .int .i64 xf, .int .i64 xt, .slice xb n xc] 30) = W at *
  generalize w.heap.size = bx at *
  have hli := (List.getElem?_eq_some_iff.1 HI.out).1
  have hlj := (List.getElem?_eq_some_iff.1 HJ.out).1
  have hlm := (List.getElem?_eq_some_iff.1 HM.out).1
  have HJ1 : Hid ((os ++ [Ob17.box bx [.string xp, .int .i64 xf, .int .i64 xt, .slice xb n xc] 30])[j]? = some (.tab t C)) := Lib.hid (by rw [List.getElem?_append_left hlj]; exact HJ.out)
  have HI1 : Hid ((os ++ [Ob17.box bx [.string xp, .int .i64 xf, .int .i64 xt, .slice xb n xc] 30])[i]? = some (.box p [.pointer (some ⟨t, 0, none⟩), .bool true] 52)) := Lib.hid (by rw [List.getElem?_append_left hli]; exact HI.out)
  have HX0 : Hid ((os ++ [Ob17.box bx [.string xp, .int .i64 xf, .int .i64 xt, .slice xb n xc] 30])[os.length]? = some (.box bx [.string xp, .int .i64 xf, .int .i64 xt, .slice xb n xc] 30)) := Lib.hid (by simp)
  have HLI := Lib.hid hli
  have HLM := Lib.hid hlm
  have hb0 := q_boxAt H1.out HX0.out
  have c0 : W.cell? ⟨bx, 0, none⟩ = some (.string xp) := hb0.cell 0
  have c1 : W.cell? ⟨bx, 1, none⟩ = some (.int .i64 xf) := hb0.cell 1
  have c2 : W.cell? ⟨bx, 2, none⟩ = some (.int .i64 xt) := hb0.cell 2
  have c3 : W.cell? ⟨bx, 3, none⟩ = some (.slice xb n xc) := hb0.cell 3
  have OW := Lib.hid (q_own_yes H1.out.drew HI1.out HJ1.out)
  clear hb0 hli hlj hlm
  go_region_held3 (fun X => X.cell? ⟨bx, 0, none⟩ = some (.string xp) ∧ X.cell? ⟨bx, 1, none⟩ = some (.int .i64 xf) ∧ X.cell? ⟨bx, 2, none⟩ = some (.int .i64 xt) ∧ X.cell? ⟨bx, 3, none⟩ = some (.slice xb n xc)) (first | assumption | exact kk2 | exact kk3 | exact kk4 | go_keep)
    (first
      | (go_at_call 26
         (with_reducible refine OW.out.mono ?_)
         rintro e w2 ⟨t2, rfl, h2⟩
         have H2 := Lib.hid h2
         have hb2 := q_boxAt (i := os.length) h2 (by rw [List.getElem?_append_left (by simp), List.getElem?_set_ne (by have := HLI.out; omega)]; exact HX0.out)
         have kk2 : w2.cell? ⟨bx, 0, none⟩ = some (.string xp) ∧ w2.cell? ⟨bx, 1, none⟩ = some (.int .i64 xf) ∧ w2.cell? ⟨bx, 2, none⟩ = some (.int .i64 xt) ∧ w2.cell? ⟨bx, 3, none⟩ = some (.slice xb n xc) := ⟨hb2.cell 0, hb2.cell 1, hb2.cell 2, hb2.cell 3⟩
         have hr2 := q_rowAt (i := m) h2 (by rw [List.getElem?_append_left (by simp; have := HLM.out; omega), List.getElem?_set_ne (fun e => HMI.out e.symm), List.getElem?_append_left HLM.out]; exact HM.out)
         have hnx : n = xs.length := by have := hr2.1; simpa using this.symm
         have TH : Hid (Calls Try.prog 28 #[.agg #[.string xp, .int .i64 xf, .int .i64 xt, .slice xb n xc]] w2 fun e w' => ∃ (v : Value) (ks : List ByteArray), e = .returned v ∧ Rise ks ∧ (∀ x, x ∈ ks ↔ x ∈ xs) ∧ ks.length ≤ n ∧ TextsAt w' v ks ∧ (∀ b, v.ownBlock = some b → w2.heap.size ≤ b) ∧ Below w2.heap.size w2 w') := Lib.hid (by
           subst hnx
           obtain ⟨b', cap', he, _, _, hst, _⟩ := strs_of_row hr2
           cases he
           exact things_any xp xf xt xb xc xs w2 hst (by have := HL.out; omega))
         clear h2 hb2 hr2 hnx)
      | (go_at_call 28
         (with_reducible refine TH.out.mono ?_)
         rintro e w3 ⟨v, ks, rfl, q1, q2, q3, q4, q5, q6⟩
         obtain ⟨b', cap', rfl, _, _, _, _⟩ := strs_of_row q4
         have H3 := Lib.hid (q_row H2.out q6 q4 q5)
         have AL := Lib.hid (q_all (i := os.length + 1) (j := os.length + 2) (b := b') (cap := cap') (ks := ks) (t := t2) (C := C) H3.out (by rw [List.getElem?_append_left (by simp), List.getElem?_append_right (by simp)]; simp) (by rw [List.getElem?_append_right (by simp)]; simp) (by omega) HC.out (fun s hs => HS.out s ((q2 s).1 hs)) q1.nodup (by have := HL.out; omega) 1 (.inl rfl))
         have hb3 := q_boxAt (i := os.length) H3.out (by rw [List.getElem?_append_left (by simp; omega), List.getElem?_append_left (by simp), List.getElem?_set_ne (by have := HLI.out; omega)]; exact HX0.out)
         have kk3 : w3.cell? ⟨bx, 0, none⟩ = some (.string xp) ∧ w3.cell? ⟨bx, 1, none⟩ = some (.int .i64 xf) ∧ w3.cell? ⟨bx, 2, none⟩ = some (.int .i64 xt) ∧ w3.cell? ⟨bx, 3, none⟩ = some (.slice xb n xc) := ⟨hb3.cell 0, hb3.cell 1, hb3.cell 2, hb3.cell 3⟩
         clear q1 q2 q3 q4 q5 q6 hb3)
      | (go_at_call 27
         (with_reducible refine AL.out.mono ?_)
         rintro e w4 ⟨rfl, h4⟩
         have H4 := Lib.hid h4
         have hb4 := q_boxAt (i := os.length) h4 (by rw [List.getElem?_set_ne (by omega), List.getElem?_append_left (by simp; omega), List.getElem?_append_left (by simp), List.getElem?_set_ne (by have := HLI.out; omega)]; exact HX0.out)
         have kk4 : w4.cell? ⟨bx, 0, none⟩ = some (.string xp) ∧ w4.cell? ⟨bx, 1, none⟩ = some (.int .i64 xf) ∧ w4.cell? ⟨bx, 2, none⟩ = some (.int .i64 xt) ∧ w4.cell? ⟨bx, 3, none⟩ = some (.slice xb n xc) := ⟨hb4.cell 0, hb4.cell 1, hb4.cell 2, hb4.cell 3⟩
         clear h4 hb4)
      | fail)
  go_end0
  refine ⟨rfl, t2, ?_⟩
  have h := H4.out
  rw [List.set_append_left _ _ HLI.out, List.append_assoc, List.append_assoc, List.set_append_right _ _ (by simp)] at h
  exact h.init

end Go.Proofs.Ytnpjihbaebbbcaa

/- Contracts of Add, Of. -/
import Derived.Test.YtbmjddmejmeknaaQRead2
namespace Go.Proofs.Ytbmjddmejmeknaa.Pr
open Go.RowKit Go.MapKept Go.Maps Go.ChangeShapes Go.WideShapes Go.Shelf Go.Sort
set_option linter.unusedVariables false
set_option linter.unusedSimpArgs false
/-- a session as it lies in memory -/
structure Sv where
  p : ByteArray
  f : Int
  t : Int
  ib : Option Addr
  ic : Nat
  its : List ByteArray
def svC (x : Sv) : List Value := [.string x.p, .int .i64 x.f, .int .i64 x.t, .slice x.ib x.its.length x.ic]
structure SvOk (w : World) (x : Sv) : Prop where
  st : Strs w x.ib x.its
  le : x.its.length ≤ x.ic
  mx : x.ic ≤ maxLen
  sz : ∀ s ∈ x.its, s.size ≤ maxLen
theorem SvOk.bel {w w' : World} {x : Sv} (h : SvOk w x) (hb : Below w.heap.size w w') : SvOk w' x := ⟨h.st.bel hb, h.le, h.mx, h.sz⟩
section
variable {w0 w w' : World} {os : List Ob17} {i j k p t : Nat} {C : CF} {sh : Bool}
theorem rise_small {ks : List ByteArray} {xs : List ByteArray} (h : ∀ x, x ∈ ks ↔ x ∈ xs) (C : CF) (n : Int) : bumpAll C ks n = bumpAll C xs n := by
  funext x y
  unfold bumpAll
  by_cases e : x ∈ xs ∧ y ∈ xs
  · rw [if_pos e, if_pos ⟨(h x).2 e.1, (h y).2 e.2⟩]
  · rw [if_neg e, if_neg (fun c => e ⟨(h x).1 c.1, (h y).1 c.2⟩)]
set_option maxRecDepth 20000 in
set_option maxHeartbeats 2000000 in
/-- Add, to a table that nobody else has; the call's own row lies behind, and is forgotten -/
theorem q_add_no (h : Here K17 w0 w os) (hi : os[i]? = some (.box p [.pointer (some ⟨t, 0, none⟩), .bool false] 69)) (hj : os[j]? = some (.tab t C)) (hC : Small C) (x : Sv) (hx : Strs w x.ib x.its) (hsz : ∀ s ∈ x.its, s.size ≤ maxLen) (hl : x.its.length ≤ 1000) :
    Calls Try.prog 25 #[.pointer (some ⟨p, 0, none⟩), .agg #[.string x.p, .int .i64 x.f, .int .i64 x.t, .slice x.ib x.its.length x.ic]] w fun e w' => e = .returned (.tuple #[]) ∧ Here K17 w0 w' (os.set j (.tab t (bumpAll C x.its 1))) := by
  have H := Lib.hid h
  have HX := Lib.hid hx
  have HS := Lib.hid hsz
  have HL := Lib.hid hl
  have HC := Lib.hid hC
  have HJ := Lib.hid hj
  have HI := Lib.hid hi
  obtain ⟨xp, xf, xt, xb, xc, xs⟩ := x
  dsimp only at *
  have HB1 : Hid (Below w.heap.size w (w.alloc (.cells #[.string xp, .int .i64 xf, .int .i64 xt, .slice xb xs.length xc] 31))) := Lib.hid ((Below.refl _ _).alloc (Nat.le_refl _) _)
  have HX1 := Lib.hid (HX.out.bel HB1.out)
  have H1 := Lib.hid (q_box H.out [.string xp, .int .i64 xf, .int .i64 xt, .slice xb xs.length xc] 31)
  generalize hN : xs.length = n at *
  have HN := Lib.hid hN
  clear h hx hsz hl hC hj hi hN
  go_enter Try.func25, Try.ntmps25
  go_wp2_with fail
  generalize w.alloc (.cells #[.string xp, .int .i64 xf, .int .i64 xt, .slice xb n xc] 31) = W at *
  generalize w.heap.size = bx at *
  have hli := (List.getElem?_eq_some_iff.1 HI.out).1
  have hlj := (List.getElem?_eq_some_iff.1 HJ.out).1
  have HJ1 : Hid ((os ++ [Ob17.box bx [.string xp, .int .i64 xf, .int .i64 xt, .slice xb n xc] 31])[j]? = some (.tab t C)) := Lib.hid (by rw [List.getElem?_append_left hlj]; exact HJ.out)
  have HI1 : Hid ((os ++ [Ob17.box bx [.string xp, .int .i64 xf, .int .i64 xt, .slice xb n xc] 31])[i]? = some (.box p [.pointer (some ⟨t, 0, none⟩), .bool false] 69)) := Lib.hid (by rw [List.getElem?_append_left hli]; exact HI.out)
  have HX0 : Hid ((os ++ [Ob17.box bx [.string xp, .int .i64 xf, .int .i64 xt, .slice xb n xc] 31])[os.length]? = some (.box bx [.string xp, .int .i64 xf, .int .i64 xt, .slice xb n xc] 31)) := Lib.hid (by simp)
  have HLJ := Lib.hid hlj
  have hb0 := q_boxAt H1.out HX0.out
  have c0 : W.cell? ⟨bx, 0, none⟩ = some (.string xp) := hb0.cell 0
  have c1 : W.cell? ⟨bx, 1, none⟩ = some (.int .i64 xf) := hb0.cell 1
  have c2 : W.cell? ⟨bx, 2, none⟩ = some (.int .i64 xt) := hb0.cell 2
  have c3 : W.cell? ⟨bx, 3, none⟩ = some (.slice xb n xc) := hb0.cell 3
  have OW := Lib.hid (q_own_no H1.out.drew HI1.out)
  have TH := Lib.hid (things_any xp xf xt xb xc xs W.drew (HX1.out.bel (Below.refl _ _).drew) (by have := HN.out; have := HL.out; omega))
  rw [HN.out] at TH
  clear hb0 hli hlj
  go_region_held3 (fun X => X.cell? ⟨bx, 0, none⟩ = some (.string xp) ∧ X.cell? ⟨bx, 1, none⟩ = some (.int .i64 xf) ∧ X.cell? ⟨bx, 2, none⟩ = some (.int .i64 xt) ∧ X.cell? ⟨bx, 3, none⟩ = some (.slice xb n xc)) (first | assumption | exact kk2 | exact kk3 | go_keep)
    (first
      | (go_at_call 36
         (with_reducible refine OW.out.mono ?_)
         rintro e wA ⟨rfl, rfl⟩)
      | (go_at_call 38
         (with_reducible refine TH.out.mono ?_)
         rintro e w2 ⟨v, ks, rfl, q1, q2, q3, q4, q5, q6⟩
         obtain ⟨b', cap', rfl, _, _, _, _⟩ := strs_of_row q4
         have H2 := Lib.hid (q_row H1.out.drew q6 q4 q5)
         have AL := Lib.hid (q_all (i := j) (j := os.length + 1) (b := b') (cap := cap') (ks := ks) H2.out (by rw [List.getElem?_append_left (by rw [List.length_append]; have := HLJ.out; omega)]; exact HJ1.out) (by simp) (by have := HLJ.out; omega) HC.out (fun s hs => HS.out s ((q2 s).1 hs)) q1.nodup (by have := HN.out; have := HL.out; omega) 1 (.inl rfl))
         have HQ := Lib.hid (rise_small q2 C 1)
         have hb2 := q_boxAt (i := os.length) H2.out (by rw [List.getElem?_append_left (by simp)]; exact HX0.out)
         have kk2 : w2.cell? ⟨bx, 0, none⟩ = some (.string xp) ∧ w2.cell? ⟨bx, 1, none⟩ = some (.int .i64 xf) ∧ w2.cell? ⟨bx, 2, none⟩ = some (.int .i64 xt) ∧ w2.cell? ⟨bx, 3, none⟩ = some (.slice xb n xc) := ⟨hb2.cell 0, hb2.cell 1, hb2.cell 2, hb2.cell 3⟩
         clear q1 q2 q3 q4 q5 q6 hb2)
      | (go_at_call 37
         (with_reducible refine AL.out.mono ?_)
         rintro e w3 ⟨rfl, h3⟩
         have H3 := Lib.hid h3
         have hb3 := q_boxAt (i := os.length) h3 (by rw [List.getElem?_set_ne (by have := HLJ.out; omega), List.getElem?_append_left (by simp)]; exact HX0.out)
         have kk3 : w3.cell? ⟨bx, 0, none⟩ = some (.string xp) ∧ w3.cell? ⟨bx, 1, none⟩ = some (.int .i64 xf) ∧ w3.cell? ⟨bx, 2, none⟩ = some (.int .i64 xt) ∧ w3.cell? ⟨bx, 3, none⟩ = some (.slice xb n xc) := ⟨hb3.cell 0, hb3.cell 1, hb3.cell 2, hb3.cell 3⟩
         clear h3 hb3)
      | fail)
  go_end0
  refine ⟨rfl, ?_⟩
  have h := H3.out
  rw [HQ.out, List.append_assoc, List.set_append_left _ _ HLJ.out] at h
  exact h.init
end
end Go.Proofs.Ytbmjddmejmeknaa.Pr

/- Contract of layer 9's do: an act, of panes and of the document's. -/
import Derived.Test.YtdmcbndkfnlcjaaPHere
namespace Go.Proofs.Ytdmcbndkfnlcjaa
open Go.RowKit Go.MapKept Go.Maps
set_option linter.unusedVariables false
def two (P M : Nat) (wd ad : Int) (A : List Ad) : List Ob := [.pane P wd ad A, .ref M wd ad A]
/-- what an act makes of what was added -/
def acted (wd ad : Int) (A : List Ad) (a : Act9) : Int × List Ad := if a.1 = 0 then (ad, highA (a.2.2.1 / wd) A) else addTo wd ad A a.2.1 a.2.2.1 a.2.2.2
theorem acted_len (wd ad : Int) (A : List Ad) (a : Act9) : (acted wd ad A a).2.length ≤ A.length + 1 := by
  unfold acted
  split
  · have := highA_len (a.2.2.1 / wd) A; simp only; omega
  · unfold addTo; split <;> simp
theorem DropCount.same {A : List Ad} {least : Int} {c d : Nat} (h : DropCount A least c) (h' : DropCount A least d) : c = d := h.uniq h' (fun _ _ _ => rfl)
set_option maxHeartbeats 8000000 in
set_option maxRecDepth 100000 in
theorem do_drop (w0 w : World) (P M : Nat) (wd ad : Int) (A : List Ad) (a : Act9) (h : Here K9 w0 w (two P M wd ad A)) (hl : A.length ≤ 900) (oa1 : I64 a.2.2.1) (hz : a.1 = 0) :
    Calls Try.prog 26 #[.pointer (some ⟨P, 0, none⟩), .pointer (some ⟨M, 0, none⟩), .agg #[.int .i64 a.1, .string a.2.1, .int .i64 a.2.2.1, .int .i64 a.2.2.2]] w fun e w' => e = .returned (.bool true) ∧ Here K9 w0 w' (two P M wd ad (highA (a.2.2.1 / wd) A)) := by
  have hB : Here K9 w0 (w.alloc (.cells #[.int .i64 a.1, .string a.2.1, .int .i64 a.2.2.1, .int .i64 a.2.2.2] 29)) (two P M wd ad A ++ [.box w.heap.size [.int .i64 a.1, .string a.2.1, .int .i64 a.2.2.1, .int .i64 a.2.2.2] 29]) := h_box h [.int .i64 a.1, .string a.2.1, .int .i64 a.2.2.1, .int .i64 a.2.2.2] 29
  obtain ⟨N, hN⟩ : ∃ N, w.heap.size = N := ⟨_, rfl⟩
  have hNx : (two P M wd ad A ++ [.box w.heap.size [.int .i64 a.1, .string a.2.1, .int .i64 a.2.2.1, .int .i64 a.2.2.2] 29]) = (two P M wd ad A ++ [.box N [.int .i64 a.1, .string a.2.1, .int .i64 a.2.2.1, .int .i64 a.2.2.2] 29]) := by rw [hN]
  rw [hNx] at hB
  have HN := Lib.hid hN
  clear hN h hNx
  have D1 := Lib.hid (h_drop hB.drew (i := 0) rfl a.2.2.1 oa1)
  have HCB : Hid (∀ (W : World) (os : List Ob), Here K9 w0 W os → os[2]? = some (.box N [.int .i64 a.1, .string a.2.1, .int .i64 a.2.2.1, .int .i64 a.2.2.2] 29) → W.cell? ⟨N, 2, none⟩ = some (.int .i64 a.2.2.1)) := Lib.hid (fun W os h hi => (h_boxAt h hi).cell 2)
  have c2 := HCB.out _ _ hB.drew rfl
  clear hB
  have t0 : (a.1 == 0) = true := by simpa using hz
  clear hz
  go_enter Try.func26, Try.ntmps26
  go_wp2_with fail
  rw [HN.out]
  go_region_held3 (fun X => X.cell? ⟨N, 2, none⟩ = some (.int .i64 a.2.2.1)) (first | assumption | go_keep)
    (first
      | (go_at_call 17
         (with_reducible refine D1.out.mono ?_)
         rintro e w2 ⟨c, rfl, hc, h2⟩
         have HC := Lib.hid hc
         have D2 := Lib.hid (h_rdrop h2 (i := 1) rfl a.2.2.1 oa1 (by omega))
         have hS := HCB.out _ _ h2 rfl
         clear hc h2)
      | (go_at_call 37
         (with_reducible refine D2.out.mono ?_)
         rintro e w3 ⟨d, rfl, hd, h3⟩
         have hcd := HC.out.same hd
         have H3 := Lib.hid h3
         have hS3 := HCB.out _ _ h3 rfl
         subst hcd
         clear hd h3)
      | fail)
  go_wp2_with fail
  go_ret
  exact ⟨rfl, (show Here K9 w0 w3 (two P M wd ad (highA (a.2.2.1 / wd) A) ++ [.box N _ _]) from H3.out).init⟩
set_option maxHeartbeats 8000000 in
set_option maxRecDepth 100000 in
theorem do_add (w0 w : World) (P M : Nat) (wd ad : Int) (A : List Ad) (a : Act9) (h : Here K9 w0 w (two P M wd ad A)) (hl : A.length ≤ 900) (hk : a.2.1.size ≤ 100) (oa1 : I64 a.2.2.1) (oa2 : I64 a.2.2.2) (hz : a.1 ≠ 0) :
    Calls Try.prog 26 #[.pointer (some ⟨P, 0, none⟩), .pointer (some ⟨M, 0, none⟩), .agg #[.int .i64 a.1, .string a.2.1, .int .i64 a.2.2.1, .int .i64 a.2.2.2]] w fun e w' => e = .returned (.bool true) ∧ Here K9 w0 w' (two P M wd (addTo wd ad A a.2.1 a.2.2.1 a.2.2.2).1 (addTo wd ad A a.2.1 a.2.2.1 a.2.2.2).2) := by
  have hB : Here K9 w0 (w.alloc (.cells #[.int .i64 a.1, .string a.2.1, .int .i64 a.2.2.1, .int .i64 a.2.2.2] 29)) (two P M wd ad A ++ [.box w.heap.size [.int .i64 a.1, .string a.2.1, .int .i64 a.2.2.1, .int .i64 a.2.2.2] 29]) := h_box h [.int .i64 a.1, .string a.2.1, .int .i64 a.2.2.1, .int .i64 a.2.2.2] 29
  obtain ⟨N, hN⟩ : ∃ N, w.heap.size = N := ⟨_, rfl⟩
  have hNx : (two P M wd ad A ++ [.box w.heap.size [.int .i64 a.1, .string a.2.1, .int .i64 a.2.2.1, .int .i64 a.2.2.2] 29]) = (two P M wd ad A ++ [.box N [.int .i64 a.1, .string a.2.1, .int .i64 a.2.2.1, .int .i64 a.2.2.2] 29]) := by rw [hN]
  rw [hNx] at hB
  have HN := Lib.hid hN
  clear hN h hNx
  have D1 := Lib.hid (h_add hB.drew (i := 0) rfl a.2.1 a.2.2.1 a.2.2.2 hk oa1 oa2)
  have HCB : Hid (∀ (W : World) (os : List Ob), Here K9 w0 W os → os[2]? = some (.box N [.int .i64 a.1, .string a.2.1, .int .i64 a.2.2.1, .int .i64 a.2.2.2] 29) → W.cell? ⟨N, 1, none⟩ = some (.string a.2.1) ∧ W.cell? ⟨N, 2, none⟩ = some (.int .i64 a.2.2.1) ∧ W.cell? ⟨N, 3, none⟩ = some (.int .i64 a.2.2.2)) := Lib.hid (fun W os h hi => ⟨(h_boxAt h hi).cell 1, (h_boxAt h hi).cell 2, (h_boxAt h hi).cell 3⟩)
  have c2 := HCB.out _ _ hB.drew rfl
  have t0 : (a.1 == 0) = false := by simpa using hz
  clear hB hz
  generalize hm : mayAdd a.2.1 a.2.2.1 a.2.2.2 ad = r at *
  have HM := Lib.hid hm
  clear hm
  go_enter Try.func26, Try.ntmps26
  go_wp2_with fail
  rw [HN.out]
  go_region_held3 (fun X => X.cell? ⟨N, 1, none⟩ = some (.string a.2.1) ∧ X.cell? ⟨N, 2, none⟩ = some (.int .i64 a.2.2.1) ∧ X.cell? ⟨N, 3, none⟩ = some (.int .i64 a.2.2.2)) (first | assumption | go_keep)
    (first
      | (go_at_call 13
         (with_reducible refine D1.out.mono ?_)
         rintro e w2 ⟨rfl, h2⟩
         have hd2 := h_radd h2 (i := 1) rfl a.2.1 a.2.2.1 a.2.2.2 hk oa1 oa2 (by omega)
         rw [HM.out] at hd2
         have D2 := Lib.hid hd2
         have hS := HCB.out _ _ h2 rfl
         clear h2 hd2)
      | (go_at_call 21
         (with_reducible refine D2.out.mono ?_)
         rintro e w3 ⟨rfl, h3⟩
         have H3 := Lib.hid h3
         have hS3 := HCB.out _ _ h3 rfl
         clear h3)
      | fail)
  go_wp2_with fail
  go_ret
  exact ⟨by simp, (show Here K9 w0 w3 (two P M wd (addTo wd ad A a.2.1 a.2.2.1 a.2.2.2).1 (addTo wd ad A a.2.1 a.2.2.1 a.2.2.2).2 ++ [.box N _ _]) from H3.out).init⟩
theorem do_any (w0 w : World) (P M : Nat) (wd ad : Int) (A : List Ad) (a : Act9) (h : Here K9 w0 w (two P M wd ad A)) (hl : A.length ≤ 900) (hk : a.2.1.size ≤ 100) (oa1 : I64 a.2.2.1) (oa2 : I64 a.2.2.2) :
    Calls Try.prog 26 #[.pointer (some ⟨P, 0, none⟩), .pointer (some ⟨M, 0, none⟩), .agg #[.int .i64 a.1, .string a.2.1, .int .i64 a.2.2.1, .int .i64 a.2.2.2]] w fun e w' => e = .returned (.bool true) ∧ Here K9 w0 w' (two P M wd (acted wd ad A a).1 (acted wd ad A a).2) := by
  by_cases hz : a.1 = 0
  · have e0 : acted wd ad A a = (ad, highA (a.2.2.1 / wd) A) := by simp [acted, hz]
    rw [e0]
    exact do_drop w0 w P M wd ad A a h hl oa1 hz
  · have e0 : acted wd ad A a = addTo wd ad A a.2.1 a.2.2.1 a.2.2.2 := by simp [acted, hz]
    rw [e0]
    exact do_add w0 w P M wd ad A a h hl hk oa1 oa2 hz
end Go.Proofs.Ytdmcbndkfnlcjaa

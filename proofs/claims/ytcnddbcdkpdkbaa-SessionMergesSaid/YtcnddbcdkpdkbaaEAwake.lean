/- Law 12: awake; the adds that came in. -/
import Derived.Test.YtcnddbcdkpdkbaaELawF
import Derived.Lib.SmallJoins
import Derived.Deep.Strs
namespace Go.Proofs.Ytcnddbcdkpdkbaa
open Go.RowKit Go.MapKept Go.Maps Go.ChangeShapes Go.WideShapes
set_option linter.unusedVariables false
set_option linter.unusedSimpArgs false
theorem cellsTS : Try.prog.cellsOf 9 = 1 := by kernel_rfl
theorem cellsTI : Try.prog.cellsOf 3 = 1 := by kernel_rfl
section
variable {H : Type} {enc : TypeId × Value → H} {W : World}
set_option maxRecDepth 100000 in
theorem open_adds {r : Reach} {b0 : Nat} {v : Value} {d : DataW H} {p : List MemPlace} (hval : Value.okWide Try.prog W r b0 22 v) (h : DataW.Trod enc Try.prog W 0 (fun _ => true) true 22 v d p) :
    ∃ (b : Option Addr) (cap : Nat) (xs : List Tri), v = .slice b xs.length cap ∧ xs.length ≤ cap ∧ cap ≤ maxLen ∧ InW W b 3 (xs.map aC) ∧ ∀ a ∈ xs, aOk a := by
  refine open_slice_as 3 _ _ Try.underlying22 (by kernel_rfl) (by omega) hval h fun c fuel x hl hx => ?_
  obtain ⟨y0, y1, y2, n, _, _, h0, h1, h2⟩ := Deep.trod_struct3 Try.underlying31 hx
  match c, hl with
  | [u0, u1, u2], _ =>
    obtain ⟨a1, e1, _, w1⟩ := DataW.trod_string Try.underlying9 h0
    obtain ⟨a2, e2, _, w2⟩ := DataW.trod_int Try.underlying3 h1
    obtain ⟨a3, e3, _, w3⟩ := DataW.trod_string Try.underlying9 h2
    simp [cellsTS, cellsTI] at e1 e2 e3
    subst e1 e2 e3
    exact ⟨(a1, a2, a3), rfl, w1, i64_wf w2, w3⟩
end
def tP : ByteArray := ⟨#[112]⟩
def tA : ByteArray := ⟨#[97]⟩
def tB : ByteArray := ⟨#[98]⟩
def awL : List Tri := addT (addT (addT [] (tP, 5, tA)) (tP, 26, tA)) (tP, 15, tB)
theorem awL_is : awL = [(tP, 5, tA), (tP, 15, tB), (tP, 26, tA)] := by kernel_rfl
theorem aw_all : allS 10 (ofP awL tP) = [⟨tP, 5, 15, [tA, tB]⟩, ⟨tP, 26, 26, [tA]⟩] := by
  rw [awL_is]; kernel_rfl
set_option maxRecDepth 20000 in
set_option maxHeartbeats 2000000 in
theorem awake_any (w : World) : Calls Try.prog 11 #[] w fun e w' => e = .returned (.bool true) ∧ Below w.heap.size w w' := by
  have HN := Lib.hid (h_snew (Here.nil (K := K12) (Below.refl w.heap.size w)) 10 (by unfold I64; omega))
  rw [show gapOf 10 = 10 by decide] at HN
  go_enter Try.func11, Try.ntmps11
  go_wp2_with fail
  refine HN.out.mono ?_
  rintro e w1 ⟨rfl, h1⟩
  generalize w.heap.size + 1 = s at *
  have HA := Lib.hid (h_sadd h1 (i := 0) rfl (tP, 5, tA) ⟨by decide, (show I64 5 by unfold I64; omega), by decide⟩ (by decide))
  rw [show okT (tP, 5, tA) = true by decide] at HA
  clear HN h1
  go_wp2_with fail
  refine HA.out.mono ?_
  rintro e w2 ⟨rfl, h2⟩
  have HA2 := Lib.hid (h_sadd h2 (i := 0) rfl (tP, 26, tA) ⟨by decide, (show I64 26 by unfold I64; omega), by decide⟩ (by decide))
  rw [show okT (tP, 26, tA) = true by decide] at HA2
  clear HA h2
  go_wp2_with fail
  refine HA2.out.mono ?_
  rintro e w3 ⟨rfl, h3⟩
  have HA3 := Lib.hid (h_sadd h3 (i := 0) rfl (tP, 15, tB) ⟨by decide, (show I64 15 by unfold I64; omega), by decide⟩ (by decide))
  rw [show okT (tP, 15, tB) = true by decide] at HA3
  clear HA2 h3
  go_wp2_with fail
  refine HA3.out.mono ?_
  rintro e w4 ⟨rfl, h4⟩
  have H4 : Hid (Here K12 w w4 [.ses s 10 awL]) := Lib.hid h4
  have HO := Lib.hid (h_sof H4.out (i := 0) rfl tP (by decide))
  rw [aw_all] at HO
  clear HA3 h4
  go_wp2_with fail
  refine HO.out.mono ?_
  rintro e w5 ⟨b, c, svs, rfl, q1, q2, q3, q4, q5⟩
  obtain ⟨x, y, rfl⟩ : ∃ x y, svs = [x, y] := by
    have h := congrArg List.length q4
    rw [List.length_map] at h
    simp only [List.length_cons, List.length_nil] at h
    clear q1 q2 q3 q4 q5 HO
    match svs, h with
    | [x, y], _ => exact ⟨x, y, rfl⟩
  simp only [List.map_cons, List.map_nil, List.cons.injEq, and_true] at q4
  have ex : x.f = 5 ∧ x.t = 15 ∧ x.its.length = 2 := by
    have := q4.1
    unfold seOf at this
    simp only [Se.mk.injEq] at this
    exact ⟨this.2.1, this.2.2.1, by rw [this.2.2.2]; rfl⟩
  have ey : y.f = 26 := by
    have := q4.2
    unfold seOf at this
    simp only [Se.mk.injEq] at this
    exact this.2.1
  obtain ⟨B, off, rfl, hB, d0, d1, d2, d3⟩ := svAt q3.i (i := 0) (a := x) rfl
  obtain ⟨B', off', hbb, hB', f0, f1, f2, f3⟩ := svAt q3.i (i := 1) (a := y) rfl
  cases hbb
  rw [ex.1] at d1
  rw [ex.2.1] at d2
  rw [ex.2.2] at d3
  rw [ey] at f1
  simp only [Nat.zero_mul, Nat.add_zero, Nat.one_mul] at d0 d1 d2 d3 f1
  have HB : Hid (Below w.heap.size w w5) := Lib.hid (H4.out.bel.trans (q5.mono H4.out.bel.size))
  clear q1 q2 q3 q4 q5 HO f0 f2 f3 ex ey
  simp only [List.length_cons, List.length_nil, Nat.zero_add, Nat.reduceAdd]
  go_wp2_with fail
  go_ret
  exact ⟨rfl, HB.out⟩
end Go.Proofs.Ytcnddbcdkpdkbaa

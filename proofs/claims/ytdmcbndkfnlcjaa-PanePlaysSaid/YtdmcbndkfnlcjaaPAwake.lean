/- Layer 9's awake and few; acts that came in. -/
import Derived.Test.YtdmcbndkfnlcjaaPKeys3
import Derived.WalkLawsBesides
import Derived.WalkSpells
namespace Go.Proofs.Ytdmcbndkfnlcjaa
open Go.RowKit Go.MapKept Go.Maps Go.ChangeShapes Go.WideShapes
set_option linter.unusedVariables false
theorem ret_bool {a b : Bool} (h : a = b) : Ending.returned (.bool a) = .returned (.bool b) := by rw [h]
def ta : ByteArray := ⟨#[97]⟩
def awA : List Ad := [(ta, 0, 2), (ta, 1, 3)]
set_option maxRecDepth 100000 in
set_option maxHeartbeats 2000000 in
theorem awake_any (w : World) : Calls Try.prog 10 #[] w fun e w' => e = .returned (.bool true) ∧ Below w.heap.size w w' := by
  have HN := Lib.hid (new_pane 10 w (by unfold I64; omega))
  rw [show wdOf 10 = 10 by rfl] at HN
  go_enter Try.func10, Try.ntmps10
  go_wp2_with fail
  refine HN.out.mono ?_
  rintro e w1 ⟨rfl, hp1, hb1, hz1⟩
  have HA1 := Lib.hid (add_yes _ _ 10 0 [] ta 5 2 w1 hp1 (by decide))
  have HB1 := Lib.hid hb1
  clear HN hp1 hb1 hz1
  generalize hq : w.heap.size + 2 = q at *
  have HQ := Lib.hid hq
  clear hq
  go_wp2_with fail
  refine HA1.out.mono ?_
  rintro e w2 ⟨rfl, B2, hp2, hf2, hs2⟩
  have HA2 := Lib.hid (add_yes _ _ 10 (0 + 1) _ ta 12 3 w2 hp2 (by decide))
  have HB2 : Hid (Below w.heap.size w w2 ∧ ∀ b ∈ B2, w.heap.size ≤ b) := Lib.hid (by
    have := HB1.out.size
    have hq := HQ.out
    refine ⟨HB1.out.trans (hf2.below HB1.out.size (fun b hb => by simp at hb; omega)), fun b hb => ?_⟩
    rcases hs2 b hb with h | h
    · simp at h; omega
    · omega)
  clear HA1 hp2 hf2 hs2
  go_wp2_with fail
  refine HA2.out.mono ?_
  rintro e w3 ⟨rfl, B3, hp3, hf3, hs3⟩
  have HB3 := Lib.hid (HB2.out.1.trans (hf3.below HB2.out.1.size HB2.out.2))
  have S1 := Lib.hid (sum_any _ _ 10 _ _ ta 0 20 w3 hp3 (by decide) (by unfold I64; omega) (by unfold I64; omega))
  have S2 := Lib.hid (sum_any _ _ 10 _ _ ta 0 19 w3 hp3 (by decide) (by unfold I64; omega) (by unfold I64; omega))
  have S3 := Lib.hid (sum_any _ _ 10 _ _ ta 7 20 w3 hp3 (by decide) (by unfold I64; omega) (by unfold I64; omega))
  have HW : Hid (w3.cell? ⟨q, 0, none⟩ = some (.int .i64 10)) := Lib.hid (by
    obtain ⟨s, r, sm, rw, _, h1, _⟩ := hp3.ex
    exact h1.cells.1)
  have S4 := Lib.hid (width_any q 10 w3 HW.out)
  rw [show psum (([] ++ [(ta, 5 / 10, 2)]) ++ [(ta, 12 / 10, 3)]) ta (0 / 10) (20 / 10) = 5 by decide] at S1
  rw [show psum (([] ++ [(ta, 5 / 10, 2)]) ++ [(ta, 12 / 10, 3)]) ta (0 / 10) (19 / 10) = 2 by decide] at S2
  rw [show psum (([] ++ [(ta, 5 / 10, 2)]) ++ [(ta, 12 / 10, 3)]) ta (7 / 10) (20 / 10) = 5 by decide] at S3
  clear HA2 hp3 hf3 hs3 HB2 HB1 HW
  go_wp2_with fail
  refine S1.out.mono ?_
  rintro e wx ⟨rfl, rfl⟩
  go_wp2_with fail
  refine S2.out.mono ?_
  rintro e wx ⟨rfl, rfl⟩
  go_wp2_with fail
  refine S3.out.mono ?_
  rintro e wx ⟨rfl, rfl⟩
  go_wp2_with fail
  refine S4.out.mono ?_
  rintro e wx ⟨rfl, rfl⟩
  go_wp2_with fail
  go_ret
  exact ⟨rfl, HB3.out⟩
/-- an act: its kind, key, tick, number -/
abbrev Act9 := Int × ByteArray × Int × Int
def actC (a : Act9) : List Value := [.int .i64 a.1, .string a.2.1, .int .i64 a.2.2.1, .int .i64 a.2.2.2]
def actOk (a : Act9) : Prop := a.2.1.size ≤ maxLen ∧ I64 a.1 ∧ I64 a.2.2.1 ∧ I64 a.2.2.2
theorem i64_wf {q : Int} (h : (Lit.int .i64 q).wf = true) : I64 q := by
  simp only [Lit.wf, Bool.and_eq_true, decide_eq_true_eq] at h
  exact h
theorem cellsI64 : Try.prog.cellsOf 2 = 1 := by kernel_rfl
section
variable {H : Type} {enc : TypeId × Value → H} {W : World}
theorem open_acts {r : Reach} {b0 : Nat} {v : Value} {d : DataW H} {p : List MemPlace} (hval : Value.okWide Try.prog W r b0 22 v) (h : DataW.Trod enc Try.prog W 0 (fun _ => true) true 22 v d p) :
    ∃ (b : Option Addr) (cap : Nat) (xs : List Act9), v = .slice b xs.length cap ∧ xs.length ≤ cap ∧ cap ≤ maxLen ∧ InW W b 4 (xs.map actC) ∧ ∀ a ∈ xs, actOk a := by
  refine open_slice_as 4 _ _ Try.underlying22 (by kernel_rfl) (by omega) hval h fun c fuel x hl hx => ?_
  obtain ⟨y0, y1, y2, y3, n, _, _, h0, h1, h2, h3⟩ := Joins.trod_struct4 Try.underlying29 hx
  match c, hl with
  | [u0, u1, u2, u3], _ =>
    obtain ⟨a0, e0, _, w0⟩ := DataW.trod_int Try.underlying3 h0
    obtain ⟨a1, e1, _, w1⟩ := DataW.trod_string Try.underlying9 h1
    obtain ⟨a2, e2, _, w2⟩ := DataW.trod_int Try.underlying3 h2
    obtain ⟨a3, e3, _, w3⟩ := DataW.trod_int Try.underlying2 h3
    simp [PK.cellsI, PK.cellsS, cellsI64] at e0 e1 e2 e3
    subst e0 e1 e2 e3
    exact ⟨(a0, a1, a2, a3), rfl, w1, i64_wf w0, i64_wf w2, i64_wf w3⟩
end
end Go.Proofs.Ytdmcbndkfnlcjaa

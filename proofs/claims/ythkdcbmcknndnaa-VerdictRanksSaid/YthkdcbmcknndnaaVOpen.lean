/- The rows that came in. -/
import Derived.Test.YthkdcbmcknndnaaVDoc
import Derived.Test.YthkdcbmcknndnaaSame16
import Derived.Test.YthkdcbmcknndnaaAwake
import Derived.Lib.SmallJoins
import Derived.Deep.Strs
namespace Go.Proofs.Ythkdcbmcknndnaa
open Go.RowKit Go.MapKept Go.Maps Go.ChangeShapes Go.WideShapes
set_option linter.unusedVariables false
set_option linter.unusedSimpArgs false
theorem cellsTS : Try.prog.cellsOf 9 = 1 := by kernel_rfl
theorem cellsTI : Try.prog.cellsOf 3 = 1 := by kernel_rfl
theorem cellsT64 : Try.prog.cellsOf 2 = 1 := by kernel_rfl
section
variable {H : Type} {enc : TypeId × Value → H} {W : World}
set_option maxRecDepth 100000 in
theorem open_rows {r : Reach} {b0 : Nat} {v : Value} {d : DataW H} {p : List MemPlace} (hval : Value.okWide Try.prog W r b0 22 v) (h : DataW.Trod enc Try.prog W 0 (fun _ => true) true 22 v d p) :
    ∃ (b : Option Addr) (cap : Nat) (xs : List Rk.Rw), v = .slice b xs.length cap ∧ xs.length ≤ cap ∧ cap ≤ maxLen ∧ InW W b 4 (xs.map Rk.rwC) ∧ ∀ a ∈ xs, Rk.Ok a := by
  refine open_slice_as 4 _ _ Try.underlying22 (by kernel_rfl) (by omega) hval h fun c fuel x hl hx => ?_
  obtain ⟨y0, y1, y2, y3, n, _, _, h0, h1, h2, h3⟩ := Go.Joins.trod_struct4 Try.underlying24 hx
  match c, hl with
  | [u0, u1, u2, u3], _ =>
    obtain ⟨a1, e1, _, w1⟩ := DataW.trod_string Try.underlying9 h0
    obtain ⟨a2, e2, _, w2⟩ := DataW.trod_int Try.underlying3 h1
    obtain ⟨a3, e3, _, w3⟩ := DataW.trod_int Try.underlying3 h2
    obtain ⟨a4, e4, _, w4⟩ := DataW.trod_int Try.underlying2 h3
    simp [cellsTS, cellsTI, cellsT64] at e1 e2 e3 e4
    subst e1 e2 e3 e4
    exact ⟨⟨a1, a2, a3, a4⟩, rfl, ⟨i64_wf w2, i64_wf w3, w1⟩⟩
end
end Go.Proofs.Ythkdcbmcknndnaa

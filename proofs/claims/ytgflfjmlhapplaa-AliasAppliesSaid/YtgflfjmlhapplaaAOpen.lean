/- Layer 45's laws: twos that came in. -/
import Derived.Test.YtgflfjmlhapplaaALives
import Derived.Lib.SmallJoins
import Derived.Deep.Strs
import Derived.Deep.SlicePairs
namespace Go.Proofs.Ytgflfjmlhapplaa
open Go.RowKit Go.MapKept Go.Maps Go.ChangeShapes Go.WideShapes
set_option linter.unusedVariables false
def twoOk (p : Two) : Prop := p.1.size ≤ maxLen ∧ p.2.size ≤ maxLen
theorem cellsT : Try.prog.cellsOf 9 = 1 := by kernel_rfl
section
variable {H : Type} {enc : TypeId × Value → H} {W : World}
set_option maxRecDepth 100000 in
theorem open_twos {r : Reach} {b0 : Nat} {v : Value} {d : DataW H} {p : List MemPlace} (hval : Value.okWide Try.prog W r b0 22 v) (h : DataW.Trod enc Try.prog W 0 (fun _ => true) true 22 v d p) :
    ∃ (b : Option Addr) (cap : Nat) (xs : List Two), v = .slice b xs.length cap ∧ xs.length ≤ cap ∧ cap ≤ maxLen ∧ InW W b 2 (xs.map twoC) ∧ ∀ a ∈ xs, twoOk a := by
  refine open_slice_as 2 _ _ Try.underlying22 (by kernel_rfl) (by omega) hval h fun c fuel x hl hx => ?_
  obtain ⟨y0, y1, n, _, _, h0, h1⟩ := trod_struct2 Try.underlying29 hx
  match c, hl with
  | [u0, u1], _ =>
    obtain ⟨a1, e1, _, w1⟩ := DataW.trod_string Try.underlying9 h0
    obtain ⟨a2, e2, _, w2⟩ := DataW.trod_string Try.underlying9 h1
    simp [cellsT] at e1 e2
    subst e1 e2
    exact ⟨(a1, a2), rfl, w1, w2⟩
end
theorem infoTwo : (Try.prog.info? 29).map (fun i => (i.zero, i.size, i.bytes)) = some (some (.agg #[.string ⟨#[]⟩, .string ⟨#[]⟩]), 2, 32) := by kernel_rfl
theorem sizeTwo : ∃ i, Try.prog.info? 29 = some i ∧ i.size = 2 := by
  obtain ⟨i0, hi0, hz0, hz1, hz2⟩ := info_parts infoTwo
  exact ⟨i0, hi0, hz1⟩
theorem ok_of_heavy {l : List Two} {most : Nat} (h : heavyB l most = false) : l.length ≤ most ∧ ∀ p ∈ l, okTwo p :=
  ⟨(heavy_of h).1, fun p hp => ⟨by have := ((heavy_of h).2 p hp).1; omega, by have := ((heavy_of h).2 p hp).2; omega⟩⟩
end Go.Proofs.Ytgflfjmlhapplaa

/-
  No cell of these rows narrows 'for every input' (looked for: loops, veiled, ifaces, maps, wideKeys, modest, calm, conditions, laid).
  DERIVED. THE GIVEN ROWS OF THIS SEAT. 2 by the template 'for every input the law returns true; each argument reads behind the call as it read before'; 0 by the template 'total and deterministic' (their statements: YtkjcgeaoiabkjaaTotals.lean).
  GIVEN WITH THE SEED: the statements are not yours to turn. If you find one false, say at which input.
  Laid BY PROGRAM, IN A SANDBOX (cutbox-rows.mjs): the forced cells as the released guide's own fill.sh prints them over the translation 414849b2a90eb250… (all of the seat's roots in one cut). By AI agents, Wed Nov 11 2026. No macro, syntax, notation, axiom, sorry.
-/
import Derived.Test.YtkjcgeaoiabkjaaChecked
import GoSem.Claim
import GoSem.ClaimJoined
import GoSem.ClaimMapViews
import Derived.JoinedTies
import Derived.KernelRfl
namespace Go.Proofs.Ytkjcgeaoiabkjaa
/- THE CELL 'sum', in the pinned program and in every row, IS THE sha256 OF THE DUMP (.gsa) THAT YtkjcgeaoiabkjaaProg.lean LOADS. Nothing in Lean hashes anything: it is a label: what it is worth is what the hold of that sum in a sandbox is worth. -/
noncomputable def Try.pinned : Pinned := { name := "ytkjcgeaoiabkjaa", sum := "414849b2a90eb250884d9708c1814ef06bffb59a72c9d0dd6d3dd57dfbfd1c35", checked := Try.checked }
namespace Rows
def none {H : Type} : Left H := { results := [], args := [] }

/-- 'ciceronetop.TopPanes': WHATEVER THE INPUT: true; the input reads as it did. -/
def topPanesSpec : ChangeSpec := { name := "topPanes", fn := fun _ => fun
  | [d1, d2, d3, d4, d5, d6] => { results := [.lit (.bool true)], args := [d1, d2, d3, d4, d5, d6] }
  | _ => none }
def topPanesRow : OpenClaim := { program := "ytkjcgeaoiabkjaa", sum := "414849b2a90eb250884d9708c1814ef06bffb59a72c9d0dd6d3dd57dfbfd1c35", func := "cicerone/ciceronetop.TopPanes", spec := "topPanes", unfollowed := true, recurses := true, plainKeys := false, apart := false }
def TopPanesSaid : Prop := topPanesRow.holds Try.pinned (OpenSpec.ofChange topPanesSpec)

/-- ITS FALSE NEIGHBOUR: 'it returns false'. Refute it at one input. -/
def topPanesWrong : ChangeSpec := { name := "topPanes", fn := fun _ => fun
  | [d1, d2, d3, d4, d5, d6] => { results := [.lit (.bool false)], args := [d1, d2, d3, d4, d5, d6] }
  | _ => none }
def TopPanesWrongFalsely : Prop := topPanesRow.holds Try.pinned (OpenSpec.ofChange topPanesWrong)

/-- 'ciceronetop.TopArms': WHATEVER THE INPUT: true; the input reads as it did. -/
def topArmsSpec : ChangeSpec := { name := "topArms", fn := fun _ => fun
  | [d1, d2, d3, d4, d5, d6, d7] => { results := [.lit (.bool true)], args := [d1, d2, d3, d4, d5, d6, d7] }
  | _ => none }
def topArmsRow : OpenClaim := { program := "ytkjcgeaoiabkjaa", sum := "414849b2a90eb250884d9708c1814ef06bffb59a72c9d0dd6d3dd57dfbfd1c35", func := "cicerone/ciceronetop.TopArms", spec := "topArms", unfollowed := true, recurses := true, plainKeys := false, apart := false }
def TopArmsSaid : Prop := topArmsRow.holds Try.pinned (OpenSpec.ofChange topArmsSpec)

/-- ITS FALSE NEIGHBOUR: 'it returns false'. Refute it at one input. -/
def topArmsWrong : ChangeSpec := { name := "topArms", fn := fun _ => fun
  | [d1, d2, d3, d4, d5, d6, d7] => { results := [.lit (.bool false)], args := [d1, d2, d3, d4, d5, d6, d7] }
  | _ => none }
def TopArmsWrongFalsely : Prop := topArmsRow.holds Try.pinned (OpenSpec.ofChange topArmsWrong)

/- THE SECOND FORM. 'bulk': how many values and letters a reading holds, each counted each time it is reached (what is shared counts as often as it is met; a slice's spare places count too). A statement '..UptoSaid' is the law's where the arguments, and the package variables that the reading takes, are together of bulk at most 1048576: NARROWER than '..Said'. Prove '..Said' where nothing that the law and all that it calls make is longer than what came in: it says more and counts as full. Else prove '..UptoSaid'. A law counts once. -/
mutual
def uptoBulk {H : Type} : DataW H → Nat
  | .lit (.string bytes) => bytes.length + 1
  | .lit _ => 1
  | .nil => 1
  | .ptr d => uptoBulk d + 1
  | .slice elems spare => uptoBulkAll elems + uptoBulkAll spare + 1
  | .agg parts => uptoBulkAll parts + 1
  | .iface _ d => uptoBulk d + 1
  | .map entries => uptoBulkEntries entries + 1
  | .held _ => 1
def uptoBulkAll {H : Type} : List (DataW H) → Nat
  | [] => 0
  | d :: r => uptoBulk d + uptoBulkAll r
def uptoBulkEntries {H : Type} : List (Lit × DataW H) → Nat
  | [] => 0
  | x :: r => uptoBulkEntry x + uptoBulkEntries r
def uptoBulkEntry {H : Type} : Lit × DataW H → Nat
  | (.string bytes, d) => bytes.length + uptoBulk d + 1
  | (_, d) => uptoBulk d + 1
 end
def uptoSmall : (H : Type) → List (DataW H) → Bool := fun _ ds => decide (uptoBulkAll ds ≤ 1048576)
def OpenSpec.upto (s : _root_.Go.ChangeSpec) : _root_.Go.OpenSpec := { _root_.Go.OpenSpec.ofChange s with cond := some uptoSmall }

/-- 'ciceronetop.TopPanes', WHERE WHAT IT READS IS OF BULK AT MOST 1048576: true; the input reads as it did. -/
def topPanesUptoRow : OpenClaim := { program := "ytkjcgeaoiabkjaa", sum := "414849b2a90eb250884d9708c1814ef06bffb59a72c9d0dd6d3dd57dfbfd1c35", func := "cicerone/ciceronetop.TopPanes", spec := "topPanes", unfollowed := true, recurses := true, plainKeys := false, apart := false, narrowed := true }
def TopPanesUptoSaid : Prop := topPanesUptoRow.holds Try.pinned (OpenSpec.upto topPanesSpec)

/-- 'ciceronetop.TopArms', WHERE WHAT IT READS IS OF BULK AT MOST 1048576: true; the input reads as it did. -/
def topArmsUptoRow : OpenClaim := { program := "ytkjcgeaoiabkjaa", sum := "414849b2a90eb250884d9708c1814ef06bffb59a72c9d0dd6d3dd57dfbfd1c35", func := "cicerone/ciceronetop.TopArms", spec := "topArms", unfollowed := true, recurses := true, plainKeys := false, apart := false, narrowed := true }
def TopArmsUptoSaid : Prop := topArmsUptoRow.holds Try.pinned (OpenSpec.upto topArmsSpec)

end Rows
end Go.Proofs.Ytkjcgeaoiabkjaa

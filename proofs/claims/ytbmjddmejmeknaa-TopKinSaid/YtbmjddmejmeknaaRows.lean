/-
  No cell of these rows narrows 'for every input' (looked for: loops, veiled, ifaces, maps, wideKeys, modest, calm, conditions, laid).
  DERIVED. THE GIVEN ROWS OF THIS SEAT. 2 by the template 'for every input the law returns true; each argument reads behind the call as it read before'; 0 by the template 'total and deterministic' (their statements: YtbmjddmejmeknaaTotals.lean).
  GIVEN WITH THE SEED: the statements are not yours to turn. If you find one false, say at which input.
  Laid BY PROGRAM, IN A SANDBOX (cutbox-rows.mjs): the forced cells as the released guide's own fill.sh prints them over the translation 91641abd8ae6622f… (all of the seat's roots in one cut). By AI agents, Wed Nov 11 2026. No macro, syntax, notation, axiom, sorry.
-/
import Derived.Test.YtbmjddmejmeknaaChecked
import GoSem.Claim
import GoSem.ClaimJoined
import GoSem.ClaimMapViews
import Derived.JoinedTies
import Derived.KernelRfl
namespace Go.Proofs.Ytbmjddmejmeknaa
/- THE CELL 'sum', in the pinned program and in every row, IS THE sha256 OF THE DUMP (.gsa) THAT YtbmjddmejmeknaaProg.lean LOADS. Nothing in Lean hashes anything: it is a label: what it is worth is what the hold of that sum in a sandbox is worth. -/
noncomputable def Try.pinned : Pinned := { name := "ytbmjddmejmeknaa", sum := "91641abd8ae6622f6f74bfc1b4471deec5fa63407a891f68035d2eeda1abd6b8", checked := Try.checked }
namespace Rows
def none {H : Type} : Left H := { results := [], args := [] }

/-- 'ciceronetop.TopSessions': WHATEVER THE INPUT: true; the input reads as it did. -/
def topSessionsSpec : ChangeSpec := { name := "topSessions", fn := fun _ => fun
  | [d1, d2] => { results := [.lit (.bool true)], args := [d1, d2] }
  | _ => none }
def topSessionsRow : OpenClaim := { program := "ytbmjddmejmeknaa", sum := "91641abd8ae6622f6f74bfc1b4471deec5fa63407a891f68035d2eeda1abd6b8", func := "cicerone/ciceronetop.TopSessions", spec := "topSessions", inPlace := ["maps.clone"], unfollowed := true, recurses := true, plainKeys := false, apart := false }
def TopSessionsSaid : Prop := topSessionsRow.holds Try.pinned (OpenSpec.ofChange topSessionsSpec)

/-- ITS FALSE NEIGHBOUR: 'it returns false'. Refute it at one input. -/
def topSessionsWrong : ChangeSpec := { name := "topSessions", fn := fun _ => fun
  | [d1, d2] => { results := [.lit (.bool false)], args := [d1, d2] }
  | _ => none }
def TopSessionsWrongFalsely : Prop := topSessionsRow.holds Try.pinned (OpenSpec.ofChange topSessionsWrong)

/-- 'ciceronetop.TopKin': WHATEVER THE INPUT: true; the input reads as it did. -/
def topKinSpec : ChangeSpec := { name := "topKin", fn := fun _ => fun
  | [d1, d2, d3, d4] => { results := [.lit (.bool true)], args := [d1, d2, d3, d4] }
  | _ => none }
def topKinRow : OpenClaim := { program := "ytbmjddmejmeknaa", sum := "91641abd8ae6622f6f74bfc1b4471deec5fa63407a891f68035d2eeda1abd6b8", func := "cicerone/ciceronetop.TopKin", spec := "topKin", inPlace := ["maps.clone"], unfollowed := true, recurses := true, plainKeys := false, apart := false }
def TopKinSaid : Prop := topKinRow.holds Try.pinned (OpenSpec.ofChange topKinSpec)

/-- ITS FALSE NEIGHBOUR: 'it returns false'. Refute it at one input. -/
def topKinWrong : ChangeSpec := { name := "topKin", fn := fun _ => fun
  | [d1, d2, d3, d4] => { results := [.lit (.bool false)], args := [d1, d2, d3, d4] }
  | _ => none }
def TopKinWrongFalsely : Prop := topKinRow.holds Try.pinned (OpenSpec.ofChange topKinWrong)

/- THE SECOND FORM. 'bulk': how many values and letters a reading holds, each counted each time it is reached (what is shared counts as often as it is met; a slice's spare places count too). A statement '..UptoSaid' is the law's where the arguments, and the package variables that the reading takes, are together of bulk at most 1048576: NARROWER than '..Said'. Prove '..Said' where nothing that the law and all that it calls make is longer than what came in: it says more and counts as full. Else prove '..UptoSaid'. A law counts once. -/
mutual
def uptoBulk {H : Type} : DataW H → Nat
  | .lit (.string bytes) => bytes.length + 1
  | .lit _ => 1
  | .nil => 1
  | .ptr d => uptoBulk d + 1
  | .slice elems spare => uptoBulkAll elems + uptoBulkAll spare + 1
  | .agg parts => uptoBulkAll parts + 1
  | .iface _ d => uptoBulk d + 1
  | .map entries => uptoBulkEntries entries + 1
  | .held _ => 1
def uptoBulkAll {H : Type} : List (DataW H) → Nat
  | [] => 0
  | d :: r => uptoBulk d + uptoBulkAll r
def uptoBulkEntries {H : Type} : List (Lit × DataW H) → Nat
  | [] => 0
  | x :: r => uptoBulkEntry x + uptoBulkEntries r
def uptoBulkEntry {H : Type} : Lit × DataW H → Nat
  | (.string bytes, d) => bytes.length + uptoBulk d + 1
  | (_, d) => uptoBulk d + 1
 end
def uptoSmall : (H : Type) → List (DataW H) → Bool := fun _ ds => decide (uptoBulkAll ds ≤ 1048576)
def OpenSpec.upto (s : _root_.Go.ChangeSpec) : _root_.Go.OpenSpec := { _root_.Go.OpenSpec.ofChange s with cond := some uptoSmall }

/-- 'ciceronetop.TopSessions', WHERE WHAT IT READS IS OF BULK AT MOST 1048576: true; the input reads as it did. -/
def topSessionsUptoRow : OpenClaim := { program := "ytbmjddmejmeknaa", sum := "91641abd8ae6622f6f74bfc1b4471deec5fa63407a891f68035d2eeda1abd6b8", func := "cicerone/ciceronetop.TopSessions", spec := "topSessions", inPlace := ["maps.clone"], unfollowed := true, recurses := true, plainKeys := false, apart := false, narrowed := true }
def TopSessionsUptoSaid : Prop := topSessionsUptoRow.holds Try.pinned (OpenSpec.upto topSessionsSpec)

/-- 'ciceronetop.TopKin', WHERE WHAT IT READS IS OF BULK AT MOST 1048576: true; the input reads as it did. -/
def topKinUptoRow : OpenClaim := { program := "ytbmjddmejmeknaa", sum := "91641abd8ae6622f6f74bfc1b4471deec5fa63407a891f68035d2eeda1abd6b8", func := "cicerone/ciceronetop.TopKin", spec := "topKin", inPlace := ["maps.clone"], unfollowed := true, recurses := true, plainKeys := false, apart := false, narrowed := true }
def TopKinUptoSaid : Prop := topKinUptoRow.holds Try.pinned (OpenSpec.upto topKinSpec)

end Rows
end Go.Proofs.Ytbmjddmejmeknaa

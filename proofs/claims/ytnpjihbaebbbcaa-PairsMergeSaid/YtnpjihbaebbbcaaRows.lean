/-
  No cell of these rows narrows 'for every input' (looked for: loops, veiled, ifaces, maps, wideKeys, modest, calm, conditions, laid).
  DERIVED. THE GIVEN ROWS OF THIS SEAT. 5 by the template 'for every input the law returns true; each argument reads behind the call as it read before'; 0 by the template 'total and deterministic' (their statements: YtnpjihbaebbbcaaTotals.lean).
  GIVEN WITH THE SEED: the statements are not yours to turn. If you find one false, say at which input.
  Laid BY PROGRAM, IN A SANDBOX (cutbox-rows.mjs): the forced cells as the released guide's own fill.sh prints them over the translation 3a9be50ded0d811e… (all of the seat's roots in one cut). By AI agents, Wed Nov 11 2026. No macro, syntax, notation, axiom, sorry.
-/
import Derived.Test.YtnpjihbaebbbcaaChecked
import GoSem.Claim
import GoSem.ClaimJoined
import GoSem.ClaimMapViews
import Derived.JoinedTies
import Derived.KernelRfl
namespace Go.Proofs.Ytnpjihbaebbbcaa
/- THE CELL 'sum', in the pinned program and in every row, IS THE sha256 OF THE DUMP (.gsa) THAT YtnpjihbaebbbcaaProg.lean LOADS. Nothing in Lean hashes anything: it is a label: what it is worth is what the hold of that sum in a sandbox is worth. -/
noncomputable def Try.pinned : Pinned := { name := "ytnpjihbaebbbcaa", sum := "3a9be50ded0d811e90a6ba53f03303c64b2d1157fa47b19e9942f2e6e0b637e8", checked := Try.checked }
namespace Rows
def none {H : Type} : Left H := { results := [], args := [] }

/-- 'ciceronelaw17.PairsAdd': WHATEVER THE INPUT: true; the input reads as it did. -/
def pairsAddSpec : ChangeSpec := { name := "pairsAdd", fn := fun _ => fun
  | [d1, d2, d3] => { results := [.lit (.bool true)], args := [d1, d2, d3] }
  | _ => none }
def pairsAddRow : OpenClaim := { program := "ytnpjihbaebbbcaa", sum := "3a9be50ded0d811e90a6ba53f03303c64b2d1157fa47b19e9942f2e6e0b637e8", func := "cicerone/ciceronelaw17.PairsAdd", spec := "pairsAdd", inPlace := ["maps.clone"], unfollowed := true, recurses := true, apart := false }
def PairsAddSaid : Prop := pairsAddRow.holds Try.pinned (OpenSpec.ofChange pairsAddSpec)

/-- ITS FALSE NEIGHBOUR: 'it returns false'. Refute it at one input. -/
def pairsAddWrong : ChangeSpec := { name := "pairsAdd", fn := fun _ => fun
  | [d1, d2, d3] => { results := [.lit (.bool false)], args := [d1, d2, d3] }
  | _ => none }
def PairsAddWrongFalsely : Prop := pairsAddRow.holds Try.pinned (OpenSpec.ofChange pairsAddWrong)

/-- 'ciceronelaw17.PairsSame': WHATEVER THE INPUT: true; the input reads as it did. -/
def pairsSameSpec : ChangeSpec := { name := "pairsSame", fn := fun _ => fun
  | [d1, d2, d3, d4, d5] => { results := [.lit (.bool true)], args := [d1, d2, d3, d4, d5] }
  | _ => none }
def pairsSameRow : OpenClaim := { program := "ytnpjihbaebbbcaa", sum := "3a9be50ded0d811e90a6ba53f03303c64b2d1157fa47b19e9942f2e6e0b637e8", func := "cicerone/ciceronelaw17.PairsSame", spec := "pairsSame", inPlace := ["maps.clone"], unfollowed := true, recurses := true, apart := false }
def PairsSameSaid : Prop := pairsSameRow.holds Try.pinned (OpenSpec.ofChange pairsSameSpec)

/-- ITS FALSE NEIGHBOUR: 'it returns false'. Refute it at one input. -/
def pairsSameWrong : ChangeSpec := { name := "pairsSame", fn := fun _ => fun
  | [d1, d2, d3, d4, d5] => { results := [.lit (.bool false)], args := [d1, d2, d3, d4, d5] }
  | _ => none }
def PairsSameWrongFalsely : Prop := pairsSameRow.holds Try.pinned (OpenSpec.ofChange pairsSameWrong)

/-- 'ciceronelaw17.PairsRemove': WHATEVER THE INPUT: true; the input reads as it did. -/
def pairsRemoveSpec : ChangeSpec := { name := "pairsRemove", fn := fun _ => fun
  | [d1, d2, d3, d4, d5, d6] => { results := [.lit (.bool true)], args := [d1, d2, d3, d4, d5, d6] }
  | _ => none }
def pairsRemoveRow : OpenClaim := { program := "ytnpjihbaebbbcaa", sum := "3a9be50ded0d811e90a6ba53f03303c64b2d1157fa47b19e9942f2e6e0b637e8", func := "cicerone/ciceronelaw17.PairsRemove", spec := "pairsRemove", inPlace := ["maps.clone"], unfollowed := true, recurses := true, apart := false }
def PairsRemoveSaid : Prop := pairsRemoveRow.holds Try.pinned (OpenSpec.ofChange pairsRemoveSpec)

/-- ITS FALSE NEIGHBOUR: 'it returns false'. Refute it at one input. -/
def pairsRemoveWrong : ChangeSpec := { name := "pairsRemove", fn := fun _ => fun
  | [d1, d2, d3, d4, d5, d6] => { results := [.lit (.bool false)], args := [d1, d2, d3, d4, d5, d6] }
  | _ => none }
def PairsRemoveWrongFalsely : Prop := pairsRemoveRow.holds Try.pinned (OpenSpec.ofChange pairsRemoveWrong)

/-- 'ciceronelaw17.PairsNear': WHATEVER THE INPUT: true; the input reads as it did. -/
def pairsNearSpec : ChangeSpec := { name := "pairsNear", fn := fun _ => fun
  | [d] => { results := [.lit (.bool true)], args := [d] }
  | _ => none }
def pairsNearRow : OpenClaim := { program := "ytnpjihbaebbbcaa", sum := "3a9be50ded0d811e90a6ba53f03303c64b2d1157fa47b19e9942f2e6e0b637e8", func := "cicerone/ciceronelaw17.PairsNear", spec := "pairsNear", inPlace := ["maps.clone"], unfollowed := true, recurses := true, apart := false }
def PairsNearSaid : Prop := pairsNearRow.holds Try.pinned (OpenSpec.ofChange pairsNearSpec)

/-- ITS FALSE NEIGHBOUR: 'it returns false'. Refute it at one input. -/
def pairsNearWrong : ChangeSpec := { name := "pairsNear", fn := fun _ => fun
  | [d] => { results := [.lit (.bool false)], args := [d] }
  | _ => none }
def PairsNearWrongFalsely : Prop := pairsNearRow.holds Try.pinned (OpenSpec.ofChange pairsNearWrong)

/-- 'ciceronelaw17.PairsMerge': WHATEVER THE INPUT: true; the input reads as it did. -/
def pairsMergeSpec : ChangeSpec := { name := "pairsMerge", fn := fun _ => fun
  | [d1, d2, d3, d4] => { results := [.lit (.bool true)], args := [d1, d2, d3, d4] }
  | _ => none }
def pairsMergeRow : OpenClaim := { program := "ytnpjihbaebbbcaa", sum := "3a9be50ded0d811e90a6ba53f03303c64b2d1157fa47b19e9942f2e6e0b637e8", func := "cicerone/ciceronelaw17.PairsMerge", spec := "pairsMerge", inPlace := ["maps.clone"], unfollowed := true, recurses := true, apart := false }
def PairsMergeSaid : Prop := pairsMergeRow.holds Try.pinned (OpenSpec.ofChange pairsMergeSpec)

/-- ITS FALSE NEIGHBOUR: 'it returns false'. Refute it at one input. -/
def pairsMergeWrong : ChangeSpec := { name := "pairsMerge", fn := fun _ => fun
  | [d1, d2, d3, d4] => { results := [.lit (.bool false)], args := [d1, d2, d3, d4] }
  | _ => none }
def PairsMergeWrongFalsely : Prop := pairsMergeRow.holds Try.pinned (OpenSpec.ofChange pairsMergeWrong)

/- THE SECOND FORM. 'bulk': how many values and letters a reading holds, each counted each time it is reached (what is shared counts as often as it is met; a slice's spare places count too). A statement '..UptoSaid' is the law's where the arguments, and the package variables that the reading takes, are together of bulk at most 1048576: NARROWER than '..Said'. Prove '..Said' where nothing that the law and all that it calls make is longer than what came in: it says more and counts as full. Else prove '..UptoSaid'. A law counts once. -/
mutual
def uptoBulk {H : Type} : DataW H → Nat
  | .lit (.string bytes) => bytes.length + 1
  | .lit _ => 1
  | .nil => 1
  | .ptr d => uptoBulk d + 1
  | .slice elems spare => uptoBulkAll elems + uptoBulkAll spare + 1
  | .agg parts => uptoBulkAll parts + 1
  | .iface _ d => uptoBulk d + 1
  | .map entries => uptoBulkEntries entries + 1
  | .held _ => 1
def uptoBulkAll {H : Type} : List (DataW H) → Nat
  | [] => 0
  | d :: r => uptoBulk d + uptoBulkAll r
def uptoBulkEntries {H : Type} : List (Lit × DataW H) → Nat
  | [] => 0
  | x :: r => uptoBulkEntry x + uptoBulkEntries r
def uptoBulkEntry {H : Type} : Lit × DataW H → Nat
  | (.string bytes, d) => bytes.length + uptoBulk d + 1
  | (_, d) => uptoBulk d + 1
 end
def uptoSmall : (H : Type) → List (DataW H) → Bool := fun _ ds => decide (uptoBulkAll ds ≤ 1048576)
def OpenSpec.upto (s : _root_.Go.ChangeSpec) : _root_.Go.OpenSpec := { _root_.Go.OpenSpec.ofChange s with cond := some uptoSmall }

/-- 'ciceronelaw17.PairsAdd', WHERE WHAT IT READS IS OF BULK AT MOST 1048576: true; the input reads as it did. -/
def pairsAddUptoRow : OpenClaim := { program := "ytnpjihbaebbbcaa", sum := "3a9be50ded0d811e90a6ba53f03303c64b2d1157fa47b19e9942f2e6e0b637e8", func := "cicerone/ciceronelaw17.PairsAdd", spec := "pairsAdd", inPlace := ["maps.clone"], unfollowed := true, recurses := true, apart := false, narrowed := true }
def PairsAddUptoSaid : Prop := pairsAddUptoRow.holds Try.pinned (OpenSpec.upto pairsAddSpec)

/-- 'ciceronelaw17.PairsSame', WHERE WHAT IT READS IS OF BULK AT MOST 1048576: true; the input reads as it did. -/
def pairsSameUptoRow : OpenClaim := { program := "ytnpjihbaebbbcaa", sum := "3a9be50ded0d811e90a6ba53f03303c64b2d1157fa47b19e9942f2e6e0b637e8", func := "cicerone/ciceronelaw17.PairsSame", spec := "pairsSame", inPlace := ["maps.clone"], unfollowed := true, recurses := true, apart := false, narrowed := true }
def PairsSameUptoSaid : Prop := pairsSameUptoRow.holds Try.pinned (OpenSpec.upto pairsSameSpec)

/-- 'ciceronelaw17.PairsRemove', WHERE WHAT IT READS IS OF BULK AT MOST 1048576: true; the input reads as it did. -/
def pairsRemoveUptoRow : OpenClaim := { program := "ytnpjihbaebbbcaa", sum := "3a9be50ded0d811e90a6ba53f03303c64b2d1157fa47b19e9942f2e6e0b637e8", func := "cicerone/ciceronelaw17.PairsRemove", spec := "pairsRemove", inPlace := ["maps.clone"], unfollowed := true, recurses := true, apart := false, narrowed := true }
def PairsRemoveUptoSaid : Prop := pairsRemoveUptoRow.holds Try.pinned (OpenSpec.upto pairsRemoveSpec)

/-- 'ciceronelaw17.PairsNear', WHERE WHAT IT READS IS OF BULK AT MOST 1048576: true; the input reads as it did. -/
def pairsNearUptoRow : OpenClaim := { program := "ytnpjihbaebbbcaa", sum := "3a9be50ded0d811e90a6ba53f03303c64b2d1157fa47b19e9942f2e6e0b637e8", func := "cicerone/ciceronelaw17.PairsNear", spec := "pairsNear", inPlace := ["maps.clone"], unfollowed := true, recurses := true, apart := false, narrowed := true }
def PairsNearUptoSaid : Prop := pairsNearUptoRow.holds Try.pinned (OpenSpec.upto pairsNearSpec)

/-- 'ciceronelaw17.PairsMerge', WHERE WHAT IT READS IS OF BULK AT MOST 1048576: true; the input reads as it did. -/
def pairsMergeUptoRow : OpenClaim := { program := "ytnpjihbaebbbcaa", sum := "3a9be50ded0d811e90a6ba53f03303c64b2d1157fa47b19e9942f2e6e0b637e8", func := "cicerone/ciceronelaw17.PairsMerge", spec := "pairsMerge", inPlace := ["maps.clone"], unfollowed := true, recurses := true, apart := false, narrowed := true }
def PairsMergeUptoSaid : Prop := pairsMergeUptoRow.holds Try.pinned (OpenSpec.upto pairsMergeSpec)

end Rows
end Go.Proofs.Ytnpjihbaebbbcaa

/-
  No cell of these rows narrows 'for every input' (looked for: loops, veiled, ifaces, maps, wideKeys, modest, calm, conditions, laid).
  DERIVED. THE GIVEN ROWS OF THIS SEAT. 5 by the template 'for every input the law returns true; each argument reads behind the call as it read before'; 0 by the template 'total and deterministic' (their statements: YtgflfjmlhapplaaTotals.lean).
  GIVEN WITH THE SEED: the statements are not yours to turn. If you find one false, say at which input.
  Laid BY PROGRAM, IN A SANDBOX (cutbox-rows.mjs): the forced cells as the released guide's own fill.sh prints them over the translation 257cf8b8f9428538… (all of the seat's roots in one cut). By AI agents, Wed Nov 11 2026. No macro, syntax, notation, axiom, sorry.
-/
import Derived.Test.YtgflfjmlhapplaaChecked
import GoSem.Claim
import GoSem.ClaimJoined
import GoSem.ClaimMapViews
import Derived.JoinedTies
import Derived.KernelRfl
namespace Go.Proofs.Ytgflfjmlhapplaa
/- THE CELL 'sum', in the pinned program and in every row, IS THE sha256 OF THE DUMP (.gsa) THAT YtgflfjmlhapplaaProg.lean LOADS. Nothing in Lean hashes anything: it is a label: what it is worth is what the hold of that sum in a sandbox is worth. -/
noncomputable def Try.pinned : Pinned := { name := "ytgflfjmlhapplaa", sum := "257cf8b8f942853823f407e492eae47bde27e09ccbe5bef0968699ad007ed085", checked := Try.checked }
namespace Rows
def none {H : Type} : Left H := { results := [], args := [] }

/-- 'ciceronelaw45.AliasJoins': WHATEVER THE INPUT: true; the input reads as it did. -/
def aliasJoinsSpec : ChangeSpec := { name := "aliasJoins", fn := fun _ => fun
  | [d1, d2] => { results := [.lit (.bool true)], args := [d1, d2] }
  | _ => none }
def aliasJoinsRow : OpenClaim := { program := "ytgflfjmlhapplaa", sum := "257cf8b8f942853823f407e492eae47bde27e09ccbe5bef0968699ad007ed085", func := "cicerone/ciceronelaw45.AliasJoins", spec := "aliasJoins", recurses := true, apart := false }
def AliasJoinsSaid : Prop := aliasJoinsRow.holds Try.pinned (OpenSpec.ofChange aliasJoinsSpec)

/-- ITS FALSE NEIGHBOUR: 'it returns false'. Refute it at one input. -/
def aliasJoinsWrong : ChangeSpec := { name := "aliasJoins", fn := fun _ => fun
  | [d1, d2] => { results := [.lit (.bool false)], args := [d1, d2] }
  | _ => none }
def AliasJoinsWrongFalsely : Prop := aliasJoinsRow.holds Try.pinned (OpenSpec.ofChange aliasJoinsWrong)

/-- 'ciceronelaw45.AliasOrder': WHATEVER THE INPUT: true; the input reads as it did. -/
def aliasOrderSpec : ChangeSpec := { name := "aliasOrder", fn := fun _ => fun
  | [d1, d2] => { results := [.lit (.bool true)], args := [d1, d2] }
  | _ => none }
def aliasOrderRow : OpenClaim := { program := "ytgflfjmlhapplaa", sum := "257cf8b8f942853823f407e492eae47bde27e09ccbe5bef0968699ad007ed085", func := "cicerone/ciceronelaw45.AliasOrder", spec := "aliasOrder", recurses := true, apart := false }
def AliasOrderSaid : Prop := aliasOrderRow.holds Try.pinned (OpenSpec.ofChange aliasOrderSpec)

/-- ITS FALSE NEIGHBOUR: 'it returns false'. Refute it at one input. -/
def aliasOrderWrong : ChangeSpec := { name := "aliasOrder", fn := fun _ => fun
  | [d1, d2] => { results := [.lit (.bool false)], args := [d1, d2] }
  | _ => none }
def AliasOrderWrongFalsely : Prop := aliasOrderRow.holds Try.pinned (OpenSpec.ofChange aliasOrderWrong)

/-- 'ciceronelaw45.AliasParts': WHATEVER THE INPUT: true; the input reads as it did. -/
def aliasPartsSpec : ChangeSpec := { name := "aliasParts", fn := fun _ => fun
  | [d1, d2, d3] => { results := [.lit (.bool true)], args := [d1, d2, d3] }
  | _ => none }
def aliasPartsRow : OpenClaim := { program := "ytgflfjmlhapplaa", sum := "257cf8b8f942853823f407e492eae47bde27e09ccbe5bef0968699ad007ed085", func := "cicerone/ciceronelaw45.AliasParts", spec := "aliasParts", recurses := true, apart := false }
def AliasPartsSaid : Prop := aliasPartsRow.holds Try.pinned (OpenSpec.ofChange aliasPartsSpec)

/-- ITS FALSE NEIGHBOUR: 'it returns false'. Refute it at one input. -/
def aliasPartsWrong : ChangeSpec := { name := "aliasParts", fn := fun _ => fun
  | [d1, d2, d3] => { results := [.lit (.bool false)], args := [d1, d2, d3] }
  | _ => none }
def AliasPartsWrongFalsely : Prop := aliasPartsRow.holds Try.pinned (OpenSpec.ofChange aliasPartsWrong)

/-- 'ciceronelaw45.AliasApplies': WHATEVER THE INPUT: true; the input reads as it did. -/
def aliasAppliesSpec : ChangeSpec := { name := "aliasApplies", fn := fun _ => fun
  | [d1, d2] => { results := [.lit (.bool true)], args := [d1, d2] }
  | _ => none }
def aliasAppliesRow : OpenClaim := { program := "ytgflfjmlhapplaa", sum := "257cf8b8f942853823f407e492eae47bde27e09ccbe5bef0968699ad007ed085", func := "cicerone/ciceronelaw45.AliasApplies", spec := "aliasApplies", recurses := true, apart := false }
def AliasAppliesSaid : Prop := aliasAppliesRow.holds Try.pinned (OpenSpec.ofChange aliasAppliesSpec)

/-- ITS FALSE NEIGHBOUR: 'it returns false'. Refute it at one input. -/
def aliasAppliesWrong : ChangeSpec := { name := "aliasApplies", fn := fun _ => fun
  | [d1, d2] => { results := [.lit (.bool false)], args := [d1, d2] }
  | _ => none }
def AliasAppliesWrongFalsely : Prop := aliasAppliesRow.holds Try.pinned (OpenSpec.ofChange aliasAppliesWrong)

/-- 'ciceronelaw45.AliasMerges': WHATEVER THE INPUT: true; the input reads as it did. -/
def aliasMergesSpec : ChangeSpec := { name := "aliasMerges", fn := fun _ => fun
  | [d1, d2, d3] => { results := [.lit (.bool true)], args := [d1, d2, d3] }
  | _ => none }
def aliasMergesRow : OpenClaim := { program := "ytgflfjmlhapplaa", sum := "257cf8b8f942853823f407e492eae47bde27e09ccbe5bef0968699ad007ed085", func := "cicerone/ciceronelaw45.AliasMerges", spec := "aliasMerges", inPlace := ["maps.clone"], recurses := true, apart := false }
def AliasMergesSaid : Prop := aliasMergesRow.holds Try.pinned (OpenSpec.ofChange aliasMergesSpec)

/-- ITS FALSE NEIGHBOUR: 'it returns false'. Refute it at one input. -/
def aliasMergesWrong : ChangeSpec := { name := "aliasMerges", fn := fun _ => fun
  | [d1, d2, d3] => { results := [.lit (.bool false)], args := [d1, d2, d3] }
  | _ => none }
def AliasMergesWrongFalsely : Prop := aliasMergesRow.holds Try.pinned (OpenSpec.ofChange aliasMergesWrong)

/- THE SECOND FORM. 'bulk': how many values and letters a reading holds, each counted each time it is reached (what is shared counts as often as it is met; a slice's spare places count too). A statement '..UptoSaid' is the law's where the arguments, and the package variables that the reading takes, are together of bulk at most 1048576: NARROWER than '..Said'. Prove '..Said' where nothing that the law and all that it calls make is longer than what came in: it says more and counts as full. Else prove '..UptoSaid'. A law counts once. -/
mutual
def uptoBulk {H : Type} : DataW H → Nat
  | .lit (.string bytes) => bytes.length + 1
  | .lit _ => 1
  | .nil => 1
  | .ptr d => uptoBulk d + 1
  | .slice elems spare => uptoBulkAll elems + uptoBulkAll spare + 1
  | .agg parts => uptoBulkAll parts + 1
  | .iface _ d => uptoBulk d + 1
  | .map entries => uptoBulkEntries entries + 1
  | .held _ => 1
def uptoBulkAll {H : Type} : List (DataW H) → Nat
  | [] => 0
  | d :: r => uptoBulk d + uptoBulkAll r
def uptoBulkEntries {H : Type} : List (Lit × DataW H) → Nat
  | [] => 0
  | x :: r => uptoBulkEntry x + uptoBulkEntries r
def uptoBulkEntry {H : Type} : Lit × DataW H → Nat
  | (.string bytes, d) => bytes.length + uptoBulk d + 1
  | (_, d) => uptoBulk d + 1
 end
def uptoSmall : (H : Type) → List (DataW H) → Bool := fun _ ds => decide (uptoBulkAll ds ≤ 1048576)
def OpenSpec.upto (s : _root_.Go.ChangeSpec) : _root_.Go.OpenSpec := { _root_.Go.OpenSpec.ofChange s with cond := some uptoSmall }

/-- 'ciceronelaw45.AliasJoins', WHERE WHAT IT READS IS OF BULK AT MOST 1048576: true; the input reads as it did. -/
def aliasJoinsUptoRow : OpenClaim := { program := "ytgflfjmlhapplaa", sum := "257cf8b8f942853823f407e492eae47bde27e09ccbe5bef0968699ad007ed085", func := "cicerone/ciceronelaw45.AliasJoins", spec := "aliasJoins", recurses := true, apart := false, narrowed := true }
def AliasJoinsUptoSaid : Prop := aliasJoinsUptoRow.holds Try.pinned (OpenSpec.upto aliasJoinsSpec)

/-- 'ciceronelaw45.AliasOrder', WHERE WHAT IT READS IS OF BULK AT MOST 1048576: true; the input reads as it did. -/
def aliasOrderUptoRow : OpenClaim := { program := "ytgflfjmlhapplaa", sum := "257cf8b8f942853823f407e492eae47bde27e09ccbe5bef0968699ad007ed085", func := "cicerone/ciceronelaw45.AliasOrder", spec := "aliasOrder", recurses := true, apart := false, narrowed := true }
def AliasOrderUptoSaid : Prop := aliasOrderUptoRow.holds Try.pinned (OpenSpec.upto aliasOrderSpec)

/-- 'ciceronelaw45.AliasParts', WHERE WHAT IT READS IS OF BULK AT MOST 1048576: true; the input reads as it did. -/
def aliasPartsUptoRow : OpenClaim := { program := "ytgflfjmlhapplaa", sum := "257cf8b8f942853823f407e492eae47bde27e09ccbe5bef0968699ad007ed085", func := "cicerone/ciceronelaw45.AliasParts", spec := "aliasParts", recurses := true, apart := false, narrowed := true }
def AliasPartsUptoSaid : Prop := aliasPartsUptoRow.holds Try.pinned (OpenSpec.upto aliasPartsSpec)

/-- 'ciceronelaw45.AliasApplies', WHERE WHAT IT READS IS OF BULK AT MOST 1048576: true; the input reads as it did. -/
def aliasAppliesUptoRow : OpenClaim := { program := "ytgflfjmlhapplaa", sum := "257cf8b8f942853823f407e492eae47bde27e09ccbe5bef0968699ad007ed085", func := "cicerone/ciceronelaw45.AliasApplies", spec := "aliasApplies", recurses := true, apart := false, narrowed := true }
def AliasAppliesUptoSaid : Prop := aliasAppliesUptoRow.holds Try.pinned (OpenSpec.upto aliasAppliesSpec)

/-- 'ciceronelaw45.AliasMerges', WHERE WHAT IT READS IS OF BULK AT MOST 1048576: true; the input reads as it did. -/
def aliasMergesUptoRow : OpenClaim := { program := "ytgflfjmlhapplaa", sum := "257cf8b8f942853823f407e492eae47bde27e09ccbe5bef0968699ad007ed085", func := "cicerone/ciceronelaw45.AliasMerges", spec := "aliasMerges", inPlace := ["maps.clone"], recurses := true, apart := false, narrowed := true }
def AliasMergesUptoSaid : Prop := aliasMergesUptoRow.holds Try.pinned (OpenSpec.upto aliasMergesSpec)

end Rows
end Go.Proofs.Ytgflfjmlhapplaa

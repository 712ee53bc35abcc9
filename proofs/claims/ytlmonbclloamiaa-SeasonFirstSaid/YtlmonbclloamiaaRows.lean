/-
  No cell of these rows narrows 'for every input' (looked for: loops, veiled, ifaces, maps, wideKeys, modest, calm, conditions, laid).
  DERIVED. THE GIVEN ROWS OF THIS SEAT. 6 by the template 'for every input the law returns true; each argument reads behind the call as it read before'; 0 by the template 'total and deterministic' (their statements: YtlmonbclloamiaaTotals.lean).
  GIVEN WITH THE SEED: the statements are not yours to turn. If you find one false, say at which input.
  Laid BY PROGRAM, IN A SANDBOX (cutbox-rows.mjs): the forced cells as the released guide's own fill.sh prints them over the translation c99446dd168b8b16… (all of the seat's roots in one cut). By AI agents, Wed Nov 11 2026. No macro, syntax, notation, axiom, sorry.
-/
import Derived.Test.YtlmonbclloamiaaChecked
import GoSem.Claim
import GoSem.ClaimJoined
import GoSem.ClaimMapViews
import Derived.JoinedTies
import Derived.KernelRfl
namespace Go.Proofs.Ytlmonbclloamiaa
/- THE CELL 'sum', in the pinned program and in every row, IS THE sha256 OF THE DUMP (.gsa) THAT YtlmonbclloamiaaProg.lean LOADS. Nothing in Lean hashes anything: it is a label: what it is worth is what the hold of that sum in a sandbox is worth. -/
noncomputable def Try.pinned : Pinned := { name := "ytlmonbclloamiaa", sum := "c99446dd168b8b167c74c42e8ea1cb75459ff863ad4de5d1bf43e3149e5d5f8e", checked := Try.checked }
namespace Rows
def none {H : Type} : Left H := { results := [], args := [] }

/-- 'ciceronelaw44.SeasonMay': WHATEVER THE INPUT: true; the input reads as it did. -/
def seasonMaySpec : ChangeSpec := { name := "seasonMay", fn := fun _ => fun
  | [d1, d2, d3, d4] => { results := [.lit (.bool true)], args := [d1, d2, d3, d4] }
  | _ => none }
def seasonMayRow : OpenClaim := { program := "ytlmonbclloamiaa", sum := "c99446dd168b8b167c74c42e8ea1cb75459ff863ad4de5d1bf43e3149e5d5f8e", func := "cicerone/ciceronelaw44.SeasonMay", spec := "seasonMay", unfollowed := true, recurses := true, plainKeys := false, apart := false }
def SeasonMaySaid : Prop := seasonMayRow.holds Try.pinned (OpenSpec.ofChange seasonMaySpec)

/-- ITS FALSE NEIGHBOUR: 'it returns false'. Refute it at one input. -/
def seasonMayWrong : ChangeSpec := { name := "seasonMay", fn := fun _ => fun
  | [d1, d2, d3, d4] => { results := [.lit (.bool false)], args := [d1, d2, d3, d4] }
  | _ => none }
def SeasonMayWrongFalsely : Prop := seasonMayRow.holds Try.pinned (OpenSpec.ofChange seasonMayWrong)

/-- 'ciceronelaw44.SeasonTells': WHATEVER THE INPUT: true; the input reads as it did. -/
def seasonTellsSpec : ChangeSpec := { name := "seasonTells", fn := fun _ => fun
  | [d1, d2, d3, d4, d5] => { results := [.lit (.bool true)], args := [d1, d2, d3, d4, d5] }
  | _ => none }
def seasonTellsRow : OpenClaim := { program := "ytlmonbclloamiaa", sum := "c99446dd168b8b167c74c42e8ea1cb75459ff863ad4de5d1bf43e3149e5d5f8e", func := "cicerone/ciceronelaw44.SeasonTells", spec := "seasonTells", unfollowed := true, recurses := true, plainKeys := false, apart := false }
def SeasonTellsSaid : Prop := seasonTellsRow.holds Try.pinned (OpenSpec.ofChange seasonTellsSpec)

/-- ITS FALSE NEIGHBOUR: 'it returns false'. Refute it at one input. -/
def seasonTellsWrong : ChangeSpec := { name := "seasonTells", fn := fun _ => fun
  | [d1, d2, d3, d4, d5] => { results := [.lit (.bool false)], args := [d1, d2, d3, d4, d5] }
  | _ => none }
def SeasonTellsWrongFalsely : Prop := seasonTellsRow.holds Try.pinned (OpenSpec.ofChange seasonTellsWrong)

/-- 'ciceronelaw44.SeasonOdds': WHATEVER THE INPUT: true; the input reads as it did. -/
def seasonOddsSpec : ChangeSpec := { name := "seasonOdds", fn := fun _ => fun
  | [d1, d2, d3, d4, d5] => { results := [.lit (.bool true)], args := [d1, d2, d3, d4, d5] }
  | _ => none }
def seasonOddsRow : OpenClaim := { program := "ytlmonbclloamiaa", sum := "c99446dd168b8b167c74c42e8ea1cb75459ff863ad4de5d1bf43e3149e5d5f8e", func := "cicerone/ciceronelaw44.SeasonOdds", spec := "seasonOdds", unfollowed := true, recurses := true, plainKeys := false, apart := false }
def SeasonOddsSaid : Prop := seasonOddsRow.holds Try.pinned (OpenSpec.ofChange seasonOddsSpec)

/-- ITS FALSE NEIGHBOUR: 'it returns false'. Refute it at one input. -/
def seasonOddsWrong : ChangeSpec := { name := "seasonOdds", fn := fun _ => fun
  | [d1, d2, d3, d4, d5] => { results := [.lit (.bool false)], args := [d1, d2, d3, d4, d5] }
  | _ => none }
def SeasonOddsWrongFalsely : Prop := seasonOddsRow.holds Try.pinned (OpenSpec.ofChange seasonOddsWrong)

/-- 'ciceronelaw44.SeasonEven': WHATEVER THE INPUT: true; the input reads as it did. -/
def seasonEvenSpec : ChangeSpec := { name := "seasonEven", fn := fun _ => fun
  | [d1, d2, d3, d4, d5, d6] => { results := [.lit (.bool true)], args := [d1, d2, d3, d4, d5, d6] }
  | _ => none }
def seasonEvenRow : OpenClaim := { program := "ytlmonbclloamiaa", sum := "c99446dd168b8b167c74c42e8ea1cb75459ff863ad4de5d1bf43e3149e5d5f8e", func := "cicerone/ciceronelaw44.SeasonEven", spec := "seasonEven", unfollowed := true, recurses := true, plainKeys := false, apart := false }
def SeasonEvenSaid : Prop := seasonEvenRow.holds Try.pinned (OpenSpec.ofChange seasonEvenSpec)

/-- ITS FALSE NEIGHBOUR: 'it returns false'. Refute it at one input. -/
def seasonEvenWrong : ChangeSpec := { name := "seasonEven", fn := fun _ => fun
  | [d1, d2, d3, d4, d5, d6] => { results := [.lit (.bool false)], args := [d1, d2, d3, d4, d5, d6] }
  | _ => none }
def SeasonEvenWrongFalsely : Prop := seasonEvenRow.holds Try.pinned (OpenSpec.ofChange seasonEvenWrong)

/-- 'ciceronelaw44.SeasonOther': WHATEVER THE INPUT: true; the input reads as it did. -/
def seasonOtherSpec : ChangeSpec := { name := "seasonOther", fn := fun _ => fun
  | [d1, d2, d3, d4, d5, d6] => { results := [.lit (.bool true)], args := [d1, d2, d3, d4, d5, d6] }
  | _ => none }
def seasonOtherRow : OpenClaim := { program := "ytlmonbclloamiaa", sum := "c99446dd168b8b167c74c42e8ea1cb75459ff863ad4de5d1bf43e3149e5d5f8e", func := "cicerone/ciceronelaw44.SeasonOther", spec := "seasonOther", unfollowed := true, recurses := true, plainKeys := false, apart := false }
def SeasonOtherSaid : Prop := seasonOtherRow.holds Try.pinned (OpenSpec.ofChange seasonOtherSpec)

/-- ITS FALSE NEIGHBOUR: 'it returns false'. Refute it at one input. -/
def seasonOtherWrong : ChangeSpec := { name := "seasonOther", fn := fun _ => fun
  | [d1, d2, d3, d4, d5, d6] => { results := [.lit (.bool false)], args := [d1, d2, d3, d4, d5, d6] }
  | _ => none }
def SeasonOtherWrongFalsely : Prop := seasonOtherRow.holds Try.pinned (OpenSpec.ofChange seasonOtherWrong)

/-- 'ciceronelaw44.SeasonFirst': WHATEVER THE INPUT: true; the input reads as it did. -/
def seasonFirstSpec : ChangeSpec := { name := "seasonFirst", fn := fun _ => fun
  | [d1, d2, d3, d4, d5] => { results := [.lit (.bool true)], args := [d1, d2, d3, d4, d5] }
  | _ => none }
def seasonFirstRow : OpenClaim := { program := "ytlmonbclloamiaa", sum := "c99446dd168b8b167c74c42e8ea1cb75459ff863ad4de5d1bf43e3149e5d5f8e", func := "cicerone/ciceronelaw44.SeasonFirst", spec := "seasonFirst", unfollowed := true, recurses := true, plainKeys := false, apart := false }
def SeasonFirstSaid : Prop := seasonFirstRow.holds Try.pinned (OpenSpec.ofChange seasonFirstSpec)

/-- ITS FALSE NEIGHBOUR: 'it returns false'. Refute it at one input. -/
def seasonFirstWrong : ChangeSpec := { name := "seasonFirst", fn := fun _ => fun
  | [d1, d2, d3, d4, d5] => { results := [.lit (.bool false)], args := [d1, d2, d3, d4, d5] }
  | _ => none }
def SeasonFirstWrongFalsely : Prop := seasonFirstRow.holds Try.pinned (OpenSpec.ofChange seasonFirstWrong)

/- THE SECOND FORM. 'bulk': how many values and letters a reading holds, each counted each time it is reached (what is shared counts as often as it is met; a slice's spare places count too). A statement '..UptoSaid' is the law's where the arguments, and the package variables that the reading takes, are together of bulk at most 1048576: NARROWER than '..Said'. Prove '..Said' where nothing that the law and all that it calls make is longer than what came in: it says more and counts as full. Else prove '..UptoSaid'. A law counts once. -/
mutual
def uptoBulk {H : Type} : DataW H → Nat
  | .lit (.string bytes) => bytes.length + 1
  | .lit _ => 1
  | .nil => 1
  | .ptr d => uptoBulk d + 1
  | .slice elems spare => uptoBulkAll elems + uptoBulkAll spare + 1
  | .agg parts => uptoBulkAll parts + 1
  | .iface _ d => uptoBulk d + 1
  | .map entries => uptoBulkEntries entries + 1
  | .held _ => 1
def uptoBulkAll {H : Type} : List (DataW H) → Nat
  | [] => 0
  | d :: r => uptoBulk d + uptoBulkAll r
def uptoBulkEntries {H : Type} : List (Lit × DataW H) → Nat
  | [] => 0
  | x :: r => uptoBulkEntry x + uptoBulkEntries r
def uptoBulkEntry {H : Type} : Lit × DataW H → Nat
  | (.string bytes, d) => bytes.length + uptoBulk d + 1
  | (_, d) => uptoBulk d + 1
 end
def uptoSmall : (H : Type) → List (DataW H) → Bool := fun _ ds => decide (uptoBulkAll ds ≤ 1048576)
def OpenSpec.upto (s : _root_.Go.ChangeSpec) : _root_.Go.OpenSpec := { _root_.Go.OpenSpec.ofChange s with cond := some uptoSmall }

/-- 'ciceronelaw44.SeasonMay', WHERE WHAT IT READS IS OF BULK AT MOST 1048576: true; the input reads as it did. -/
def seasonMayUptoRow : OpenClaim := { program := "ytlmonbclloamiaa", sum := "c99446dd168b8b167c74c42e8ea1cb75459ff863ad4de5d1bf43e3149e5d5f8e", func := "cicerone/ciceronelaw44.SeasonMay", spec := "seasonMay", unfollowed := true, recurses := true, plainKeys := false, apart := false, narrowed := true }
def SeasonMayUptoSaid : Prop := seasonMayUptoRow.holds Try.pinned (OpenSpec.upto seasonMaySpec)

/-- 'ciceronelaw44.SeasonTells', WHERE WHAT IT READS IS OF BULK AT MOST 1048576: true; the input reads as it did. -/
def seasonTellsUptoRow : OpenClaim := { program := "ytlmonbclloamiaa", sum := "c99446dd168b8b167c74c42e8ea1cb75459ff863ad4de5d1bf43e3149e5d5f8e", func := "cicerone/ciceronelaw44.SeasonTells", spec := "seasonTells", unfollowed := true, recurses := true, plainKeys := false, apart := false, narrowed := true }
def SeasonTellsUptoSaid : Prop := seasonTellsUptoRow.holds Try.pinned (OpenSpec.upto seasonTellsSpec)

/-- 'ciceronelaw44.SeasonOdds', WHERE WHAT IT READS IS OF BULK AT MOST 1048576: true; the input reads as it did. -/
def seasonOddsUptoRow : OpenClaim := { program := "ytlmonbclloamiaa", sum := "c99446dd168b8b167c74c42e8ea1cb75459ff863ad4de5d1bf43e3149e5d5f8e", func := "cicerone/ciceronelaw44.SeasonOdds", spec := "seasonOdds", unfollowed := true, recurses := true, plainKeys := false, apart := false, narrowed := true }
def SeasonOddsUptoSaid : Prop := seasonOddsUptoRow.holds Try.pinned (OpenSpec.upto seasonOddsSpec)

/-- 'ciceronelaw44.SeasonEven', WHERE WHAT IT READS IS OF BULK AT MOST 1048576: true; the input reads as it did. -/
def seasonEvenUptoRow : OpenClaim := { program := "ytlmonbclloamiaa", sum := "c99446dd168b8b167c74c42e8ea1cb75459ff863ad4de5d1bf43e3149e5d5f8e", func := "cicerone/ciceronelaw44.SeasonEven", spec := "seasonEven", unfollowed := true, recurses := true, plainKeys := false, apart := false, narrowed := true }
def SeasonEvenUptoSaid : Prop := seasonEvenUptoRow.holds Try.pinned (OpenSpec.upto seasonEvenSpec)

/-- 'ciceronelaw44.SeasonOther', WHERE WHAT IT READS IS OF BULK AT MOST 1048576: true; the input reads as it did. -/
def seasonOtherUptoRow : OpenClaim := { program := "ytlmonbclloamiaa", sum := "c99446dd168b8b167c74c42e8ea1cb75459ff863ad4de5d1bf43e3149e5d5f8e", func := "cicerone/ciceronelaw44.SeasonOther", spec := "seasonOther", unfollowed := true, recurses := true, plainKeys := false, apart := false, narrowed := true }
def SeasonOtherUptoSaid : Prop := seasonOtherUptoRow.holds Try.pinned (OpenSpec.upto seasonOtherSpec)

/-- 'ciceronelaw44.SeasonFirst', WHERE WHAT IT READS IS OF BULK AT MOST 1048576: true; the input reads as it did. -/
def seasonFirstUptoRow : OpenClaim := { program := "ytlmonbclloamiaa", sum := "c99446dd168b8b167c74c42e8ea1cb75459ff863ad4de5d1bf43e3149e5d5f8e", func := "cicerone/ciceronelaw44.SeasonFirst", spec := "seasonFirst", unfollowed := true, recurses := true, plainKeys := false, apart := false, narrowed := true }
def SeasonFirstUptoSaid : Prop := seasonFirstUptoRow.holds Try.pinned (OpenSpec.upto seasonFirstSpec)

end Rows
end Go.Proofs.Ytlmonbclloamiaa

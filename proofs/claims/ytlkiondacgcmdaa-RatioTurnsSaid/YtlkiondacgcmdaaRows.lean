/-
  No cell of these rows narrows 'for every input' (looked for: loops, veiled, ifaces, maps, wideKeys, modest, calm, conditions, laid).
  DERIVED. THE GIVEN ROWS OF THIS SEAT. 8 by the template 'for every input the law returns true; each argument reads behind the call as it read before'; 0 by the template 'total and deterministic' (their statements: YtlkiondacgcmdaaTotals.lean).
  GIVEN WITH THE SEED: the statements are not yours to turn. If you find one false, say at which input.
  Laid BY PROGRAM, IN A SANDBOX (cutbox-rows.mjs): the forced cells as the released guide's own fill.sh prints them over the translation 5f79fa0e77ac9e48… (all of the seat's roots in one cut). By AI agents, Wed Nov 11 2026. No macro, syntax, notation, axiom, sorry.
-/
import Derived.Test.YtlkiondacgcmdaaChecked
import GoSem.Claim
import GoSem.ClaimJoined
import GoSem.ClaimMapViews
import Derived.JoinedTies
import Derived.KernelRfl
namespace Go.Proofs.Ytlkiondacgcmdaa
/- THE CELL 'sum', in the pinned program and in every row, IS THE sha256 OF THE DUMP (.gsa) THAT YtlkiondacgcmdaaProg.lean LOADS. Nothing in Lean hashes anything: it is a label: what it is worth is what the hold of that sum in a sandbox is worth. -/
noncomputable def Try.pinned : Pinned := { name := "ytlkiondacgcmdaa", sum := "5f79fa0e77ac9e481fd6d26512cd78991ef2ea163ed46bebab3f5df1f40ca365", checked := Try.checked }
namespace Rows
def none {H : Type} : Left H := { results := [], args := [] }

/-- 'ciceronelaw01.RatioProducts': WHATEVER THE INPUT: true; the input reads as it did. -/
def ratioProductsSpec : ChangeSpec := { name := "ratioProducts", fn := fun _ => fun
  | [d1, d2] => { results := [.lit (.bool true)], args := [d1, d2] }
  | _ => none }
def ratioProductsRow : OpenClaim := { program := "ytlkiondacgcmdaa", sum := "5f79fa0e77ac9e481fd6d26512cd78991ef2ea163ed46bebab3f5df1f40ca365", func := "cicerone/ciceronelaw01.RatioProducts", spec := "ratioProducts", inPlace := ["math/bits.Add64"], named := ["math/bits.divideError", "math/bits.overflowError"], apart := false }
def RatioProductsSaid : Prop := ratioProductsRow.holds Try.pinned (OpenSpec.ofChange ratioProductsSpec)

/-- ITS FALSE NEIGHBOUR: 'it returns false'. Refute it at one input. -/
def ratioProductsWrong : ChangeSpec := { name := "ratioProducts", fn := fun _ => fun
  | [d1, d2] => { results := [.lit (.bool false)], args := [d1, d2] }
  | _ => none }
def RatioProductsWrongFalsely : Prop := ratioProductsRow.holds Try.pinned (OpenSpec.ofChange ratioProductsWrong)

/-- 'ciceronelaw01.RatioScales': WHATEVER THE INPUT: true; the input reads as it did. -/
def ratioScalesSpec : ChangeSpec := { name := "ratioScales", fn := fun _ => fun
  | [d1, d2, d3] => { results := [.lit (.bool true)], args := [d1, d2, d3] }
  | _ => none }
def ratioScalesRow : OpenClaim := { program := "ytlkiondacgcmdaa", sum := "5f79fa0e77ac9e481fd6d26512cd78991ef2ea163ed46bebab3f5df1f40ca365", func := "cicerone/ciceronelaw01.RatioScales", spec := "ratioScales", inPlace := ["math/bits.Add64"], named := ["math/bits.divideError", "math/bits.overflowError"], apart := false }
def RatioScalesSaid : Prop := ratioScalesRow.holds Try.pinned (OpenSpec.ofChange ratioScalesSpec)

/-- ITS FALSE NEIGHBOUR: 'it returns false'. Refute it at one input. -/
def ratioScalesWrong : ChangeSpec := { name := "ratioScales", fn := fun _ => fun
  | [d1, d2, d3] => { results := [.lit (.bool false)], args := [d1, d2, d3] }
  | _ => none }
def RatioScalesWrongFalsely : Prop := ratioScalesRow.holds Try.pinned (OpenSpec.ofChange ratioScalesWrong)

/-- 'ciceronelaw01.RatioLeft': WHATEVER THE INPUT: true; the input reads as it did. -/
def ratioLeftSpec : ChangeSpec := { name := "ratioLeft", fn := fun _ => fun
  | [d1, d2, d3] => { results := [.lit (.bool true)], args := [d1, d2, d3] }
  | _ => none }
def ratioLeftRow : OpenClaim := { program := "ytlkiondacgcmdaa", sum := "5f79fa0e77ac9e481fd6d26512cd78991ef2ea163ed46bebab3f5df1f40ca365", func := "cicerone/ciceronelaw01.RatioLeft", spec := "ratioLeft", inPlace := ["math/bits.Add64"], named := ["math/bits.divideError", "math/bits.overflowError"], apart := false }
def RatioLeftSaid : Prop := ratioLeftRow.holds Try.pinned (OpenSpec.ofChange ratioLeftSpec)

/-- ITS FALSE NEIGHBOUR: 'it returns false'. Refute it at one input. -/
def ratioLeftWrong : ChangeSpec := { name := "ratioLeft", fn := fun _ => fun
  | [d1, d2, d3] => { results := [.lit (.bool false)], args := [d1, d2, d3] }
  | _ => none }
def RatioLeftWrongFalsely : Prop := ratioLeftRow.holds Try.pinned (OpenSpec.ofChange ratioLeftWrong)

/-- 'ciceronelaw01.RatioSums': WHATEVER THE INPUT: true; the input reads as it did. -/
def ratioSumsSpec : ChangeSpec := { name := "ratioSums", fn := fun _ => fun
  | [d] => { results := [.lit (.bool true)], args := [d] }
  | _ => none }
def ratioSumsRow : OpenClaim := { program := "ytlkiondacgcmdaa", sum := "5f79fa0e77ac9e481fd6d26512cd78991ef2ea163ed46bebab3f5df1f40ca365", func := "cicerone/ciceronelaw01.RatioSums", spec := "ratioSums", inPlace := ["math/bits.Add64"], named := ["math/bits.divideError", "math/bits.overflowError"], apart := false }
def RatioSumsSaid : Prop := ratioSumsRow.holds Try.pinned (OpenSpec.ofChange ratioSumsSpec)

/-- ITS FALSE NEIGHBOUR: 'it returns false'. Refute it at one input. -/
def ratioSumsWrong : ChangeSpec := { name := "ratioSums", fn := fun _ => fun
  | [d] => { results := [.lit (.bool false)], args := [d] }
  | _ => none }
def RatioSumsWrongFalsely : Prop := ratioSumsRow.holds Try.pinned (OpenSpec.ofChange ratioSumsWrong)

/-- 'ciceronelaw01.RatioCompares': WHATEVER THE INPUT: true; the input reads as it did. -/
def ratioComparesSpec : ChangeSpec := { name := "ratioCompares", fn := fun _ => fun
  | [d1, d2] => { results := [.lit (.bool true)], args := [d1, d2] }
  | _ => none }
def ratioComparesRow : OpenClaim := { program := "ytlkiondacgcmdaa", sum := "5f79fa0e77ac9e481fd6d26512cd78991ef2ea163ed46bebab3f5df1f40ca365", func := "cicerone/ciceronelaw01.RatioCompares", spec := "ratioCompares", inPlace := ["math/bits.Add64"], named := ["math/bits.divideError", "math/bits.overflowError"], apart := false }
def RatioComparesSaid : Prop := ratioComparesRow.holds Try.pinned (OpenSpec.ofChange ratioComparesSpec)

/-- ITS FALSE NEIGHBOUR: 'it returns false'. Refute it at one input. -/
def ratioComparesWrong : ChangeSpec := { name := "ratioCompares", fn := fun _ => fun
  | [d1, d2] => { results := [.lit (.bool false)], args := [d1, d2] }
  | _ => none }
def RatioComparesWrongFalsely : Prop := ratioComparesRow.holds Try.pinned (OpenSpec.ofChange ratioComparesWrong)

/-- 'ciceronelaw01.RatioOrders': WHATEVER THE INPUT: true; the input reads as it did. -/
def ratioOrdersSpec : ChangeSpec := { name := "ratioOrders", fn := fun _ => fun
  | [d1, d2, d3] => { results := [.lit (.bool true)], args := [d1, d2, d3] }
  | _ => none }
def ratioOrdersRow : OpenClaim := { program := "ytlkiondacgcmdaa", sum := "5f79fa0e77ac9e481fd6d26512cd78991ef2ea163ed46bebab3f5df1f40ca365", func := "cicerone/ciceronelaw01.RatioOrders", spec := "ratioOrders", inPlace := ["math/bits.Add64"], named := ["math/bits.divideError", "math/bits.overflowError"], apart := false }
def RatioOrdersSaid : Prop := ratioOrdersRow.holds Try.pinned (OpenSpec.ofChange ratioOrdersSpec)

/-- ITS FALSE NEIGHBOUR: 'it returns false'. Refute it at one input. -/
def ratioOrdersWrong : ChangeSpec := { name := "ratioOrders", fn := fun _ => fun
  | [d1, d2, d3] => { results := [.lit (.bool false)], args := [d1, d2, d3] }
  | _ => none }
def RatioOrdersWrongFalsely : Prop := ratioOrdersRow.holds Try.pinned (OpenSpec.ofChange ratioOrdersWrong)

/-- 'ciceronelaw01.RatioTimes': WHATEVER THE INPUT: true; the input reads as it did. -/
def ratioTimesSpec : ChangeSpec := { name := "ratioTimes", fn := fun _ => fun
  | [d1, d2] => { results := [.lit (.bool true)], args := [d1, d2] }
  | _ => none }
def ratioTimesRow : OpenClaim := { program := "ytlkiondacgcmdaa", sum := "5f79fa0e77ac9e481fd6d26512cd78991ef2ea163ed46bebab3f5df1f40ca365", func := "cicerone/ciceronelaw01.RatioTimes", spec := "ratioTimes", inPlace := ["math/bits.Add64"], named := ["math/bits.divideError", "math/bits.overflowError"], apart := false }
def RatioTimesSaid : Prop := ratioTimesRow.holds Try.pinned (OpenSpec.ofChange ratioTimesSpec)

/-- ITS FALSE NEIGHBOUR: 'it returns false'. Refute it at one input. -/
def ratioTimesWrong : ChangeSpec := { name := "ratioTimes", fn := fun _ => fun
  | [d1, d2] => { results := [.lit (.bool false)], args := [d1, d2] }
  | _ => none }
def RatioTimesWrongFalsely : Prop := ratioTimesRow.holds Try.pinned (OpenSpec.ofChange ratioTimesWrong)

/-- 'ciceronelaw01.RatioTurns': WHATEVER THE INPUT: true; the input reads as it did. -/
def ratioTurnsSpec : ChangeSpec := { name := "ratioTurns", fn := fun _ => fun
  | [d1, d2] => { results := [.lit (.bool true)], args := [d1, d2] }
  | _ => none }
def ratioTurnsRow : OpenClaim := { program := "ytlkiondacgcmdaa", sum := "5f79fa0e77ac9e481fd6d26512cd78991ef2ea163ed46bebab3f5df1f40ca365", func := "cicerone/ciceronelaw01.RatioTurns", spec := "ratioTurns", inPlace := ["math/bits.Add64"], named := ["math/bits.divideError", "math/bits.overflowError"], apart := false }
def RatioTurnsSaid : Prop := ratioTurnsRow.holds Try.pinned (OpenSpec.ofChange ratioTurnsSpec)

/-- ITS FALSE NEIGHBOUR: 'it returns false'. Refute it at one input. -/
def ratioTurnsWrong : ChangeSpec := { name := "ratioTurns", fn := fun _ => fun
  | [d1, d2] => { results := [.lit (.bool false)], args := [d1, d2] }
  | _ => none }
def RatioTurnsWrongFalsely : Prop := ratioTurnsRow.holds Try.pinned (OpenSpec.ofChange ratioTurnsWrong)

/- THE SECOND FORM. 'bulk': how many values and letters a reading holds, each counted each time it is reached (what is shared counts as often as it is met; a slice's spare places count too). A statement '..UptoSaid' is the law's where the arguments, and the package variables that the reading takes, are together of bulk at most 1048576: NARROWER than '..Said'. Prove '..Said' where nothing that the law and all that it calls make is longer than what came in: it says more and counts as full. Else prove '..UptoSaid'. A law counts once. -/
mutual
def uptoBulk {H : Type} : DataW H → Nat
  | .lit (.string bytes) => bytes.length + 1
  | .lit _ => 1
  | .nil => 1
  | .ptr d => uptoBulk d + 1
  | .slice elems spare => uptoBulkAll elems + uptoBulkAll spare + 1
  | .agg parts => uptoBulkAll parts + 1
  | .iface _ d => uptoBulk d + 1
  | .map entries => uptoBulkEntries entries + 1
  | .held _ => 1
def uptoBulkAll {H : Type} : List (DataW H) → Nat
  | [] => 0
  | d :: r => uptoBulk d + uptoBulkAll r
def uptoBulkEntries {H : Type} : List (Lit × DataW H) → Nat
  | [] => 0
  | x :: r => uptoBulkEntry x + uptoBulkEntries r
def uptoBulkEntry {H : Type} : Lit × DataW H → Nat
  | (.string bytes, d) => bytes.length + uptoBulk d + 1
  | (_, d) => uptoBulk d + 1
 end
def uptoSmall : (H : Type) → List (DataW H) → Bool := fun _ ds => decide (uptoBulkAll ds ≤ 1048576)
def OpenSpec.upto (s : _root_.Go.ChangeSpec) : _root_.Go.OpenSpec := { _root_.Go.OpenSpec.ofChange s with cond := some uptoSmall }

/-- 'ciceronelaw01.RatioProducts', WHERE WHAT IT READS IS OF BULK AT MOST 1048576: true; the input reads as it did. -/
def ratioProductsUptoRow : OpenClaim := { program := "ytlkiondacgcmdaa", sum := "5f79fa0e77ac9e481fd6d26512cd78991ef2ea163ed46bebab3f5df1f40ca365", func := "cicerone/ciceronelaw01.RatioProducts", spec := "ratioProducts", inPlace := ["math/bits.Add64"], named := ["math/bits.divideError", "math/bits.overflowError"], apart := false, narrowed := true }
def RatioProductsUptoSaid : Prop := ratioProductsUptoRow.holds Try.pinned (OpenSpec.upto ratioProductsSpec)

/-- 'ciceronelaw01.RatioScales', WHERE WHAT IT READS IS OF BULK AT MOST 1048576: true; the input reads as it did. -/
def ratioScalesUptoRow : OpenClaim := { program := "ytlkiondacgcmdaa", sum := "5f79fa0e77ac9e481fd6d26512cd78991ef2ea163ed46bebab3f5df1f40ca365", func := "cicerone/ciceronelaw01.RatioScales", spec := "ratioScales", inPlace := ["math/bits.Add64"], named := ["math/bits.divideError", "math/bits.overflowError"], apart := false, narrowed := true }
def RatioScalesUptoSaid : Prop := ratioScalesUptoRow.holds Try.pinned (OpenSpec.upto ratioScalesSpec)

/-- 'ciceronelaw01.RatioLeft', WHERE WHAT IT READS IS OF BULK AT MOST 1048576: true; the input reads as it did. -/
def ratioLeftUptoRow : OpenClaim := { program := "ytlkiondacgcmdaa", sum := "5f79fa0e77ac9e481fd6d26512cd78991ef2ea163ed46bebab3f5df1f40ca365", func := "cicerone/ciceronelaw01.RatioLeft", spec := "ratioLeft", inPlace := ["math/bits.Add64"], named := ["math/bits.divideError", "math/bits.overflowError"], apart := false, narrowed := true }
def RatioLeftUptoSaid : Prop := ratioLeftUptoRow.holds Try.pinned (OpenSpec.upto ratioLeftSpec)

/-- 'ciceronelaw01.RatioSums', WHERE WHAT IT READS IS OF BULK AT MOST 1048576: true; the input reads as it did. -/
def ratioSumsUptoRow : OpenClaim := { program := "ytlkiondacgcmdaa", sum := "5f79fa0e77ac9e481fd6d26512cd78991ef2ea163ed46bebab3f5df1f40ca365", func := "cicerone/ciceronelaw01.RatioSums", spec := "ratioSums", inPlace := ["math/bits.Add64"], named := ["math/bits.divideError", "math/bits.overflowError"], apart := false, narrowed := true }
def RatioSumsUptoSaid : Prop := ratioSumsUptoRow.holds Try.pinned (OpenSpec.upto ratioSumsSpec)

/-- 'ciceronelaw01.RatioCompares', WHERE WHAT IT READS IS OF BULK AT MOST 1048576: true; the input reads as it did. -/
def ratioComparesUptoRow : OpenClaim := { program := "ytlkiondacgcmdaa", sum := "5f79fa0e77ac9e481fd6d26512cd78991ef2ea163ed46bebab3f5df1f40ca365", func := "cicerone/ciceronelaw01.RatioCompares", spec := "ratioCompares", inPlace := ["math/bits.Add64"], named := ["math/bits.divideError", "math/bits.overflowError"], apart := false, narrowed := true }
def RatioComparesUptoSaid : Prop := ratioComparesUptoRow.holds Try.pinned (OpenSpec.upto ratioComparesSpec)

/-- 'ciceronelaw01.RatioOrders', WHERE WHAT IT READS IS OF BULK AT MOST 1048576: true; the input reads as it did. -/
def ratioOrdersUptoRow : OpenClaim := { program := "ytlkiondacgcmdaa", sum := "5f79fa0e77ac9e481fd6d26512cd78991ef2ea163ed46bebab3f5df1f40ca365", func := "cicerone/ciceronelaw01.RatioOrders", spec := "ratioOrders", inPlace := ["math/bits.Add64"], named := ["math/bits.divideError", "math/bits.overflowError"], apart := false, narrowed := true }
def RatioOrdersUptoSaid : Prop := ratioOrdersUptoRow.holds Try.pinned (OpenSpec.upto ratioOrdersSpec)

/-- 'ciceronelaw01.RatioTimes', WHERE WHAT IT READS IS OF BULK AT MOST 1048576: true; the input reads as it did. -/
def ratioTimesUptoRow : OpenClaim := { program := "ytlkiondacgcmdaa", sum := "5f79fa0e77ac9e481fd6d26512cd78991ef2ea163ed46bebab3f5df1f40ca365", func := "cicerone/ciceronelaw01.RatioTimes", spec := "ratioTimes", inPlace := ["math/bits.Add64"], named := ["math/bits.divideError", "math/bits.overflowError"], apart := false, narrowed := true }
def RatioTimesUptoSaid : Prop := ratioTimesUptoRow.holds Try.pinned (OpenSpec.upto ratioTimesSpec)

/-- 'ciceronelaw01.RatioTurns', WHERE WHAT IT READS IS OF BULK AT MOST 1048576: true; the input reads as it did. -/
def ratioTurnsUptoRow : OpenClaim := { program := "ytlkiondacgcmdaa", sum := "5f79fa0e77ac9e481fd6d26512cd78991ef2ea163ed46bebab3f5df1f40ca365", func := "cicerone/ciceronelaw01.RatioTurns", spec := "ratioTurns", inPlace := ["math/bits.Add64"], named := ["math/bits.divideError", "math/bits.overflowError"], apart := false, narrowed := true }
def RatioTurnsUptoSaid : Prop := ratioTurnsUptoRow.holds Try.pinned (OpenSpec.upto ratioTurnsSpec)

end Rows
end Go.Proofs.Ytlkiondacgcmdaa

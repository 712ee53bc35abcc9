/-
  No cell of these rows narrows 'for every input' (looked for: loops, veiled, ifaces, maps, wideKeys, modest, calm, conditions, laid).
  DERIVED. THE GIVEN ROWS OF THIS SEAT. 8 by the template 'for every input the law returns true; each argument reads behind the call as it read before'; 0 by the template 'total and deterministic' (their statements: YtcnddbcdkpdkbaaTotals.lean).
  GIVEN WITH THE SEED: the statements are not yours to turn. If you find one false, say at which input.
  Laid BY PROGRAM, IN A SANDBOX (cutbox-rows.mjs): the forced cells as the released guide's own fill.sh prints them over the translation 9c28e836f6092596… (all of the seat's roots in one cut). By AI agents, Wed Nov 11 2026. No macro, syntax, notation, axiom, sorry.
-/
import Derived.Test.YtcnddbcdkpdkbaaChecked
import GoSem.Claim
import GoSem.ClaimJoined
import GoSem.ClaimMapViews
import Derived.JoinedTies
import Derived.KernelRfl
namespace Go.Proofs.Ytcnddbcdkpdkbaa
/- THE CELL 'sum', in the pinned program and in every row, IS THE sha256 OF THE DUMP (.gsa) THAT YtcnddbcdkpdkbaaProg.lean LOADS. Nothing in Lean hashes anything: it is a label: what it is worth is what the hold of that sum in a sandbox is worth. -/
noncomputable def Try.pinned : Pinned := { name := "ytcnddbcdkpdkbaa", sum := "9c28e836f60925965ad6f25f7493647ca86db3ad09fc7d95ff0839ae4b6c4d0c", checked := Try.checked }
namespace Rows
def none {H : Type} : Left H := { results := [], args := [] }

/-- 'ciceronelaw12.SessionPlays': WHATEVER THE INPUT: true; the input reads as it did. -/
def sessionPlaysSpec : ChangeSpec := { name := "sessionPlays", fn := fun _ => fun
  | [d1, d2] => { results := [.lit (.bool true)], args := [d1, d2] }
  | _ => none }
def sessionPlaysRow : OpenClaim := { program := "ytcnddbcdkpdkbaa", sum := "9c28e836f60925965ad6f25f7493647ca86db3ad09fc7d95ff0839ae4b6c4d0c", func := "cicerone/ciceronelaw12.SessionPlays", spec := "sessionPlays", unfollowed := true, recurses := true, apart := false }
def SessionPlaysSaid : Prop := sessionPlaysRow.holds Try.pinned (OpenSpec.ofChange sessionPlaysSpec)

/-- ITS FALSE NEIGHBOUR: 'it returns false'. Refute it at one input. -/
def sessionPlaysWrong : ChangeSpec := { name := "sessionPlays", fn := fun _ => fun
  | [d1, d2] => { results := [.lit (.bool false)], args := [d1, d2] }
  | _ => none }
def SessionPlaysWrongFalsely : Prop := sessionPlaysRow.holds Try.pinned (OpenSpec.ofChange sessionPlaysWrong)

/-- 'ciceronelaw12.SessionLasts': WHATEVER THE INPUT: true; the input reads as it did. -/
def sessionLastsSpec : ChangeSpec := { name := "sessionLasts", fn := fun _ => fun
  | [d1, d2, d3, d4] => { results := [.lit (.bool true)], args := [d1, d2, d3, d4] }
  | _ => none }
def sessionLastsRow : OpenClaim := { program := "ytcnddbcdkpdkbaa", sum := "9c28e836f60925965ad6f25f7493647ca86db3ad09fc7d95ff0839ae4b6c4d0c", func := "cicerone/ciceronelaw12.SessionLasts", spec := "sessionLasts", unfollowed := true, recurses := true, apart := false }
def SessionLastsSaid : Prop := sessionLastsRow.holds Try.pinned (OpenSpec.ofChange sessionLastsSpec)

/-- ITS FALSE NEIGHBOUR: 'it returns false'. Refute it at one input. -/
def sessionLastsWrong : ChangeSpec := { name := "sessionLasts", fn := fun _ => fun
  | [d1, d2, d3, d4] => { results := [.lit (.bool false)], args := [d1, d2, d3, d4] }
  | _ => none }
def SessionLastsWrongFalsely : Prop := sessionLastsRow.holds Try.pinned (OpenSpec.ofChange sessionLastsWrong)

/-- 'ciceronelaw12.SessionOrder': WHATEVER THE INPUT: true; the input reads as it did. -/
def sessionOrderSpec : ChangeSpec := { name := "sessionOrder", fn := fun _ => fun
  | [d1, d2, d3] => { results := [.lit (.bool true)], args := [d1, d2, d3] }
  | _ => none }
def sessionOrderRow : OpenClaim := { program := "ytcnddbcdkpdkbaa", sum := "9c28e836f60925965ad6f25f7493647ca86db3ad09fc7d95ff0839ae4b6c4d0c", func := "cicerone/ciceronelaw12.SessionOrder", spec := "sessionOrder", unfollowed := true, recurses := true, apart := false }
def SessionOrderSaid : Prop := sessionOrderRow.holds Try.pinned (OpenSpec.ofChange sessionOrderSpec)

/-- ITS FALSE NEIGHBOUR: 'it returns false'. Refute it at one input. -/
def sessionOrderWrong : ChangeSpec := { name := "sessionOrder", fn := fun _ => fun
  | [d1, d2, d3] => { results := [.lit (.bool false)], args := [d1, d2, d3] }
  | _ => none }
def SessionOrderWrongFalsely : Prop := sessionOrderRow.holds Try.pinned (OpenSpec.ofChange sessionOrderWrong)

/-- 'ciceronelaw12.SessionApart': WHATEVER THE INPUT: true; the input reads as it did. -/
def sessionApartSpec : ChangeSpec := { name := "sessionApart", fn := fun _ => fun
  | [d1, d2] => { results := [.lit (.bool true)], args := [d1, d2] }
  | _ => none }
def sessionApartRow : OpenClaim := { program := "ytcnddbcdkpdkbaa", sum := "9c28e836f60925965ad6f25f7493647ca86db3ad09fc7d95ff0839ae4b6c4d0c", func := "cicerone/ciceronelaw12.SessionApart", spec := "sessionApart", unfollowed := true, recurses := true, apart := false }
def SessionApartSaid : Prop := sessionApartRow.holds Try.pinned (OpenSpec.ofChange sessionApartSpec)

/-- ITS FALSE NEIGHBOUR: 'it returns false'. Refute it at one input. -/
def sessionApartWrong : ChangeSpec := { name := "sessionApart", fn := fun _ => fun
  | [d1, d2] => { results := [.lit (.bool false)], args := [d1, d2] }
  | _ => none }
def SessionApartWrongFalsely : Prop := sessionApartRow.holds Try.pinned (OpenSpec.ofChange sessionApartWrong)

/-- 'ciceronelaw12.SessionGaps': WHATEVER THE INPUT: true; the input reads as it did. -/
def sessionGapsSpec : ChangeSpec := { name := "sessionGaps", fn := fun _ => fun
  | [d1, d2, d3] => { results := [.lit (.bool true)], args := [d1, d2, d3] }
  | _ => none }
def sessionGapsRow : OpenClaim := { program := "ytcnddbcdkpdkbaa", sum := "9c28e836f60925965ad6f25f7493647ca86db3ad09fc7d95ff0839ae4b6c4d0c", func := "cicerone/ciceronelaw12.SessionGaps", spec := "sessionGaps", unfollowed := true, recurses := true, apart := false }
def SessionGapsSaid : Prop := sessionGapsRow.holds Try.pinned (OpenSpec.ofChange sessionGapsSpec)

/-- ITS FALSE NEIGHBOUR: 'it returns false'. Refute it at one input. -/
def sessionGapsWrong : ChangeSpec := { name := "sessionGaps", fn := fun _ => fun
  | [d1, d2, d3] => { results := [.lit (.bool false)], args := [d1, d2, d3] }
  | _ => none }
def SessionGapsWrongFalsely : Prop := sessionGapsRow.holds Try.pinned (OpenSpec.ofChange sessionGapsWrong)

/-- 'ciceronelaw12.SessionDrops': WHATEVER THE INPUT: true; the input reads as it did. -/
def sessionDropsSpec : ChangeSpec := { name := "sessionDrops", fn := fun _ => fun
  | [d1, d2, d3, d4] => { results := [.lit (.bool true)], args := [d1, d2, d3, d4] }
  | _ => none }
def sessionDropsRow : OpenClaim := { program := "ytcnddbcdkpdkbaa", sum := "9c28e836f60925965ad6f25f7493647ca86db3ad09fc7d95ff0839ae4b6c4d0c", func := "cicerone/ciceronelaw12.SessionDrops", spec := "sessionDrops", unfollowed := true, recurses := true, apart := false }
def SessionDropsSaid : Prop := sessionDropsRow.holds Try.pinned (OpenSpec.ofChange sessionDropsSpec)

/-- ITS FALSE NEIGHBOUR: 'it returns false'. Refute it at one input. -/
def sessionDropsWrong : ChangeSpec := { name := "sessionDrops", fn := fun _ => fun
  | [d1, d2, d3, d4] => { results := [.lit (.bool false)], args := [d1, d2, d3, d4] }
  | _ => none }
def SessionDropsWrongFalsely : Prop := sessionDropsRow.holds Try.pinned (OpenSpec.ofChange sessionDropsWrong)

/-- 'ciceronelaw12.SessionKeyed': WHATEVER THE INPUT: true; the input reads as it did. -/
def sessionKeyedSpec : ChangeSpec := { name := "sessionKeyed", fn := fun _ => fun
  | [d1, d2, d3, d4] => { results := [.lit (.bool true)], args := [d1, d2, d3, d4] }
  | _ => none }
def sessionKeyedRow : OpenClaim := { program := "ytcnddbcdkpdkbaa", sum := "9c28e836f60925965ad6f25f7493647ca86db3ad09fc7d95ff0839ae4b6c4d0c", func := "cicerone/ciceronelaw12.SessionKeyed", spec := "sessionKeyed", unfollowed := true, recurses := true, apart := false }
def SessionKeyedSaid : Prop := sessionKeyedRow.holds Try.pinned (OpenSpec.ofChange sessionKeyedSpec)

/-- ITS FALSE NEIGHBOUR: 'it returns false'. Refute it at one input. -/
def sessionKeyedWrong : ChangeSpec := { name := "sessionKeyed", fn := fun _ => fun
  | [d1, d2, d3, d4] => { results := [.lit (.bool false)], args := [d1, d2, d3, d4] }
  | _ => none }
def SessionKeyedWrongFalsely : Prop := sessionKeyedRow.holds Try.pinned (OpenSpec.ofChange sessionKeyedWrong)

/-- 'ciceronelaw12.SessionMerges': WHATEVER THE INPUT: true; the input reads as it did. -/
def sessionMergesSpec : ChangeSpec := { name := "sessionMerges", fn := fun _ => fun
  | [d1, d2, d3, d4] => { results := [.lit (.bool true)], args := [d1, d2, d3, d4] }
  | _ => none }
def sessionMergesRow : OpenClaim := { program := "ytcnddbcdkpdkbaa", sum := "9c28e836f60925965ad6f25f7493647ca86db3ad09fc7d95ff0839ae4b6c4d0c", func := "cicerone/ciceronelaw12.SessionMerges", spec := "sessionMerges", unfollowed := true, recurses := true, apart := false }
def SessionMergesSaid : Prop := sessionMergesRow.holds Try.pinned (OpenSpec.ofChange sessionMergesSpec)

/-- ITS FALSE NEIGHBOUR: 'it returns false'. Refute it at one input. -/
def sessionMergesWrong : ChangeSpec := { name := "sessionMerges", fn := fun _ => fun
  | [d1, d2, d3, d4] => { results := [.lit (.bool false)], args := [d1, d2, d3, d4] }
  | _ => none }
def SessionMergesWrongFalsely : Prop := sessionMergesRow.holds Try.pinned (OpenSpec.ofChange sessionMergesWrong)

/- THE SECOND FORM. 'bulk': how many values and letters a reading holds, each counted each time it is reached (what is shared counts as often as it is met; a slice's spare places count too). A statement '..UptoSaid' is the law's where the arguments, and the package variables that the reading takes, are together of bulk at most 1048576: NARROWER than '..Said'. Prove '..Said' where nothing that the law and all that it calls make is longer than what came in: it says more and counts as full. Else prove '..UptoSaid'. A law counts once. -/
mutual
def uptoBulk {H : Type} : DataW H → Nat
  | .lit (.string bytes) => bytes.length + 1
  | .lit _ => 1
  | .nil => 1
  | .ptr d => uptoBulk d + 1
  | .slice elems spare => uptoBulkAll elems + uptoBulkAll spare + 1
  | .agg parts => uptoBulkAll parts + 1
  | .iface _ d => uptoBulk d + 1
  | .map entries => uptoBulkEntries entries + 1
  | .held _ => 1
def uptoBulkAll {H : Type} : List (DataW H) → Nat
  | [] => 0
  | d :: r => uptoBulk d + uptoBulkAll r
def uptoBulkEntries {H : Type} : List (Lit × DataW H) → Nat
  | [] => 0
  | x :: r => uptoBulkEntry x + uptoBulkEntries r
def uptoBulkEntry {H : Type} : Lit × DataW H → Nat
  | (.string bytes, d) => bytes.length + uptoBulk d + 1
  | (_, d) => uptoBulk d + 1
 end
def uptoSmall : (H : Type) → List (DataW H) → Bool := fun _ ds => decide (uptoBulkAll ds ≤ 1048576)
def OpenSpec.upto (s : _root_.Go.ChangeSpec) : _root_.Go.OpenSpec := { _root_.Go.OpenSpec.ofChange s with cond := some uptoSmall }

/-- 'ciceronelaw12.SessionPlays', WHERE WHAT IT READS IS OF BULK AT MOST 1048576: true; the input reads as it did. -/
def sessionPlaysUptoRow : OpenClaim := { program := "ytcnddbcdkpdkbaa", sum := "9c28e836f60925965ad6f25f7493647ca86db3ad09fc7d95ff0839ae4b6c4d0c", func := "cicerone/ciceronelaw12.SessionPlays", spec := "sessionPlays", unfollowed := true, recurses := true, apart := false, narrowed := true }
def SessionPlaysUptoSaid : Prop := sessionPlaysUptoRow.holds Try.pinned (OpenSpec.upto sessionPlaysSpec)

/-- 'ciceronelaw12.SessionLasts', WHERE WHAT IT READS IS OF BULK AT MOST 1048576: true; the input reads as it did. -/
def sessionLastsUptoRow : OpenClaim := { program := "ytcnddbcdkpdkbaa", sum := "9c28e836f60925965ad6f25f7493647ca86db3ad09fc7d95ff0839ae4b6c4d0c", func := "cicerone/ciceronelaw12.SessionLasts", spec := "sessionLasts", unfollowed := true, recurses := true, apart := false, narrowed := true }
def SessionLastsUptoSaid : Prop := sessionLastsUptoRow.holds Try.pinned (OpenSpec.upto sessionLastsSpec)

/-- 'ciceronelaw12.SessionOrder', WHERE WHAT IT READS IS OF BULK AT MOST 1048576: true; the input reads as it did. -/
def sessionOrderUptoRow : OpenClaim := { program := "ytcnddbcdkpdkbaa", sum := "9c28e836f60925965ad6f25f7493647ca86db3ad09fc7d95ff0839ae4b6c4d0c", func := "cicerone/ciceronelaw12.SessionOrder", spec := "sessionOrder", unfollowed := true, recurses := true, apart := false, narrowed := true }
def SessionOrderUptoSaid : Prop := sessionOrderUptoRow.holds Try.pinned (OpenSpec.upto sessionOrderSpec)

/-- 'ciceronelaw12.SessionApart', WHERE WHAT IT READS IS OF BULK AT MOST 1048576: true; the input reads as it did. -/
def sessionApartUptoRow : OpenClaim := { program := "ytcnddbcdkpdkbaa", sum := "9c28e836f60925965ad6f25f7493647ca86db3ad09fc7d95ff0839ae4b6c4d0c", func := "cicerone/ciceronelaw12.SessionApart", spec := "sessionApart", unfollowed := true, recurses := true, apart := false, narrowed := true }
def SessionApartUptoSaid : Prop := sessionApartUptoRow.holds Try.pinned (OpenSpec.upto sessionApartSpec)

/-- 'ciceronelaw12.SessionGaps', WHERE WHAT IT READS IS OF BULK AT MOST 1048576: true; the input reads as it did. -/
def sessionGapsUptoRow : OpenClaim := { program := "ytcnddbcdkpdkbaa", sum := "9c28e836f60925965ad6f25f7493647ca86db3ad09fc7d95ff0839ae4b6c4d0c", func := "cicerone/ciceronelaw12.SessionGaps", spec := "sessionGaps", unfollowed := true, recurses := true, apart := false, narrowed := true }
def SessionGapsUptoSaid : Prop := sessionGapsUptoRow.holds Try.pinned (OpenSpec.upto sessionGapsSpec)

/-- 'ciceronelaw12.SessionDrops', WHERE WHAT IT READS IS OF BULK AT MOST 1048576: true; the input reads as it did. -/
def sessionDropsUptoRow : OpenClaim := { program := "ytcnddbcdkpdkbaa", sum := "9c28e836f60925965ad6f25f7493647ca86db3ad09fc7d95ff0839ae4b6c4d0c", func := "cicerone/ciceronelaw12.SessionDrops", spec := "sessionDrops", unfollowed := true, recurses := true, apart := false, narrowed := true }
def SessionDropsUptoSaid : Prop := sessionDropsUptoRow.holds Try.pinned (OpenSpec.upto sessionDropsSpec)

/-- 'ciceronelaw12.SessionKeyed', WHERE WHAT IT READS IS OF BULK AT MOST 1048576: true; the input reads as it did. -/
def sessionKeyedUptoRow : OpenClaim := { program := "ytcnddbcdkpdkbaa", sum := "9c28e836f60925965ad6f25f7493647ca86db3ad09fc7d95ff0839ae4b6c4d0c", func := "cicerone/ciceronelaw12.SessionKeyed", spec := "sessionKeyed", unfollowed := true, recurses := true, apart := false, narrowed := true }
def SessionKeyedUptoSaid : Prop := sessionKeyedUptoRow.holds Try.pinned (OpenSpec.upto sessionKeyedSpec)

/-- 'ciceronelaw12.SessionMerges', WHERE WHAT IT READS IS OF BULK AT MOST 1048576: true; the input reads as it did. -/
def sessionMergesUptoRow : OpenClaim := { program := "ytcnddbcdkpdkbaa", sum := "9c28e836f60925965ad6f25f7493647ca86db3ad09fc7d95ff0839ae4b6c4d0c", func := "cicerone/ciceronelaw12.SessionMerges", spec := "sessionMerges", unfollowed := true, recurses := true, apart := false, narrowed := true }
def SessionMergesUptoSaid : Prop := sessionMergesUptoRow.holds Try.pinned (OpenSpec.upto sessionMergesSpec)

end Rows
end Go.Proofs.Ytcnddbcdkpdkbaa

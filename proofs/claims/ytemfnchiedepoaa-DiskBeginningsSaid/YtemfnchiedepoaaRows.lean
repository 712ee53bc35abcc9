/-
  No cell of these rows narrows 'for every input' (looked for: loops, veiled, ifaces, maps, wideKeys, modest, calm, conditions, laid).
  DERIVED. THE GIVEN ROWS OF THIS SEAT. 8 by the template 'for every input the law returns true; each argument reads behind the call as it read before'; 0 by the template 'total and deterministic' (their statements: YtemfnchiedepoaaTotals.lean).
  GIVEN WITH THE SEED: the statements are not yours to turn. If you find one false, say at which input.
  Laid BY PROGRAM, IN A SANDBOX (cutbox-rows.mjs): the forced cells as the released guide's own fill.sh prints them over the translation 852a83198ccbbf27… (all of the seat's roots in one cut). By AI agents, Wed Nov 11 2026. No macro, syntax, notation, axiom, sorry.
-/
import Derived.Test.YtemfnchiedepoaaChecked
import GoSem.Claim
import GoSem.ClaimJoined
import GoSem.ClaimMapViews
import Derived.JoinedTies
import Derived.KernelRfl
namespace Go.Proofs.Ytemfnchiedepoaa
/- THE CELL 'sum', in the pinned program and in every row, IS THE sha256 OF THE DUMP (.gsa) THAT YtemfnchiedepoaaProg.lean LOADS. Nothing in Lean hashes anything: it is a label: what it is worth is what the hold of that sum in a sandbox is worth. -/
noncomputable def Try.pinned : Pinned := { name := "ytemfnchiedepoaa", sum := "852a83198ccbbf27556cdac50d233d1372b6cc5f93798b73d61d02840d50d218", checked := Try.checked }
namespace Rows
def none {H : Type} : Left H := { results := [], args := [] }

/-- 'ciceronelaw04.DiskArms': WHATEVER THE INPUT: true; the input reads as it did. -/
def diskArmsSpec : ChangeSpec := { name := "diskArms", fn := fun _ => fun
  | [d1, d2] => { results := [.lit (.bool true)], args := [d1, d2] }
  | _ => none }
def diskArmsRow : OpenClaim := { program := "ytemfnchiedepoaa", sum := "852a83198ccbbf27556cdac50d233d1372b6cc5f93798b73d61d02840d50d218", func := "cicerone/ciceronelaw04.DiskArms", spec := "diskArms", unfollowed := true, recurses := true, apart := false }
def DiskArmsSaid : Prop := diskArmsRow.holds Try.pinned (OpenSpec.ofChange diskArmsSpec)

/-- ITS FALSE NEIGHBOUR: 'it returns false'. Refute it at one input. -/
def diskArmsWrong : ChangeSpec := { name := "diskArms", fn := fun _ => fun
  | [d1, d2] => { results := [.lit (.bool false)], args := [d1, d2] }
  | _ => none }
def DiskArmsWrongFalsely : Prop := diskArmsRow.holds Try.pinned (OpenSpec.ofChange diskArmsWrong)

/-- 'ciceronelaw04.DiskFull': WHATEVER THE INPUT: true; the input reads as it did. -/
def diskFullSpec : ChangeSpec := { name := "diskFull", fn := fun _ => fun
  | [d1, d2, d3] => { results := [.lit (.bool true)], args := [d1, d2, d3] }
  | _ => none }
def diskFullRow : OpenClaim := { program := "ytemfnchiedepoaa", sum := "852a83198ccbbf27556cdac50d233d1372b6cc5f93798b73d61d02840d50d218", func := "cicerone/ciceronelaw04.DiskFull", spec := "diskFull", unfollowed := true, recurses := true, apart := false }
def DiskFullSaid : Prop := diskFullRow.holds Try.pinned (OpenSpec.ofChange diskFullSpec)

/-- ITS FALSE NEIGHBOUR: 'it returns false'. Refute it at one input. -/
def diskFullWrong : ChangeSpec := { name := "diskFull", fn := fun _ => fun
  | [d1, d2, d3] => { results := [.lit (.bool false)], args := [d1, d2, d3] }
  | _ => none }
def DiskFullWrongFalsely : Prop := diskFullRow.holds Try.pinned (OpenSpec.ofChange diskFullWrong)

/-- 'ciceronelaw04.DiskReplaces': WHATEVER THE INPUT: true; the input reads as it did. -/
def diskReplacesSpec : ChangeSpec := { name := "diskReplaces", fn := fun _ => fun
  | [d1, d2, d3, d4, d5] => { results := [.lit (.bool true)], args := [d1, d2, d3, d4, d5] }
  | _ => none }
def diskReplacesRow : OpenClaim := { program := "ytemfnchiedepoaa", sum := "852a83198ccbbf27556cdac50d233d1372b6cc5f93798b73d61d02840d50d218", func := "cicerone/ciceronelaw04.DiskReplaces", spec := "diskReplaces", unfollowed := true, recurses := true, apart := false }
def DiskReplacesSaid : Prop := diskReplacesRow.holds Try.pinned (OpenSpec.ofChange diskReplacesSpec)

/-- ITS FALSE NEIGHBOUR: 'it returns false'. Refute it at one input. -/
def diskReplacesWrong : ChangeSpec := { name := "diskReplaces", fn := fun _ => fun
  | [d1, d2, d3, d4, d5] => { results := [.lit (.bool false)], args := [d1, d2, d3, d4, d5] }
  | _ => none }
def DiskReplacesWrongFalsely : Prop := diskReplacesRow.holds Try.pinned (OpenSpec.ofChange diskReplacesWrong)

/-- 'ciceronelaw04.DiskLasts': WHATEVER THE INPUT: true; the input reads as it did. -/
def diskLastsSpec : ChangeSpec := { name := "diskLasts", fn := fun _ => fun
  | [d1, d2, d3] => { results := [.lit (.bool true)], args := [d1, d2, d3] }
  | _ => none }
def diskLastsRow : OpenClaim := { program := "ytemfnchiedepoaa", sum := "852a83198ccbbf27556cdac50d233d1372b6cc5f93798b73d61d02840d50d218", func := "cicerone/ciceronelaw04.DiskLasts", spec := "diskLasts", unfollowed := true, recurses := true, apart := false }
def DiskLastsSaid : Prop := diskLastsRow.holds Try.pinned (OpenSpec.ofChange diskLastsSpec)

/-- ITS FALSE NEIGHBOUR: 'it returns false'. Refute it at one input. -/
def diskLastsWrong : ChangeSpec := { name := "diskLasts", fn := fun _ => fun
  | [d1, d2, d3] => { results := [.lit (.bool false)], args := [d1, d2, d3] }
  | _ => none }
def DiskLastsWrongFalsely : Prop := diskLastsRow.holds Try.pinned (OpenSpec.ofChange diskLastsWrong)

/-- 'ciceronelaw04.DiskPlays': WHATEVER THE INPUT: true; the input reads as it did. -/
def diskPlaysSpec : ChangeSpec := { name := "diskPlays", fn := fun _ => fun
  | [d1, d2] => { results := [.lit (.bool true)], args := [d1, d2] }
  | _ => none }
def diskPlaysRow : OpenClaim := { program := "ytemfnchiedepoaa", sum := "852a83198ccbbf27556cdac50d233d1372b6cc5f93798b73d61d02840d50d218", func := "cicerone/ciceronelaw04.DiskPlays", spec := "diskPlays", unfollowed := true, recurses := true, apart := false }
def DiskPlaysSaid : Prop := diskPlaysRow.holds Try.pinned (OpenSpec.ofChange diskPlaysSpec)

/-- ITS FALSE NEIGHBOUR: 'it returns false'. Refute it at one input. -/
def diskPlaysWrong : ChangeSpec := { name := "diskPlays", fn := fun _ => fun
  | [d1, d2] => { results := [.lit (.bool false)], args := [d1, d2] }
  | _ => none }
def DiskPlaysWrongFalsely : Prop := diskPlaysRow.holds Try.pinned (OpenSpec.ofChange diskPlaysWrong)

/-- 'ciceronelaw04.DiskBeginnings': WHATEVER THE INPUT: true; the input reads as it did. -/
def diskBeginningsSpec : ChangeSpec := { name := "diskBeginnings", fn := fun _ => fun
  | [d1, d2, d3] => { results := [.lit (.bool true)], args := [d1, d2, d3] }
  | _ => none }
def diskBeginningsRow : OpenClaim := { program := "ytemfnchiedepoaa", sum := "852a83198ccbbf27556cdac50d233d1372b6cc5f93798b73d61d02840d50d218", func := "cicerone/ciceronelaw04.DiskBeginnings", spec := "diskBeginnings", unfollowed := true, recurses := true, apart := false }
def DiskBeginningsSaid : Prop := diskBeginningsRow.holds Try.pinned (OpenSpec.ofChange diskBeginningsSpec)

/-- ITS FALSE NEIGHBOUR: 'it returns false'. Refute it at one input. -/
def diskBeginningsWrong : ChangeSpec := { name := "diskBeginnings", fn := fun _ => fun
  | [d1, d2, d3] => { results := [.lit (.bool false)], args := [d1, d2, d3] }
  | _ => none }
def DiskBeginningsWrongFalsely : Prop := diskBeginningsRow.holds Try.pinned (OpenSpec.ofChange diskBeginningsWrong)

/-- 'ciceronelaw04.DiskCopies': WHATEVER THE INPUT: true; the input reads as it did. -/
def diskCopiesSpec : ChangeSpec := { name := "diskCopies", fn := fun _ => fun
  | [d1, d2] => { results := [.lit (.bool true)], args := [d1, d2] }
  | _ => none }
def diskCopiesRow : OpenClaim := { program := "ytemfnchiedepoaa", sum := "852a83198ccbbf27556cdac50d233d1372b6cc5f93798b73d61d02840d50d218", func := "cicerone/ciceronelaw04.DiskCopies", spec := "diskCopies", unfollowed := true, recurses := true, apart := false }
def DiskCopiesSaid : Prop := diskCopiesRow.holds Try.pinned (OpenSpec.ofChange diskCopiesSpec)

/-- ITS FALSE NEIGHBOUR: 'it returns false'. Refute it at one input. -/
def diskCopiesWrong : ChangeSpec := { name := "diskCopies", fn := fun _ => fun
  | [d1, d2] => { results := [.lit (.bool false)], args := [d1, d2] }
  | _ => none }
def DiskCopiesWrongFalsely : Prop := diskCopiesRow.holds Try.pinned (OpenSpec.ofChange diskCopiesWrong)

/-- 'ciceronelaw04.DiskNames': WHATEVER THE INPUT: true; the input reads as it did. -/
def diskNamesSpec : ChangeSpec := { name := "diskNames", fn := fun _ => fun
  | [d] => { results := [.lit (.bool true)], args := [d] }
  | _ => none }
def diskNamesRow : OpenClaim := { program := "ytemfnchiedepoaa", sum := "852a83198ccbbf27556cdac50d233d1372b6cc5f93798b73d61d02840d50d218", func := "cicerone/ciceronelaw04.DiskNames", spec := "diskNames", unfollowed := true, recurses := true, apart := false }
def DiskNamesSaid : Prop := diskNamesRow.holds Try.pinned (OpenSpec.ofChange diskNamesSpec)

/-- ITS FALSE NEIGHBOUR: 'it returns false'. Refute it at one input. -/
def diskNamesWrong : ChangeSpec := { name := "diskNames", fn := fun _ => fun
  | [d] => { results := [.lit (.bool false)], args := [d] }
  | _ => none }
def DiskNamesWrongFalsely : Prop := diskNamesRow.holds Try.pinned (OpenSpec.ofChange diskNamesWrong)

/- THE SECOND FORM. 'bulk': how many values and letters a reading holds, each counted each time it is reached (what is shared counts as often as it is met; a slice's spare places count too). A statement '..UptoSaid' is the law's where the arguments, and the package variables that the reading takes, are together of bulk at most 1048576: NARROWER than '..Said'. Prove '..Said' where nothing that the law and all that it calls make is longer than what came in: it says more and counts as full. Else prove '..UptoSaid'. A law counts once. -/
mutual
def uptoBulk {H : Type} : DataW H → Nat
  | .lit (.string bytes) => bytes.length + 1
  | .lit _ => 1
  | .nil => 1
  | .ptr d => uptoBulk d + 1
  | .slice elems spare => uptoBulkAll elems + uptoBulkAll spare + 1
  | .agg parts => uptoBulkAll parts + 1
  | .iface _ d => uptoBulk d + 1
  | .map entries => uptoBulkEntries entries + 1
  | .held _ => 1
def uptoBulkAll {H : Type} : List (DataW H) → Nat
  | [] => 0
  | d :: r => uptoBulk d + uptoBulkAll r
def uptoBulkEntries {H : Type} : List (Lit × DataW H) → Nat
  | [] => 0
  | x :: r => uptoBulkEntry x + uptoBulkEntries r
def uptoBulkEntry {H : Type} : Lit × DataW H → Nat
  | (.string bytes, d) => bytes.length + uptoBulk d + 1
  | (_, d) => uptoBulk d + 1
 end
def uptoSmall : (H : Type) → List (DataW H) → Bool := fun _ ds => decide (uptoBulkAll ds ≤ 1048576)
def OpenSpec.upto (s : _root_.Go.ChangeSpec) : _root_.Go.OpenSpec := { _root_.Go.OpenSpec.ofChange s with cond := some uptoSmall }

/-- 'ciceronelaw04.DiskArms', WHERE WHAT IT READS IS OF BULK AT MOST 1048576: true; the input reads as it did. -/
def diskArmsUptoRow : OpenClaim := { program := "ytemfnchiedepoaa", sum := "852a83198ccbbf27556cdac50d233d1372b6cc5f93798b73d61d02840d50d218", func := "cicerone/ciceronelaw04.DiskArms", spec := "diskArms", unfollowed := true, recurses := true, apart := false, narrowed := true }
def DiskArmsUptoSaid : Prop := diskArmsUptoRow.holds Try.pinned (OpenSpec.upto diskArmsSpec)

/-- 'ciceronelaw04.DiskFull', WHERE WHAT IT READS IS OF BULK AT MOST 1048576: true; the input reads as it did. -/
def diskFullUptoRow : OpenClaim := { program := "ytemfnchiedepoaa", sum := "852a83198ccbbf27556cdac50d233d1372b6cc5f93798b73d61d02840d50d218", func := "cicerone/ciceronelaw04.DiskFull", spec := "diskFull", unfollowed := true, recurses := true, apart := false, narrowed := true }
def DiskFullUptoSaid : Prop := diskFullUptoRow.holds Try.pinned (OpenSpec.upto diskFullSpec)

/-- 'ciceronelaw04.DiskReplaces', WHERE WHAT IT READS IS OF BULK AT MOST 1048576: true; the input reads as it did. -/
def diskReplacesUptoRow : OpenClaim := { program := "ytemfnchiedepoaa", sum := "852a83198ccbbf27556cdac50d233d1372b6cc5f93798b73d61d02840d50d218", func := "cicerone/ciceronelaw04.DiskReplaces", spec := "diskReplaces", unfollowed := true, recurses := true, apart := false, narrowed := true }
def DiskReplacesUptoSaid : Prop := diskReplacesUptoRow.holds Try.pinned (OpenSpec.upto diskReplacesSpec)

/-- 'ciceronelaw04.DiskLasts', WHERE WHAT IT READS IS OF BULK AT MOST 1048576: true; the input reads as it did. -/
def diskLastsUptoRow : OpenClaim := { program := "ytemfnchiedepoaa", sum := "852a83198ccbbf27556cdac50d233d1372b6cc5f93798b73d61d02840d50d218", func := "cicerone/ciceronelaw04.DiskLasts", spec := "diskLasts", unfollowed := true, recurses := true, apart := false, narrowed := true }
def DiskLastsUptoSaid : Prop := diskLastsUptoRow.holds Try.pinned (OpenSpec.upto diskLastsSpec)

/-- 'ciceronelaw04.DiskPlays', WHERE WHAT IT READS IS OF BULK AT MOST 1048576: true; the input reads as it did. -/
def diskPlaysUptoRow : OpenClaim := { program := "ytemfnchiedepoaa", sum := "852a83198ccbbf27556cdac50d233d1372b6cc5f93798b73d61d02840d50d218", func := "cicerone/ciceronelaw04.DiskPlays", spec := "diskPlays", unfollowed := true, recurses := true, apart := false, narrowed := true }
def DiskPlaysUptoSaid : Prop := diskPlaysUptoRow.holds Try.pinned (OpenSpec.upto diskPlaysSpec)

/-- 'ciceronelaw04.DiskBeginnings', WHERE WHAT IT READS IS OF BULK AT MOST 1048576: true; the input reads as it did. -/
def diskBeginningsUptoRow : OpenClaim := { program := "ytemfnchiedepoaa", sum := "852a83198ccbbf27556cdac50d233d1372b6cc5f93798b73d61d02840d50d218", func := "cicerone/ciceronelaw04.DiskBeginnings", spec := "diskBeginnings", unfollowed := true, recurses := true, apart := false, narrowed := true }
def DiskBeginningsUptoSaid : Prop := diskBeginningsUptoRow.holds Try.pinned (OpenSpec.upto diskBeginningsSpec)

/-- 'ciceronelaw04.DiskCopies', WHERE WHAT IT READS IS OF BULK AT MOST 1048576: true; the input reads as it did. -/
def diskCopiesUptoRow : OpenClaim := { program := "ytemfnchiedepoaa", sum := "852a83198ccbbf27556cdac50d233d1372b6cc5f93798b73d61d02840d50d218", func := "cicerone/ciceronelaw04.DiskCopies", spec := "diskCopies", unfollowed := true, recurses := true, apart := false, narrowed := true }
def DiskCopiesUptoSaid : Prop := diskCopiesUptoRow.holds Try.pinned (OpenSpec.upto diskCopiesSpec)

/-- 'ciceronelaw04.DiskNames', WHERE WHAT IT READS IS OF BULK AT MOST 1048576: true; the input reads as it did. -/
def diskNamesUptoRow : OpenClaim := { program := "ytemfnchiedepoaa", sum := "852a83198ccbbf27556cdac50d233d1372b6cc5f93798b73d61d02840d50d218", func := "cicerone/ciceronelaw04.DiskNames", spec := "diskNames", unfollowed := true, recurses := true, apart := false, narrowed := true }
def DiskNamesUptoSaid : Prop := diskNamesUptoRow.holds Try.pinned (OpenSpec.upto diskNamesSpec)

end Rows
end Go.Proofs.Ytemfnchiedepoaa

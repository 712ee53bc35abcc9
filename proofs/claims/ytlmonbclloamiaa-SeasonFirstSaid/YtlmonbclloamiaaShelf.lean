/-
  DERIVED: THE SHELF's CONTRACTS AT THIS DUMP, IN PLAIN WORDS (tools/lay-plain.mjs out of 'TryShelf.lean', which tools/lay-shelf.mjs wrote): THE SAME DECLARATIONS UNDER THE SAME NAMES: 'import', 'namespace', 'open', 'def', 'theorem' AND NOTHING ELSE: no command of the shelf's: FOR A HAND-IN. Each laying: the table of numbers ('.._ren') and one theorem, a field a fact of the dump's own or the kernel's comparison; each contract: ONE APPLICATION.
-/
import Derived.Shelf.Sort.Plain
import Derived.Shelf.Slices.In.SortNone
import Derived.Test.YtlmonbclloamiaaProg
namespace Go.Proofs
open Go.Shelf
def Try.lays190_ren : Go.Shelf.Ren := ⟨fun | 190 => 39 | 125 => 45 | 258 => 44 | 128 => 55 | 129 => 56 | 302 => 46 | 303 => 47 | 304 => 48 | 305 => 49 | 306 => 50 | 307 => 51 | 308 => 52 | 309 => 53 | 310 => 54 | 333 => 57 | 329 => 58 | 330 => 59 | 334 => 60 | 335 => 61 | 336 => 62 | 344 => 63 | n => n, fun | 31 => 30 | 9 => 9 | 3 => 3 | 46 => 83 | 0 => 0 | 51 => 95 | 53 => 76 | 4 => 4 | 183 => 87 | 182 => 86 | 131 => 92 | 5 => 5 | 218 => 97 | 222 => 101 | 228 => 104 | 229 => 105 | n => n, fun | n => n⟩
theorem Try.lays190 : Go.Proofs.Lays.n190 Try.prog Try.lays190_ren := {
  mixed := by kernel_rfl
  f125 := Try.func45.trans (congrArg some (by kernel_rfl))
  f128 := Try.func55.trans (congrArg some (by kernel_rfl))
  f129 := Try.func56.trans (congrArg some (by kernel_rfl))
  f190 := Try.func39.trans (congrArg some (by kernel_rfl))
  f258 := Try.func44.trans (congrArg some (by kernel_rfl))
  f302 := Try.func46.trans (congrArg some (by kernel_rfl))
  f303 := Try.func47.trans (congrArg some (by kernel_rfl))
  f304 := Try.func48.trans (congrArg some (by kernel_rfl))
  f305 := Try.func49.trans (congrArg some (by kernel_rfl))
  f306 := Try.func50.trans (congrArg some (by kernel_rfl))
  f307 := Try.func51.trans (congrArg some (by kernel_rfl))
  f308 := Try.func52.trans (congrArg some (by kernel_rfl))
  f309 := Try.func53.trans (congrArg some (by kernel_rfl))
  f310 := Try.func54.trans (congrArg some (by kernel_rfl))
  f329 := Try.func58.trans (congrArg some (by kernel_rfl))
  f330 := Try.func59.trans (congrArg some (by kernel_rfl))
  f333 := Try.func57.trans (congrArg some (by kernel_rfl))
  f334 := Try.func60.trans (congrArg some (by kernel_rfl))
  f335 := Try.func61.trans (congrArg some (by kernel_rfl))
  f336 := Try.func62.trans (congrArg some (by kernel_rfl))
  f344 := Try.func63.trans (congrArg some (by kernel_rfl))
  t0 := Try.underlying0
  a0 := Try.isAgg0
  z0 := Try.sizeOf0
  v0 := Try.zeroValue0
  t3 := Try.underlying3
  a3 := Try.isAgg3
  z3 := Try.sizeOf3
  v3 := Try.zeroValue3
  t4 := Try.underlying4
  a4 := Try.isAgg4
  z4 := Try.sizeOf4
  v4 := Try.zeroValue4
  t5 := Try.underlying5
  a5 := Try.isAgg5
  z5 := Try.sizeOf5
  v5 := Try.zeroValue5
  t9 := Try.underlying9
  a9 := Try.isAgg9
  z9 := Try.sizeOf9
  v9 := Try.zeroValue9
  t31 := Try.underlying30
  a31 := Try.isAgg30
  z31 := Try.sizeOf30
  v31 := Try.zeroValue30
  t46 := Try.underlying83
  a46 := Try.isAgg83
  z46 := Try.sizeOf83
  v46 := Try.zeroValue83
  t51 := Try.underlying95
  a51 := Try.isAgg95
  z51 := Try.sizeOf95
  v51 := Try.zeroValue95
  t53 := Try.underlying76
  a53 := Try.isAgg76
  z53 := Try.sizeOf76
  v53 := Try.zeroValue76
  t131 := Try.underlying92
  a131 := Try.isAgg92
  z131 := Try.sizeOf92
  v131 := Try.zeroValue92
  t182 := Try.underlying86
  a182 := Try.isAgg86
  z182 := Try.sizeOf86
  v182 := Try.zeroValue86
  t183 := Try.underlying87
  a183 := Try.isAgg87
  z183 := Try.sizeOf87
  v183 := Try.zeroValue87
  t218 := Try.underlying97
  a218 := Try.isAgg97
  z218 := Try.sizeOf97
  v218 := Try.zeroValue97
  t222 := Try.underlying101
  a222 := Try.isAgg101
  z222 := Try.sizeOf101
  v222 := Try.zeroValue101
  t228 := Try.underlying104
  a228 := Try.isAgg104
  z228 := Try.sizeOf104
  v228 := Try.zeroValue104
  t229 := Try.underlying105
  a229 := Try.isAgg105
  z229 := Try.sizeOf105
  v229 := Try.zeroValue105 }
open Go.Sort Go.RowKit in
theorem Try.slices_Sort_string (blk off cap : Nat) (ss : List (List UInt8)) (w : World) (hH : Holds encStr w blk off ss.toArray) (hblk : blk < w.heap.size) (hsz : ss.length < 4611686018427387904) :
    Calls Try.prog 39 #[.slice (some ⟨blk, off, none⟩) ss.length cap] w fun e w' =>
      e = .returned (.tuple #[]) ∧ ∃ n os, w' = grow (putRow encStr (Sort.ahead w n) blk off (ss.mergeSort fun x y => decide (x ≤ y)).toArray) os := Any.slices_Sort_string Try.lays190 blk off cap ss w hH hblk hsz
open Go.RowKit Go.Sort in
/-- .. and plain. (LAID: no walk: one application.) -/
theorem Try.slices_Sort_string_none (p : Option Addr) (cap : Nat) (w : World) :
    Calls Try.prog 39 #[.slice p 0 cap] w fun e w' => e = .returned (.tuple #[]) ∧ w' = w := Any.slices_Sort_string_none Try.lays190 p cap w
end Go.Proofs

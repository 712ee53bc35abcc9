/- Contracts of slices.Sorted over maps.Keys and over slices.Values, of slices.Compact, at this dump. -/
import Derived.Test.YtbmjddmejmeknaaMapOwns
import Derived.Test.YtbmjddmejmeknaaIter
import Derived.Test.YtbmjddmejmeknaaQSeq
import Derived.Sort.OwnSorted
import Derived.Sort.Walk0
namespace Go.Proofs.Ytbmjddmejmeknaa.Pr
open Go.RowKit Go.MapKept Go.Maps Go.Sort Go.Shelf Go.WideShapes
open Go.WideElems (Fit rd rg)
set_option linter.unusedVariables false
theorem sortB_data (l : List ByteArray) : ((l.map fun s => s.data.toList).mergeSort fun x y => decide (x ≤ y)).map encStr = (sortB l).map Value.string := by
  unfold sortB
  rw [← List.map_mergeSort (f := fun s : ByteArray => s.data.toList) (r := fun a b : ByteArray => decide (a.data.toList ≤ b.data.toList)) (fun a _ b _ => rfl), List.map_map]
  rfl
theorem mp_str {w : World} {r : Nat} {m : List (ByteArray × Value)} (h : Mp encS okS w r m) : Mp Value.string (fun s => s.size ≤ maxLen) w r m := ⟨h.ok, h.nd, h.ex⟩
theorem Try.sortsS (m : Nat) : AnyZ.SortsIn Try.prog Try.sortedS_ren Fence.wide m :=
  ⟨fun blk off cap ss W hH hblk hsz => callsIn_wide.2 (AnyM.slices_Sort_string Try.sortS blk off cap ss W hH hblk hsz),
   fun p cap W => callsIn_wide.2 (AnyM.slices_Sort_string_none Try.sortS p cap W)⟩
/-- slices.Values -/
theorem values_fn (b : Option Addr) (n c : Nat) (w : World) :
    Calls Try.prog 50 #[.slice b n c] w fun e w' => e = .returned (.func (.func 68) #[] #[.pointer (some ⟨w.heap.size, 0, none⟩)]) ∧ w' = w.alloc (.cells #[.slice b n c] 29) := by
  go_enter Try.func50, Try.ntmps50
  go_wp2_with fail
  go_ret
  exact ⟨rfl, rfl⟩
def dat (s : ByteArray) : List UInt8 := s.data.toList
theorem encStr_dat (s : ByteArray) : encStr (dat s) = .string s := rfl
set_option maxRecDepth 100000 in
set_option maxHeartbeats 1000000 in
theorem values_gives (Bm : Nat) (b : Option Addr) (c : Nat) (xs : List ByteArray) (w : World) (hBm : Bm < w.heap.size) (hm : w.cell? ⟨Bm, 0, none⟩ = some (.slice b xs.length c)) (hxs : Strs w b xs) (hl : xs.length ≤ 1048576) :
    GivesB Fence.wide 2 Try.prog 68 #[.pointer (some ⟨Bm, 0, none⟩)] encStr (fun ss : List (List UInt8) => ss = xs.map dat) xs.length w := by
  intro l J W hW hJ hJB hY h0
  have hm' : W.cell? ⟨Bm, 0, none⟩ = some (.slice b xs.length c) := (hW.cell (p := ⟨Bm, 0, none⟩) hBm).trans hm
  refine callsIn_of_wp Try.func68 rfl trivial ?_ rfl
  simp only [Try.ntmps68, List.size_toArray, List.length_cons, List.length_nil, Nat.reduceAdd, Nat.reduceSub, Array.replicate_succ, Array.replicate_zero, List.push_toArray, List.append_toArray, List.nil_append, List.cons_append]
  gi_wp2
  gi_loopw [7] (fun s7 wr => ∃ k : Nat, s7 = .int .i64 k ∧ k ≤ xs.length ∧ J ((xs.map dat).take k) wr) (fun s7 wr => match s7 with | .int _ k => (xs.length : Int) - k |>.toNat | _ => 0)
  case atStart => exact ⟨0, rfl, Nat.zero_le _, h0⟩
  case round =>
    obtain ⟨k, rfl, hk, hJk⟩ := hrel
    by_cases hlt : k < xs.length
    · obtain ⟨s, hs⟩ : ∃ s, xs[k]? = some s := ⟨_, List.getElem?_eq_getElem hlt⟩
      have hb' := hJB _ _ hJk
      obtain ⟨B, off, rfl, hB, hcell⟩ := (hxs.bel hb').at hs
      have hlen : ((xs.map dat).take k).length < xs.length := by rw [List.length_take, List.length_map]; omega
      have hnext : (xs.map dat).take k ++ [dat s] = (xs.map dat).take (k + 1) := by
        rw [List.take_add_one, List.getElem?_map, hs]; rfl
      obtain ⟨fn, tmps, assign, body, hy, hR⟩ := hY _ (dat s) wr hJk hlen
      rw [encStr_dat] at hy
      have HR := Lib.hid hR
      clear hR hJk hlen hs hxs hJ hJB hb' hm hm'
      gi_wp2
      refine HR.out.mono ?_
      rintro e W3 ⟨rfl, hJ3, hk3⟩
      clear HR
      gi_wp2
      rw [hnext] at hJ3
      go_roundw
      case rel => exact ⟨k + 1, rfl, by omega, hJ3⟩
      case measure => simp; omega
    · obtain rfl : k = xs.length := by omega
      clear hxs hJ hJB hm hm' hY
      gi_wp2
      go_end0
      refine ⟨⟨_, rfl⟩, _, rfl, ?_⟩
      rw [List.take_of_length_le (by simp)] at hJk
      exact hJk
/-- slices.Sorted over slices.Values -/
theorem sortedV_any (Bm : Nat) (b : Option Addr) (c : Nat) (xs : List ByteArray) (w : World) (hBm : Bm < w.heap.size) (hm : w.cell? ⟨Bm, 0, none⟩ = some (.slice b xs.length c)) (hxs : Strs w b xs) (hl : xs.length ≤ 1048576) :
    Calls Try.prog 21 #[.func (.func 68) #[] #[.pointer (some ⟨Bm, 0, none⟩)]] w fun e w' => ∃ (v : Value), e = .returned v ∧ TextsAt w' v (sortB xs) ∧ (∀ b, v.ownBlock = some b → w.heap.size ≤ b) ∧ Below w.heap.size w w' := by
  have hseq := values_gives Bm b c xs w hBm hm hxs hl
  have cS := sortedSeqB Try.sortedS Fence.wide 5 trivial trivial trivial trivial rfl (by omega) (Try.sortsS _) (enters_of Try.func32 (by kernel_rfl) rfl) 68 #[.pointer (some ⟨Bm, 0, none⟩)] trivial (enters_of Try.func68 (by kernel_rfl) rfl) _ xs.length (by unfold maxLen; omega) (by omega) (fun ss h => by rw [h]; simp) _ hseq
  refine ((callsIn_wide (n := 5)).1 cS).mono ?_
  rintro e w' ⟨v, ss, rfl, rfl, hrow, hnil, hb⟩
  refine ⟨v, rfl, ?_, fun b hb' => (hrow.lt b hb').1, hb⟩
  unfold TextsAt
  have hrow2 := ownsRow_base_a hrow (Nat.zero_le _)
  have e1 : xs.map dat = xs.map fun s => s.data.toList := rfl
  rw [e1, sortB_data, List.length_map] at hrow2
  rw [(sortB_perm xs).length_eq]
  exact hrow2
end Go.Proofs.Ytbmjddmejmeknaa.Pr

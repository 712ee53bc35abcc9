/- Contracts of package disk: Read, and what Append refuses. -/
import Derived.Test.YtemfnchiedepoaaDk4
namespace Go.Proofs.Ytemfnchiedepoaa
open Go.RowKit Go.MapKept Go.Maps
set_option linter.unusedVariables false
/-- bytes that a call has made -/
structure ByMk (w0 wr : World) (v : Value) (s : ByteArray) : Prop where
  tx : wr.ownsRow 0 5 1 v s.size (bV s)
  nw : ∀ b, v.ownBlock = some b → w0.heap.size ≤ b
  bl : Below w0.heap.size w0 wr
theorem ByMk.nil (w : World) : ByMk w w (.slice none 0 0) ⟨#[]⟩ := ⟨own_nil w _, by simp [Value.ownBlock], Below.refl _ _⟩
theorem by_empty (w : World) : (w.alloc (.cells #[] 5)).ownsRow 0 5 1 (.slice (some ⟨w.heap.size, 0, none⟩) 0 0) ([] : List UInt8).length (([] : List UInt8).map byV) :=
  (MkG.empty (t := 5) (sz := 1) (f := fun c => [byV c]) w).tx
theorem by_made {w w1 w2 : World} {v : Value} {s : ByteArray} (hb : Below w.heap.size w w1) {k : Nat} (hk : w.heap.size ≤ k) {c : Nat} (ho : w2.ownsRow 0 5 1 v (([] : List UInt8) ++ s.data.toList).length ((([] : List UInt8) ++ s.data.toList).map byV)) (hf : Fr (fun b => (Value.slice (some ⟨k, 0, none⟩) 0 c).ownBlock = some b) w1 w2) (he : Hence (.slice (some ⟨k, 0, none⟩) 0 c) v w1) : ByMk w w2 v s := by
  refine ⟨?_, fun b hb' => ?_, hb.trans (hf.below hb.size (fun b hb' => ?_))⟩
  · rw [List.nil_append, len_data] at ho; exact ho
  · rcases he with e | e
    · rw [e] at hb'
      have : k = b := by simpa [Value.ownBlock] using hb'
      omega
    · have := Option.some.inj (e.symm.trans hb')
      have := hb.size
      omega
  · have : k = b := by simpa [Value.ownBlock] using hb'
    omega
section
variable {w : World} {d m : Nat} {M : FM} {used : Int} {lit : Bool} {fuse : Int} {down : Bool}
set_option maxRecDepth 100000 in
set_option maxHeartbeats 1000000 in
theorem read_no (h : DiskR w d m M used lit fuse down) (n : ByteArray) (hn : n.size ≤ 1000) (r : Int) (hr : foundN down n (mget M n).isSome = r) (hz : r ≠ 0) :
    Calls Try.prog 15 #[.pointer (some ⟨d, 0, none⟩), .string n] w fun e w' => e = .returned (.tuple #[.slice none 0 0, .int .i64 r]) ∧ w = w' := by
  have HA := Lib.hid (found_no h n hn r hr hz)
  have hin : -100 ≤ r ∧ r ≤ 100 := hr ▸ found_in _ _ _
  have t1 : (r == 0) = false := by simp [hz]
  clear h hr
  go_enter Try.func15, Try.ntmps15
  go_wp2_with fail
  refine HA.out.mono ?_
  rintro e wx ⟨rfl, rfl⟩
  go_wp2_with fail
  go_ret2
  exact ⟨rfl, rfl⟩
set_option maxRecDepth 100000 in
set_option maxHeartbeats 2000000 in
theorem read_yes (h : DiskR w d m M used lit fuse down) (n : ByteArray) (hn : n.size ≤ 1000) {q : Nat} {v : Value} {g : Fl} (hg : mget M n = some (q, v, g)) (hz : foundN down n true = 0) (hsz : g.s.size ≤ 5000000) :
    Calls Try.prog 15 #[.pointer (some ⟨d, 0, none⟩), .string n] w fun e w' => ∃ u, e = .returned (.tuple #[u, .int .i64 0]) ∧ ByMk w w' u g.s := by
  obtain ⟨i0, hi0T, hz0, hz1, hz2⟩ := info_parts infoByte
  have HA := Lib.hid (found_yes h n hn hg hz)
  have hfr : FileR w q v g := h.fl _ (mem_of_get hg)
  have r0 : w.cell? ⟨q, 0, none⟩ = some v := hfr.bk.cell 0
  have hlt := hfr.bk.lt
  obtain ⟨sb, cap, hv, _, _, hin, _⟩ := row_of_by hfr.row
  subst hv
  have HROW := Lib.hid (by_empty w)
  have HIN : Hid (ByIn (w.alloc (.cells #[] 5)) sb g.s) := Lib.hid (InW.fr hin (Fr.of_bel (S := none') ((Below.refl _ _).alloc (Nat.le_refl _) _)) (fun _ _ _ => id))
  have HN2 : Hid (g.s.size = g.s.data.toList.length) := Lib.hid (len_data g.s).symm
  have HLN : Hid (([] : List UInt8).length + g.s.data.toList.length ≤ 100000000) := Lib.hid (by rw [len_data]; simp; omega)
  have HBL := Lib.hid ((Below.refl w.heap.size w).alloc (Nat.le_refl _) (.cells #[] 5))
  clear h hg hz hfr hin
  go_enter Try.func15, Try.ntmps15
  go_wp2_with fail
  refine HA.out.mono ?_
  rintro e wx ⟨rfl, rfl⟩
  go_wp2_with (
    (at_builtin
     refine wpList_append_big byV byOne _ rfl _ _ _ rfl 5 i0 _ 1 Try.underlying28 hi0T hz0 hz1 hz2 rfl (by decide) (.slice (some ⟨w.heap.size, 0, none⟩) 0 0) ([] : List UInt8) g.s.data.toList rfl HROW.out sb g.s.size cap rfl HN2.out HIN.out HLN.out ?_
     intro v2 w2 o2 f2 e2
     have HM := Lib.hid (by_made HBL.out (Nat.le_refl _) o2 f2 e2)
     obtain ⟨vb, vc, hvv⟩ := row_shape HM.out.tx
     subst hvv
     clear o2 f2 e2))
  go_ret2
  exact ⟨_, rfl, HM.out⟩
set_option maxRecDepth 100000 in
set_option maxHeartbeats 1000000 in
theorem append_no (h : DiskR w d m M used lit fuse down) (n : ByteArray) (hn : n.size ≤ 1000) (sv : Value) (r : Int) (hr : askN down n = r) (hz : r ≠ 0) :
    Calls Try.prog 13 #[.pointer (some ⟨d, 0, none⟩), .string n, sv] w fun e w' => e = .returned (.int .i64 r) ∧ w = w' := by
  have ha := asked_any h n hn
  rw [hr] at ha
  have HA := Lib.hid ha
  have hin : -100 ≤ r ∧ r ≤ 100 := hr ▸ ask_in _ _
  have t1 : (r == 0) = false := by simp [hz]
  clear h hr ha
  go_enter Try.func13, Try.ntmps13
  go_wp2_with fail
  refine HA.out.mono ?_
  rintro e wx ⟨rfl, rfl⟩
  go_wp2_with fail
  go_ret
  exact ⟨rfl, rfl⟩
set_option maxRecDepth 100000 in
set_option maxHeartbeats 1000000 in
theorem append_full (h : DiskR w d m M used lit fuse down) (n : ByteArray) (sn : Nat) (sb : Option Addr) (cap : Nat) (hn : n.size ≤ 1000) (hsz : sn ≤ 5000000) (hu : -10000000 ≤ used ∧ used ≤ 10000000) (hml : M.length ≤ 1000000)
    (ha : askN down n = 0) (hfu : fullN used sn (mget M n).isSome M.length = true) :
    Calls Try.prog 13 #[.pointer (some ⟨d, 0, none⟩), .string n, .slice sb sn cap] w fun e w' => e = .returned (.int .i64 5) ∧ w = w' := by
  have hA := asked_any h n hn
  rw [ha] at hA
  have hF := full_any h n sn hn hu (by omega) hml
  rw [hfu] at hF
  have HA := Lib.hid hA
  have HF := Lib.hid hF
  clear h hA hF ha hfu
  go_enter Try.func13, Try.ntmps13
  go_wp2_with fail
  refine HA.out.mono ?_
  rintro e wx ⟨rfl, rfl⟩
  go_wp2_with fail
  refine HF.out.mono ?_
  rintro e wx ⟨rfl, rfl⟩
  go_wp2_with fail
  go_ret
  exact ⟨rfl, rfl⟩
end
end Go.Proofs.Ytemfnchiedepoaa

/- Contracts of package disk: Names. -/
import Derived.Test.YtemfnchiedepoaaDk6
import Derived.Test.YtemfnchiedepoaaMapOwns
import Derived.Test.YtemfnchiedepoaaIter
import Derived.Test.YtemfnchiedepoaaSortB
namespace Go.Proofs.Ytemfnchiedepoaa
open Go.RowKit Go.MapKept Go.Maps Go.Sort Go.Shelf
set_option linter.unusedVariables false
theorem sort_perm {l k : List ByteArray} (hp : l.Perm k) (hk : Rise k) : sortB l = k := by
  have hn : l.Nodup := hp.nodup_iff.2 hk.nodup
  refine Rise.ext (sortB_rise hn) hk (fun x => ?_)
  rw [(sortB_perm l).mem_iff, hp.mem_iff]
theorem mp_str {w : World} {r : Nat} {m : List (ByteArray × Value)} (h : Mp encS okS w r m) : Mp Value.string (fun s => s.size ≤ maxLen) w r m := ⟨h.ok, h.nd, h.ex⟩
theorem keys_fn (mb : Option Nat) (w : World) :
    Calls Try.prog 35 #[.map mb] w fun e w' => e = .returned (.func (.func 47) #[] #[.pointer (some ⟨w.heap.size, 0, none⟩)]) ∧ w' = w.alloc (.cells #[.map mb] 60) :=
  (callsIn_wide (n := 5)).1 (AnyZ.keys_in Try.keysA Fence.wide 5 trivial rfl mb w)
/-- slices.Collect of maps.Keys of a map of the call's own: its keys, in whatever order -/
theorem collect_any (r : Nat) (m : List (ByteArray × Value)) (w : World) (h : Mp encS okS w r m) (hm : m.length ≤ 1048576) (Bm : Nat) (hBm : Bm < w.heap.size) (hc : w.cell? ⟨Bm, 0, none⟩ = some (.map (some r))) :
    Calls Try.prog 45 #[.func (.func 47) #[] #[.pointer (some ⟨Bm, 0, none⟩)]] w fun e w' => ∃ (v : Value) (ks : List ByteArray), e = .returned v ∧ ks.Perm (mkeys m) ∧ MkT w w' v ks := by
  obtain ⟨D, hD, hp, hsz⟩ := mp_owns (P := Try.prog) (k := 9) Try.underlying9 (mp_str h) (by unfold maxLen; omega)
  have hseq : SeqGives Fence.wide 3 Try.prog 47 #[.pointer (some ⟨Bm, 0, none⟩)] encStr (fun ss => ss.Perm (strKeys D)) (Maps.size D) w :=
    AnyZ.keys_gives (ρ := Try.keysA_ren) { Try.keysA with } Fence.wide _ trivial rfl (by omega) Bm r m.length D _ hBm hc hD
  have cS := AnyZ.collect_in Try.collectA Fence.wide 5 trivial trivial rfl (by omega) 47 #[.pointer (some ⟨Bm, 0, none⟩)] trivial (enters_of Try.func47 (by kernel_rfl) rfl) _ _ (by rw [hsz]; unfold maxLen; omega) (by rw [hsz]; omega) _ hseq
  refine ((callsIn_wide (n := 5)).1 cS).mono ?_
  rintro e w' ⟨v, ss, rfl, hS, hrow, hnil, hb⟩
  have hpp : (ss.map fun l => (⟨l.toArray⟩ : ByteArray)).Perm (mkeys m) := by
    have := (hS.trans hp).map (fun l => (⟨l.toArray⟩ : ByteArray))
    rw [List.map_map] at this
    refine this.trans (List.Perm.of_eq ?_)
    unfold mkeys
    exact List.map_congr_left fun p _ => rfl
  refine ⟨v, ss.map fun l => ⟨l.toArray⟩, rfl, hpp, ?_, fun b hb' => (hrow.lt b hb').1, hb⟩
  unfold TextsAt
  rw [List.length_map, List.map_map]
  exact ownsRow_base_a hrow (Nat.zero_le _)
set_option maxRecDepth 100000 in
set_option maxHeartbeats 1000000 in
/-- slices.Sorted of them -/
theorem sorted_any (r : Nat) (m : List (ByteArray × Value)) (w : World) (h : Mp encS okS w r m) (hm : m.length ≤ 1048576) (Bm : Nat) (hBm : Bm < w.heap.size) (hc : w.cell? ⟨Bm, 0, none⟩ = some (.map (some r))) (k : List ByteArray) (hk : Rise k) (hmk : (mkeys m).Perm k) :
    Calls Try.prog 34 #[.func (.func 47) #[] #[.pointer (some ⟨Bm, 0, none⟩)]] w fun e w' => ∃ v : Value, e = .returned v ∧ MkT w w' v k := by
  have HC := Lib.hid (collect_any r m w h hm Bm hBm hc)
  have HK := Lib.hid hk
  have HMK := Lib.hid hmk
  have hkl : k.length ≤ 1048576 := by have := hmk.length_eq; simp [mkeys] at this; omega
  clear h hc hk hmk hm
  go_enter Try.func34, Try.ntmps34
  go_wp2_with fail
  refine HC.out.mono ?_
  rintro e w1 ⟨v, ks, rfl, hp, hmk1⟩
  have hlen : ks.length = k.length := (hp.trans HMK.out).length_eq
  have HS := Lib.hid (sort_texts v ks w1 hmk1.tx (by omega))
  have HM1 := Lib.hid hmk1
  have HE := Lib.hid (sort_perm (hp.trans HMK.out) HK.out)
  obtain ⟨sb, sc, hsv⟩ := row_shape hmk1.tx
  subst hsv
  have HL := Lib.hid hlen
  clear hp hmk1 hlen
  go_wp2_with fail
  refine HS.out.mono ?_
  rintro e w2 ⟨rfl, o2, f2⟩
  rw [HE.out] at o2
  have HM2 : Hid (MkT w w2 (.slice sb ks.length sc) k) := Lib.hid ⟨by unfold TextsAt; rw [← HL.out]; exact o2, HM1.out.nw, HM1.out.bl.trans (f2.below HM1.out.bl.size (fun b hb => HM1.out.nw b hb))⟩
  clear o2 f2
  go_wp2_with fail
  go_ret
  exact ⟨_, rfl, HM2.out⟩
set_option maxRecDepth 100000 in
set_option maxHeartbeats 1000000 in
theorem names_any {w : World} {d m : Nat} {M : FM} {used : Int} {lit : Bool} {fuse : Int} {down : Bool} (h : DiskR w d m M used lit fuse down) (hm : M.length ≤ 1048576) (k : List ByteArray) (hk : Rise k) (hmk : (mkeys M).Perm k) :
    Calls Try.prog 20 #[.pointer (some ⟨d, 0, none⟩)] w fun e w' => ∃ v : Value, e = .returned v ∧ MkT w w' v k := by
  obtain ⟨c0, c1, c2, c3, c4⟩ := h.cells
  have HKF := Lib.hid (keys_fn (some m) w)
  have hb1 := (Below.refl w.heap.size w).alloc (Nat.le_refl _) (.cells #[.map (some m)] 60)
  have hbk := Bk.new w [.map (some m)] 60
  have HB1 := Lib.hid hb1
  have HSO := Lib.hid (sorted_any m (ptrM M) (w.alloc (.cells #[.map (some m)] 60)) (h.mp.bel hb1) (by simpa [ptrM] using hm) w.heap.size hbk.lt (hbk.cell 0) k hk (by rw [ptr_keys]; exact hmk))
  clear h hb1 hbk hk hmk
  go_enter Try.func20, Try.ntmps20
  go_wp2_with fail
  refine HKF.out.mono ?_
  rintro e w1 ⟨rfl, rfl⟩
  go_wp2_with fail
  refine HSO.out.mono ?_
  rintro e w2 ⟨v, rfl, hm2⟩
  have HM : Hid (MkT w w2 v k) := Lib.hid ⟨hm2.tx, fun b hb => Nat.le_trans HB1.out.size (hm2.nw b hb), HB1.out.trans (hm2.bl.mono HB1.out.size)⟩
  obtain ⟨sb, sc, hsv⟩ := row_shape hm2.tx
  subst hsv
  clear hm2
  go_wp2_with fail
  go_ret
  exact ⟨_, rfl, HM.out⟩
end Go.Proofs.Ytemfnchiedepoaa

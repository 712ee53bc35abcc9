/- Contracts of maps.Clone, maps.Keys, slices.Collect at this dump. -/
import Derived.Test.YtdmcbndkfnlcjaaMapOwns
import Derived.Test.YtdmcbndkfnlcjaaIter
import Derived.Test.YtdmcbndkfnlcjaaPKeys3
namespace Go.Proofs.Ytdmcbndkfnlcjaa
open Go.RowKit Go.MapKept Go.Maps Go.Sort Go.Shelf
set_option linter.unusedVariables false
theorem clone_sums (r : Nat) (m : List (CK × Value)) (w : World) (h : Mp encC okC w r m) :
    Calls Try.prog 29 #[.map (some r)] w fun e w' => e = .returned (.map (some w.heap.size)) ∧ Mp encC okC w' w.heap.size m ∧ Below w.heap.size w w' ∧ w'.heap.size = w.heap.size + 1 := by
  obtain ⟨es, clock, hb, hc⟩ := h.cloned
  refine (AnyW.maps_Clone Try.cloneM r es clock w hb).mono ?_
  rintro e w' ⟨rfl, rfl⟩
  exact ⟨rfl, hc, (Below.refl _ _).alloc (Nat.le_refl _) _, by simp⟩
theorem mp_str {w : World} {r : Nat} {m : List (ByteArray × Value)} (h : Mp encS okS w r m) : Mp Value.string (fun s => s.size ≤ maxLen) w r m := ⟨h.ok, h.nd, h.ex⟩
theorem keys_fn (mb : Option Nat) (w : World) :
    Calls Try.prog 32 #[.map mb] w fun e w' => e = .returned (.func (.func 40) #[] #[.pointer (some ⟨w.heap.size, 0, none⟩)]) ∧ w' = w.alloc (.cells #[.map mb] 53) :=
  (callsIn_wide (n := 5)).1 (AnyZ.keys_in Try.keysA Fence.wide 5 trivial rfl mb w)
/-- slices.Collect of maps.Keys of a map of the call's own: its keys, in whatever order -/
theorem collect_any (r : Nat) (m : List (ByteArray × Value)) (w : World) (h : Mp encS okS w r m) (hm : m.length ≤ 1048576) (Bm : Nat) (hBm : Bm < w.heap.size) (hc : w.cell? ⟨Bm, 0, none⟩ = some (.map (some r))) :
    Calls Try.prog 31 #[.func (.func 40) #[] #[.pointer (some ⟨Bm, 0, none⟩)]] w fun e w' => ∃ (v : Value) (ks : List ByteArray), e = .returned v ∧ ks.Perm (mkeys m) ∧ TextsAt w' v ks ∧ (∀ b, v.ownBlock = some b → w.heap.size ≤ b) ∧ Below w.heap.size w w' := by
  obtain ⟨D, hD, hp, hsz⟩ := mp_owns (P := Try.prog) (k := 9) Try.underlying9 (mp_str h) (by unfold maxLen; omega)
  have hseq : SeqGives Fence.wide 3 Try.prog 40 #[.pointer (some ⟨Bm, 0, none⟩)] encStr (fun ss => ss.Perm (strKeys D)) (Maps.size D) w :=
    AnyZ.keys_gives (ρ := Try.keysA_ren) { Try.keysA with } Fence.wide _ trivial rfl (by omega) Bm r m.length D _ hBm hc hD
  have cS := AnyZ.collect_in Try.collectA Fence.wide 5 trivial trivial rfl (by omega) 40 #[.pointer (some ⟨Bm, 0, none⟩)] trivial (enters_of Try.func40 (by kernel_rfl) rfl) _ _ (by rw [hsz]; unfold maxLen; omega) (by rw [hsz]; omega) _ hseq
  refine ((callsIn_wide (n := 5)).1 cS).mono ?_
  rintro e w' ⟨v, ss, rfl, hS, hrow, hnil, hb⟩
  have hpp : (ss.map fun l => (⟨l.toArray⟩ : ByteArray)).Perm (mkeys m) := by
    have := (hS.trans hp).map (fun l => (⟨l.toArray⟩ : ByteArray))
    rw [List.map_map] at this
    refine this.trans (List.Perm.of_eq ?_)
    unfold mkeys
    exact List.map_congr_left fun p _ => rfl
  refine ⟨v, ss.map fun l => ⟨l.toArray⟩, rfl, hpp, ?_, fun b hb' => (hrow.lt b hb').1, hb⟩
  unfold TextsAt
  rw [List.length_map, List.map_map]
  exact ownsRow_base_a hrow (Nat.zero_le _)
end Go.Proofs.Ytdmcbndkfnlcjaa

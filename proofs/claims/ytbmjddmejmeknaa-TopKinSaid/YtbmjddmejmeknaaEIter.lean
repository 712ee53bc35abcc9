/- Contracts of slices.Sorted over maps.Keys, at this dump. -/
import Derived.Test.YtbmjddmejmeknaaMapOwns
import Derived.Test.YtbmjddmejmeknaaIter
import Derived.Test.YtbmjddmejmeknaaBase
import Derived.Sort.OwnSorted
import Derived.Sort.Walk0
namespace Go.Proofs.Ytbmjddmejmeknaa
open Go.RowKit Go.MapKept Go.Maps Go.Sort Go.Shelf Go.WideShapes
open Go.WideElems (Fit rd rg)
set_option linter.unusedVariables false
def encI (x : Int) : Value := .int .i64 x
def okI (x : Int) : Prop := (Lit.int .i64 x).wf = true
theorem keyI : KeyEnc Try.prog 3 encI okI where
  law := int_keyed Try.underlying3
  key := fun {a} h => ⟨_, keyOf_int_mk Try.underlying3 h⟩
  inj := fun {a b} h => by simpa [encI] using h
def intOfZ : Lit → Int
  | .int _ x => x
  | _ => 0
theorem sortB_data (l : List ByteArray) : ((l.map fun s => s.data.toList).mergeSort fun x y => decide (x ≤ y)).map encStr = (sortB l).map Value.string := by
  unfold sortB
  rw [← List.map_mergeSort (f := fun s : ByteArray => s.data.toList) (r := fun a b : ByteArray => decide (a.data.toList ≤ b.data.toList)) (fun a _ b _ => rfl), List.map_map]
  rfl
theorem mp_owns_i {P : Program} {k : TypeId} (hk : P.underlying k = some (.int .i64)) {w : World} {r : Nat} {m : List (Int × Value)} (h : Mp (Value.int .i64) (fun x => (Lit.int .i64 x).wf = true) w r m) (hm : m.length ≤ maxLen) :
    ∃ D : DataW Unit, w.ownsMap P k blind r m.length D ∧ (intKeys D).Perm (m.map fun p => p.1) ∧ Maps.size D = m.length := by
  obtain ⟨es, clock, hb, hs, he⟩ := h.ex
  have hl : es.toList.length = m.length := by have := congrArg List.length he; simpa using this
  have hkey : ∀ x ∈ es.toList, ∃ s : Int, (Lit.int .i64 s).wf = true ∧ x.key = .int .i64 s := fun x hx => by
    obtain ⟨j, hj, ej⟩ := List.mem_iff_getElem.1 hx
    obtain ⟨p, hp, h1, _⟩ := ent_at he (j := j) (e := x) (by rw [List.getElem?_eq_getElem hj, ej])
    exact ⟨p.1, h.ok p (List.mem_of_getElem? hp), h1⟩
  refine ⟨.map ((es.toList.map (rg P k blind)).foldr DataW.insert []), ⟨es, clock, hb, ⟨by simpa using (by omega : es.toList.length ≤ maxLen), hs, fun x hx => ?_⟩, by simpa using Nat.le_of_eq hl, rfl⟩, ?_, ?_⟩
  · obtain ⟨s, hs', e⟩ := hkey x hx
    refine ⟨(.int .i64 s, .nil), ?_⟩
    unfold WideElems.rd blind
    rw [e, keyOf_int_mk hk hs']
    rfl
  · have e0 : ∀ l : List (Lit × DataW Unit), intKeys (.map l) = l.map fun p => intOfZ p.1 := fun l => rfl
    rw [e0]
    refine ((sorted_perm (es.toList.map (rg P k blind))).map _).trans ?_
    rw [List.map_map]
    have e1 : es.toList.map ((fun p : Lit × DataW Unit => intOfZ p.1) ∘ rg P k blind) = (es.toList.map (fun e => (e.key, e.val))).map (fun q => intOfZ ((keyOf P k q.1).getD (.bool false))) := by
      rw [List.map_map]
      refine List.map_congr_left fun x _ => ?_
      simp only [Function.comp, blind_rg]
    rw [e1, he, List.map_map]
    refine List.Perm.of_eq (List.map_congr_left fun p hp => ?_)
    simp only [Function.comp, keyOf_int_mk hk (h.ok p hp)]
    rfl
  · show (List.length _) = _
    rw [(sorted_perm _).length_eq, List.length_map, hl]
theorem mp_str {w : World} {r : Nat} {m : List (ByteArray × Value)} (h : Mp encS okS w r m) : Mp Value.string (fun s => s.size ≤ maxLen) w r m := ⟨h.ok, h.nd, h.ex⟩
theorem mp_int {w : World} {r : Nat} {m : List (Int × Value)} (h : Mp encI okI w r m) : Mp (Value.int .i64) (fun x => (Lit.int .i64 x).wf = true) w r m := ⟨h.ok, h.nd, h.ex⟩
/-- numbers, rising -/
def RiseI (l : List Int) : Prop := l.Pairwise (· < ·)
def IntsAt (w : World) (v : Value) (l : List Int) : Prop := w.ownsRow 0 3 1 v l.length (l.map (Value.int .i64))
theorem sort_int_rise {l : List Int} (hn : l.Nodup) : RiseI (l.mergeSort fun x y => decide (x ≤ y)) := by
  have h1 : (l.mergeSort fun x y => decide (x ≤ y)).Pairwise (fun a b => decide (a ≤ b) = true) := List.pairwise_mergeSort
    (fun a b c h1 h2 => by simp only [decide_eq_true_eq] at *; omega)
    (fun a b => by simp only [Bool.or_eq_true, decide_eq_true_eq]; omega) l
  have h2 : (l.mergeSort fun x y => decide (x ≤ y)).Nodup := (List.mergeSort_perm _ _).nodup_iff.2 hn
  refine List.Pairwise.imp (R := fun a b => decide (a ≤ b) = true ∧ a ≠ b) (fun {a b} h => ?_) (List.Pairwise.and h1 h2)
  have := h.1
  simp only [decide_eq_true_eq] at this
  have := h.2
  omega
theorem Try.sortsS (m : Nat) : AnyZ.SortsIn Try.prog Try.sortedS_ren Fence.wide m :=
  ⟨fun blk off cap ss W hH hblk hsz => callsIn_wide.2 (AnyM.slices_Sort_string Try.sortS blk off cap ss W hH hblk hsz),
   fun p cap W => callsIn_wide.2 (AnyM.slices_Sort_string_none Try.sortS p cap W)⟩
theorem Try.sortsI (m : Nat) : AnyZI.SortsIn Try.prog Try.sortedI_ren Fence.wide m :=
  ⟨fun blk off cap ss W hH hblk hsz => callsIn_wide.2 (AnyM.slices_Sort_int Try.sortI blk off cap ss W hH hblk hsz),
   fun p cap W => callsIn_wide.2 (AnyM.slices_Sort_int_none Try.sortI p cap W)⟩
theorem keysP_fn (mb : Option Nat) (w : World) :
    Calls Try.prog 22 #[.map mb] w fun e w' => e = .returned (.func (.func 33) #[] #[.pointer (some ⟨w.heap.size, 0, none⟩)]) ∧ w' = w.alloc (.cells #[.map mb] 56) :=
  (callsIn_wide (n := 5)).1 (AnyZ.keys_in Try.keysP Fence.wide 5 trivial rfl mb w)
theorem sortedP_any (r : Nat) (m : List (ByteArray × Value)) (w : World) (h : Mp encS okS w r m) (hm : m.length ≤ 1048576) (Bm : Nat) (hBm : Bm < w.heap.size) (hc : w.cell? ⟨Bm, 0, none⟩ = some (.map (some r))) :
    Calls Try.prog 21 #[.func (.func 33) #[] #[.pointer (some ⟨Bm, 0, none⟩)]] w fun e w' => ∃ (v : Value) (ks : List ByteArray), e = .returned v ∧ Rise ks ∧ (∀ x, x ∈ ks ↔ x ∈ mkeys m) ∧ TextsAt w' v ks ∧ (∀ b, v.ownBlock = some b → w.heap.size ≤ b) ∧ Below w.heap.size w w' := by
  obtain ⟨D, hD, hp, hsz⟩ := mp_owns (P := Try.prog) (k := 9) Try.underlying9 (mp_str h) (by unfold maxLen; omega)
  have hseq : SeqGives Fence.wide 2 Try.prog 33 #[.pointer (some ⟨Bm, 0, none⟩)] encStr (fun ss => ss.Perm (strKeys D)) (Maps.size D) w :=
    AnyZ.keys_gives (ρ := Try.keysP_ren) { Try.keysP with } Fence.wide _ trivial rfl (by omega) Bm r m.length D _ hBm hc hD
  have cS := AnyZ.sorted_in Try.sortedS Fence.wide 5 trivial trivial trivial trivial rfl (by omega) (Try.sortsS _) (enters_of Try.func32 (by kernel_rfl) rfl) 33 #[.pointer (some ⟨Bm, 0, none⟩)] trivial (enters_of Try.func33 (by kernel_rfl) rfl) _ _ (by rw [hsz]; unfold maxLen; omega) (by rw [hsz]; omega) _ hseq
  refine ((callsIn_wide (n := 5)).1 cS).mono ?_
  rintro e w' ⟨v, ss, rfl, hS, hrow, hnil, hb⟩
  obtain ⟨l, hl⟩ : ∃ l : List ByteArray, l = ss.map fun x => ⟨x.toArray⟩ := ⟨_, rfl⟩
  have hss : l.map (fun s : ByteArray => s.data.toList) = ss := by
    rw [hl, List.map_map]
    refine (List.map_congr_left (fun a _ => ?_)).trans (List.map_id ss)
    simp
  have hpp : l.Perm (mkeys m) := by
    have := (hS.trans hp).map (fun l => (⟨l.toArray⟩ : ByteArray))
    rw [List.map_map] at this
    rw [hl]
    refine this.trans (List.Perm.of_eq ?_)
    unfold mkeys
    exact List.map_congr_left fun p _ => rfl
  have hnd : l.Nodup := hpp.nodup_iff.2 h.nd
  refine ⟨v, sortB l, rfl, sortB_rise hnd, fun x => ((sortB_perm l).mem_iff).trans hpp.mem_iff, ?_, fun b hb' => (hrow.lt b hb').1, hb⟩
  unfold TextsAt
  have hrow2 := ownsRow_base_a hrow (Nat.zero_le _)
  rw [← hss, sortB_data, List.length_map] at hrow2
  rw [(sortB_perm l).length_eq]
  exact hrow2
theorem keysB_fn (mb : Option Nat) (w : World) :
    Calls Try.prog 43 #[.map mb] w fun e w' => e = .returned (.func (.func 63) #[] #[.pointer (some ⟨w.heap.size, 0, none⟩)]) ∧ w' = w.alloc (.cells #[.map mb] 84) :=
  (callsIn_wide (n := 5)).1 (AnyZ.keys_in Try.keysB Fence.wide 5 trivial rfl mb w)
theorem sortedB_any (r : Nat) (m : List (ByteArray × Value)) (w : World) (h : Mp encS okS w r m) (hm : m.length ≤ 1048576) (Bm : Nat) (hBm : Bm < w.heap.size) (hc : w.cell? ⟨Bm, 0, none⟩ = some (.map (some r))) :
    Calls Try.prog 21 #[.func (.func 63) #[] #[.pointer (some ⟨Bm, 0, none⟩)]] w fun e w' => ∃ (v : Value) (ks : List ByteArray), e = .returned v ∧ Rise ks ∧ (∀ x, x ∈ ks ↔ x ∈ mkeys m) ∧ TextsAt w' v ks ∧ (∀ b, v.ownBlock = some b → w.heap.size ≤ b) ∧ Below w.heap.size w w' := by
  obtain ⟨D, hD, hp, hsz⟩ := mp_owns (P := Try.prog) (k := 9) Try.underlying9 (mp_str h) (by unfold maxLen; omega)
  have hseq : SeqGives Fence.wide 2 Try.prog 63 #[.pointer (some ⟨Bm, 0, none⟩)] encStr (fun ss => ss.Perm (strKeys D)) (Maps.size D) w :=
    AnyZ.keys_gives (ρ := Try.keysB_ren) { Try.keysB with } Fence.wide _ trivial rfl (by omega) Bm r m.length D _ hBm hc hD
  have cS := AnyZ.sorted_in Try.sortedS Fence.wide 5 trivial trivial trivial trivial rfl (by omega) (Try.sortsS _) (enters_of Try.func32 (by kernel_rfl) rfl) 63 #[.pointer (some ⟨Bm, 0, none⟩)] trivial (enters_of Try.func63 (by kernel_rfl) rfl) _ _ (by rw [hsz]; unfold maxLen; omega) (by rw [hsz]; omega) _ hseq
  refine ((callsIn_wide (n := 5)).1 cS).mono ?_
  rintro e w' ⟨v, ss, rfl, hS, hrow, hnil, hb⟩
  obtain ⟨l, hl⟩ : ∃ l : List ByteArray, l = ss.map fun x => ⟨x.toArray⟩ := ⟨_, rfl⟩
  have hss : l.map (fun s : ByteArray => s.data.toList) = ss := by
    rw [hl, List.map_map]
    refine (List.map_congr_left (fun a _ => ?_)).trans (List.map_id ss)
    simp
  have hpp : l.Perm (mkeys m) := by
    have := (hS.trans hp).map (fun l => (⟨l.toArray⟩ : ByteArray))
    rw [List.map_map] at this
    rw [hl]
    refine this.trans (List.Perm.of_eq ?_)
    unfold mkeys
    exact List.map_congr_left fun p _ => rfl
  have hnd : l.Nodup := hpp.nodup_iff.2 h.nd
  refine ⟨v, sortB l, rfl, sortB_rise hnd, fun x => ((sortB_perm l).mem_iff).trans hpp.mem_iff, ?_, fun b hb' => (hrow.lt b hb').1, hb⟩
  unfold TextsAt
  have hrow2 := ownsRow_base_a hrow (Nat.zero_le _)
  rw [← hss, sortB_data, List.length_map] at hrow2
  rw [(sortB_perm l).length_eq]
  exact hrow2
theorem keysT_fn (mb : Option Nat) (w : World) :
    Calls Try.prog 45 #[.map mb] w fun e w' => e = .returned (.func (.func 66) #[] #[.pointer (some ⟨w.heap.size, 0, none⟩)]) ∧ w' = w.alloc (.cells #[.map mb] 57) :=
  (callsIn_wide (n := 5)).1 (AnyZI.keys_in Try.keysT Fence.wide 5 trivial rfl mb w)
theorem sortedT_any (r : Nat) (m : List (Int × Value)) (w : World) (h : Mp encI okI w r m) (hm : m.length ≤ 1048576) (Bm : Nat) (hBm : Bm < w.heap.size) (hc : w.cell? ⟨Bm, 0, none⟩ = some (.map (some r))) :
    Calls Try.prog 44 #[.func (.func 66) #[] #[.pointer (some ⟨Bm, 0, none⟩)]] w fun e w' => ∃ (v : Value) (ks : List Int), e = .returned v ∧ RiseI ks ∧ (∀ x, x ∈ ks ↔ x ∈ mkeys m) ∧ IntsAt w' v ks ∧ (∀ b, v.ownBlock = some b → w.heap.size ≤ b) ∧ Below w.heap.size w w' := by
  obtain ⟨D, hD, hp, hsz⟩ := mp_owns_i (P := Try.prog) (k := 3) Try.underlying3 (mp_int h) (by unfold maxLen; omega)
  have hseq : SeqGives Fence.wide 2 Try.prog 66 #[.pointer (some ⟨Bm, 0, none⟩)] encZ (fun ss => ss.Perm (intKeys D)) (Maps.size D) w :=
    AnyZI.keys_gives (ρ := Try.keysT_ren) { Try.keysT with } Fence.wide _ trivial rfl (by omega) Bm r m.length D _ hBm hc hD
  have cS := AnyZI.sorted_in Try.sortedI Fence.wide 5 trivial trivial trivial trivial rfl (by omega) (Try.sortsI _) (enters_of Try.func65 (by kernel_rfl) rfl) 66 #[.pointer (some ⟨Bm, 0, none⟩)] trivial (enters_of Try.func66 (by kernel_rfl) rfl) _ _ (by rw [hsz]; unfold maxLen; omega) (by rw [hsz]; omega) _ hseq
  refine ((callsIn_wide (n := 5)).1 cS).mono ?_
  rintro e w' ⟨v, ss, rfl, hS, hrow, hnil, hb⟩
  have hpp : ss.Perm (mkeys m) := hS.trans hp
  have hnd : ss.Nodup := hpp.nodup_iff.2 h.nd
  refine ⟨v, ss.mergeSort (fun x y => decide (x ≤ y)), rfl, sort_int_rise hnd, fun x => ((List.mergeSort_perm ss _).mem_iff).trans hpp.mem_iff, ?_, fun b hb' => (hrow.lt b hb').1, hb⟩
  unfold IntsAt
  have hrow2 := ownsRow_base_a hrow (Nat.zero_le _)
  rw [(List.mergeSort_perm ss _).length_eq]
  exact hrow2
/-- of no map nothing -/
theorem sortedT_nil (w : World) (Bm : Nat) (hBm : Bm < w.heap.size) (hc : w.cell? ⟨Bm, 0, none⟩ = some (.map none)) :
    Calls Try.prog 44 #[.func (.func 66) #[] #[.pointer (some ⟨Bm, 0, none⟩)]] w fun e w' => e = .returned (.slice none 0 0) ∧ Below w.heap.size w w' := by
  have hseq : SeqGives Fence.wide 2 Try.prog 66 #[.pointer (some ⟨Bm, 0, none⟩)] encZ (fun ss : List Int => ss = []) 0 w :=
    AnyZI.keys_gives_nil (ρ := Try.keysT_ren) { Try.keysT with } Fence.wide _ trivial rfl Bm w hBm hc
  have cS := AnyZI.sorted_in Try.sortedI Fence.wide 5 trivial trivial trivial trivial rfl (by omega) (Try.sortsI _) (enters_of Try.func65 (by kernel_rfl) rfl) 66 #[.pointer (some ⟨Bm, 0, none⟩)] trivial (enters_of Try.func66 (by kernel_rfl) rfl) _ 0 (Nat.zero_le _) (by omega) _ hseq
  refine ((callsIn_wide (n := 5)).1 cS).mono ?_
  rintro e w' ⟨v, ss, rfl, rfl, hrow, hnil, hb⟩
  obtain rfl : v = .slice none 0 0 := hnil.2 rfl
  exact ⟨rfl, hb⟩
end Go.Proofs.Ytbmjddmejmeknaa

/- Contracts of Group and Count of aliases. -/
import Derived.Test.YtgflfjmlhapplaaAl2
import Derived.Test.YtgflfjmlhapplaaSortB
namespace Go.Proofs.Ytgflfjmlhapplaa
open Go.RowKit Go.MapKept Go.Maps
set_option linter.unusedVariables false
def strM (M : List (ByteArray × ByteArray)) : List (ByteArray × Value) := M.map fun x => (x.1, Value.string x.2)
/-- who of some names leads to one -/
def leads (r : ByteArray → ByteArray) (a : ByteArray) (ks : List ByteArray) : List ByteArray := ks.filter fun z => decide (r z = a)
theorem leads_snoc (r : ByteArray → ByteArray) (a : ByteArray) (ks : List ByteArray) (k : ByteArray) : leads r a (ks ++ [k]) = if r k = a then leads r a ks ++ [k] else leads r a ks := by
  unfold leads
  rw [List.filter_append]
  by_cases h : r k = a <;> simp [h]
theorem leads_len (r : ByteArray → ByteArray) (a : ByteArray) (ks : List ByteArray) : (leads r a ks).length ≤ ks.length := List.length_filter_le _ _
/-- who of the map's keys, and the least name -/
theorem strM_keys (M : List (ByteArray × ByteArray)) : mkeys (strM M) = mkeys M := mkeys_map (fun y => Value.string y) M
theorem strM_len (M : List (ByteArray × ByteArray)) : (strM M).length = M.length := by simp [strM]
theorem group_rise {M : List (ByteArray × ByteArray)} {r : ByteArray → ByteArray} (hi : AInv M r) (x : ByteArray) {done : List (ByteArray × Value)} (hp : done.Perm (strM M)) :
    Rise (sortB (r x :: leads r (r x) (mkeys done))) ∧ ∀ z, z ∈ sortB (r x :: leads r (r x) (mkeys done)) ↔ r z = r x := by
  have hk : (mkeys done).Perm (mkeys M) := by
    have := hp.map Prod.fst
    rw [← strM_keys M]; exact this
  have hnd : (mkeys done).Nodup := hk.nodup_iff.2 hi.nd
  have hroot : r x ∉ mkeys M := fun c => by
    obtain ⟨v, hv⟩ := (keys_get hi.nd).1 c
    rw [hi.root x] at hv; cases hv
  refine ⟨sortB_rise (List.nodup_cons.2 ⟨fun c => hroot (hk.mem_iff.1 (List.mem_filter.1 c).1), hnd.sublist List.filter_sublist⟩), fun z => ?_⟩
  rw [(sortB_perm _).mem_iff, List.mem_cons]
  unfold leads
  rw [List.mem_filter, hk.mem_iff]
  simp only [decide_eq_true_eq]
  constructor
  · rintro (rfl | h)
    · exact hi.idem x
    · exact h.2
  · intro h
    rcases hi.le z with ⟨_, h1⟩ | ⟨_, h1⟩
    · exact .inl (h1.symm.trans h)
    · exact .inr ⟨(keys_get hi.nd).2 h1, h⟩
/-- Group's loop: what is there -/
structure GrpW (w wr : World) (p m it : Nat) (M : List (ByteArray × ByteArray)) (r : ByteArray → ByteArray) (a : ByteArray) (v : Value) (done : List (ByteArray × Value)) : Prop where
  tx : MkT w wr v (a :: leads r a (mkeys done))
  al : AlR wr p m M
  ni : ∀ b, v.ownBlock = some b → b ≠ it
  lp : p < w.heap.size
  lm : m < w.heap.size
  li : w.heap.size ≤ it
set_option maxRecDepth 100000 in
set_option maxHeartbeats 4000000 in
theorem group_yes (p m : Nat) (M : List (ByteArray × ByteArray)) (r : ByteArray → ByteArray) (x : ByteArray) (w : World) (h : AlR w p m M) (hi : AInv M r) (hx : nameB x = true) (hM : M.length ≤ 100000) :
    Calls Try.prog 17 #[.pointer (some ⟨p, 0, none⟩), .string x] w fun e w' => ∃ v g, e = .returned v ∧ TextsAt w' v g ∧ (∀ b, v.ownBlock = some b → w.heap.size ≤ b) ∧ Below w.heap.size w w' ∧ Rise g ∧ ∀ z, z ∈ g ↔ r z = r x := by
  have hxs := name_size hx
  have hex := ename_any x w (by omega)
  rw [hx] at hex
  have EX := Lib.hid hex
  have NX := Lib.hid (name_any p m M r x w h hi (by omega))
  have HI := Lib.hid hi
  obtain ⟨i0, hi0, hz0, hz1, hz2⟩ := info_parts infoText
  have HE : Hid (∀ done : List (ByteArray × Value), done.Perm (strM M) → Rise (sortB (r x :: leads r (r x) (mkeys done))) ∧ ∀ z, z ∈ sortB (r x :: leads r (r x) (mkeys done)) ↔ r z = r x) := Lib.hid (fun done hp => group_rise hi x hp)
  generalize r x = a at *
  have hb1 := (Below.refl w.heap.size w).alloc (Nat.le_refl _) (.cells #[.string a] 9)
  have hA1 := h.bel hb1
  have HA1 := Lib.hid hA1
  have HMP1 : Hid (Mp encS okS (w.alloc (.cells #[.string a] 9)) m (strM M)) := Lib.hid hA1.mp
  have c0 := hA1.bk.cell 0
  have HMK : Hid (MkT w (w.alloc (.cells #[.string a] 9)) (.slice (some ⟨w.heap.size, 0, none⟩) 1 1) [a]) := Lib.hid ⟨row_of_bk (Bk.new w [.string a] 9) rfl (Nat.le_refl _) (by unfold maxLen; omega) rfl, own_at (Nat.le_refl _), hb1⟩
  have LP := Lib.hid (And.intro h.bk.lt h.mp.lt)
  clear hex hi h hb1 hA1 hx hxs
  go_enter Try.func17, Try.ntmps17
  go_wp2_with fail
  refine EX.out.mono ?_
  rintro e wx ⟨rfl, rfl⟩
  go_wp2_with fail
  refine NX.out.mono ?_
  rintro e wx ⟨rfl, rfl⟩
  go_wp2_with (at_range; refine wpList_range rfl _ rfl Try.underlying50 HMP1.out rfl ?_; intro w2 rg2 b2 z2)
  go_frame
  have hG0 : GrpW w w2 p m (w.heap.size + 1) M r a (.slice (some ⟨w.heap.size, 0, none⟩) 1 1) [] :=
    ⟨HMK.out.bel b2, HA1.out.bel b2, fun b hb => (by
      have : w.heap.size = b := by simpa [Value.ownBlock] using hb
      omega), LP.out.1, LP.out.2, by omega⟩
  have hit : (w.alloc (.cells #[.string a] 9)).heap.size = w.heap.size + 1 := by simp
  rw [hit] at rg2 ⊢
  have HP0 : Hid (([] ++ strM M).Perm (strM M)) := Lib.hid (List.Perm.refl _)
  clear hit b2 z2 HMK HA1 HMP1 EX NX c0
  generalize w.heap.size + 1 = it at *
  generalize hv0 : Value.slice (some ⟨w.heap.size, 0, none⟩) 1 1 = v0 at *
  clear hv0
  go_loopw [6] (fun v wr => ∃ done left, Rg encS okS wr m it (strM M) left ∧ Hid ((done ++ left).Perm (strM M)) ∧ GrpW w wr p m it M r a v done) (fun _ wr => wr.rangeLeft m it)
  case atStart => exact ⟨[], strM M, rg2, HP0, hG0⟩
  case round =>
    obtain ⟨done, left, hrg, HPm, hgw⟩ := hrel
    clear rg2 hG0 HP0
    have hlen : done.length + left.length = M.length := by have := HPm.out.length_eq; rw [strM_len] at this; simpa using this
    have hld := leads_len r a (mkeys done)
    have hmk : (mkeys done).length = done.length := by unfold mkeys; simp
    go_wp2_with (at_next; refine wpList_next' Value.string (fun _ => rfl) rfl _ rfl hrg rfl ?_ ?_)
    · intro hl0
      subst hl0
      have hpm := HPm.out
      rw [List.append_nil] at hpm
      have HEE := Lib.hid (HE.out done hpm)
      have HS := Lib.hid (sort_texts u6 (a :: leads r a (mkeys done)) wr hgw.tx.tx (by simp; omega))
      have HG := Lib.hid hgw
      clear hpm hgw hrg HPm hlen hld hmk
      go_wp2_with fail
      refine HS.out.mono ?_
      rintro e w4 ⟨rfl, ho4, hf4⟩
      have HO4 := Lib.hid ho4
      have HB4 : Hid (Below w.heap.size w w4) := Lib.hid (HG.out.tx.bl.trans (hf4.below HG.out.tx.bl.size (fun b hb => HG.out.tx.nw b hb)))
      clear HS ho4 hf4
      go_wp2_with fail
      go_ret
      refine ⟨u6, _, rfl, ?_, HG.out.tx.nw, HB4.out, HEE.out.1, HEE.out.2⟩
      unfold TextsAt
      rw [(sortB_perm _).length_eq]; exact HO4.out
    · intro k u more w3 hp hok hm hrg3 hf3 hz3 hen
      have hg3 : GrpW w w3 p m it M r a u6 done := by
        have hmit : m ≠ it := fun e => hrg.ne e.symm
        have hpit : p ≠ it := fun e => by have := hgw.lp; have := hgw.li; omega
        refine ⟨⟨hf3.row hgw.tx.tx (fun b hb => hgw.ni b hb), hgw.tx.nw, ?_⟩, hgw.al.fr hf3 hpit hmit, hgw.ni, hgw.lp, hgw.lm, hgw.li⟩
        refine hgw.tx.bl.trans (hf3.below hgw.tx.bl.size (fun b e => ?_))
        rw [e]; exact hgw.li
      have hkM : k ∈ mkeys M := by
        have : k ∈ mkeys (strM M) := List.mem_map.2 ⟨(k, u), hm, rfl⟩
        rw [strM_keys] at this; exact this
      obtain ⟨vk, hvk⟩ := (keys_get HI.out.nd).1 hkM
      have hks := name_size (HI.out.ok k vk hvk).1
      have NK := Lib.hid (name_any p m M r k w3 hg3.al HI.out (by omega))
      have HPm3 : Hid (((done ++ [(k, u)]) ++ more).Perm (strM M)) := Lib.hid ((by
        rw [List.append_assoc]
        exact List.Perm.append_left done hp.symm : ((done ++ [(k, u)]) ++ more).Perm (done ++ left)).trans HPm.out)
      have hmes : w3.rangeLeft m it < wr.rangeLeft m it := by
        rw [hrg3.left_eq, hrg.left_eq, hp.length_eq]; simp
      have HM := Lib.hid hmes
      have HRG3 := Lib.hid hrg3
      have HG3 := Lib.hid hg3
      have hkeys : mkeys (done ++ [(k, u)]) = mkeys done ++ [k] := by unfold mkeys; simp
      have HKE := Lib.hid hkeys
      clear hmes hrg hgw HPm hp hok hm hrg3 hf3 hz3 hg3 hkM hvk hkeys
      by_cases hra : r k = a
      · have t1 : ((r k).toList == a.toList) = true := by rw [hra]; simp
        have HL := Lib.hid ((leads_snoc r a (mkeys done) k).trans (if_pos hra))
        clear hra
        go_wp2_with fail
        refine NK.out.mono ?_
        rintro e wx ⟨rfl, rfl⟩
        clear NK
        have HROW : Hid ((w3.alloc (.cells #[.string k] 9)).ownsRow 0 9 1 u6 (a :: leads r a (mkeys done)).length ((a :: leads r a (mkeys done)).flatMap tC)) := Lib.hid (HG3.out.tx.alloc _).tx.flat
        have HLN : Hid ((a :: leads r a (mkeys done)).length + [k].length ≤ 1000000) := Lib.hid (by simp; omega)
        go_wp2_with (at_builtin; refine wpList_append_m tLen tOne _ rfl _ _ _ rfl 9 i0 _ 16 Try.underlying31 hi0 hz0 hz1 hz2 rfl (by decide) (by omega) u6 (a :: leads r a (mkeys done)) [k] rfl HROW.out (some ⟨w3.heap.size, 0, none⟩) 1 1 rfl rfl (inw_one (f := tC) (sz := 1) (x := k) (Bk.new w3 (tC k) 9)) HLN.out ?_; intro v5 w5 o5 f5 h5)
        have hf5 : Fr (fun b => u6.ownBlock = some b) w3 w5 := ((Fr.refl _ w3).alloc _).trans f5 (fun _ _ e => e)
        have HG5 : Hid (GrpW w w5 p m it M r a v5 (done ++ [(k, u)])) := Lib.hid (by
          refine ⟨?_, HG3.out.al.fr hf5 (fun e => ?_) (fun e => ?_), fun b hb => ?_, HG3.out.lp, HG3.out.lm, HG3.out.li⟩
          · have := (HG3.out.tx.alloc (.cells #[.string k] 9)).more o5 f5 h5
            rw [HKE.out, HL.out]
            exact this
          · have := HG3.out.tx.nw _ e; have := HG3.out.lp; omega
          · have := HG3.out.tx.nw _ e; have := HG3.out.lm; omega
          · rcases h5 with h | h
            · exact HG3.out.ni b (by rw [← h]; exact hb)
            · have h1 := Option.some.inj (h.symm.trans hb)
              have h2 := HRG3.out.lt
              simp at h1; omega)
        have HRG5 := Lib.hid (HRG3.out.fr hf5 (fun e => by have := HG3.out.tx.nw _ e; have := HG3.out.lm; omega) (fun e => HG3.out.ni _ e rfl))
        have HM5 : Hid (w5.rangeLeft m it < wr.rangeLeft m it) := Lib.hid (by rw [HRG5.out.left_eq, ← HRG3.out.left_eq]; exact HM.out)
        clear o5 f5 h5 hf5 HROW HLN HG3 HRG3 HM
        go_wp2_with fail
        go_roundw
        case rel => exact ⟨_, more, HRG5.out, HPm3, HG5.out⟩
        case measure => exact HM5.out
      · have t1 : ((r k).toList == a.toList) = false := by rw [bytesEq]; exact decide_eq_false hra
        have HL := Lib.hid ((leads_snoc r a (mkeys done) k).trans (if_neg hra))
        have HG5 : Hid (GrpW w w3 p m it M r a u6 (done ++ [(k, u)])) := Lib.hid (by
          refine ⟨?_, HG3.out.al, HG3.out.ni, HG3.out.lp, HG3.out.lm, HG3.out.li⟩
          rw [HKE.out, HL.out]
          exact HG3.out.tx)
        clear hra HG3
        go_wp2_with fail
        refine NK.out.mono ?_
        rintro e wx ⟨rfl, rfl⟩
        go_wp2_with fail
        go_roundw
        case rel => exact ⟨_, more, HRG3.out, HPm3, HG5.out⟩
        case measure => exact HM.out
end Go.Proofs.Ytgflfjmlhapplaa

/- Contracts of Group and Count of aliases, as a whole; aliases by what was joined. -/
import Derived.Test.YtgflfjmlhapplaaAl3
namespace Go.Proofs.Ytgflfjmlhapplaa
open Go.RowKit Go.MapKept Go.Maps
set_option linter.unusedVariables false
theorem group_no (P : Option Addr) (x : ByteArray) (w : World) (hx : nameB x = false) (hs : x.size ≤ 100000) :
    Calls Try.prog 17 #[.pointer P, .string x] w fun e w' => e = .returned (.slice none 0 0) ∧ w = w' := by
  have hex := ename_any x w hs
  rw [hx] at hex
  have EX := Lib.hid hex
  clear hex hx
  go_enter Try.func17, Try.ntmps17
  go_wp2_with fail
  refine EX.out.mono ?_
  rintro e wx ⟨rfl, rfl⟩
  go_wp2_with fail
  go_ret
  exact ⟨rfl, rfl⟩
/-- Count's loop: what is there -/
structure CntW (w wr : World) (p m g it : Nat) (M : List (ByteArray × ByteArray)) (r : ByteArray → ByteArray) (G : List (ByteArray × Value)) (done : List (ByteArray × Value)) : Prop where
  gs : Mp encS okS wr g G
  al : AlR wr p m M
  ks : ∀ a, a ∈ mkeys G ↔ ∃ k ∈ mkeys done, r k = a
  lp : p < w.heap.size
  lm : m < w.heap.size
  lg : w.heap.size ≤ g
  li : g < it
  bl : Below w.heap.size w wr
set_option maxRecDepth 100000 in
set_option maxHeartbeats 4000000 in
theorem count_any (p m : Nat) (M : List (ByteArray × ByteArray)) (r : ByteArray → ByteArray) (w : World) (h : AlR w p m M) (hi : AInv M r) (hM : M.length ≤ 100000) :
    Calls Try.prog 26 #[.pointer (some ⟨p, 0, none⟩)] w fun e w' => ∃ K : List ByteArray, e = .returned (.int .i64 K.length) ∧ K.Nodup ∧ (∀ a, a ∈ K ↔ ∃ k ∈ mkeys M, r k = a) ∧ Below w.heap.size w w' := by
  have hmm := @run_makeMap Try.prog
  have HI := Lib.hid hi
  have hb1 := (Below.refl w.heap.size w).alloc (Nat.le_refl _) (.map #[] 0)
  have hA1 := h.bel hb1
  have HB1 := Lib.hid hb1
  have HA1 := Lib.hid hA1
  have HMP1 : Hid (Mp encS okS (w.alloc (.map #[] 0)) m (strM M)) := Lib.hid hA1.mp
  have c0 := hA1.bk.cell 0
  have LP := Lib.hid (And.intro h.bk.lt h.mp.lt)
  have HG0 : Hid (Mp encS okS (w.alloc (.map #[] 0)) w.heap.size []) := Lib.hid (Mp.made w)
  clear hi h hb1 hA1
  go_enter Try.func26, Try.ntmps26
  go_wp2_with (at_range; refine wpList_range rfl _ rfl Try.underlying50 HMP1.out rfl ?_; intro w2 rg2 b2 z2)
  go_frame
  have hC0 : CntW w w2 p m w.heap.size (w.heap.size + 1) M r [] [] :=
    ⟨HG0.out.bel b2, HA1.out.bel b2, by simp [mkeys], LP.out.1, LP.out.2, Nat.le_refl _, by omega, HB1.out.trans (b2.mono (by simp))⟩
  have hit : (w.alloc (.map #[] 0)).heap.size = w.heap.size + 1 := by simp
  rw [hit] at rg2 ⊢
  have HP0 : Hid (([] ++ strM M).Perm (strM M)) := Lib.hid (List.Perm.refl _)
  clear hit b2 z2 HA1 HMP1 c0 HG0 HB1
  generalize w.heap.size + 1 = it at *
  generalize hg0 : w.heap.size = g at rg2 hC0 ⊢
  have HG := Lib.hid hg0
  clear hg0
  go_loopw [4] (fun _ wr => ∃ done left G, Rg encS okS wr m it (strM M) left ∧ Hid ((done ++ left).Perm (strM M)) ∧ CntW w wr p m g it M r G done) (fun _ wr => wr.rangeLeft m it)
  case atStart => exact ⟨[], strM M, [], rg2, HP0, hC0⟩
  case round =>
    obtain ⟨done, left, G, hrg, HPm, hcw⟩ := hrel
    clear rg2 hC0 HP0
    go_wp2_with (at_next; refine wpList_next' Value.string (fun _ => rfl) rfl _ rfl hrg rfl ?_ ?_)
    · intro hl0
      subst hl0
      have hpm := HPm.out
      rw [List.append_nil] at hpm
      have hln : ∀ ty, (Builtin.len_ #[64] ty #[.map (some g)]).run Try.prog wr = .ok (.int .i64 G.length) wr := fun ty => hcw.gs.len (P := Try.prog) Try.underlying64 ty
      have HC := Lib.hid hcw
      have hk : (mkeys done).Perm (mkeys M) := by
        have := hpm.map Prod.fst
        rw [← strM_keys M]; exact this
      have HKS : Hid (∀ a, a ∈ mkeys G ↔ ∃ k ∈ mkeys M, r k = a) := Lib.hid (fun a => by
        rw [hcw.ks a]
        exact exists_congr fun k => by rw [hk.mem_iff])
      clear hpm hcw hrg HPm hk
      go_wp2_with fail
      go_ret
      exact ⟨mkeys G, by unfold mkeys; rw [List.length_map]; rfl, HC.out.gs.nd, HKS.out, HC.out.bl⟩
    · intro k u more w3 hp hok hm hrg3 hf3 hz3 hen
      have hc3 : CntW w w3 p m g it M r G done := by
        have l1 := hcw.lp; have l2 := hcw.lm; have l3 := hcw.lg; have l4 := hcw.li
        exact ⟨hcw.gs.fr hf3 (by omega), hcw.al.fr hf3 (by omega) (by omega), hcw.ks, l1, l2, l3, l4, hcw.bl.trans (hf3.below hcw.bl.size (fun b e => by omega))⟩
      have hkM : k ∈ mkeys M := by
        have : k ∈ mkeys (strM M) := List.mem_map.2 ⟨(k, u), hm, rfl⟩
        rw [strM_keys] at this; exact this
      obtain ⟨vk, hvk⟩ := (keys_get HI.out.nd).1 hkM
      have hok' := (HI.out.ok k vk hvk).1
      have hks := name_size hok'
      have hrs := name_size (HI.out.name hok')
      have NK := Lib.hid (name_any p m M r k w3 hc3.al HI.out (by omega))
      have HPm3 : Hid (((done ++ [(k, u)]) ++ more).Perm (strM M)) := Lib.hid ((by
        rw [List.append_assoc]
        exact List.Perm.append_left done hp.symm : ((done ++ [(k, u)]) ++ more).Perm (done ++ left)).trans HPm.out)
      have hmes : w3.rangeLeft m it < wr.rangeLeft m it := by
        rw [hrg3.left_eq, hrg.left_eq, hp.length_eq]; simp
      have HM := Lib.hid hmes
      have HRG3 := Lib.hid hrg3
      have HC3 := Lib.hid hc3
      have hkeys : mkeys (done ++ [(k, u)]) = mkeys done ++ [k] := by unfold mkeys; simp
      have HKE := Lib.hid hkeys
      clear hmes hrg hcw HPm hp hok hm hrg3 hf3 hz3 hc3 hkM hvk hkeys hok'
      go_wp2_with fail
      refine NK.out.mono ?_
      rintro e wx ⟨rfl, rfl⟩
      clear NK
      obtain ⟨w5, hr5, m5, f5, z5⟩ := HC3.out.gs.store (P := Try.prog) keyS Try.underlying64 (a := r k) (by unfold okS maxLen; omega) (.bool true)
      have hr6 : (Instr.mapUpdate 64 (.map (some g)) (.string (r k)) (.bool true)).run Try.prog w3 = .ok () w5 := hr5
      have l1 := HC3.out.lp
      have l2 := HC3.out.lm
      have l3 := HC3.out.lg
      have l4 := HC3.out.li
      have HC5 : Hid (CntW w w5 p m g it M r (mput G (r k) (.bool true)) (done ++ [(k, u)])) := Lib.hid (by
        refine ⟨m5, HC3.out.al.fr f5 (by omega) (by omega), fun a => ?_, l1, l2, l3, l4, HC3.out.bl.trans (f5.below HC3.out.bl.size (fun b e => by omega))⟩
        rw [HKE.out, mkeys_put]
        have h1 := HC3.out.ks a
        constructor
        · intro ha
          split at ha
          · obtain ⟨k', hk', e⟩ := h1.1 ha
            exact ⟨k', by simp [hk'], e⟩
          · rcases List.mem_append.1 ha with ha | ha
            · obtain ⟨k', hk', e⟩ := h1.1 ha
              exact ⟨k', by simp [hk'], e⟩
            · simp at ha; exact ⟨k, by simp, ha.symm⟩
        · rintro ⟨k', hk', e⟩
          split
          · rename_i hin
            rcases List.mem_append.1 hk' with hk' | hk'
            · exact h1.2 ⟨k', hk', e⟩
            · simp at hk'; subst hk'; rw [← e]; exact hin
          · rcases List.mem_append.1 hk' with hk' | hk'
            · exact List.mem_append.2 (.inl (h1.2 ⟨k', hk', e⟩))
            · simp at hk'; subst hk'; simp [e])
      have HRG5 := Lib.hid (HRG3.out.fr f5 (by omega) (by omega))
      have HM5 : Hid (w5.rangeLeft m it < wr.rangeLeft m it) := Lib.hid (by rw [HRG5.out.left_eq, ← HRG3.out.left_eq]; exact HM.out)
      clear hr5 m5 f5 z5 HC3 HRG3 HM l1 l2 l3 l4
      go_wp2_with fail
      go_roundw
      case rel => exact ⟨_, more, _, HRG5.out, HPm3, HC5.out⟩
      case measure => exact HM5.out
end Go.Proofs.Ytgflfjmlhapplaa

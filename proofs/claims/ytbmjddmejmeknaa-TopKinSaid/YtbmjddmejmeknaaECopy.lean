/- maps.Copy, by a walk of its own; clear. -/
import Derived.Test.YtbmjddmejmeknaaEAdd
import Derived.Test.YtbmjddmejmeknaaKindM
namespace Go.Proofs.Ytbmjddmejmeknaa
open Go.RowKit Go.MapKept Go.Maps Go.ChangeShapes Go.WideShapes
set_option linter.unusedVariables false
set_option linter.unusedSimpArgs false
theorem vT_mem {ms : MI} {k : ByteArray} {u : Value} (h : (k, u) ∈ vals vT ms) : u = .bool true ∧ k ∈ mkeys ms := by
  obtain ⟨x, hx, e⟩ := List.mem_map.1 h
  obtain ⟨rfl, rfl⟩ := Prod.mk.inj e
  exact ⟨rfl, List.mem_map.2 ⟨x, hx, rfl⟩⟩
theorem unit_get (m : MI) (a : ByteArray) : mget m a = some () ↔ a ∈ mkeys m := by
  rw [key_iff]
  exact ⟨fun h => ⟨(), h⟩, fun ⟨_, h⟩ => h⟩
structure CopW (w wr : World) (rd : Nat) (md : MI) (done : List (ByteArray × Value)) : Prop where
  ex : ∃ md' : MI, Mp encS okS wr rd (vals vT md') ∧ ∀ x, mget md' x = some () ↔ (mget md x = some () ∨ x ∈ mkeys done)
  fr : Fr (fun b => b = rd) w wr
  lt : rd < w.heap.size
set_option maxRecDepth 20000 in
set_option maxHeartbeats 1000000 in
theorem copy_any (rd rs : Nat) (md ms : MI) (w : World) (hd : Mp encS okS w rd (vals vT md)) (hs : Mp encS okS w rs (vals vT ms)) (hne : rd ≠ rs) :
    Calls Try.prog 46 #[.map (some rd), .map (some rs)] w fun e w' => e = .returned (.tuple #[]) ∧ (∃ md' : MI, Mp encS okS w' rd (vals vT md') ∧ ∀ x, mget md' x = some () ↔ (mget md x = some () ∨ mget ms x = some ())) ∧ Fr (fun b => b = rd) w w' := by
  have HS := Lib.hid hs
  have hM0 : CopW w w rd md [] := ⟨⟨md, hd, fun x => by simp [mkeys]⟩, Fr.refl _ _, hd.lt⟩
  have HM0 := Lib.hid hM0
  have hrs := hs.lt
  have HNE := Lib.hid hne
  clear hd hs hM0 hne
  go_enter Try.func46, Try.ntmps46
  go_wp2_with (at_range; refine wpList_range rfl _ rfl Try.underlying84 HS.out rfl ?_; intro w2 rg2 b2 z2)
  go_frame
  have hM2 : CopW w w2 rd md [] := by
    obtain ⟨md', h1, h2⟩ := HM0.out.ex
    exact ⟨⟨md', h1.bel b2, h2⟩, Fr.of_bel b2, HM0.out.lt⟩
  have HP0 : Hid (([] ++ vals vT ms).Perm (vals vT ms)) := Lib.hid (List.Perm.refl _)
  obtain ⟨it, hit⟩ : ∃ it, w.heap.size = it := ⟨_, rfl⟩
  have HIT := Lib.hid hit
  rw [hit] at rg2 ⊢
  clear b2 z2 HM0 hit
  go_loopw [] (fun wr => ∃ done left, Rg encS okS wr rs it (vals vT ms) left ∧ Hid ((done ++ left).Perm (vals vT ms)) ∧ Hid (CopW w wr rd md done)) (fun wr => wr.rangeLeft rs it)
  case atStart => exact ⟨[], vals vT ms, rg2, HP0, Lib.hid hM2⟩
  case round =>
    obtain ⟨done, left, hrg, HPm, HW⟩ := hrel
    clear rg2 hM2 HP0
    go_wp2_with (at_next; refine wpList_next' Value.string (fun _ => rfl) rfl _ rfl hrg rfl ?_ ?_)
    · intro hl0
      subst hl0
      have hpm := HPm.out
      rw [List.append_nil] at hpm
      have HK : Hid (∀ x, x ∈ mkeys done ↔ mget ms x = some ()) := Lib.hid (fun x => by
        rw [unit_get, ← vals_keys vT ms]
        exact (hpm.map Prod.fst).mem_iff)
      clear hpm hrg HPm
      go_wp2_with fail
      go_end0
      obtain ⟨md', h1, h2⟩ := HW.out.ex
      exact ⟨rfl, ⟨md', h1, fun x => by rw [h2, HK.out]⟩, HW.out.fr⟩
    · intro k u more w3 hp hok hm hrg3 hf3 hz3 hen
      obtain ⟨rfl, hkm⟩ := vT_mem hm
      obtain ⟨md', h1, h2⟩ := HW.out.ex
      have hlt := HW.out.lt
      have hi := HIT.out
      have h3 := h1.fr hf3 (fun e => by omega)
      have f13 := HW.out.fr.trans hf3 (fun i hlt' e => by omega)
      obtain ⟨w4, x4, m4, f4, z4⟩ := h3.store (P := Try.prog) keyS Try.underlying84 (a := k) hok (.bool true)
      have y4 : (Instr.mapUpdate 84 (.map (some rd)) (.string k) (.bool true)).run Try.prog w3 = .ok () w4 := x4
      have HW4 : Hid (CopW w w4 rd md (done ++ [(k, Value.bool true)])) := Lib.hid ⟨⟨mput md' k (), by rw [← vals_put]; exact m4, fun x => by
        rw [get_put]
        unfold mkeys at *
        rw [List.map_append, List.mem_append]
        by_cases e : k = x
        · rw [if_pos e]; simp [e]
        · rw [if_neg e, h2]
          have : ¬ x = k := fun c => e c.symm
          simp [this]⟩, f13.trans f4 (fun _ _ e => e), hlt⟩
      have HRG4 := Lib.hid (hrg3.fr f4 (fun e => HNE.out e.symm) (fun e => by omega))
      have HPm4 : Hid ((done ++ [(k, Value.bool true)] ++ more).Perm (vals vT ms)) := Lib.hid ((by
        rw [List.append_assoc]
        exact List.Perm.append_left _ hp.symm : (done ++ [(k, Value.bool true)] ++ more).Perm (done ++ left)).trans HPm.out)
      have HMES : Hid (w4.rangeLeft rs it < wr.rangeLeft rs it) := Lib.hid (by rw [HRG4.out.left_eq, hrg.left_eq, hp.length_eq]; simp)
      clear hrg hrg3 HPm hp hok hm hf3 hz3 h1 h2 h3 f13 x4 m4 f4 z4 HW hkm
      go_wp2_with fail
      exact ⟨⟨_, _, HRG4.out, HPm4, HW4⟩, HMES.out⟩
end Go.Proofs.Ytbmjddmejmeknaa

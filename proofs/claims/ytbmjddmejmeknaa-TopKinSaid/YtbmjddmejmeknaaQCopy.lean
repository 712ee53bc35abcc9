/- Contract of a table's function copy. -/
import Derived.Test.YtbmjddmejmeknaaQAll
namespace Go.Proofs.Ytbmjddmejmeknaa.Pr
open Go.RowKit Go.MapKept Go.Maps Go.ChangeShapes Go.WideShapes Go.Shelf
set_option linter.unusedVariables false
set_option linter.unusedSimpArgs false
theorem makeMap_n (n : Nat) (w : World) : (Instr.makeMap 64 (some (.int .i64 n))).run Try.prog w = .ok (.map (some w.heap.size)) (w.alloc (.map #[] 0)) := by
  simp [Instr.makeMap, run_underlying Try.underlying64, asInt, asIntOf, Result.andThen]
theorem clone_any (r : Nat) (m : List (ByteArray × Value)) (w : World) (h : Mp encS okS w r m) :
    Calls Try.prog 67 #[.map (some r)] w fun e w' => e = .returned (.map (some w.heap.size)) ∧ Mp encS okS w' w.heap.size m ∧ Below w.heap.size w w' ∧ w'.heap.size = w.heap.size + 1 := by
  obtain ⟨es, clock, hb, hc⟩ := h.cloned
  refine (AnyW.maps_Clone Try.cloneM r es clock w hb).mono ?_
  rintro e w' ⟨rfl, rfl⟩
  exact ⟨rfl, hc, (Below.refl _ _).alloc (Nat.le_refl _) _, by simp⟩
def role0 (t s r : Nat) : Nat → Option RoleQ := fun b => if b = t then some .tab else if b = s then some .sing else if b = r then some .rows else none
/-- a table without rows -/
theorem tab_made {W : World} {t s r : Nat} {ms : MC} (mt : ByteArray → MC) (h1 : Bk W t [.map (some s), .map (some r)] 66) (h2 : Mp encS okS W s (vals vI ms)) (h3 : Mp encS okS W r []) (h4 : t ≠ s) (h5 : t ≠ r) (h6 : s ≠ r) : TabR W t s r ms [] mt (role0 t s r) [t, s, r] := by
  refine ⟨h1, h2, h3, fun p b h => (by cases h), by simp [role0], by simp [role0, Ne.symm h4], by simp [role0, Ne.symm h5, Ne.symm h6], fun p b h => (by cases h), fun b k h => ?_, fun b hb => ?_⟩
  · unfold role0 at h
    by_cases e : b = t
    · simp [e]
    · rw [if_neg e] at h
      by_cases e2 : b = s
      · simp [e2]
      · rw [if_neg e2] at h
        by_cases e3 : b = r
        · simp [e3]
        · rw [if_neg e3] at h; cases h
  · simp only [List.mem_cons, List.not_mem_nil, or_false] at hb
    rcases hb with rfl | rfl | rfl
    · exact h1.lt
    · exact h2.lt
    · exact h3.lt
structure CopQ (w0 wr : World) (t s r : Nat) (ms : MC) (mr : MR) (mt : ByteArray → MC) (role : Nat → Option RoleQ) (B : List Nat) (t2 s2 r2 it : Nat) (mr2 : MR) (role2 : Nat → Option RoleQ) (B2 : List Nat) (done : List (ByteArray × Value)) : Prop where
  src : TabR wr t s r ms mr mt role B
  cp : TabR wr t2 s2 r2 ms mr2 mt role2 B2
  ks : ∀ a, (∃ k, mget mr2 a = some k) ↔ a ∈ mkeys done
  l1 : ∀ b ∈ B, b < w0.heap.size
  l2 : ∀ b ∈ B2, w0.heap.size ≤ b
  l3 : it ∉ B2
  l4 : w0.heap.size ≤ it
  bel : Below w0.heap.size w0 wr
section
variable {w0 wr w' : World} {t s r t2 s2 r2 it : Nat} {ms : MC} {mr mr2 : MR} {mt : ByteArray → MC} {role role2 : Nat → Option RoleQ} {B B2 : List Nat} {done : List (ByteArray × Value)}
theorem CopQ.next (h : CopQ w0 wr t s r ms mr mt role B t2 s2 r2 it mr2 role2 B2 done) (hf : Fr (fun b => b = it) wr w') : CopQ w0 w' t s r ms mr mt role B t2 s2 r2 it mr2 role2 B2 done :=
  ⟨h.src.fr hf (fun b hb e => by have := h.l1 b hb; have := h.l4; omega), h.cp.fr hf (fun b hb e => h.l3 (e ▸ hb)), h.ks, h.l1, h.l2, h.l3, h.l4, below_of_fr h.bel hf (fun b e => by have := h.l4; omega)⟩
theorem CopQ.more {w1 w2 : World} {a : ByteArray} {b : Nat} {u : Value} (h : CopQ w0 wr t s r ms mr mt role B t2 s2 r2 it mr2 role2 B2 done) (hit : it < wr.heap.size) (hw : Below wr.heap.size wr w1) (hb : Mp encS okS w1 b (vals vI (mt a))) (hn : wr.heap.size ≤ b) (hm : Mp encS okS w2 r2 (mput (vals vMap mr2) a (vMap b))) (hf : Fr (fun x => x = r2) w1 w2) :
    ∃ mr3 role3 B3, CopQ w0 w2 t s r ms mr mt role B t2 s2 r2 it mr3 role3 B3 (done ++ [(a, u)]) := by
  have hr2 : r2 ∈ B2 := h.cp.inB _ _ h.cp.rr
  have hup : upd mt a (mt a) = mt := by funext x; unfold upd; split <;> simp_all
  have h1 := h.cp.more (p := a) hw hb hn hm hf
  rw [hup] at h1
  have hz := h.bel.size
  refine ⟨_, _, _, (h.src.bel hw).fr hf (fun x hx e => by have := h.l1 x hx; have := h.l2 r2 hr2; omega), h1, fun x => ?_, h.l1, fun x hx => ?_, fun hx => ?_, h.l4, below_of_fr (h.bel.trans (hw.mono hz)) hf (fun x e => by rw [e]; exact h.l2 r2 hr2)⟩
  · rw [get_put]
    unfold mkeys
    rw [List.map_append, List.mem_append]
    by_cases e : a = x
    · rw [if_pos e]; simp [e]
    · rw [if_neg e, h.ks]
      have : ¬ x = a := fun c => e c.symm
      simp [this, mkeys]
  · rcases List.mem_cons.1 hx with rfl | hx
    · omega
    · exact h.l2 x hx
  · rcases List.mem_cons.1 hx with e | hx
    · omega
    · exact h.l3 hx
end
/-- what a copy reads of the old table -/
def SrcQ (X : World) (t s r n : Nat) : Prop := X.cell? ⟨t, 0, none⟩ = some (.map (some s)) ∧ X.cell? ⟨t, 1, none⟩ = some (.map (some r)) ∧ ∀ ty, (Builtin.len_ #[64] ty #[.map (some r)]).run Try.prog X = .ok (.int .i64 n) X
theorem TabR.src {w : World} {t s r : Nat} {ms : MC} {mr : MR} {mt : ByteArray → MC} {role : Nat → Option RoleQ} {B : List Nat} (h : TabR w t s r ms mr mt role B) : SrcQ w t s r mr.length := ⟨h.bk.cell 0, h.bk.cell 1, fun ty => by
  have := h.mp.len (P := Try.prog) Try.underlying64 ty
  rwa [vals_len] at this⟩
theorem vMap_mem {α : Type} {ms : List (α × Nat)} {k : α} {u : Value} (h : (k, u) ∈ vals vMap ms) : ∃ b, u = .map (some b) ∧ (k, b) ∈ ms := by
  obtain ⟨x, hx, e⟩ := List.mem_map.1 h
  obtain ⟨rfl, rfl⟩ := Prod.mk.inj e
  exact ⟨x.2, rfl, hx⟩
section
variable {w : World} {t s r : Nat} {ms : MC} {mr : MR} {mt : ByteArray → MC} {role : Nat → Option RoleQ} {B : List Nat}
set_option maxRecDepth 20000 in
set_option maxHeartbeats 4000000 in
theorem copy_walk (h : TabR w t s r ms mr mt role B) :
    Calls Try.prog 47 #[.pointer (some ⟨t, 0, none⟩)] w fun e w' => ∃ t2 s2 r2 mr2 role2 B2, e = .returned (.pointer (some ⟨t2, 0, none⟩)) ∧ TabR w' t2 s2 r2 ms mr2 mt role2 B2 ∧ (∀ a, (∃ k, mget mr2 a = some k) ↔ a ∈ mkeys mr) ∧ (∀ b ∈ B2, w.heap.size ≤ b) ∧ Below w.heap.size w w' := by
  have c0 : w.cell? ⟨t, 0, none⟩ = some (.map (some s)) := h.bk.cell 0
  have c1 : w.cell? ⟨t, 1, none⟩ = some (.map (some r)) := h.bk.cell 1
  have hmm := makeMap_n
  have H := Lib.hid h
  clear h
  go_enter Try.func47, Try.ntmps47
  go_wp2_with fail
  have C1 := Lib.hid (clone_any s _ w.drew (H.out.sg.fr (Fr.refl none' w).drew id))
  have C2 := Lib.hid (clone_any s _ (w.alloc (.map #[] 0)).drew (H.out.sg.fr ((Fr.refl none' w).alloc _).drew id))
  have k1 : SrcQ w.drew t s r mr.length := (H.out.fr (Fr.refl none' w).drew (fun _ _ => id)).src
  have k2 : SrcQ (w.alloc (.map #[] 0)).drew t s r mr.length := (H.out.fr ((Fr.refl none' w).alloc _).drew (fun _ _ => id)).src
  have k3 : SrcQ (w.drew.alloc (.map #[] 0)) t s r mr.length := (H.out.fr ((Fr.refl none' w).drew.alloc _) (fun _ _ => id)).src
  go_region_held3 (fun X => X.cell? ⟨t, 0, none⟩ = some (.map (some s)) ∧ X.cell? ⟨t, 1, none⟩ = some (.map (some r)) ∧ ∀ ty, (Builtin.len_ #[64] ty #[.map (some r)]).run Try.prog X = .ok (.int .i64 mr.length) X) (first | exact k1 | exact k2 | exact k3 | exact k4 | exact k5 _ | exact k6 _ _ | assumption)
    (first
      | (go_at_call 67
         (with_reducible refine C1.out.mono ?_)
         rintro e w3 ⟨rfl, m3, b3, z3⟩
         have M3 := Lib.hid m3
         have B3 := Lib.hid b3
         have Z3 := Lib.hid z3
         have hk := (H.out.fr (Fr.refl none' w).drew (fun _ _ => id)).bel b3
         have k4 : SrcQ w3 t s r mr.length := hk.src
         have k5 : ∀ o, SrcQ (w3.alloc o) t s r mr.length := fun o => (hk.fr ((Fr.refl none' w3).alloc _) (fun _ _ => id)).src
         have k6 : ∀ o o', SrcQ ((w3.alloc o).alloc o') t s r mr.length := fun o o' => (hk.fr (((Fr.refl none' w3).alloc _).alloc _) (fun _ _ => id)).src
         clear m3 b3 z3 hk)
      | (go_at_call 67
         (with_reducible refine C2.out.mono ?_)
         rintro e w3 ⟨rfl, m3, b3, z3⟩
         have M3 := Lib.hid m3
         have B3 := Lib.hid b3
         have Z3 := Lib.hid z3
         have hk := (H.out.fr ((Fr.refl none' w).alloc (.map #[] 0)).drew (fun _ _ => id)).bel b3
         have k4 : SrcQ w3 t s r mr.length := hk.src
         have k5 : ∀ o, SrcQ (w3.alloc o) t s r mr.length := fun o => (hk.fr ((Fr.refl none' w3).alloc _) (fun _ _ => id)).src
         have k6 : ∀ o o', SrcQ ((w3.alloc o).alloc o') t s r mr.length := fun o o' => (hk.fr (((Fr.refl none' w3).alloc _).alloc _) (fun _ _ => id)).src
         clear m3 b3 z3 hk)
      | fail)
  all_goals first
     | (have H4 : Hid (TabR ((w3.alloc (.map #[] 0)).alloc (.cells #[.map (some w.heap.size), .map (some w3.heap.size)] 66)) t s r ms mr mt role B ∧ TabR ((w3.alloc (.map #[] 0)).alloc (.cells #[.map (some w.heap.size), .map (some w3.heap.size)] 66)) (w3.heap.size + 1) w.heap.size w3.heap.size ms [] mt (role0 (w3.heap.size + 1) w.heap.size w3.heap.size) [(w3.heap.size + 1), w.heap.size, w3.heap.size] ∧ (∀ b ∈ [(w3.heap.size + 1), w.heap.size, w3.heap.size], w.heap.size ≤ b) ∧ Below w.heap.size w ((w3.alloc (.map #[] 0)).alloc (.cells #[.map (some w.heap.size), .map (some w3.heap.size)] 66))) := Lib.hid (by
          have hz' : w3.heap.size = w.heap.size + 1 := Z3.out
          have hb3 : Below w.heap.size w w3 := ((Below.refl w.heap.size w).drew).trans B3.out
          have hb4 := hb3.alloc (o := .map #[] 0) (by omega)
          have hb5 := hb4.alloc (o := .cells #[.map (some w.heap.size), .map (some w3.heap.size)] 66) (by simp; omega)
          have b1 : Below w3.heap.size w3 (w3.alloc (.map #[] 0)) := (Below.refl _ _).alloc (Nat.le_refl _) _
          have b2 : Below (w3.alloc (.map #[] 0)).heap.size (w3.alloc (.map #[] 0)) ((w3.alloc (.map #[] 0)).alloc (.cells #[.map (some w.heap.size), .map (some w3.heap.size)] 66)) := (Below.refl _ _).alloc (Nat.le_refl _) _
          refine ⟨H.out.bel hb5, tab_made mt ?_ ((M3.out.bel b1).bel b2) ((Mp.made w3).bel b2) (by omega) (by omega) (by omega), fun b hb => ?_, hb5⟩
          · have := Bk.new (w3.alloc (.map #[] 0)) [.map (some w.heap.size), .map (some w3.heap.size)] 66
            simpa using this
          · simp at hb; omega)
        generalize ((w3.alloc (.map #[] 0)).alloc (.cells #[.map (some w.heap.size), .map (some w3.heap.size)] 66)) = W4 at *
        clear M3 B3 Z3 k1 k2 k3 k4 k5 k6
        generalize w3.heap.size + 1 = t2 at *
        generalize w3.heap.size = r2 at *
        obtain ⟨s2, hs2⟩ : ∃ s2, s2 = w.heap.size := ⟨_, rfl⟩
        have H5 : Hid (TabR W4 t s r ms mr mt role B ∧ TabR W4 t2 s2 r2 ms [] mt (role0 t2 s2 r2) [t2, s2, r2] ∧ (∀ b ∈ [t2, s2, r2], w.heap.size ≤ b) ∧ Below w.heap.size w W4) := Lib.hid (by have h4 := H4.out; rw [hs2]; exact h4)
        clear hs2 H4)
     | (have H4 : Hid (TabR (w3.alloc (.cells #[.map (some (w.heap.size + 1)), .map (some w.heap.size)] 66)) t s r ms mr mt role B ∧ TabR (w3.alloc (.cells #[.map (some (w.heap.size + 1)), .map (some w.heap.size)] 66)) w3.heap.size (w.heap.size + 1) w.heap.size ms [] mt (role0 w3.heap.size (w.heap.size + 1) w.heap.size) [w3.heap.size, (w.heap.size + 1), w.heap.size] ∧ (∀ b ∈ [w3.heap.size, (w.heap.size + 1), w.heap.size], w.heap.size ≤ b) ∧ Below w.heap.size w (w3.alloc (.cells #[.map (some (w.heap.size + 1)), .map (some w.heap.size)] 66))) := Lib.hid (by
          have hz := Z3.out
          have hz1 : (w.alloc (.map #[] 0)).drew.heap.size = w.heap.size + 1 := by simp
          have hb1 : Below w.heap.size w (w.alloc (.map #[] 0)).drew := ((Below.refl w.heap.size w).alloc (Nat.le_refl _) _).drew
          have hb3 : Below w.heap.size w w3 := hb1.trans (B3.out.mono (by omega))
          have hb5 := hb3.alloc (o := .cells #[.map (some (w.heap.size + 1)), .map (some w.heap.size)] 66) (by omega)
          have b2 : Below w3.heap.size w3 (w3.alloc (.cells #[.map (some (w.heap.size + 1)), .map (some w.heap.size)] 66)) := (Below.refl _ _).alloc (Nat.le_refl _) _
          have m0 : Mp encS okS (w.alloc (.map #[] 0)).drew w.heap.size [] := (Mp.made w).fr (Fr.refl none' _).drew id
          have m3 := M3.out
          rw [hz1] at m3 hz
          refine ⟨H.out.bel hb5, tab_made mt (Bk.new w3 _ _) (m3.bel b2) ((m0.bel B3.out).bel b2) (by omega) (by omega) (by omega), fun b hb => ?_, hb5⟩
          simp at hb; omega)
        generalize (w3.alloc (.cells #[.map (some (w.heap.size + 1)), .map (some w.heap.size)] 66)) = W4 at *
        clear M3 B3 Z3 k1 k2 k3 k4 k5 k6
        generalize w3.heap.size = t2 at *
        generalize w.heap.size + 1 = s2 at *
        obtain ⟨r2, hs2⟩ : ∃ r2, r2 = w.heap.size := ⟨_, rfl⟩
        have H5 : Hid (TabR W4 t s r ms mr mt role B ∧ TabR W4 t2 s2 r2 ms [] mt (role0 t2 s2 r2) [t2, s2, r2] ∧ (∀ b ∈ [t2, s2, r2], w.heap.size ≤ b) ∧ Below w.heap.size w W4) := Lib.hid (by have h4 := H4.out; rw [hs2]; exact h4)
        clear hs2 H4)
  all_goals
    clear C1 C2 hmm c0 c1
    have e1 : W4.cell? ⟨t, 1, none⟩ = some (.map (some r)) := H5.out.1.bk.cell 1
    have HMP := Lib.hid H5.out.1.mp
    go_wp2_with (at_range; refine wpList_range rfl _ rfl Try.underlying64 HMP.out rfl ?_; intro w5 rg5 b5 z5)
    go_frame
    have hK0 : CopQ w w5 t s r ms mr mt role B t2 s2 r2 W4.heap.size [] (role0 t2 s2 r2) [t2, s2, r2] [] := by
      obtain ⟨q1, q2, q3, q4⟩ := H5.out
      exact ⟨q1.bel b5, q2.bel b5, fun a => by simp [mget, mkeys], H.out.lt, q3, fun hb => by have := q2.lt _ hb; omega, q4.size, q4.trans (b5.mono q4.size)⟩
    have HK0 := Lib.hid hK0
    clear e1 b5 z5 H5 H HMP hK0
    generalize W4.heap.size = it at *
    go_loopw [4, 5] (fun _ _ wr => ∃ done left mr2 role2 B2, Rg encS okS wr r it (vals vMap mr) left ∧ Hid ((done ++ left).Perm (vals vMap mr)) ∧ Hid (CopQ w wr t s r ms mr mt role B t2 s2 r2 it mr2 role2 B2 done)) (fun _ _ wr => wr.rangeLeft r it)
    case atStart => exact ⟨[], vals vMap mr, [], _, _, rg5, Lib.hid (List.Perm.refl _), HK0⟩
    case round =>
      obtain ⟨done, left, mr2, role2, B2, hrg, HPm, HW⟩ := hrel
      clear rg5 HK0
      go_wp2_with (at_next; refine wpList_next' Value.string (fun _ => rfl) rfl _ rfl hrg rfl ?_ ?_)
      · intro hl0
        subst hl0
        have hpm := HPm.out
        rw [List.append_nil] at hpm
        have HE : Hid (∃ t2' s2 r2 mr2 role2 B2, Value.pointer (some ⟨t2, 0, none⟩) = Value.pointer (some ⟨t2', 0, none⟩) ∧ TabR wr t2' s2 r2 ms mr2 mt role2 B2 ∧ (∀ a, (∃ k, mget mr2 a = some k) ↔ a ∈ mkeys mr) ∧ (∀ b ∈ B2, w.heap.size ≤ b) ∧ Below w.heap.size w wr) := Lib.hid ⟨t2, s2, r2, mr2, role2, B2, rfl, HW.out.cp, fun a => by
          rw [HW.out.ks, ← vals_keys vMap mr]
          exact (hpm.map Prod.fst).mem_iff, HW.out.l2, HW.out.bel⟩
        clear hpm HPm hrg HW
        go_wp2_with fail
        go_ret
        obtain ⟨x1, x2, x3, x4, x5, x6, h0, h⟩ := HE.out
        exact ⟨x1, x2, x3, x4, x5, x6, by rw [h0]; rfl, h⟩
      · intro k u more w3 hp hok hm hrg3 hf3 hz3 hen
        have hW3 := HW.out.next hf3
        obtain ⟨bk, rfl, hbk⟩ := vMap_mem hm
        have hkk : mget mr k = some bk := get_of_mem (by have := hW3.src.mp.nd; rwa [vals_keys] at this) hbk
        have hrow := hW3.src.rw' k bk hkk
        have HPm3 : Hid (((done ++ [(k, Value.map (some bk))]) ++ more).Perm (vals vMap mr)) := Lib.hid ((by
          rw [List.append_assoc]
          exact List.Perm.append_left done hp.symm : ((done ++ [(k, Value.map (some bk))]) ++ more).Perm (done ++ left)).trans HPm.out)
        have hmes : w3.rangeLeft r it < wr.rangeLeft r it := by
          rw [hrg3.left_eq, hrg.left_eq, hp.length_eq]; simp
        have HM := Lib.hid hmes
        have HIT : Hid (it < w3.heap.size) := Lib.hid hrg3.lt
        have HOK := Lib.hid hok
        have HC := Lib.hid (clone_any bk _ w3.drew (hrow.fr (Fr.refl none' w3).drew id))
        have HRG3 := Lib.hid hrg3
        have HK3 := Lib.hid hW3
        have f1 : w3.cell? ⟨t2, 1, none⟩ = some (.map (some r2)) := hW3.cp.bk.cell 1
        clear hmes hrg HW HPm hp hok hm hrg3 hf3 hz3 hW3 hbk hkk hrow
        go_wp2_with fail
        go_region_held3 (fun X => X.cell? ⟨t2, 1, none⟩ = some (.map (some r2))) (first | assumption | go_keep)
          (first
            | (go_at_call 67
               (with_reducible refine HC.out.mono ?_)
               rintro e w4 ⟨rfl, m4, b4, z4⟩
               have M4 := Lib.hid m4
               have B4 := Lib.hid b4
               have hk4 : w4.cell? ⟨t2, 1, none⟩ = some (.map (some r2)) := ((HK3.out.cp.fr (Fr.refl none' w3).drew (fun _ _ => id)).bel b4).bk.cell 1
               have hms := ((HK3.out.cp.mp.fr (Fr.refl none' w3).drew id).bel b4).store (P := Try.prog) keyS Try.underlying64 (a := k) HOK.out (.map (some w3.drew.heap.size))
               obtain ⟨w6, hr6, m6, f6, z6⟩ := hms
               have hr7 : (Instr.mapUpdate 64 (.map (some r2)) (.string k) (.map (some w3.heap.size))).run Try.prog w4 = .ok () w6 := hr6
               have M6 := Lib.hid m6
               have F6 := Lib.hid f6
               have hk6 : w6.cell? ⟨t2, 1, none⟩ = some (.map (some r2)) := by
                 have hne : t2 ≠ r2 := fun e => by
                   have h1 := HK3.out.cp.rt
                   have h2 := HK3.out.cp.rr
                   rw [e, h2] at h1; cases h1
                 exact (((HK3.out.cp.bk.fr (Fr.refl none' w3).drew id).bel b4).fr f6 hne).cell 1
               clear m4 b4 m6 f6 z6 hr6 z4)
            | fail)
        have hb4 : Below w3.heap.size w3 w4 := ((Below.refl w3.heap.size w3).drew).trans B4.out
        have HK6 := Lib.hid (HK3.out.more (a := k) (u := Value.map (some bk)) HIT.out hb4 M4.out (Nat.le_refl _) M6.out F6.out)
        have HRG6 := Lib.hid ((HRG3.out.bel hb4).fr F6.out (fun e => by have := HK3.out.l1 r (HK3.out.src.inB _ _ HK3.out.src.rr); have := HK3.out.l2 r2 (HK3.out.cp.inB _ _ HK3.out.cp.rr); omega) (fun e => HK3.out.l3 (by rw [e]; exact HK3.out.cp.inB _ _ HK3.out.cp.rr)))
        have HM6 : Hid (w6.rangeLeft r it < wr.rangeLeft r it) := Lib.hid (by rw [HRG6.out.left_eq, ← HRG3.out.left_eq]; exact HM.out)
        clear M4 B4 M6 F6 hk4 hk6 hr7 hb4 HK3 HRG3 HM HC f1 hen
        go_wp2_with fail
        obtain ⟨x1, x2, x3, hx⟩ := HK6.out
        exact ⟨⟨_, more, x1, x2, x3, HRG6.out, HPm3, Lib.hid hx⟩, HM6.out⟩
end
/-- copy -/
theorem copy_any {w : World} {t : Nat} {B : List Nat} {C : CF} (h : TabAt w t B C) :
    Calls Try.prog 47 #[.pointer (some ⟨t, 0, none⟩)] w fun e w' => ∃ t2 B2, e = .returned (.pointer (some ⟨t2, 0, none⟩)) ∧ TabAt w' t2 B2 C ∧ (∀ b ∈ B2, w.heap.size ≤ b) ∧ Below w.heap.size w w' := by
  obtain ⟨s, r, ms, mr, mt, role, h1, h2⟩ := h.ex
  refine (copy_walk h1).mono ?_
  rintro e w' ⟨t2, s2, r2, mr2, role2, B2, rfl, h3, h4, h5, h6⟩
  refine ⟨t2, B2, rfl, ⟨⟨s2, r2, ms, mr2, mt, role2, h3, h2.s0, fun a k hk => ?_, fun a ha => ?_, fun a k hk => ?_⟩, h.io⟩, h5, h6⟩
  · obtain ⟨k', hk'⟩ := (key_iff mr a).1 ((h4 a).1 ⟨k, hk⟩)
    exact h2.r0 a k' hk'
  · refine h2.r1 a ?_
    cases e : mget mr a with
    | none => rfl
    | some k' =>
      obtain ⟨k, hk⟩ := (h4 a).2 ((key_iff mr a).2 ⟨k', e⟩)
      rw [ha] at hk; cases hk
  · obtain ⟨k', hk'⟩ := (key_iff mr a).1 ((h4 a).1 ⟨k, hk⟩)
    exact h2.ne a k' hk'
end Go.Proofs.Ytbmjddmejmeknaa.Pr

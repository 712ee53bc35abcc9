/- Contract of Sessions.Merge: three ranges, one within another. -/
import Derived.Test.YtcnddbcdkpdkbaaEKind
import Derived.LaidEqlPtr
namespace Go.Proofs.Ytcnddbcdkpdkbaa
open Go.RowKit Go.MapKept Go.Maps Go.ChangeShapes Go.WideShapes Go.Shelf
set_option linter.unusedVariables false
set_option linter.unusedSimpArgs false
theorem infoSess : ∃ j, Try.prog.info? 60 = some j ∧ j.size ≠ 0 := by
  have h : (Try.prog.info? 60).map (fun i => i.size) = some 2 := by kernel_rfl
  obtain ⟨j, hj, e⟩ := Option.map_eq_some_iff.1 h
  exact ⟨j, hj, by rw [e]; decide⟩
theorem vMap_mem {α : Type} {ms : List (α × Nat)} {k : α} {u : Value} (h : (k, u) ∈ vals vMap ms) : ∃ b, u = .map (some b) ∧ (k, b) ∈ ms := by
  obtain ⟨x, hx, e⟩ := List.mem_map.1 h
  obtain ⟨rfl, rfl⟩ := Prod.mk.inj e
  exact ⟨x.2, rfl, hx⟩
theorem keys_cons {α : Type} {l more : List (α × Value)} {k x : α} {u : Value} (hp : l.Perm ((k, u) :: more)) (h : x ∈ mkeys l) : x = k ∨ x ∈ mkeys more := by
  have := (hp.map Prod.fst).mem_iff.1 h
  rcases List.mem_cons.1 this with h | h
  · exact .inl h
  · exact .inr h
/-- what stands while o is gone through and s grows -/
structure MgI (w wr : World) (s o r : Nat) (gap gap2 : Int) (B C : List Nat) (mr : MR) (mt : ByteArray → MT) (mi : ByteArray → Int → MI) (role : Nat → Option Role) (L' : List Tri) (its : List Nat) : Prop where
  se : ∃ B', SesAt wr s B' gap L' ∧ Sprd w B B' ∧ ∀ k ∈ its, k ∉ B'
  ot : SesR wr o r gap2 mr mt mi role C
  fr : Fr (fun b => b ∈ B) w wr
  il : ∀ k ∈ its, w.heap.size ≤ k ∧ k < wr.heap.size
  cl : ∀ b ∈ C, b < w.heap.size
  ap : Aprt B C
section
variable {w wr w' : World} {s o r : Nat} {gap gap2 : Int} {B C : List Nat} {mr : MR} {mt : ByteArray → MT} {mi : ByteArray → Int → MI} {role : Nat → Option Role} {L' : List Tri} {its : List Nat}
theorem MgI.bel (h : MgI w wr s o r gap gap2 B C mr mt mi role L' its) (hb : Below wr.heap.size wr w') : MgI w w' s o r gap gap2 B C mr mt mi role L' its := by
  obtain ⟨B', h1, h2, h3⟩ := h.se
  exact ⟨⟨B', h1.bel hb, h2, h3⟩, h.ot.bel hb, h.fr.bel hb, fun k hk => ⟨(h.il k hk).1, Nat.lt_of_lt_of_le (h.il k hk).2 hb.size⟩, h.cl, h.ap⟩
theorem MgI.push (h : MgI w wr s o r gap gap2 B C mr mt mi role L' its) (hb : Below wr.heap.size wr w') (hs : w'.heap.size = wr.heap.size + 1) : MgI w w' s o r gap gap2 B C mr mt mi role L' (wr.heap.size :: its) := by
  have h' := h.bel hb
  obtain ⟨B', h1, h2, h3⟩ := h.se
  have hz := h.fr.size
  refine ⟨⟨B', h1.bel hb, h2, fun k hk => ?_⟩, h'.ot, h'.fr, fun k hk => ?_, h.cl, h.ap⟩
  · rcases List.mem_cons.1 hk with rfl | hk
    · intro hc
      have := h1.lt _ hc
      omega
    · exact h3 k hk
  · rcases List.mem_cons.1 hk with rfl | hk
    · exact ⟨hz, by omega⟩
    · exact h'.il k hk
theorem MgI.pop {k : Nat} (h : MgI w wr s o r gap gap2 B C mr mt mi role L' (k :: its)) : MgI w wr s o r gap gap2 B C mr mt mi role L' its := by
  obtain ⟨B', h1, h2, h3⟩ := h.se
  exact ⟨⟨B', h1, h2, fun k hk => h3 k (by simp [hk])⟩, h.ot, h.fr, fun k hk => h.il k (by simp [hk]), h.cl, h.ap⟩
theorem MgI.next (h : MgI w wr s o r gap gap2 B C mr mt mi role L' its) {it : Nat} (hk : it ∈ its) (hf : Fr (fun b => b = it) wr w') : MgI w w' s o r gap gap2 B C mr mt mi role L' its := by
  obtain ⟨B', h1, h2, h3⟩ := h.se
  have hi := (h.il it hk).1
  exact ⟨⟨B', h1.fr hf (fun b hb e => h3 it hk (e ▸ hb)), h2, h3⟩, h.ot.fr hf (fun b hb e => by have := h.cl b hb; omega), h.fr.trans hf (fun i hlt e => by omega), fun k hk => ⟨(h.il k hk).1, Nat.lt_of_lt_of_le (h.il k hk).2 hf.size⟩, h.cl, h.ap⟩
theorem MgI.add (h : MgI w wr s o r gap gap2 B C mr mt mi role L' its) (a : Tri) (ha : aOk a) (hn : L'.length + 1 ≤ 100000) :
    Calls Try.prog 15 #[.pointer (some ⟨s, 0, none⟩), .string a.1, .int .i64 a.2.1, .string a.2.2] wr fun e w' => e = .returned (.bool (okT a)) ∧ MgI w w' s o r gap gap2 B C mr mt mi role (addT L' a) its ∧ ∃ T : Nat → Prop, Fr T wr w' ∧ (∀ k ∈ its, ¬ T k) ∧ ∀ b ∈ C, ¬ T b := by
  obtain ⟨B', h1, h2, h3⟩ := h.se
  refine (add_any h1 a.1 a.2.2 a.2.1 ha.1 ha.2.2 ha.2.1 hn).mono ?_
  rintro e w' ⟨rfl, ⟨B2, h4, h5⟩, h6⟩
  have hC : ∀ b ∈ C, b ∉ B' := fun b hb hc => by
    rcases h2 b hc with k | k
    · exact h.ap b k hb
    · have := h.cl b hb; omega
  have hz := h.fr.size
  refine ⟨rfl, ⟨⟨B2, h4, fun b hb => ?_, fun k hk hc => ?_⟩, h.ot.fr h6 hC, h.fr.trans h6 (fun i hlt hi => ?_), fun k hk => ⟨(h.il k hk).1, Nat.lt_of_lt_of_le (h.il k hk).2 h6.size⟩, h.cl, h.ap⟩, _, h6, h3, hC⟩
  · rcases h5 b hb with k | k
    · exact h2 b k
    · exact .inr (by omega)
  · rcases h5 k hc with j | j
    · exact h3 k hk j
    · have := (h.il k hk).2; omega
  · rcases h2 i hi with k | k
    · exact k
    · omega
end
theorem ok_aOk {a : Tri} (h : okT a = true) : aOk a := by
  have := (okT_iff a).1 h
  exact ⟨by unfold maxLen; omega, by unfold I64; omega, by unfold maxLen; omega⟩
theorem riseT_nodup {L : List Tri} (h : RiseT L) : L.Nodup := RiseG.nodup ordA h
theorem adds_sub_len {L M X : List Tri} (hL : SOk L) (hX : ∀ x ∈ X, x ∈ M) : (addsT L X).length ≤ L.length + M.length := by
  have := nodup_len (riseT_nodup (hL.adds X).rise) (m := L ++ M) (fun x hx => by
    rcases (mem_adds X L x).1 hx with ⟨h, _⟩ | h
    · exact List.mem_append_right _ (hX x h)
    · exact List.mem_append_left _ h)
  rwa [List.length_append] at this
theorem adds_same {L M X : List Tri} (hL : SOk L) (h1 : ∀ x ∈ X, x ∈ M) (h2 : ∀ x ∈ M, x ∈ X) : addsT L X = addsT L M := by
  refine (hL.adds X).ext (hL.adds M) (fun x => ?_)
  rw [mem_adds, mem_adds]
  exact ⟨fun h => h.imp (fun h => ⟨h1 x h.1, h.2⟩) id, fun h => h.imp (fun h => ⟨h2 x h.1, h.2⟩) id⟩
set_option maxRecDepth 20000 in
set_option maxHeartbeats 1000000 in
theorem smerge_nil (s : Nat) (w : World) :
    Calls Try.prog 28 #[.pointer (some ⟨s, 0, none⟩), .pointer none] w fun e w' => e = .returned (.bool false) ∧ Below w.heap.size w w' := by
  go_enter Try.func28, Try.ntmps28
  go_wp2_with fail
  go_quiet (fail)
  go_wp2_with fail
  go_ret
  exact ⟨rfl, bdrewN (Below.refl _ _) nq⟩
set_option maxRecDepth 20000 in
set_option maxHeartbeats 1000000 in
theorem smerge_no {w : World} {s o : Nat} {B C : List Nat} {gap gap2 : Int} {L M : List Tri} (h1 : SesAt w s B gap L) (h2 : SesAt w o C gap2 M) (hg : gap2 ≠ gap) :
    Calls Try.prog 28 #[.pointer (some ⟨s, 0, none⟩), .pointer (some ⟨o, 0, none⟩)] w fun e w' => e = .returned (.bool false) ∧ Below w.heap.size w w' := by
  obtain ⟨r1, _, _, _, _, k1, _⟩ := h1.ex
  obtain ⟨r2, _, _, _, _, k2, _⟩ := h2.ex
  have c1 : w.cell? ⟨s, 0, none⟩ = some (.int .i64 gap) := k1.bk.cell 0
  have c2 : w.cell? ⟨o, 0, none⟩ = some (.int .i64 gap2) := k2.bk.cell 0
  have u1 : (gap2 == gap) = false := by simp [hg]
  have u2 : (gap2 != gap) = true := by simp [bne, u1]
  clear k1 k2 h1 h2 hg
  go_enter Try.func28, Try.ntmps28
  go_wp2_with fail
  go_quiet (fail)
  go_wp2_with fail
  go_ret
  exact ⟨rfl, bdrewN (Below.refl _ _) nq⟩
set_option maxRecDepth 20000 in
set_option maxHeartbeats 4000000 in
theorem smerge_any {w : World} {s o : Nat} {B C : List Nat} {gap : Int} {L M : List Tri} (hs : SesAt w s B gap L) (ho : SesAt w o C gap M) (ap : Aprt B C) (hlen : L.length + M.length + 1 ≤ 100000) :
    Calls Try.prog 28 #[.pointer (some ⟨s, 0, none⟩), .pointer (some ⟨o, 0, none⟩)] w fun e w' => e = .returned (.bool true) ∧ (∃ B', SesAt w' s B' gap (addsT L M) ∧ Sprd w B B') ∧ Fr (fun b => b ∈ B) w w' := by
  obtain ⟨rs, _, _, _, _, k1, _⟩ := hs.ex
  obtain ⟨r, mr, mt, mi, role, k2, hrel⟩ := ho.ex
  have hC := ho.lt
  have hne : o ≠ s := fun e => ap s (k1.inB _ _ k1.rs) (by rw [← e]; exact k2.inB _ _ k2.rs)
  have c1 : w.cell? ⟨s, 0, none⟩ = some (.int .i64 gap) := k1.bk.cell 0
  have c2 : w.cell? ⟨o, 0, none⟩ = some (.int .i64 gap) := k2.bk.cell 0
  have HBK := Lib.hid (And.intro k1.bk k2.bk)
  have HR := Lib.hid hrel
  have HLO := Lib.hid hs.ok
  have HMO := Lib.hid ho.ok
  have HNE := Lib.hid hne
  have HLN := Lib.hid hlen
  have HM0 : Hid (MgI w w s o r gap gap B C mr mt mi role L []) := Lib.hid ⟨⟨B, hs, fun b hb => .inl hb, by simp⟩, k2, Fr.refl _ _, by simp, hC, ap⟩
  have u2 : (gap != gap) = false := by simp
  clear hs ho ap k1 k2 hrel hC hne hlen
  go_enter Try.func28, Try.ntmps28
  go_wp2_with fail
  go_quiet (fail)
  have hM1 := HM0.out.bel (bdrewN (Below.refl _ _) nq)
  have hbk := (Fr.refl none' w).drewN nq
  have b1 := HBK.out.1.fr hbk id
  have b2 := HBK.out.2.fr hbk id
  have HM1 := Lib.hid hM1
  clear HM0 c1 c2 u2 hM1 hbk HBK
  generalize w.drewN nq = V at *
  obtain ⟨j0, hj0, hj1⟩ := infoSess
  have heq := run_eql_ptr_other (P := Try.prog) V (tp := 25) (te := 60) (a := ⟨o, 0, none⟩) (b := ⟨s, 0, none⟩) Try.underlying25 hj0 hj1 (fun e => HNE.out (congrArg Addr.block e)) b2 b1
  have c2 : V.cell? ⟨o, 1, none⟩ = some (.map (some r)) := b2.cell 1
  have HMP := Lib.hid HM1.out.ot.mp
  clear b1 b2 hj0 hj1
  go_wp2_with (at_range; refine wpList_range rfl _ rfl Try.underlying58 HMP.out rfl ?_; intro w2 rg2 b2 z2)
  go_frame
  have HM2 := Lib.hid (HM1.out.push b2 z2)
  have HP0 : Hid ((∀ x ∈ ([] : List Tri), x ∈ M) ∧ ∀ x ∈ M, x ∈ ([] : List Tri) ∨ x.1 ∈ mkeys (vals vMap mr)) := Lib.hid ⟨by simp, fun x hx => .inr (by
    rw [vals_keys, key_iff]
    obtain ⟨b, c, h1, _⟩ := (HR.out.mem x.1 x.2.1 x.2.2).1 hx
    exact ⟨b, h1⟩)⟩
  clear b2 z2 HMP HM1 heq c2
  generalize V.heap.size = it1 at *
  go_loopw [5, 6, 7, 8, 9] (fun _ _ _ _ _ wr => ∃ X left, Rg encS okS wr r it1 (vals vMap mr) left ∧ Hid ((∀ x ∈ X, x ∈ M) ∧ ∀ x ∈ M, x ∈ X ∨ x.1 ∈ mkeys left) ∧ Hid (MgI w wr s o r gap gap B C mr mt mi role (addsT L X) [it1])) (fun _ _ _ _ _ wr => wr.rangeLeft r it1)
  case atStart => exact ⟨[], vals vMap mr, rg2, HP0, HM2⟩
  case round =>
    obtain ⟨X, left, hrg, HX, HW⟩ := hrel
    clear rg2 HM2 HP0
    go_wp2_with (at_next; refine wpList_next' Value.string (fun _ => rfl) rfl _ rfl hrg rfl ?_ ?_)
    · intro hl0
      subst hl0
      have HF : Hid (addsT L X = addsT L M) := Lib.hid (adds_same HLO.out HX.out.1 (fun x hx => by
        rcases HX.out.2 x hx with h | h
        · exact h
        · simp [mkeys] at h))
      clear hrg
      go_wp2_with fail
      go_ret
      obtain ⟨B', h1, h2, -⟩ := HW.out.se
      rw [HF.out] at h1
      exact ⟨rfl, ⟨B', h1, h2⟩, HW.out.fr⟩
    · intro p u more1 w3 hp hok hm hrg3 hf3 hz3 hen
      obtain ⟨b, rfl, hbm⟩ := vMap_mem hm
      have hW3 := HW.out.next (it := it1) (by simp) hf3
      have hgb : mget mr p = some b := get_of_mem (by have := hW3.ot.mp.nd; rwa [vals_keys] at this) hbm
      have HMB : Hid (Mp encI okI w3 b (vals vMap (mt p))) := Lib.hid (hW3.ot.tk p b hgb)
      have HGB := Lib.hid hgb
      have HML : Hid (wr.rangeLeft r it1 = more1.length + 1) := Lib.hid (by rw [hrg.left_eq, hp.length_eq]; rfl)
      have HX1 : Hid ((∀ x ∈ X, x ∈ M) ∧ ∀ x ∈ M, x ∈ X ∨ x.1 ∈ mkeys more1 ∨ (x.1 = p ∧ x.2.1 ∈ mkeys (vals vMap (mt p)))) := Lib.hid ⟨HX.out.1, fun x hx => by
        rcases HX.out.2 x hx with h | h
        · exact .inl h
        · rcases keys_cons hp h with h | h
          · refine .inr (.inr ⟨h, ?_⟩)
            rw [vals_keys, key_iff]
            obtain ⟨b', c', _, h2, _⟩ := (HR.out.mem x.1 x.2.1 x.2.2).1 hx
            rw [h] at h2
            exact ⟨c', h2⟩
          · exact .inr (.inl h)⟩
      have HW3 := Lib.hid hW3
      have HRG3 := Lib.hid hrg3
      have HOP := Lib.hid hok
      clear hp hm hbm hW3 hgb hrg hf3 hz3 HX HW hrg3 hok
      go_wp2_with (at_range; refine wpList_range rfl _ rfl Try.underlying64 HMB.out rfl ?_; intro w4 rg4 b4 z4)
      go_frame
      have HW4 := Lib.hid (HW3.out.push b4 z4)
      have HRG4 := Lib.hid (HRG3.out.bel b4)
      have HI2 : Hid (it1 < w3.heap.size) := Lib.hid HRG3.out.lt
      clear b4 z4 HMB HW3 HRG3
      generalize w3.heap.size = it2 at *
      go_loopw [7, 8, 9] (fun _ _ _ wr => ∃ X left2, Rg encI okI wr b it2 (vals vMap (mt p)) left2 ∧ Hid (Rg encS okS wr r it1 (vals vMap mr) more1) ∧ Hid ((∀ x ∈ X, x ∈ M) ∧ ∀ x ∈ M, x ∈ X ∨ x.1 ∈ mkeys more1 ∨ (x.1 = p ∧ x.2.1 ∈ mkeys left2)) ∧ Hid (MgI w wr s o r gap gap B C mr mt mi role (addsT L X) [it2, it1])) (fun _ _ _ wr => wr.rangeLeft b it2)
      case atStart => exact ⟨X, vals vMap (mt p), rg4, HRG4, HX1, HW4⟩
      case round =>
        clear rg4 HRG4 HX1 HW4
        obtain ⟨X, left2, hrg, HRG1, HX, HW⟩ := hrel
        go_wp2_with (at_next; refine wpList_next' (Value.int .i64) (fun _ => rfl) rfl _ rfl hrg rfl ?_ ?_)
        · intro hl0
          subst hl0
          have HX2 : Hid ((∀ x ∈ X, x ∈ M) ∧ ∀ x ∈ M, x ∈ X ∨ x.1 ∈ mkeys more1) := Lib.hid ⟨HX.out.1, fun x hx => by
            rcases HX.out.2 x hx with h | h | ⟨_, h⟩
            · exact .inl h
            · exact .inr h
            · simp [mkeys] at h⟩
          have HW2 := Lib.hid HW.out.pop
          have HMES := Lib.hid HRG1.out.left_eq
          clear hrg HX HW
          go_wp2_with fail
          exact ⟨⟨X, more1, HRG1.out, HX2, HW2⟩, by rw [HMES.out, HML.out]; omega⟩
        · intro t u more2 w5 hp hok hm hrg5 hf5 hz5 hen5
          obtain ⟨c, rfl, hcm⟩ := vMap_mem hm
          have hW5 := HW.out.next (it := it2) (by simp) hf5
          have hgc : mget (mt p) t = some c := get_of_mem (by have := (hW5.ot.tk p b HGB.out).nd; rwa [vals_keys] at this) hcm
          have HMC : Hid (Mp encS okS w5 c (vals vT (mi p t))) := Lib.hid (hW5.ot.it p b t c HGB.out hgc)
          have HGC := Lib.hid hgc
          have HML2 : Hid (wr.rangeLeft b it2 = more2.length + 1) := Lib.hid (by rw [hrg.left_eq, hp.length_eq]; rfl)
          have hrC : r ∈ C := hW5.ot.inB _ _ hW5.ot.rr
          have HRG1b := Lib.hid (HRG1.out.fr hf5 (fun e => by have h1 := hW5.cl r hrC; have h2 := (hW5.il it2 (by simp)).1; omega) (fun e => by have := HI2.out; omega))
          have HX1 : Hid ((∀ x ∈ X, x ∈ M) ∧ ∀ x ∈ M, x ∈ X ∨ x.1 ∈ mkeys more1 ∨ (x.1 = p ∧ x.2.1 ∈ mkeys more2) ∨ (x.1 = p ∧ x.2.1 = t ∧ x.2.2 ∈ mkeys (vals vT (mi p t)))) := Lib.hid ⟨HX.out.1, fun x hx => by
            rcases HX.out.2 x hx with h | h | ⟨h1, h⟩
            · exact .inl h
            · exact .inr (.inl h)
            · rcases keys_cons hp h with h | h
              · refine .inr (.inr (.inr ⟨h1, h, ?_⟩))
                rw [vals_keys, key_iff]
                obtain ⟨b', c', _, _, h3⟩ := (HR.out.mem x.1 x.2.1 x.2.2).1 hx
                rw [h1, h] at h3
                exact ⟨(), h3⟩
              · exact .inr (.inr (.inl ⟨h1, h⟩))⟩
          have HW5 := Lib.hid hW5
          have HRG5 := Lib.hid hrg5
          clear hp hm hcm hW5 hgc hrg hf5 hz5 HX HW hrg5 hok HRG1 hrC
          go_wp2_with (at_range; refine wpList_range rfl _ rfl Try.underlying65 HMC.out rfl ?_; intro w6 rg6 b6 z6)
          go_frame
          have HW6 := Lib.hid (HW5.out.push b6 z6)
          have HRG6 := Lib.hid (HRG5.out.bel b6)
          have HRG1c := Lib.hid (HRG1b.out.bel b6)
          have HI3 : Hid (it2 < w5.heap.size) := Lib.hid HRG5.out.lt
          clear b6 z6 HMC HW5 HRG5 HRG1b
          generalize w5.heap.size = it3 at *
          go_loopw [9] (fun _ wr => ∃ X left3, Rg encS okS wr c it3 (vals vT (mi p t)) left3 ∧ Hid (Rg encS okS wr r it1 (vals vMap mr) more1) ∧ Hid (Rg encI okI wr b it2 (vals vMap (mt p)) more2) ∧ Hid ((∀ x ∈ X, x ∈ M) ∧ ∀ x ∈ M, x ∈ X ∨ x.1 ∈ mkeys more1 ∨ (x.1 = p ∧ x.2.1 ∈ mkeys more2) ∨ (x.1 = p ∧ x.2.1 = t ∧ x.2.2 ∈ mkeys left3)) ∧ Hid (MgI w wr s o r gap gap B C mr mt mi role (addsT L X) [it3, it2, it1])) (fun _ wr => wr.rangeLeft c it3)
          case atStart => exact ⟨X, vals vT (mi p t), rg6, HRG1c, HRG6, HX1, HW6⟩
          case round =>
            clear rg6 HRG1c HRG6 HX1 HW6
            obtain ⟨X, left3, hrg, HRG1, HRG2, HX, HW⟩ := hrel
            go_wp2_with (at_next; refine wpList_next' Value.string (fun _ => rfl) rfl _ rfl hrg rfl ?_ ?_)
            · intro hl0
              subst hl0
              have HX2 : Hid ((∀ x ∈ X, x ∈ M) ∧ ∀ x ∈ M, x ∈ X ∨ x.1 ∈ mkeys more1 ∨ (x.1 = p ∧ x.2.1 ∈ mkeys more2)) := Lib.hid ⟨HX.out.1, fun x hx => by
                rcases HX.out.2 x hx with h | h | h | ⟨_, _, h⟩
                · exact .inl h
                · exact .inr (.inl h)
                · exact .inr (.inr h)
                · simp [mkeys] at h⟩
              have HW2 := Lib.hid HW.out.pop
              have HMES := Lib.hid HRG2.out.left_eq
              clear hrg HX HW
              go_wp2_with fail
              exact ⟨⟨X, more2, HRG2.out, HRG1, HX2, HW2⟩, by rw [HMES.out, HML2.out]; omega⟩
            · intro i u more3 w7 hp hok hm hrg7 hf7 hz7 hen7
              obtain ⟨rfl, him⟩ := vT_mem hm
              have hW7 := HW.out.next (it := it3) (by simp) hf7
              have hrC : r ∈ C := hW7.ot.inB _ _ hW7.ot.rr
              have hbC : b ∈ C := hW7.ot.inB _ _ (hW7.ot.rp p b HGB.out)
              have hcC : c ∈ C := hW7.ot.inB _ _ (hW7.ot.rt p b t c HGB.out HGC.out)
              have hi3 := (hW7.il it3 (by simp)).1
              have hm' : ((p, t, i) : Tri) ∈ M := (HR.out.mem p t i).2 ⟨b, c, HGB.out, HGC.out, (unit_get _ _).2 him⟩
              have HR1 := Lib.hid (HRG1.out.fr hf7 (fun e => by have := hW7.cl r hrC; omega) (fun e => by have := HI2.out; have := HI3.out; omega))
              have HR2 := Lib.hid (HRG2.out.fr hf7 (fun e => by have := hW7.cl b hbC; omega) (fun e => by have := HI3.out; omega))
              have HR3 := Lib.hid hrg7
              have HML3 : Hid (wr.rangeLeft c it3 = more3.length + 1) := Lib.hid (by rw [hrg.left_eq, hp.length_eq]; rfl)
              have HX2 : Hid ((∀ x ∈ X ++ [((p, t, i) : Tri)], x ∈ M) ∧ ∀ x ∈ M, x ∈ X ++ [((p, t, i) : Tri)] ∨ x.1 ∈ mkeys more1 ∨ (x.1 = p ∧ x.2.1 ∈ mkeys more2) ∨ (x.1 = p ∧ x.2.1 = t ∧ x.2.2 ∈ mkeys more3)) := Lib.hid ⟨fun x hx => by
                rcases List.mem_append.1 hx with h | h
                · exact HX.out.1 x h
                · simp only [List.mem_cons, List.not_mem_nil, or_false] at h
                  rw [h]; exact hm', fun x hx => by
                rcases HX.out.2 x hx with h | h | h | ⟨h1, h2, h⟩
                · exact .inl (List.mem_append_left _ h)
                · exact .inr (.inl h)
                · exact .inr (.inr (.inl h))
                · rcases keys_cons hp h with h | h
                  · refine .inl (List.mem_append_right _ ?_)
                    obtain ⟨x1, x2, x3⟩ := x
                    simp only at h1 h2 h
                    simp [h1, h2, h]
                  · exact .inr (.inr (.inr ⟨h1, h2, h⟩))⟩
              have CC := Lib.hid (hW7.add (p, t, i) (ok_aOk (HMO.out.ok _ hm')) (by have := adds_sub_len HLO.out HX.out.1; have := HLN.out; omega))
              have HIC := Lib.hid (And.intro hrC (And.intro hbC hcC))
              clear hp hm him hW7 hrg hf7 hz7 HX HW hrg7 hok HRG1 HRG2 hrC hbC hcC hi3 hm'
              go_wp2_with fail
              refine CC.out.mono ?_
              rintro e w8 ⟨rfl, h8, T, f8, t1, t2⟩
              have HR1b := Lib.hid (HR1.out.fr f8 (t2 r HIC.out.1) (t1 it1 (by simp)))
              have HR2b := Lib.hid (HR2.out.fr f8 (t2 b HIC.out.2.1) (t1 it2 (by simp)))
              have HR3b := Lib.hid (HR3.out.fr f8 (t2 c HIC.out.2.2) (t1 it3 (by simp)))
              have HW8 : Hid (MgI w w8 s o r gap gap B C mr mt mi role (addsT L (X ++ [((p, t, i) : Tri)])) [it3, it2, it1]) := Lib.hid (by rw [addsT_snoc]; exact h8)
              have HMES := Lib.hid HR3b.out.left_eq
              clear h8 f8 t1 t2 CC HR1 HR2 HR3
              go_wp2_with fail
              exact ⟨⟨X ++ [((p, t, i) : Tri)], more3, HR3b.out, HR1b, HR2b, HX2, HW8⟩, by rw [HMES.out, HML3.out]; omega⟩
section
variable {w0 w : World} {os : List Ob12} {i j s o : Nat} {gap : Int} {L M : List Tri}
theorem h_smerge (h : Here K12 w0 w os) (hi : os[i]? = some (.ses s gap L)) (hj : os[j]? = some (.ses o gap M)) (hij : j ≠ i) (hlen : L.length + M.length + 1 ≤ 100000) :
    Calls Try.prog 28 #[.pointer (some ⟨s, 0, none⟩), .pointer (some ⟨o, 0, none⟩)] w fun e w' => e = .returned (.bool true) ∧ Here K12 w0 w' (os.set i (.ses s gap (addsT L M))) := by
  obtain ⟨B, h1, _, h3, h4⟩ := h.use hi
  obtain ⟨C, h5, h6⟩ := h4 j _ hij hj
  refine (smerge_any h1 h5 h6 hlen).mono ?_
  rintro e w' ⟨rfl, ⟨B', h7, h8⟩, h9⟩
  exact ⟨rfl, h3 w' (.ses s gap _) B' h7 h9 h8⟩
theorem h_smerge_no {gap2 : Int} (h : Here K12 w0 w os) (hi : os[i]? = some (.ses s gap L)) (hj : os[j]? = some (.ses o gap2 M)) (hg : gap2 ≠ gap) :
    Calls Try.prog 28 #[.pointer (some ⟨s, 0, none⟩), .pointer (some ⟨o, 0, none⟩)] w fun e w' => e = .returned (.bool false) ∧ Here K12 w0 w' os := by
  obtain ⟨B, h1⟩ := h_ses h hi
  obtain ⟨C, h2⟩ := h_ses h hj
  refine (smerge_no h1 h2 hg).mono ?_
  rintro e w' ⟨rfl, hb⟩
  exact ⟨rfl, h.step_bel hb⟩
end
end Go.Proofs.Ytcnddbcdkpdkbaa

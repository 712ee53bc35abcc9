/- Rows of one-cell elements of the call's own, long ones; cells that a step leaves. No program in sight. Contract of Append of a disk. Contracts of package disk: Sync, Remove. Contracts of package disk: Read, and what Append refuses. Contracts of package disk: Replace. Printed by genDk6.py. A map of the call's own with texts for keys, in the library's words. No program in sight. -/
import Derived.Test.YtkofcegdoilaeaaGreatDoorPk3
import Derived.Test.YtkofcegdoilaeaaGreatDoorPk9
import Derived.Sort.KeysCollected
namespace Go.Proofs.YtkofcegdoilaeaaGreatDoor
open Go.RowKit
theorem Fr.cell {S : Nat → Prop} {w w' : World} (h : Fr S w w') {k i : Nat} (hk : k < w.heap.size) (hs : ¬ S k) : w'.cell? ⟨k, i, none⟩ = w.cell? ⟨k, i, none⟩ := by
  unfold World.cell?
  simp [h.block k hk hs]
theorem InW.fr {S : Nat → Prop} {w w' : World} {b : Option Addr} {sz : Nat} {css : List (List Value)} (h : InW w b sz css) (hf : Fr S w w') (hs : ∀ k o, b = some ⟨k, o, none⟩ → ¬ S k) : InW w' b sz css := by
  rcases h with h | ⟨B, off, hB, hl, hc⟩
  · exact .inl h
  · exact .inr ⟨B, off, hB, Nat.lt_of_lt_of_le hl hf.size, fun i c hi j u hj => by rw [hf.cell hl (hs B off hB)]; exact hc i c hi j u hj⟩
section
variable {P : Program} {α : Type} (f : α → Value) (hf : ∀ a, (f a).oneCell' = true)
include hf
theorem run_append_big (w : World) (t ty e : TypeId) (i : TypeInfo) (z : Value) (bytes : Nat) (ht : P.underlying t = some (.slice e)) (hi : P.info? e = some i) (hz : i.zero = some z) (hsize : i.size = 1) (hby : i.bytes = bytes) (hzs : z.cells.size = 1) (h16 : bytes ≤ 16)
    (v : Value) (xs ys : List α) (hown : w.ownsRow 0 e 1 v xs.length (xs.map f)) (b : Option Addr) (c : Nat) (hs : InW w b 1 (ys.map fun y => [f y])) (hlen : xs.length + ys.length ≤ 100000000) :
    ∃ v' w', (Builtin.append_ #[t, t] ty #[v, .slice b ys.length c]).run P w = .ok v' w' ∧ w'.ownsRow 0 e 1 v' (xs ++ ys).length ((xs ++ ys).map f) ∧ Fr (fun b => v.ownBlock = some b) w w' ∧ Hence v v' w := by
  rcases hs with h | ⟨B, off, rfl, _, hc⟩
  · have : ys = [] := List.map_eq_nil_iff.1 h
    subst this
    exact ⟨v, w, run_append_nothing w t ty e i ht hi 1 v _ _ hown b c, by simpa using hown, Fr.refl _ _, .inl rfl⟩
  · have := run_append_row (P := P) w t ty e i z 1 bytes ht hi hz hsize hby hzs (by decide) v xs.length (xs.map f) hown ⟨B, off, none⟩ ys.length c (ys.map f) (by simp)
      (fun j u hj => by
        rw [List.getElem?_map] at hj
        obtain ⟨s, hs, rfl⟩ := Option.map_eq_some_iff.1 hj
        rw [Addr.add_lit]
        have := hc j [f s] (by rw [List.getElem?_map, hs]; rfl) 0 _ rfl
        simpa using this) (one_any f hf ys) (by unfold maxLen; omega) (by have := Nat.mul_le_mul hlen h16; omega)
    obtain ⟨v', w', h1, h2, h3, h4⟩ := this
    exact ⟨v', w', h1, by simpa using h2, h3, h4⟩
theorem wpList_append_big (w : World) {ops : Array Oper} {rest : List Oper} {o : Oper} {a : Act} {Q : Exit → Act → World → Prop} (hgd : o.guard = none) (s x : Operand) (t : TypeId)
    (ho : o.op = .call { callee := .builtin .append, args := #[s, x], argTypes := #[t, t] })
    (e : TypeId) (i : TypeInfo) (z : Value) (bytes : Nat) (ht : P.underlying t = some (.slice e)) (hi : P.info? e = some i) (hz : i.zero = some z) (hsize : i.size = 1) (hby : i.bytes = bytes) (hzs : z.cells.size = 1) (h16 : bytes ≤ 16)
    (v : Value) (xs ys : List α) (hs : a.eval s = v) (hown : w.ownsRow 0 e 1 v xs.length (xs.map f)) (b : Option Addr) (n c : Nat) (hx : a.eval x = .slice b n c) (hn : n = ys.length) (hst : InW w b 1 (ys.map fun y => [f y])) (hlen : xs.length + ys.length ≤ 100000000)
    (h : ∀ v' w', w'.ownsRow 0 e 1 v' (xs ++ ys).length ((xs ++ ys).map f) → Fr (fun b => v.ownBlock = some b) w w' → Hence v v' w → wpList P ops Q rest (a.put o.dst v') w') : wpList P ops Q (o :: rest) a w := by
  subst hn
  refine wpList_plain hgd fun _ hK => ?_
  obtain ⟨v', w', hr, h2, h3, h4⟩ := run_append_big f hf (P := P) w t o.type e i z bytes ht hi hz hsize hby hzs h16 v xs ys hown b c hst hlen
  unfold Oper.wp execOp
  simp only [ho, resolve, invoke, builtin, Sem.run_bind, Sem.run_pure, Result.andThen_ok, List.map_toArray, List.map_cons, List.map_nil, hs, hx, hr]
  exact hK _ _ (h v' w' h2 h3 h4)
theorem step_append_big {ops : Array Oper} {o : Oper} {a : Act} {w : World} {K : Act → World → Prop} {Q : Exit → Act → World → Prop} {E : Prop} (hgd : o.guard = none) (s x : Operand) (t : TypeId)
    (ho : o.op = .call { callee := .builtin .append, args := #[s, x], argTypes := #[t, t] })
    (e : TypeId) (i : TypeInfo) (z : Value) (bytes : Nat) (ht : P.underlying t = some (.slice e)) (hi : P.info? e = some i) (hz : i.zero = some z) (hsize : i.size = 1) (hby : i.bytes = bytes) (hzs : z.cells.size = 1) (h16 : bytes ≤ 16)
    (v : Value) (xs ys : List α) (hs : a.eval s = v) (hown : w.ownsRow 0 e 1 v xs.length (xs.map f)) (b : Option Addr) (n c : Nat) (hx : a.eval x = .slice b n c) (hn : n = ys.length) (hst : InW w b 1 (ys.map fun y => [f y])) (hlen : xs.length + ys.length ≤ 100000000)
    (h : ∀ v' w', w'.ownsRow 0 e 1 v' (xs ++ ys).length ((xs ++ ys).map f) → Fr (fun b => v.ownBlock = some b) w w' → Hence v v' w → K (a.put o.dst v') w') : if Region.wanted o (yielded ops a.tmps) = true then Oper.wp P o a w K Q else E := by
  subst hn
  have hw : Region.wanted o (yielded ops a.tmps) = true := by simp [Region.wanted, hgd]
  rw [if_pos hw]
  obtain ⟨v', w', hr, h2, h3, h4⟩ := run_append_big f hf (P := P) w t o.type e i z bytes ht hi hz hsize hby hzs h16 v xs ys hown b c hst hlen
  unfold Oper.wp execOp
  simp only [ho, resolve, invoke, builtin, Sem.run_bind, Sem.run_pure, Result.andThen_ok, List.map_toArray, List.map_cons, List.map_nil, hs, hx, hr]
  exact h v' w' h2 h3 h4
end
end Go.Proofs.YtkofcegdoilaeaaGreatDoor
namespace Go.Proofs.YtkofcegdoilaeaaGreatDoor
open Go.RowKit Go.MapKept Go.Maps
set_option linter.unusedVariables false
theorem byOne (c : UInt8) : (byV c).oneCell' = true := rfl
theorem infoByte : (Tryz.prog.info? 5).map (fun i => (i.zero, i.size, i.bytes)) = some (some (.int .u8 0), 1, 1) := by kernel_rfl
/-- bytes of a slice -/
def ByIn (w : World) (b : Option Addr) (s : ByteArray) : Prop := InW w b 1 (s.data.toList.map fun c => [byV c])
theorem len_data (s : ByteArray) : s.data.toList.length = s.size := by simp
theorem row_by {w : World} {v : Value} {s : ByteArray} (h : w.ownsRow 0 5 1 v s.size (bV s)) : w.ownsRow 0 5 1 v s.data.toList.length (s.data.toList.map byV) := by rw [len_data]; exact h
theorem row_cat {w : World} {v : Value} {s t : ByteArray} (h : w.ownsRow 0 5 1 v (s.data.toList ++ t.data.toList).length ((s.data.toList ++ t.data.toList).map byV)) : w.ownsRow 0 5 1 v (catB s t).size (bV (catB s t)) := by
  have e : (catB s t).data.toList = s.data.toList ++ t.data.toList := by simp [catB]
  rw [size_cat, bV, e]
  rw [List.length_append, len_data, len_data] at h
  exact h
theorem row_of_by {w : World} {v : Value} {s : ByteArray} (h : w.ownsRow 0 5 1 v s.size (bV s)) : ∃ b cap, v = .slice b s.size cap ∧ s.size ≤ cap ∧ cap ≤ maxLen ∧ ByIn w b s ∧ ∀ k o, b = some ⟨k, o, none⟩ → v.ownBlock = some k := by
  obtain ⟨b, cap, h1, h2, h3, h4, _⟩ := inw_of_row byV (row_by h)
  rw [len_data] at h1 h2
  refine ⟨b, cap, h1, h2, h3, h4, fun k o hb => ?_⟩
  rcases h.2 with ⟨e, _⟩ | ⟨g, c, cur, e, _, _⟩
  · rw [h1] at e
    simp only [Value.slice.injEq] at e
    rw [e.1] at hb; cases hb
  · rw [h1] at e
    simp only [Value.slice.injEq] at e
    rw [h1, e.1]
    rw [e.1] at hb
    cases hb
    rfl
theorem row_shape {w : World} {e : TypeId} {sz : Nat} {v : Value} {n : Nat} {xs : List Value} (h : w.ownsRow 0 e sz v n xs) : ∃ b c, v = .slice b n c := by
  rcases h.2 with ⟨rfl, rfl⟩ | ⟨g, cap, cur, rfl, _⟩
  · exact ⟨none, 0, rfl⟩
  · exact ⟨_, _, rfl⟩
section
variable {w : World} {d m : Nat} {M : FM} {used : Int} {lit : Bool} {fuse : Int} {down : Bool}
theorem DiskR.apart (h : DiskR w d m M used lit fuse down) {n : ByteArray} {q : Nat} {v : Value} {g : Fl} (hg : mget M n = some (q, v, g)) : d ≠ m ∧ q ≠ d ∧ q ≠ m ∧ ∀ b, v.ownBlock = some b → b ≠ d ∧ b ≠ m ∧ b ≠ q := by
  have hm := mem_of_get hg
  have nd := h.nd
  obtain ⟨M1, M2, e1, _, _⟩ := split_get hg
  rw [e1] at nd
  have hB : dblocks d m (M1 ++ (n, (q, v, g)) :: M2) = d :: m :: (M1.flatMap fblocks ++ (q :: (v.ownBlock.toList ++ M2.flatMap fblocks))) := by simp [dblocks, fblocks]
  rw [hB] at nd
  simp only [List.nodup_cons, List.mem_cons, List.mem_append, not_or, List.nodup_append] at nd
  obtain ⟨⟨n1, n2, n3, n4⟩, ⟨n5, n6, n7⟩, n8, ⟨n9, n10⟩, n11⟩ := nd
  refine ⟨n1, fun e => n3 e.symm, fun e => n6 e.symm, fun b hb => ⟨fun e => n4.1 (by rw [← e, hb]; simp), fun e => n7.1 (by rw [← e, hb]; simp), fun e => n9.1 (by rw [← e, hb]; simp)⟩⟩
set_option maxRecDepth 100000 in
set_option maxHeartbeats 4000000 in
theorem append_yes (h : DiskR w d m M used lit fuse down) (n s : ByteArray) (sb : Option Addr) (cap : Nat) (hn : n.size ≤ 1000) (hs : ByIn w sb s) (hsb : ∀ k o, sb = some ⟨k, o, none⟩ → k ∉ dblocks d m M) (hsz : s.size ≤ 5000000) (hu : -10000000 ≤ used ∧ used ≤ 10000000) (hfl : ((flOf M n).getD emptyF).s.size ≤ 5000000) (hml : M.length ≤ 1000000)
    (hf : 0 ≤ fuse ∧ fuse ≤ 9223372036854775807) (ha : askN down n = 0) (hfu : fullN used s.size (mget M n).isSome M.length = false) :
    Calls Tryz.prog 35 #[.pointer (some ⟨d, 0, none⟩), .string n, .slice sb s.size cap] w fun e w' => ∃ M', e = .returned (.int .i64 (if lit && decide (fuse = 0) then 8 else 0)) ∧
      DiskR w' d m M' (used + s.size) lit (if lit && decide (0 < fuse) then fuse - 1 else fuse) (down || (lit && decide (fuse = 0))) ∧ (∀ k, flOf M' k = if n = k then some { (flOf M n).getD emptyF with s := catB ((flOf M n).getD emptyF).s s } else flOf M k) ∧ Fr (fun b => b ∈ dblocks d m M) w w' ∧ ∀ b ∈ dblocks d m M', b ∈ dblocks d m M ∨ w.heap.size ≤ b := by
  obtain ⟨i0, hi0T, hz0, hz1, hz2⟩ := info_parts infoByte
  have hA := asked_any h n hn
  rw [ha] at hA
  have hF := full_any h n s.size hn hu (by omega) hml
  rw [hfu] at hF
  have HA := Lib.hid hA
  have HF := Lib.hid hF
  have FI := Lib.hid (file_any h n hn)
  have H := Lib.hid h
  have HS := Lib.hid hs
  have HSB := Lib.hid hsb
  have hmB : m ∈ dblocks d m M := by simp [dblocks]
  have hdB : d ∈ dblocks d m M := by simp [dblocks]
  generalize hg : (flOf M n).getD emptyF = g at *
  have hlen : ([] : List UInt8).length = 0 := rfl
  clear h hA hF ha hfu hs hsb hg hml hlen
  obtain ⟨rv, hrv⟩ : ∃ rv : Int, (if lit && decide (fuse = 0) then (8 : Int) else 0) = rv := ⟨_, rfl⟩
  obtain ⟨fu2, hfu2⟩ : ∃ rv : Int, (if lit && decide (0 < fuse) then fuse - 1 else fuse) = rv := ⟨_, rfl⟩
  obtain ⟨dn2, hdn2⟩ : ∃ rv : Bool, (down || (lit && decide (fuse = 0))) = rv := ⟨_, rfl⟩
  rw [hrv, hfu2, hdn2]
  have HRV := Lib.hid hrv
  have HFU2 := Lib.hid hfu2
  have HDN2 := Lib.hid hdn2
  clear hrv hfu2 hdn2
  go_enter Tryz.func35, Tryz.ntmps35
  go_wp2_with fail
  refine HA.out.mono ?_
  rintro e wx ⟨rfl, rfl⟩
  go_wp2_with fail
  refine HF.out.mono ?_
  rintro e wx ⟨rfl, rfl⟩
  go_wp2_with fail
  refine FI.out.mono ?_
  rintro e w1 ⟨q, v, M1, rfl, h1, g1, k1, s1, f1⟩
  clear HA HF FI
  have hap := h1.apart g1
  have hfr : FileR w1 q v g := h1.fl _ (mem_of_get g1)
  have r0 : w1.cell? ⟨q, 0, none⟩ = some v := hfr.bk.cell 0
  have r0f := hfr.bk.free 0
  have hs1 : ByIn w1 sb s := InW.fr HS.out f1 (fun k o hk e => HSB.out k o hk (e ▸ hmB))
  have HS1 := Lib.hid hs1
  have H1 := Lib.hid h1
  have HG1 := Lib.hid g1
  have HK1 := Lib.hid k1
  have HSP1 := Lib.hid s1
  have HF1 := Lib.hid f1
  have HAP := Lib.hid hap
  have HFR := Lib.hid hfr
  have HROW : Hid (w1.ownsRow 0 5 1 v g.s.data.toList.length (g.s.data.toList.map byV)) := Lib.hid (row_by hfr.row)
  have HLN : Hid (g.s.data.toList.length + s.data.toList.length ≤ 100000000) := Lib.hid (by rw [len_data, len_data]; omega)
  have HN2 : Hid (s.size = s.data.toList.length) := Lib.hid (len_data s).symm
  have hqlt := hfr.bk.lt
  have hdlt := h1.bk.lt
  have q1 : IntKind.i64.wrap (used + (s.size : Int)) = used + s.size := IntWalk.i64_in _ (by omega)
  clear h1 g1 k1 s1 f1 hs1 hap hfr
  go_wp2_with (
    (at_builtin
     refine wpList_append_big byV byOne _ rfl _ _ _ rfl 5 i0 _ 1 Tryz.underlying22 hi0T hz0 hz1 hz2 rfl (by decide) v g.s.data.toList s.data.toList rfl HROW.out sb s.size cap rfl HN2.out HS1.out HLN.out ?_
     intro v2 w2 o2 f2 e2
     have o3 := row_cat o2
     have hb2 : Bk w2 q [v, .int .i64 g.lasts, .bool g.stays] 77 := HFR.out.bk.fr f2 (fun c => (HAP.out.2.2.2 q c).2.2 rfl)
     have p0 : w2.cell? ⟨q, 0, none⟩ = some v := hb2.cell 0
     have p0f := hb2.free 0
     have hlt2 : q < w2.heap.size := hb2.lt
     obtain ⟨vb, vc, hvv⟩ := row_shape o3
     subst hvv
     have hb3 : Bk (w2.setCell ⟨q, 0, none⟩ (.slice vb (catB g.s s).size vc)) q [.slice vb (catB g.s s).size vc, .int .i64 g.lasts, .bool g.stays] 77 := hb2.set 0 _
     have hf23 : Fr (fun b => b = q) w2 (w2.setCell ⟨q, 0, none⟩ (.slice vb (catB g.s s).size vc)) := (Fr.refl (fun b => b = q) w2).setCell q 0 _ (.inr rfl)
     have hv2 : (Value.slice vb (catB g.s s).size vc).ownBlock = v.ownBlock ∨ ∃ b, (Value.slice vb (catB g.s s).size vc).ownBlock = some b ∧ w1.heap.size ≤ b := e2.imp id (fun e => ⟨_, e, Nat.le_refl _⟩)
     have hr3 : FileR (w2.setCell ⟨q, 0, none⟩ (.slice vb (catB g.s s).size vc)) q (.slice vb (catB g.s s).size vc) { g with s := catB g.s s } := ⟨hb3, hf23.row o3 (fun b hb c => by
       rcases hv2 with e | ⟨b', e, hge⟩
       · exact (HAP.out.2.2.2 b (by rw [← e]; exact hb)).2.2 c
       · have := Option.some.inj (e.symm.trans hb); have := HFR.out.bk.lt; omega)⟩
     have hf13 : Fr (fun b => b = q ∨ v.ownBlock = some b) w1 (w2.setCell ⟨q, 0, none⟩ (.slice vb (catB g.s s).size vc)) := (f2.mono (T := fun b => b = q ∨ v.ownBlock = some b) (fun _ _ e => .inr e)).trans hf23 (fun _ _ e => .inl e)
     have hset := H1.out.set HG1.out hf13 hr3 hv2
     have hown := hset.1.own (w' := (w2.setCell ⟨q, 0, none⟩ (.slice vb (catB g.s s).size vc)).setCell ⟨d, 1, none⟩ (.int .i64 (used + s.size))) (hset.1.bk.set 1 (.int .i64 (used + s.size))) ((Fr.refl (fun b => b = d) _).setCell d 1 _ (.inr rfl))
     have HOWN := Lib.hid hown
     have HSP3 := Lib.hid hset.2
     have HF13 := Lib.hid (hf13)
     have u1 : (w2.setCell ⟨q, 0, none⟩ (.slice vb (catB g.s s).size vc)).cell? ⟨d, 1, none⟩ = some (.int .i64 used) := hset.1.bk.cell 1
     have u1f : (w2.setCell ⟨q, 0, none⟩ (.slice vb (catB g.s s).size vc)).frozen? ⟨d, 1, none⟩ = false := hset.1.bk.free 1
     have x1 : w2.cell? ⟨d, 1, none⟩ = some (.int .i64 used) := (H1.out.bk.fr f2 (fun c => (HAP.out.2.2.2 d c).1 rfl)).cell 1
     have x1f := (H1.out.bk.fr f2 (fun c => (HAP.out.2.2.2 d c).1 rfl)).free 1
     have hdlt2 : d < w2.heap.size := (H1.out.bk.fr f2 (fun c => (HAP.out.2.2.2 d c).1 rfl)).lt
     clear o2 f2 e2 o3 hb2 hb3 hf23 hv2 hr3 hf13 hset hown))
  have hdq : ¬ d = q := fun e => HAP.out.2.1 e.symm
  obtain ⟨W4, hW4⟩ : ∃ W4, (w2.setCell ⟨q, 0, none⟩ (.slice vb (catB g.s s).size vc)).setCell ⟨d, 1, none⟩ (.int .i64 (used + s.size)) = W4 := ⟨_, rfl⟩
  rw [hW4] at HOWN
  have HW4 := Lib.hid hW4
  have s4 := step_any HOWN.out hf
  rw [HFU2.out, HDN2.out] at s4
  have S4 := Lib.hid s4
  clear s4
  have hq1 := (mem_fblocks (d := d) (m := m) (mem_of_get HG1.out)).1
  have hq2 := (mem_fblocks (d := d) (m := m) (mem_of_get HG1.out)).2
  have HFW : Hid (Fr (fun b => b ∈ dblocks d m M) w W4) := Lib.hid (by
    have a1 : Fr (fun b => b ∈ dblocks d m M) w w1 := HF1.out.mono (fun b _ e => e ▸ hmB)
    have a2 := a1.trans HF13.out (fun b hb e => by
      have hin : b ∈ dblocks d m M1 := by
        rcases e with rfl | e
        · exact hq1
        · exact hq2 b e
      rcases HSP1.out b hin with h | h
      · exact h
      · omega)
    have a3 : Fr (fun b => b = d) (w2.setCell ⟨q, 0, none⟩ (.slice vb (catB g.s s).size vc)) W4 := by rw [← hW4]; exact (Fr.refl (fun b => b = d) _).setCell d 1 _ (.inr rfl)
    exact a2.trans a3 (fun b _ e => e ▸ hdB))
  have HSPW : Hid (∀ b ∈ dblocks d m (mput M1 n (q, .slice vb (catB g.s s).size vc, { g with s := catB g.s s })), b ∈ dblocks d m M ∨ w.heap.size ≤ b) := Lib.hid (fun b hb => by
    rcases HSP3.out b hb with h | h
    · exact HSP1.out b h
    · have := HF1.out.size; exact .inr (by omega))
  have HFL : Hid (∀ k, flOf (mput M1 n (q, .slice vb (catB g.s s).size vc, { g with s := catB g.s s })) k = if n = k then some { g with s := catB g.s s } else flOf M k) := Lib.hid (fun k => by
    unfold flOf
    rw [get_put]
    by_cases e : n = k
    · rw [if_pos e, if_pos e]; rfl
    · rw [if_neg e, if_neg e, HK1.out k e])
  clear hW4 hq1 hq2 HF1 HF13 HSP1 HSP3 HK1 hdq
  rw [HW4.out]
  refine S4.out.mono ?_
  rintro e w5 ⟨rfl, h5, f5⟩
  have H5 := Lib.hid h5
  have HF5 := Lib.hid (HFW.out.trans f5 (fun b _ e => e ▸ hdB))
  clear h5 f5 S4
  cases hst : (lit && decide (fuse = 0)) with
  | true =>
    have hr8 : rv = 8 := by rw [← HRV.out, hst]; rfl
    subst hr8
    have e1 : (!lit || !decide (fuse = 0)) = false := by
      cases lit
      · cases hst
      · simp at hst; simp [hst]
    rw [e1]
    clear e1 hst
    go_wp2_with fail
    go_ret
    exact ⟨mput M1 n (q, .slice vb (catB g.s s).size vc, { g with s := catB g.s s }), rfl, H5.out, HFL.out, HF5.out, HSPW.out⟩
  | false =>
    have hr8 : rv = 0 := by rw [← HRV.out, hst]; rfl
    subst hr8
    have e1 : (!lit || !decide (fuse = 0)) = true := by
      cases lit
      · rfl
      · simp at hst; simp [hst]
    rw [e1]
    clear e1 hst
    go_wp2_with fail
    go_ret
    exact ⟨mput M1 n (q, .slice vb (catB g.s s).size vc, { g with s := catB g.s s }), rfl, H5.out, HFL.out, HF5.out, HSPW.out⟩
end
end Go.Proofs.YtkofcegdoilaeaaGreatDoor
namespace Go.Proofs.YtkofcegdoilaeaaGreatDoor
open Go.RowKit Go.MapKept Go.Maps
set_option linter.unusedVariables false
/-- a fuse behind a step -/
def fuB (lit : Bool) (fuse : Int) : Int := if lit && decide (0 < fuse) then fuse - 1 else fuse
section
variable {w : World} {d m : Nat} {M : FM} {used : Int} {lit : Bool} {fuse : Int} {down : Bool}
theorem step_stop (h : DiskR w d m M used lit fuse down) (hz : (lit && decide (fuse = 0)) = true) :
    Calls Tryz.prog 47 #[.pointer (some ⟨d, 0, none⟩)] w fun e w' => e = .returned (.bool false) ∧ DiskR w' d m M used lit fuse true ∧ Fr (fun b => b = d) w w' := by
  obtain ⟨rfl, h0⟩ : lit = true ∧ fuse = 0 := by simpa using hz
  subst h0
  refine (step_any h (by omega)).mono ?_
  rintro e w' ⟨rfl, h1, h2⟩
  exact ⟨rfl, by simpa using h1, h2⟩
theorem step_go (h : DiskR w d m M used lit fuse down) (hf : 0 ≤ fuse ∧ fuse ≤ 9223372036854775807) (hz : (lit && decide (fuse = 0)) = false) :
    Calls Tryz.prog 47 #[.pointer (some ⟨d, 0, none⟩)] w fun e w' => e = .returned (.bool true) ∧ DiskR w' d m M used lit (fuB lit fuse) down ∧ Fr (fun b => b = d) w w' := by
  have e1 : (!lit || !decide (fuse = 0)) = true := by cases lit <;> simp_all
  refine (step_any h hf).mono ?_
  rw [e1, hz, Bool.or_false]
  exact fun e w' h => h
/-- the file that found finds -/
theorem found_yes (h : DiskR w d m M used lit fuse down) (n : ByteArray) (hn : n.size ≤ 1000) {q : Nat} {v : Value} {g : Fl} (hg : mget M n = some (q, v, g)) (hz : foundN down n true = 0) :
    Calls Tryz.prog 41 #[.pointer (some ⟨d, 0, none⟩), .string n] w fun e w' => e = .returned (.tuple #[.pointer (some ⟨q, 0, none⟩), .int .i64 0]) ∧ w = w' := by
  have := found_any h n hn
  rw [hg] at this
  simpa [hz] using this
theorem found_no (h : DiskR w d m M used lit fuse down) (n : ByteArray) (hn : n.size ≤ 1000) (r : Int) (hr : foundN down n (mget M n).isSome = r) (hz : r ≠ 0) :
    Calls Tryz.prog 41 #[.pointer (some ⟨d, 0, none⟩), .string n] w fun e w' => e = .returned (.tuple #[.pointer none, .int .i64 r]) ∧ w = w' := by
  have := found_any h n hn
  rw [hr, if_neg hz] at this
  exact this
theorem found_in (down : Bool) (n : ByteArray) (b : Bool) : -100 ≤ foundN down n b ∧ foundN down n b ≤ 100 := by unfold foundN; split <;> (try split) <;> (try split) <;> omega
theorem ask_in (down : Bool) (n : ByteArray) : -100 ≤ askN down n ∧ askN down n ≤ 100 := by unfold askN; split <;> (try split) <;> omega
set_option maxRecDepth 100000 in
set_option maxHeartbeats 1000000 in
theorem sync_no (h : DiskR w d m M used lit fuse down) (n : ByteArray) (hn : n.size ≤ 1000) (r : Int) (hr : foundN down n (mget M n).isSome = r) (hz : r ≠ 0) :
    Calls Tryz.prog 28 #[.pointer (some ⟨d, 0, none⟩), .string n] w fun e w' => e = .returned (.int .i64 r) ∧ w = w' := by
  have HA := Lib.hid (found_no h n hn r hr hz)
  have hin : -100 ≤ r ∧ r ≤ 100 := hr ▸ found_in _ _ _
  have t1 : (r == 0) = false := by simp [hz]
  clear h hr
  go_enter Tryz.func28, Tryz.ntmps28
  go_wp2_with fail
  refine HA.out.mono ?_
  rintro e wx ⟨rfl, rfl⟩
  go_wp2_with fail
  go_ret
  exact ⟨rfl, rfl⟩
set_option maxRecDepth 100000 in
set_option maxHeartbeats 1000000 in
theorem sync_stop (h : DiskR w d m M used lit fuse down) (n : ByteArray) (hn : n.size ≤ 1000) {q : Nat} {v : Value} {g : Fl} (hg : mget M n = some (q, v, g)) (hz : foundN down n true = 0) (hst : (lit && decide (fuse = 0)) = true) :
    Calls Tryz.prog 28 #[.pointer (some ⟨d, 0, none⟩), .string n] w fun e w' => e = .returned (.int .i64 8) ∧ DiskR w' d m M used lit fuse true ∧ Fr (fun b => b = d) w w' := by
  have HA := Lib.hid (found_yes h n hn hg hz)
  have HS := Lib.hid (step_stop h hst)
  clear h hz hg hst
  go_enter Tryz.func28, Tryz.ntmps28
  go_wp2_with fail
  refine HA.out.mono ?_
  rintro e wx ⟨rfl, rfl⟩
  go_wp2_with fail
  refine HS.out.mono ?_
  rintro e w1 ⟨rfl, h1, f1⟩
  have H1 := Lib.hid h1
  have F1 := Lib.hid f1
  clear h1 f1
  go_wp2_with fail
  go_ret
  exact ⟨rfl, H1.out, F1.out⟩
set_option maxRecDepth 100000 in
set_option maxHeartbeats 2000000 in
theorem sync_yes (h : DiskR w d m M used lit fuse down) (n : ByteArray) (hn : n.size ≤ 1000) {q : Nat} {v : Value} {g : Fl} (hg : mget M n = some (q, v, g)) (hz : foundN down n true = 0) (hf : 0 ≤ fuse ∧ fuse ≤ 9223372036854775807) (hst : (lit && decide (fuse = 0)) = false) (hsz : g.s.size ≤ 5000000) :
    Calls Tryz.prog 28 #[.pointer (some ⟨d, 0, none⟩), .string n] w fun e w' => e = .returned (.int .i64 0) ∧ DiskR w' d m (mput M n (q, v, ⟨g.s, g.s.size, true⟩)) used lit (fuB lit fuse) down ∧ Fr (fun b => b ∈ dblocks d m M) w w' ∧ ∀ b ∈ dblocks d m (mput M n (q, v, ⟨g.s, g.s.size, true⟩)), b ∈ dblocks d m M ∨ w.heap.size ≤ b := by
  have HA := Lib.hid (found_yes h n hn hg hz)
  have HS := Lib.hid (step_go h hf hst)
  have hdB : d ∈ dblocks d m M := by simp [dblocks]
  have HQ := Lib.hid (mem_fblocks (d := d) (m := m) (mem_of_get hg)).1
  have HAP := Lib.hid (h.apart hg)
  have HG := Lib.hid hg
  obtain ⟨vb, vc, hvv⟩ := row_shape (h.fl _ (mem_of_get hg)).row
  have hvv' : v = .slice vb g.s.size vc := hvv
  subst hvv'
  clear hvv
  clear h hz hg hst
  go_enter Tryz.func28, Tryz.ntmps28
  go_wp2_with fail
  refine HA.out.mono ?_
  rintro e wx ⟨rfl, rfl⟩
  go_wp2_with fail
  refine HS.out.mono ?_
  rintro e w1 ⟨rfl, h1, f1⟩
  have hfr : FileR w1 q (.slice vb g.s.size vc) g := h1.fl _ (mem_of_get HG.out)
  have r0 : w1.cell? ⟨q, 0, none⟩ = some (.slice vb g.s.size vc) := hfr.bk.cell 0
  have r1 : w1.cell? ⟨q, 1, none⟩ = some (.int .i64 g.lasts) := hfr.bk.cell 1
  have r2 : w1.cell? ⟨q, 2, none⟩ = some (.bool g.stays) := hfr.bk.cell 2
  have p1 := hfr.bk.free 1
  have p2 := hfr.bk.free 2
  have hlt := hfr.bk.lt
  have hb3 : Bk ((w1.setCell ⟨q, 1, none⟩ (.int .i64 g.s.size)).setCell ⟨q, 2, none⟩ (.bool true)) q [.slice vb g.s.size vc, .int .i64 g.s.size, .bool true] 77 := (hfr.bk.set 1 (.int .i64 g.s.size)).set 2 (.bool true)
  have hf3 : Fr (fun b => b = q) w1 ((w1.setCell ⟨q, 1, none⟩ (.int .i64 g.s.size)).setCell ⟨q, 2, none⟩ (.bool true)) := ((Fr.refl (fun b => b = q) w1).setCell q 1 _ (.inr rfl)).setCell q 2 _ (.inr rfl)
  have hr3 : FileR ((w1.setCell ⟨q, 1, none⟩ (.int .i64 g.s.size)).setCell ⟨q, 2, none⟩ (.bool true)) q (.slice vb g.s.size vc) ⟨g.s, g.s.size, true⟩ := ⟨hb3, hf3.row hfr.row (fun b hb => (HAP.out.2.2.2 b hb).2.2)⟩
  have hset := h1.set HG.out (hf3.mono (fun _ _ e => .inl e)) hr3 (.inl rfl)
  have HW := Lib.hid hset
  have HF : Hid (Fr (fun b => b ∈ dblocks d m M) w ((w1.setCell ⟨q, 1, none⟩ (.int .i64 g.s.size)).setCell ⟨q, 2, none⟩ (.bool true))) := Lib.hid ((f1.mono (T := fun b => b ∈ dblocks d m M) (fun _ _ e => e ▸ hdB)).trans hf3 (fun b _ e => by rw [e]; exact HQ.out))
  have HSZ := Lib.hid f1.size
  clear h1 f1 hfr hb3 hf3 hr3 hset
  go_wp2_with fail
  go_ret
  refine ⟨rfl, HW.out.1, HF.out, fun b hb => ?_⟩
  rcases HW.out.2 b hb with h | h
  · exact .inl h
  · have := HSZ.out; exact .inr (by omega)
end
end Go.Proofs.YtkofcegdoilaeaaGreatDoor
namespace Go.Proofs.YtkofcegdoilaeaaGreatDoor
open Go.RowKit Go.MapKept Go.Maps
set_option linter.unusedVariables false
/-- bytes that a call has made -/
structure ByMk (w0 wr : World) (v : Value) (s : ByteArray) : Prop where
  tx : wr.ownsRow 0 5 1 v s.size (bV s)
  nw : ∀ b, v.ownBlock = some b → w0.heap.size ≤ b
  bl : Below w0.heap.size w0 wr
theorem ByMk.nil (w : World) : ByMk w w (.slice none 0 0) ⟨#[]⟩ := ⟨own_nil w _, by simp [Value.ownBlock], Below.refl _ _⟩
theorem by_empty (w : World) : (w.alloc (.cells #[] 5)).ownsRow 0 5 1 (.slice (some ⟨w.heap.size, 0, none⟩) 0 0) ([] : List UInt8).length (([] : List UInt8).map byV) :=
  (MkG.empty (t := 5) (sz := 1) (f := fun c => [byV c]) w).tx
theorem by_made {w w1 w2 : World} {v : Value} {s : ByteArray} (hb : Below w.heap.size w w1) {k : Nat} (hk : w.heap.size ≤ k) {c : Nat} (ho : w2.ownsRow 0 5 1 v (([] : List UInt8) ++ s.data.toList).length ((([] : List UInt8) ++ s.data.toList).map byV)) (hf : Fr (fun b => (Value.slice (some ⟨k, 0, none⟩) 0 c).ownBlock = some b) w1 w2) (he : Hence (.slice (some ⟨k, 0, none⟩) 0 c) v w1) : ByMk w w2 v s := by
  refine ⟨?_, fun b hb' => ?_, hb.trans (hf.below hb.size (fun b hb' => ?_))⟩
  · rw [List.nil_append, len_data] at ho; exact ho
  · rcases he with e | e
    · rw [e] at hb'
      have : k = b := by simpa [Value.ownBlock] using hb'
      omega
    · have := Option.some.inj (e.symm.trans hb')
      have := hb.size
      omega
  · have : k = b := by simpa [Value.ownBlock] using hb'
    omega
section
variable {w : World} {d m : Nat} {M : FM} {used : Int} {lit : Bool} {fuse : Int} {down : Bool}
set_option maxRecDepth 100000 in
set_option maxHeartbeats 1000000 in
theorem read_no (h : DiskR w d m M used lit fuse down) (n : ByteArray) (hn : n.size ≤ 1000) (r : Int) (hr : foundN down n (mget M n).isSome = r) (hz : r ≠ 0) :
    Calls Tryz.prog 24 #[.pointer (some ⟨d, 0, none⟩), .string n] w fun e w' => e = .returned (.tuple #[.slice none 0 0, .int .i64 r]) ∧ w = w' := by
  have HA := Lib.hid (found_no h n hn r hr hz)
  have hin : -100 ≤ r ∧ r ≤ 100 := hr ▸ found_in _ _ _
  have t1 : (r == 0) = false := by simp [hz]
  clear h hr
  go_enter Tryz.func24, Tryz.ntmps24
  go_wp2_with fail
  refine HA.out.mono ?_
  rintro e wx ⟨rfl, rfl⟩
  go_wp2_with fail
  go_ret2
  exact ⟨rfl, rfl⟩
set_option maxRecDepth 100000 in
set_option maxHeartbeats 2000000 in
theorem read_yes (h : DiskR w d m M used lit fuse down) (n : ByteArray) (hn : n.size ≤ 1000) {q : Nat} {v : Value} {g : Fl} (hg : mget M n = some (q, v, g)) (hz : foundN down n true = 0) (hsz : g.s.size ≤ 5000000) :
    Calls Tryz.prog 24 #[.pointer (some ⟨d, 0, none⟩), .string n] w fun e w' => ∃ u, e = .returned (.tuple #[u, .int .i64 0]) ∧ ByMk w w' u g.s := by
  obtain ⟨i0, hi0T, hz0, hz1, hz2⟩ := info_parts infoByte
  have HA := Lib.hid (found_yes h n hn hg hz)
  have hfr : FileR w q v g := h.fl _ (mem_of_get hg)
  have r0 : w.cell? ⟨q, 0, none⟩ = some v := hfr.bk.cell 0
  have hlt := hfr.bk.lt
  obtain ⟨sb, cap, hv, _, _, hin, _⟩ := row_of_by hfr.row
  subst hv
  have HROW := Lib.hid (by_empty w)
  have HIN : Hid (ByIn (w.alloc (.cells #[] 5)) sb g.s) := Lib.hid (InW.fr hin (Fr.of_bel (S := none') ((Below.refl _ _).alloc (Nat.le_refl _) _)) (fun _ _ _ => id))
  have HN2 : Hid (g.s.size = g.s.data.toList.length) := Lib.hid (len_data g.s).symm
  have HLN : Hid (([] : List UInt8).length + g.s.data.toList.length ≤ 100000000) := Lib.hid (by rw [len_data]; simp; omega)
  have HBL := Lib.hid ((Below.refl w.heap.size w).alloc (Nat.le_refl _) (.cells #[] 5))
  clear h hg hz hfr hin
  go_enter Tryz.func24, Tryz.ntmps24
  go_wp2_with fail
  refine HA.out.mono ?_
  rintro e wx ⟨rfl, rfl⟩
  go_wp2_with (
    (at_builtin
     refine wpList_append_big byV byOne _ rfl _ _ _ rfl 5 i0 _ 1 Tryz.underlying22 hi0T hz0 hz1 hz2 rfl (by decide) (.slice (some ⟨w.heap.size, 0, none⟩) 0 0) ([] : List UInt8) g.s.data.toList rfl HROW.out sb g.s.size cap rfl HN2.out HIN.out HLN.out ?_
     intro v2 w2 o2 f2 e2
     have HM := Lib.hid (by_made HBL.out (Nat.le_refl _) o2 f2 e2)
     obtain ⟨vb, vc, hvv⟩ := row_shape HM.out.tx
     subst hvv
     clear o2 f2 e2))
  go_ret2
  exact ⟨_, rfl, HM.out⟩
set_option maxRecDepth 100000 in
set_option maxHeartbeats 1000000 in
theorem append_no (h : DiskR w d m M used lit fuse down) (n : ByteArray) (hn : n.size ≤ 1000) (sv : Value) (r : Int) (hr : askN down n = r) (hz : r ≠ 0) :
    Calls Tryz.prog 35 #[.pointer (some ⟨d, 0, none⟩), .string n, sv] w fun e w' => e = .returned (.int .i64 r) ∧ w = w' := by
  have ha := asked_any h n hn
  rw [hr] at ha
  have HA := Lib.hid ha
  have hin : -100 ≤ r ∧ r ≤ 100 := hr ▸ ask_in _ _
  have t1 : (r == 0) = false := by simp [hz]
  clear h hr ha
  go_enter Tryz.func35, Tryz.ntmps35
  go_wp2_with fail
  refine HA.out.mono ?_
  rintro e wx ⟨rfl, rfl⟩
  go_wp2_with fail
  go_ret
  exact ⟨rfl, rfl⟩
set_option maxRecDepth 100000 in
set_option maxHeartbeats 1000000 in
theorem append_full (h : DiskR w d m M used lit fuse down) (n : ByteArray) (sn : Nat) (sb : Option Addr) (cap : Nat) (hn : n.size ≤ 1000) (hsz : sn ≤ 5000000) (hu : -10000000 ≤ used ∧ used ≤ 10000000) (hml : M.length ≤ 1000000)
    (ha : askN down n = 0) (hfu : fullN used sn (mget M n).isSome M.length = true) :
    Calls Tryz.prog 35 #[.pointer (some ⟨d, 0, none⟩), .string n, .slice sb sn cap] w fun e w' => e = .returned (.int .i64 5) ∧ w = w' := by
  have hA := asked_any h n hn
  rw [ha] at hA
  have hF := full_any h n sn hn hu (by omega) hml
  rw [hfu] at hF
  have HA := Lib.hid hA
  have HF := Lib.hid hF
  clear h hA hF ha hfu
  go_enter Tryz.func35, Tryz.ntmps35
  go_wp2_with fail
  refine HA.out.mono ?_
  rintro e wx ⟨rfl, rfl⟩
  go_wp2_with fail
  refine HF.out.mono ?_
  rintro e wx ⟨rfl, rfl⟩
  go_wp2_with fail
  go_ret
  exact ⟨rfl, rfl⟩
end
end Go.Proofs.YtkofcegdoilaeaaGreatDoor
namespace Go.Proofs.YtkofcegdoilaeaaGreatDoor
open Go.RowKit Go.MapKept Go.Maps
set_option linter.unusedVariables false
theorem by_some {w1 : World} {k c : Nat} {v : Value} (hk : k ≤ w1.heap.size) (he : Hence (.slice (some ⟨k, 0, none⟩) 0 c) v w1) : ∃ b, v.ownBlock = some b ∧ k ≤ b := by
  rcases he with e | e
  · exact ⟨k, e, Nat.le_refl _⟩
  · exact ⟨_, e, hk⟩
section
variable {w : World} {d m : Nat} {M : FM} {used : Int} {lit : Bool} {fuse : Int} {down : Bool}
set_option maxRecDepth 100000 in
set_option maxHeartbeats 1000000 in
theorem replace_no (h : DiskR w d m M used lit fuse down) (n : ByteArray) (hn : n.size ≤ 1000) (sv : Value) (r : Int) (hr : askN down n = r) (hz : r ≠ 0) :
    Calls Tryz.prog 27 #[.pointer (some ⟨d, 0, none⟩), .string n, sv] w fun e w' => e = .returned (.int .i64 r) ∧ w = w' := by
  have ha := asked_any h n hn
  rw [hr] at ha
  have HA := Lib.hid ha
  have hin : -100 ≤ r ∧ r ≤ 100 := hr ▸ ask_in _ _
  have t1 : (r == 0) = false := by simp [hz]
  clear h hr ha
  go_enter Tryz.func27, Tryz.ntmps27
  go_wp2_with fail
  refine HA.out.mono ?_
  rintro e wx ⟨rfl, rfl⟩
  go_wp2_with fail
  go_ret
  exact ⟨rfl, rfl⟩
set_option maxRecDepth 100000 in
set_option maxHeartbeats 4000000 in
theorem replace_full_old (h : DiskR w d m M used lit fuse down) (n s : ByteArray) (sb : Option Addr) (cap : Nat) (hn : n.size ≤ 1000) {q : Nat} {v : Value} {g : Fl} (hg : mget M n = some (q, v, g)) (hgs : g.s.size ≤ 5000000) (hsz : s.size ≤ 5000000) (hu : -10000000 ≤ used ∧ used ≤ 10000000) (hml : M.length ≤ 1000000) (ha : askN down n = 0) (hfu : fullN used (s.size - g.s.size : Int) true M.length = true) :
    Calls Tryz.prog 27 #[.pointer (some ⟨d, 0, none⟩), .string n, .slice sb s.size cap] w fun e w' => e = .returned (.int .i64 5) ∧ w = w' := by
  have hfr : FileR w q v g := h.fl _ (mem_of_get hg)
  obtain ⟨vb, vc, hvv⟩ := row_shape hfr.row
  subst hvv
  have r0 : w.cell? ⟨q, 0, none⟩ = some (.slice vb g.s.size vc) := hfr.bk.cell 0
  have hlt := hfr.bk.lt
  have hlk := h.look n hn
  rw [hg] at hlk
  have hlk' : (Instr.lookup 63 (.map (some m)) (.string n) true).run Tryz.prog w = .ok (.tuple #[.pointer (some ⟨q, 0, none⟩), .bool true]) w := hlk
  have hfl : (flOf M n).getD emptyF = g := by unfold flOf; rw [hg]; rfl
  have qm : IntKind.i64.wrap ((s.size : Int) - (g.s.size : Int)) = s.size - g.s.size := IntWalk.i64_in _ (by omega)
  have qu : IntKind.i64.wrap (used + ((s.size : Int) - (g.s.size : Int))) = used + (s.size - g.s.size) := IntWalk.i64_in _ (by omega)
  clear hlk hfr
  obtain ⟨c0, c1, c2, c3, c4⟩ := h.cells
  have hA := asked_any h n hn
  rw [ha] at hA
  have hF := full_any h n (s.size - g.s.size : Int) hn hu (by omega) hml
  rw [hg] at hF
  rw [show (some (q, Value.slice vb g.s.size vc, g) : Option (Nat × Value × Fl)).isSome = true from rfl, hfu] at hF
  have HA := Lib.hid hA
  have HF := Lib.hid hF
  clear h hA hF ha hfu hg hml hfl
  go_enter Tryz.func27, Tryz.ntmps27
  go_wp2_with fail
  refine HA.out.mono ?_
  rintro e wx ⟨rfl, rfl⟩
  go_wp2_with fail
  refine HF.out.mono ?_
  rintro e wx ⟨rfl, rfl⟩
  go_wp2_with fail
  go_ret
  exact ⟨rfl, rfl⟩
set_option maxRecDepth 100000 in
set_option maxHeartbeats 4000000 in
theorem replace_stop_old (h : DiskR w d m M used lit fuse down) (n s : ByteArray) (sb : Option Addr) (cap : Nat) (hn : n.size ≤ 1000) {q : Nat} {v : Value} {g : Fl} (hg : mget M n = some (q, v, g)) (hgs : g.s.size ≤ 5000000) (hsz : s.size ≤ 5000000) (hu : -10000000 ≤ used ∧ used ≤ 10000000) (hml : M.length ≤ 1000000) (ha : askN down n = 0) (hfu : fullN used (s.size - g.s.size : Int) true M.length = false) (hst : (lit && decide (fuse = 0)) = true) :
    Calls Tryz.prog 27 #[.pointer (some ⟨d, 0, none⟩), .string n, .slice sb s.size cap] w fun e w' => e = .returned (.int .i64 8) ∧ DiskR w' d m M used lit fuse true ∧ Fr (fun b => b = d) w w' := by
  have hfr : FileR w q v g := h.fl _ (mem_of_get hg)
  obtain ⟨vb, vc, hvv⟩ := row_shape hfr.row
  subst hvv
  have r0 : w.cell? ⟨q, 0, none⟩ = some (.slice vb g.s.size vc) := hfr.bk.cell 0
  have hlt := hfr.bk.lt
  have hlk := h.look n hn
  rw [hg] at hlk
  have hlk' : (Instr.lookup 63 (.map (some m)) (.string n) true).run Tryz.prog w = .ok (.tuple #[.pointer (some ⟨q, 0, none⟩), .bool true]) w := hlk
  have hfl : (flOf M n).getD emptyF = g := by unfold flOf; rw [hg]; rfl
  have qm : IntKind.i64.wrap ((s.size : Int) - (g.s.size : Int)) = s.size - g.s.size := IntWalk.i64_in _ (by omega)
  have qu : IntKind.i64.wrap (used + ((s.size : Int) - (g.s.size : Int))) = used + (s.size - g.s.size) := IntWalk.i64_in _ (by omega)
  clear hlk hfr
  obtain ⟨c0, c1, c2, c3, c4⟩ := h.cells
  have hA := asked_any h n hn
  rw [ha] at hA
  have hF := full_any h n (s.size - g.s.size : Int) hn hu (by omega) hml
  rw [hg] at hF
  rw [show (some (q, Value.slice vb g.s.size vc, g) : Option (Nat × Value × Fl)).isSome = true from rfl, hfu] at hF
  have HA := Lib.hid hA
  have HF := Lib.hid hF
  have HS := Lib.hid (step_stop h hst)
  clear h hA hF ha hfu hg hml hfl hst
  go_enter Tryz.func27, Tryz.ntmps27
  go_wp2_with fail
  refine HA.out.mono ?_
  rintro e wx ⟨rfl, rfl⟩
  go_wp2_with fail
  refine HF.out.mono ?_
  rintro e wx ⟨rfl, rfl⟩
  go_wp2_with fail
  refine HS.out.mono ?_
  rintro e w1 ⟨rfl, h1, f1⟩
  have H1 := Lib.hid h1
  have F1 := Lib.hid f1
  clear h1 f1
  go_wp2_with fail
  go_ret
  exact ⟨rfl, H1.out, F1.out⟩
set_option maxRecDepth 100000 in
set_option maxHeartbeats 4000000 in
theorem replace_yes_old (h : DiskR w d m M used lit fuse down) (n s : ByteArray) (sb : Option Addr) (cap : Nat) (hn : n.size ≤ 1000) {q : Nat} {v : Value} {g : Fl} (hg : mget M n = some (q, v, g)) (hgs : g.s.size ≤ 5000000) (hsz : s.size ≤ 5000000) (hu : -10000000 ≤ used ∧ used ≤ 10000000) (hml : M.length ≤ 1000000) (ha : askN down n = 0) (hs : ByIn w sb s) (hsb : ∀ k o, sb = some ⟨k, o, none⟩ → k ∉ dblocks d m M) (hfu : fullN used (s.size - g.s.size : Int) true M.length = false) (hf : 0 ≤ fuse ∧ fuse ≤ 9223372036854775807) (hst : (lit && decide (fuse = 0)) = false) :
    Calls Tryz.prog 27 #[.pointer (some ⟨d, 0, none⟩), .string n, .slice sb s.size cap] w fun e w' => ∃ M', e = .returned (.int .i64 0) ∧ DiskR w' d m M' (used + (s.size - g.s.size : Int)) lit (fuB lit fuse) down ∧ (∀ k, flOf M' k = if n = k then some ⟨s, s.size, true⟩ else flOf M k) ∧ Fr (fun b => b ∈ dblocks d m M) w w' ∧ ∀ b ∈ dblocks d m M', b ∈ dblocks d m M ∨ w.heap.size ≤ b := by
  have hfr : FileR w q v g := h.fl _ (mem_of_get hg)
  obtain ⟨vb, vc, hvv⟩ := row_shape hfr.row
  subst hvv
  have r0 : w.cell? ⟨q, 0, none⟩ = some (.slice vb g.s.size vc) := hfr.bk.cell 0
  have hlt := hfr.bk.lt
  have hlk := h.look n hn
  rw [hg] at hlk
  have hlk' : (Instr.lookup 63 (.map (some m)) (.string n) true).run Tryz.prog w = .ok (.tuple #[.pointer (some ⟨q, 0, none⟩), .bool true]) w := hlk
  have hfl : (flOf M n).getD emptyF = g := by unfold flOf; rw [hg]; rfl
  have qm : IntKind.i64.wrap ((s.size : Int) - (g.s.size : Int)) = s.size - g.s.size := IntWalk.i64_in _ (by omega)
  have qu : IntKind.i64.wrap (used + ((s.size : Int) - (g.s.size : Int))) = used + (s.size - g.s.size) := IntWalk.i64_in _ (by omega)
  clear hlk hfr
  obtain ⟨c0, c1, c2, c3, c4⟩ := h.cells
  have hA := asked_any h n hn
  rw [ha] at hA
  have hF := full_any h n (s.size - g.s.size : Int) hn hu (by omega) hml
  rw [hg] at hF
  rw [show (some (q, Value.slice vb g.s.size vc, g) : Option (Nat × Value × Fl)).isSome = true from rfl, hfu] at hF
  have HA := Lib.hid hA
  have HF := Lib.hid hF
  obtain ⟨i0, hi0T, hz0, hz1, hz2⟩ := info_parts infoByte
  have HS := Lib.hid (step_go h hf hst)
  have HIN := Lib.hid hs
  have HSB := Lib.hid hsb
  have hmB : m ∈ dblocks d m M := by simp [dblocks]
  have hdB : d ∈ dblocks d m M := by simp [dblocks]
  have HFL := Lib.hid hfl
  clear h hA hF ha hfu hg hml hfl hst hs hsb
  go_enter Tryz.func27, Tryz.ntmps27
  go_wp2_with fail
  refine HA.out.mono ?_
  rintro e wx ⟨rfl, rfl⟩
  go_wp2_with fail
  refine HF.out.mono ?_
  rintro e wx ⟨rfl, rfl⟩
  go_wp2_with fail
  refine HS.out.mono ?_
  rintro e w1 ⟨rfl, h1, f1⟩
  have FI := Lib.hid (file_any h1 n hn)
  have F1 := Lib.hid f1
  have IN1 : Hid (ByIn w1 sb s) := Lib.hid (InW.fr HIN.out f1 (fun k o hk e => HSB.out k o hk (e ▸ hdB)))
  clear h1 f1 HA HF HS HIN
  go_wp2_with fail
  refine FI.out.mono ?_
  rintro e w2 ⟨q2, v2, M2, rfl, h2, g2, k2, s2, f2⟩
  rw [HFL.out] at g2
  have IN2 : ByIn w2 sb s := InW.fr IN1.out f2 (fun k o hk e => HSB.out k o hk (e ▸ hmB))
  have HAP := Lib.hid (h2.apart g2)
  have hqd : ¬ q2 = d := HAP.out.2.1
  have hdq : ¬ d = q2 := fun e => hqd e.symm
  have hb3 := (Below.refl w2.heap.size w2).alloc (Nat.le_refl _) (.cells #[] 5)
  have HBL := Lib.hid hb3
  have HROW := Lib.hid (by_empty w2)
  have HIN3 : Hid (ByIn (w2.alloc (.cells #[] 5)) sb s) := Lib.hid (InW.fr IN2 (Fr.of_bel (S := none') hb3) (fun _ _ _ => id))
  have HN2 : Hid (s.size = s.data.toList.length) := Lib.hid (len_data s).symm
  have HLN : Hid (([] : List UInt8).length + s.data.toList.length ≤ 100000000) := Lib.hid (by rw [len_data]; simp; omega)
  have H2 := Lib.hid h2
  have HG2 := Lib.hid g2
  have HK2 := Lib.hid k2
  have HSP2 := Lib.hid s2
  have F2 := Lib.hid f2
  clear h2 g2 k2 s2 f2 IN2 IN1 hb3 FI
  go_wp2_with (
    (at_builtin
     refine wpList_append_big byV byOne _ rfl _ _ _ rfl 5 i0 _ 1 Tryz.underlying22 hi0T hz0 hz1 hz2 rfl (by decide) (.slice (some ⟨w2.heap.size, 0, none⟩) 0 0) ([] : List UInt8) s.data.toList rfl HROW.out sb s.size cap rfl HN2.out HIN3.out HLN.out ?_
     intro u w3 o3 f3 e3
     have hM := by_made HBL.out (Nat.le_refl _) o3 f3 e3
     have hus := by_some (by simp) e3
     obtain ⟨ub, uc, huu⟩ := row_shape hM.tx
     subst huu
     have h3 := H2.out.bel hM.bl
     have hfr3 : FileR w3 q2 v2 g := h3.fl _ (mem_of_get HG2.out)
     have p0 : w3.cell? ⟨q2, 0, none⟩ = some v2 := hfr3.bk.cell 0
     have p1 : w3.cell? ⟨q2, 1, none⟩ = some (.int .i64 (g).lasts) := hfr3.bk.cell 1
     have p2 : w3.cell? ⟨q2, 2, none⟩ = some (.bool (g).stays) := hfr3.bk.cell 2
     have p0f := hfr3.bk.free 0
     have p1f := hfr3.bk.free 1
     have p2f := hfr3.bk.free 2
     have d1 : w3.cell? ⟨d, 1, none⟩ = some (.int .i64 used) := h3.bk.cell 1
     have d1f := h3.bk.free 1
     have hq3 := hfr3.bk.lt
     have hd3 := h3.bk.lt
     obtain ⟨w4, hw4⟩ : ∃ w4, ((w3.setCell ⟨q2, 0, none⟩ (.slice ub s.size uc)).setCell ⟨q2, 1, none⟩ (.int .i64 s.size)).setCell ⟨q2, 2, none⟩ (.bool true) = w4 := ⟨_, rfl⟩
     have hb4 : Bk w4 q2 [.slice ub s.size uc, .int .i64 s.size, .bool true] 77 := by
       rw [← hw4]
       exact ((hfr3.bk.set 0 (.slice ub s.size uc)).set 1 (.int .i64 s.size)).set 2 (.bool true)
     have hf34 : Fr (fun b => b = q2) w3 w4 := by
       rw [← hw4]
       exact (((Fr.refl (fun b => b = q2) w3).setCell q2 0 _ (.inr rfl)).setCell q2 1 _ (.inr rfl)).setCell q2 2 _ (.inr rfl)
     have hf24 : Fr (fun b => b = q2 ∨ v2.ownBlock = some b) w2 w4 := (Fr.of_bel (S := fun b => b = q2 ∨ v2.ownBlock = some b) hM.bl).trans hf34 (fun _ _ e => .inl e)
     have hq2lt : q2 < w2.heap.size := by
       have hfr2 : FileR w2 q2 v2 g := H2.out.fl _ (mem_of_get HG2.out)
       exact hfr2.bk.lt
     have hr4 : FileR w4 q2 (.slice ub s.size uc) ⟨s, s.size, true⟩ := ⟨hb4, hf34.row hM.tx (fun b hb e => by have := hM.nw b hb; omega)⟩
     have hset := H2.out.set HG2.out hf24 hr4 (.inr hus)
     have hdd : Bk (w4.setCell ⟨d, 1, none⟩ (.int .i64 (used + (s.size - g.s.size : Int)))) d _ 65 := hset.1.bk.set 1 (.int .i64 (used + (s.size - g.s.size : Int)))
     have hff : Fr (fun b => b = d) w4 (w4.setCell ⟨d, 1, none⟩ (.int .i64 (used + (s.size - g.s.size : Int)))) := (Fr.refl (fun b => b = d) _).setCell d 1 _ (.inr rfl)
     have HOWN := Lib.hid (hset.1.own hdd hff)
     have HSP4 := Lib.hid hset.2
     have HF24 := Lib.hid hf24
     have HFF := Lib.hid hff
     have HW4 := Lib.hid hw4
     clear o3 f3 e3 hM hus h3 hfr3 hb4 hf34 hf24 hr4 hset hdd hff hw4))
  go_ret
  rw [HW4.out]
  refine ⟨mput M2 n (q2, .slice ub s.size uc, ⟨s, s.size, true⟩), rfl, HOWN.out, fun k => ?_, ?_, fun b hb => ?_⟩
  · unfold flOf
    rw [get_put]
    by_cases e : n = k
    · rw [if_pos e, if_pos e]; rfl
    · rw [if_neg e, if_neg e, HK2.out k e]
  · have a1 : Fr (fun b => b ∈ dblocks d m M) w w2 := (F1.out.mono (fun b _ e => e ▸ hdB)).trans F2.out (fun b _ e => e ▸ hmB)
    have a2 := a1.trans HF24.out (fun b hb e => by
      have hin : b ∈ dblocks d m M2 := by
        rcases e with rfl | e
        · exact (mem_fblocks (d := d) (m := m) (mem_of_get HG2.out)).1
        · exact (mem_fblocks (d := d) (m := m) (mem_of_get HG2.out)).2 b e
      rcases HSP2.out b hin with h | h
      · exact h
      · have := F1.out.size; omega)
    exact a2.trans HFF.out (fun b _ e => e ▸ hdB)
  · have z1 := F1.out.size
    have z2 := F2.out.size
    rcases HSP4.out b hb with h | h
    · rcases HSP2.out b h with h | h
      · exact .inl h
      · exact .inr (by omega)
    · exact .inr (by omega)
set_option maxRecDepth 100000 in
set_option maxHeartbeats 4000000 in
theorem replace_full_new (h : DiskR w d m M used lit fuse down) (n s : ByteArray) (sb : Option Addr) (cap : Nat) (hn : n.size ≤ 1000) (hg : mget M n = none) (hsz : s.size ≤ 5000000) (hu : -10000000 ≤ used ∧ used ≤ 10000000) (hml : M.length ≤ 1000000) (ha : askN down n = 0) (hfu : fullN used (s.size : Int) false M.length = true) :
    Calls Tryz.prog 27 #[.pointer (some ⟨d, 0, none⟩), .string n, .slice sb s.size cap] w fun e w' => e = .returned (.int .i64 5) ∧ w = w' := by
  have hlk := h.look n hn
  rw [hg] at hlk
  have hlk' : (Instr.lookup 63 (.map (some m)) (.string n) true).run Tryz.prog w = .ok (.tuple #[.pointer none, .bool false]) w := hlk
  have hfl : (flOf M n).getD emptyF = emptyF := by unfold flOf; rw [hg]; rfl
  have qu : IntKind.i64.wrap (used + (s.size : Int)) = used + s.size := IntWalk.i64_in _ (by omega)
  have qm : IntKind.i64.wrap (s.size : Int) = s.size := IntWalk.i64_in _ (by omega)
  clear hlk
  obtain ⟨c0, c1, c2, c3, c4⟩ := h.cells
  have hA := asked_any h n hn
  rw [ha] at hA
  have hF := full_any h n (s.size : Int) hn hu (by omega) hml
  rw [hg] at hF
  rw [show (none : Option (Nat × Value × Fl)).isSome = false from rfl, hfu] at hF
  have HA := Lib.hid hA
  have HF := Lib.hid hF
  clear h hA hF ha hfu hg hml hfl
  go_enter Tryz.func27, Tryz.ntmps27
  go_wp2_with fail
  refine HA.out.mono ?_
  rintro e wx ⟨rfl, rfl⟩
  go_wp2_with fail
  refine HF.out.mono ?_
  rintro e wx ⟨rfl, rfl⟩
  go_wp2_with fail
  go_ret
  exact ⟨rfl, rfl⟩
set_option maxRecDepth 100000 in
set_option maxHeartbeats 4000000 in
theorem replace_stop_new (h : DiskR w d m M used lit fuse down) (n s : ByteArray) (sb : Option Addr) (cap : Nat) (hn : n.size ≤ 1000) (hg : mget M n = none) (hsz : s.size ≤ 5000000) (hu : -10000000 ≤ used ∧ used ≤ 10000000) (hml : M.length ≤ 1000000) (ha : askN down n = 0) (hfu : fullN used (s.size : Int) false M.length = false) (hst : (lit && decide (fuse = 0)) = true) :
    Calls Tryz.prog 27 #[.pointer (some ⟨d, 0, none⟩), .string n, .slice sb s.size cap] w fun e w' => e = .returned (.int .i64 8) ∧ DiskR w' d m M used lit fuse true ∧ Fr (fun b => b = d) w w' := by
  have hlk := h.look n hn
  rw [hg] at hlk
  have hlk' : (Instr.lookup 63 (.map (some m)) (.string n) true).run Tryz.prog w = .ok (.tuple #[.pointer none, .bool false]) w := hlk
  have hfl : (flOf M n).getD emptyF = emptyF := by unfold flOf; rw [hg]; rfl
  have qu : IntKind.i64.wrap (used + (s.size : Int)) = used + s.size := IntWalk.i64_in _ (by omega)
  have qm : IntKind.i64.wrap (s.size : Int) = s.size := IntWalk.i64_in _ (by omega)
  clear hlk
  obtain ⟨c0, c1, c2, c3, c4⟩ := h.cells
  have hA := asked_any h n hn
  rw [ha] at hA
  have hF := full_any h n (s.size : Int) hn hu (by omega) hml
  rw [hg] at hF
  rw [show (none : Option (Nat × Value × Fl)).isSome = false from rfl, hfu] at hF
  have HA := Lib.hid hA
  have HF := Lib.hid hF
  have HS := Lib.hid (step_stop h hst)
  clear h hA hF ha hfu hg hml hfl hst
  go_enter Tryz.func27, Tryz.ntmps27
  go_wp2_with fail
  refine HA.out.mono ?_
  rintro e wx ⟨rfl, rfl⟩
  go_wp2_with fail
  refine HF.out.mono ?_
  rintro e wx ⟨rfl, rfl⟩
  go_wp2_with fail
  refine HS.out.mono ?_
  rintro e w1 ⟨rfl, h1, f1⟩
  have H1 := Lib.hid h1
  have F1 := Lib.hid f1
  clear h1 f1
  go_wp2_with fail
  go_ret
  exact ⟨rfl, H1.out, F1.out⟩
set_option maxRecDepth 100000 in
set_option maxHeartbeats 4000000 in
theorem replace_yes_new (h : DiskR w d m M used lit fuse down) (n s : ByteArray) (sb : Option Addr) (cap : Nat) (hn : n.size ≤ 1000) (hg : mget M n = none) (hsz : s.size ≤ 5000000) (hu : -10000000 ≤ used ∧ used ≤ 10000000) (hml : M.length ≤ 1000000) (ha : askN down n = 0) (hs : ByIn w sb s) (hsb : ∀ k o, sb = some ⟨k, o, none⟩ → k ∉ dblocks d m M) (hfu : fullN used (s.size : Int) false M.length = false) (hf : 0 ≤ fuse ∧ fuse ≤ 9223372036854775807) (hst : (lit && decide (fuse = 0)) = false) :
    Calls Tryz.prog 27 #[.pointer (some ⟨d, 0, none⟩), .string n, .slice sb s.size cap] w fun e w' => ∃ M', e = .returned (.int .i64 0) ∧ DiskR w' d m M' (used + (s.size : Int)) lit (fuB lit fuse) down ∧ (∀ k, flOf M' k = if n = k then some ⟨s, s.size, true⟩ else flOf M k) ∧ Fr (fun b => b ∈ dblocks d m M) w w' ∧ ∀ b ∈ dblocks d m M', b ∈ dblocks d m M ∨ w.heap.size ≤ b := by
  have hlk := h.look n hn
  rw [hg] at hlk
  have hlk' : (Instr.lookup 63 (.map (some m)) (.string n) true).run Tryz.prog w = .ok (.tuple #[.pointer none, .bool false]) w := hlk
  have hfl : (flOf M n).getD emptyF = emptyF := by unfold flOf; rw [hg]; rfl
  have qu : IntKind.i64.wrap (used + (s.size : Int)) = used + s.size := IntWalk.i64_in _ (by omega)
  have qm : IntKind.i64.wrap (s.size : Int) = s.size := IntWalk.i64_in _ (by omega)
  clear hlk
  obtain ⟨c0, c1, c2, c3, c4⟩ := h.cells
  have hA := asked_any h n hn
  rw [ha] at hA
  have hF := full_any h n (s.size : Int) hn hu (by omega) hml
  rw [hg] at hF
  rw [show (none : Option (Nat × Value × Fl)).isSome = false from rfl, hfu] at hF
  have HA := Lib.hid hA
  have HF := Lib.hid hF
  obtain ⟨i0, hi0T, hz0, hz1, hz2⟩ := info_parts infoByte
  have HS := Lib.hid (step_go h hf hst)
  have HIN := Lib.hid hs
  have HSB := Lib.hid hsb
  have hmB : m ∈ dblocks d m M := by simp [dblocks]
  have hdB : d ∈ dblocks d m M := by simp [dblocks]
  have HFL := Lib.hid hfl
  clear h hA hF ha hfu hg hml hfl hst hs hsb
  go_enter Tryz.func27, Tryz.ntmps27
  go_wp2_with fail
  refine HA.out.mono ?_
  rintro e wx ⟨rfl, rfl⟩
  go_wp2_with fail
  refine HF.out.mono ?_
  rintro e wx ⟨rfl, rfl⟩
  go_wp2_with fail
  refine HS.out.mono ?_
  rintro e w1 ⟨rfl, h1, f1⟩
  have FI := Lib.hid (file_any h1 n hn)
  have F1 := Lib.hid f1
  have IN1 : Hid (ByIn w1 sb s) := Lib.hid (InW.fr HIN.out f1 (fun k o hk e => HSB.out k o hk (e ▸ hdB)))
  clear h1 f1 HA HF HS HIN
  go_wp2_with fail
  refine FI.out.mono ?_
  rintro e w2 ⟨q2, v2, M2, rfl, h2, g2, k2, s2, f2⟩
  rw [HFL.out] at g2
  have IN2 : ByIn w2 sb s := InW.fr IN1.out f2 (fun k o hk e => HSB.out k o hk (e ▸ hmB))
  have HAP := Lib.hid (h2.apart g2)
  have hqd : ¬ q2 = d := HAP.out.2.1
  have hdq : ¬ d = q2 := fun e => hqd e.symm
  have hb3 := (Below.refl w2.heap.size w2).alloc (Nat.le_refl _) (.cells #[] 5)
  have HBL := Lib.hid hb3
  have HROW := Lib.hid (by_empty w2)
  have HIN3 : Hid (ByIn (w2.alloc (.cells #[] 5)) sb s) := Lib.hid (InW.fr IN2 (Fr.of_bel (S := none') hb3) (fun _ _ _ => id))
  have HN2 : Hid (s.size = s.data.toList.length) := Lib.hid (len_data s).symm
  have HLN : Hid (([] : List UInt8).length + s.data.toList.length ≤ 100000000) := Lib.hid (by rw [len_data]; simp; omega)
  have H2 := Lib.hid h2
  have HG2 := Lib.hid g2
  have HK2 := Lib.hid k2
  have HSP2 := Lib.hid s2
  have F2 := Lib.hid f2
  clear h2 g2 k2 s2 f2 IN2 IN1 hb3 FI
  go_wp2_with (
    (at_builtin
     refine wpList_append_big byV byOne _ rfl _ _ _ rfl 5 i0 _ 1 Tryz.underlying22 hi0T hz0 hz1 hz2 rfl (by decide) (.slice (some ⟨w2.heap.size, 0, none⟩) 0 0) ([] : List UInt8) s.data.toList rfl HROW.out sb s.size cap rfl HN2.out HIN3.out HLN.out ?_
     intro u w3 o3 f3 e3
     have hM := by_made HBL.out (Nat.le_refl _) o3 f3 e3
     have hus := by_some (by simp) e3
     obtain ⟨ub, uc, huu⟩ := row_shape hM.tx
     subst huu
     have h3 := H2.out.bel hM.bl
     have hfr3 : FileR w3 q2 v2 emptyF := h3.fl _ (mem_of_get HG2.out)
     have p0 : w3.cell? ⟨q2, 0, none⟩ = some v2 := hfr3.bk.cell 0
     have p1 : w3.cell? ⟨q2, 1, none⟩ = some (.int .i64 (emptyF).lasts) := hfr3.bk.cell 1
     have p2 : w3.cell? ⟨q2, 2, none⟩ = some (.bool (emptyF).stays) := hfr3.bk.cell 2
     have p0f := hfr3.bk.free 0
     have p1f := hfr3.bk.free 1
     have p2f := hfr3.bk.free 2
     have d1 : w3.cell? ⟨d, 1, none⟩ = some (.int .i64 used) := h3.bk.cell 1
     have d1f := h3.bk.free 1
     have hq3 := hfr3.bk.lt
     have hd3 := h3.bk.lt
     obtain ⟨w4, hw4⟩ : ∃ w4, ((w3.setCell ⟨q2, 0, none⟩ (.slice ub s.size uc)).setCell ⟨q2, 1, none⟩ (.int .i64 s.size)).setCell ⟨q2, 2, none⟩ (.bool true) = w4 := ⟨_, rfl⟩
     have hb4 : Bk w4 q2 [.slice ub s.size uc, .int .i64 s.size, .bool true] 77 := by
       rw [← hw4]
       exact ((hfr3.bk.set 0 (.slice ub s.size uc)).set 1 (.int .i64 s.size)).set 2 (.bool true)
     have hf34 : Fr (fun b => b = q2) w3 w4 := by
       rw [← hw4]
       exact (((Fr.refl (fun b => b = q2) w3).setCell q2 0 _ (.inr rfl)).setCell q2 1 _ (.inr rfl)).setCell q2 2 _ (.inr rfl)
     have hf24 : Fr (fun b => b = q2 ∨ v2.ownBlock = some b) w2 w4 := (Fr.of_bel (S := fun b => b = q2 ∨ v2.ownBlock = some b) hM.bl).trans hf34 (fun _ _ e => .inl e)
     have hq2lt : q2 < w2.heap.size := by
       have hfr2 : FileR w2 q2 v2 emptyF := H2.out.fl _ (mem_of_get HG2.out)
       exact hfr2.bk.lt
     have hr4 : FileR w4 q2 (.slice ub s.size uc) ⟨s, s.size, true⟩ := ⟨hb4, hf34.row hM.tx (fun b hb e => by have := hM.nw b hb; omega)⟩
     have hset := H2.out.set HG2.out hf24 hr4 (.inr hus)
     have hdd : Bk (w4.setCell ⟨d, 1, none⟩ (.int .i64 (used + (s.size : Int)))) d _ 65 := hset.1.bk.set 1 (.int .i64 (used + (s.size : Int)))
     have hff : Fr (fun b => b = d) w4 (w4.setCell ⟨d, 1, none⟩ (.int .i64 (used + (s.size : Int)))) := (Fr.refl (fun b => b = d) _).setCell d 1 _ (.inr rfl)
     have HOWN := Lib.hid (hset.1.own hdd hff)
     have HSP4 := Lib.hid hset.2
     have HF24 := Lib.hid hf24
     have HFF := Lib.hid hff
     have HW4 := Lib.hid hw4
     clear o3 f3 e3 hM hus h3 hfr3 hb4 hf34 hf24 hr4 hset hdd hff hw4))
  go_ret
  rw [HW4.out]
  refine ⟨mput M2 n (q2, .slice ub s.size uc, ⟨s, s.size, true⟩), rfl, HOWN.out, fun k => ?_, ?_, fun b hb => ?_⟩
  · unfold flOf
    rw [get_put]
    by_cases e : n = k
    · rw [if_pos e, if_pos e]; rfl
    · rw [if_neg e, if_neg e, HK2.out k e]
  · have a1 : Fr (fun b => b ∈ dblocks d m M) w w2 := (F1.out.mono (fun b _ e => e ▸ hdB)).trans F2.out (fun b _ e => e ▸ hmB)
    have a2 := a1.trans HF24.out (fun b hb e => by
      have hin : b ∈ dblocks d m M2 := by
        rcases e with rfl | e
        · exact (mem_fblocks (d := d) (m := m) (mem_of_get HG2.out)).1
        · exact (mem_fblocks (d := d) (m := m) (mem_of_get HG2.out)).2 b e
      rcases HSP2.out b hin with h | h
      · exact h
      · have := F1.out.size; omega)
    exact a2.trans HFF.out (fun b _ e => e ▸ hdB)
  · have z1 := F1.out.size
    have z2 := F2.out.size
    rcases HSP4.out b hb with h | h
    · rcases HSP2.out b h with h | h
      · exact .inl h
      · exact .inr (by omega)
    · exact .inr (by omega)
end
end Go.Proofs.YtkofcegdoilaeaaGreatDoor
namespace Go.Proofs.YtkofcegdoilaeaaGreatDoor
open Go.RowKit Go.MapKept Go.Maps Go.WideShapes
open Go.WideElems (Fit rd rg)
set_option linter.unusedVariables false
/-- how a value is read: not at all -/
def blind : Value → Option (DataW Unit × List MemPlace) := fun _ => some (.nil, [])
theorem blind_rg {P : Program} {k : TypeId} (x : MapEntry) : (rg P k blind x).1 = (keyOf P k x.key).getD (.bool false) := by
  unfold rg rd blind
  cases keyOf P k x.key <;> rfl
theorem mp_owns {P : Program} {k : TypeId} (hk : P.underlying k = some .string) {w : World} {r : Nat} {m : List (ByteArray × Value)} (h : Mp Value.string (fun s => s.size ≤ maxLen) w r m) (hm : m.length ≤ maxLen) :
    ∃ D : DataW Unit, w.ownsMap P k blind r m.length D ∧ (strKeys D).Perm (m.map fun p => p.1.data.toList) ∧ Maps.size D = m.length := by
  obtain ⟨es, clock, hb, hs, he⟩ := h.ex
  have hl : es.toList.length = m.length := by have := congrArg List.length he; simpa using this
  have hkey : ∀ x ∈ es.toList, ∃ s : ByteArray, s.size ≤ maxLen ∧ x.key = .string s := fun x hx => by
    obtain ⟨j, hj, ej⟩ := List.mem_iff_getElem.1 hx
    obtain ⟨p, hp, h1, _⟩ := ent_at he (j := j) (e := x) (by rw [List.getElem?_eq_getElem hj, ej])
    exact ⟨p.1, h.ok p (List.mem_of_getElem? hp), h1⟩
  refine ⟨.map ((es.toList.map (rg P k blind)).foldr DataW.insert []), ⟨es, clock, hb, ⟨by simpa using (by omega : es.toList.length ≤ maxLen), hs, fun x hx => ?_⟩, by simpa using Nat.le_of_eq hl, rfl⟩, ?_, ?_⟩
  · obtain ⟨s, hs', e⟩ := hkey x hx
    refine ⟨(.string s.data.toList, .nil), ?_⟩
    unfold rd blind
    rw [e, WideMaps.keyOf_string_mk hk hs']
    rfl
  · show (List.map (fun p : Lit × DataW Unit => strOf p.1) _).Perm _
    refine ((sorted_perm (es.toList.map (rg P k blind))).map _).trans ?_
    rw [List.map_map]
    have e1 : es.toList.map ((fun p : Lit × DataW Unit => strOf p.1) ∘ rg P k blind) = (es.toList.map (fun e => (e.key, e.val))).map (fun q => strOf ((keyOf P k q.1).getD (.bool false))) := by
      rw [List.map_map]
      refine List.map_congr_left fun x _ => ?_
      simp only [Function.comp, blind_rg]
    rw [e1, he, List.map_map]
    refine List.Perm.of_eq (List.map_congr_left fun p hp => ?_)
    simp only [Function.comp, WideMaps.keyOf_string_mk hk (h.ok p hp)]
    rfl
  · show (List.length _) = _
    rw [(sorted_perm _).length_eq, List.length_map, hl]
/-- a map, cloned -/
theorem Mp.cloned {α : Type} {enc : α → Value} {Ok : α → Prop} {w : World} {r : Nat} {m : List (α × Value)} (h : Mp enc Ok w r m) : ∃ es clock, w.heap[r]? = some (.map es clock) ∧ Mp enc Ok (w.alloc (.map es clock)) w.heap.size m := by
  obtain ⟨es, clock, hb, hs, he⟩ := h.ex
  exact ⟨es, clock, hb, h.ok, h.nd, es, clock, (heap_alloc w _).1, hs, he⟩
end Go.Proofs.YtkofcegdoilaeaaGreatDoor

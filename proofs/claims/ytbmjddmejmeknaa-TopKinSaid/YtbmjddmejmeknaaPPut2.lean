/- Contract of (*pane.Panes).put: the first sum in a pane of a key. -/
import Derived.Test.YtbmjddmejmeknaaPPut
import Derived.Deep.RegionLaw
namespace Go.Proofs.Ytbmjddmejmeknaa.Pn
open Go.RowKit Go.MapKept Go.Maps
set_option linter.unusedVariables false
/-- an append at a step of a region that draws its order -/
theorem step_append_row {P : Program} {ops : Array Oper} {o : Oper} {a : Act} {w : World} {K : Act → World → Prop} {Q : Exit → Act → World → Prop} {E : Prop}
    (hgd : o.guard = none) (s x : Operand) (t : TypeId) (ho : o.op = .call { callee := .builtin .append, args := #[s, x], argTypes := #[t, t] })
    (e : TypeId) (i : TypeInfo) (z : Value) (size bytes : Nat) (ht : P.underlying t = some (.slice e)) (hi : P.info? e = some i) (hz : i.zero = some z)
    (hsize : i.size = size) (hby : i.bytes = bytes) (hzs : z.cells.size = size) (hsz : 0 < size)
    (v : Value) (n : Nat) (xs : List Value) (hs : a.eval s = v) (hown : w.ownsRow 0 e size v n xs)
    (ad : Addr) (m c : Nat) (news : List Value) (hx : a.eval x = .slice (some ad) m c) (hl : news.length = m * size) (hnews : ∀ j u, news[j]? = some u → w.cell? (ad.add j) = some u) (h1 : ∀ u ∈ news, u.oneCell' = true)
    (h63 : n + m ≤ maxLen) (hbytes : (n + m) * bytes ≤ 140737488355328)
    (h : ∀ v' w', w'.ownsRow 0 e size v' (n + m) (xs ++ news) → Fr (fun b => v.ownBlock = some b) w w' → Hence v v' w → K (a.put o.dst v') w') : if Region.wanted o (yielded ops a.tmps) = true then Oper.wp P o a w K Q else E := by
  have hw : Region.wanted o (yielded ops a.tmps) = true := by simp [Region.wanted, hgd]
  rw [if_pos hw]
  obtain ⟨v', w', hr, h2, h3, h4⟩ := run_append_row (P := P) w t o.type e i z size bytes ht hi hz hsize hby hzs hsz v n xs hown ad m c news hl hnews h1 h63 hbytes
  unfold Oper.wp execOp
  simp only [ho, resolve, invoke, builtin, Sem.run_bind, Sem.run_pure, Result.andThen_ok, List.map_toArray, List.map_cons, List.map_nil, hs, hx, hr]
  exact h v' w' h2 h3 h4
theorem infoInt : (Try.prog.info? 3).map (fun i => (i.zero, i.size, i.bytes)) = some (some (.int .i64 0), 1, 8) := by kernel_rfl
set_option maxRecDepth 100000 in
set_option maxHeartbeats 4000000 in
theorem put_new (p s r : Nat) (wd ad : Int) (sm : List (CK × Int)) (rw : List (ByteArray × (Value × List Int))) (k : ByteArray) (q n : Int) (w : World) (h : PaneR w p s r wd ad sm rw)
    (hk : k.size ≤ 100) (hq : I64 q) (hg : mget sm (k, q) = none) (hl : (rowL rw k).length ≤ 1048576) (hn : 0 < n) (hn' : n ≤ 1099511627776) :
    Calls Try.prog 28 #[.pointer (some ⟨p, 0, none⟩), .agg #[.string k, .int .i64 q], .int .i64 n] w fun e w' => e = .returned (.tuple #[]) ∧
      ∃ v, PaneR w' p s r wd ad (mput sm (k, q) n) (mput rw k (v, rowL rw k ++ [q])) ∧ Fr (fun b => b = s ∨ b = r ∨ (rowV rw k).ownBlock = some b) w w' ∧ (v.ownBlock = (rowV rw k).ownBlock ∨ ∃ b, v.ownBlock = some b ∧ w.heap.size ≤ b) := by
  have hwf : (Lit.int .i64 q).wf = true := wf64 hq
  have hb : Below w.heap.size w (w.alloc (.cells #[.string k, .int .i64 q] 81)) := (Below.refl _ _).alloc (Nat.le_refl _) _
  have h1 := h.bel hb
  have hk1 := Bk.new w [.string k, .int .i64 q] 81
  have n0 : (n == 0) = false := by simp; omega
  have HF := Lib.hid (Fr.of_bel (S := fun b => b = s ∨ b = r ∨ (rowV rw k).ownBlock = some b) hb)
  obtain ⟨i0, hi, hz0, hz1, hz2⟩ := info_parts infoInt
  clear hb
  go_enter Try.func28, Try.ntmps28
  go_wp2_with fail
  have hlt := hk1.lt
  have hsz : w.heap.size ≤ (w.alloc (.cells #[.string k, .int .i64 q] 81)).heap.size := by simp
  generalize w.alloc (.cells #[.string k, .int .i64 q] 81) = W at *
  have hBp : ∀ b ∈ pblocks p s r rw, b < w.heap.size := h.lt
  have HB := Lib.hid hBp
  clear h hBp
  generalize w.heap.size = B at *
  have hlk : ∀ j, (Instr.lookup 74 (.map (some s)) (.agg #[.string k, .int .i64 q]) false).run Try.prog (W.drewN j) = .ok (.int .i64 0) (W.drewN j) := fun j => by
    have := (h1.drewN j).look k q hk hwf
    rw [hg] at this; exact this
  obtain ⟨c0, c1, c2, c3⟩ := h1.cells
  have d0 : W.cell? ⟨B, 0, none⟩ = some (.string k) := hk1.cell 0
  have d1 : W.cell? ⟨B, 1, none⟩ = some (.int .i64 q) := hk1.cell 1
  go_quiet (fail)
  go_wp2_with fail
  clear hlk c0 c1 c2 c3 d0 d1
  have HF2 := Lib.hid (HF.out.drewN nq)
  have h2 := h1.drewN nq
  have hk2 := hk1.fr ((Fr.refl none' W).drewN nq) id
  have hsz2 : B ≤ (W.drewN nq).heap.size := hsz
  have hlt2 : B < (W.drewN nq).heap.size := hlt
  clear HF h1 hk1 hlt hsz
  generalize W.drewN nq = V at *
  obtain ⟨c0, c1, c2, c3⟩ := h2.cells
  have d0 : V.cell? ⟨B, 0, none⟩ = some (.string k) := hk2.cell 0
  have d1 : V.cell? ⟨B, 1, none⟩ = some (.int .i64 q) := hk2.cell 1
  have hlp : p < V.heap.size := h2.bk.lt
  have g1 : (Instr.lookup 75 (.map (some r)) (.string k) false).run Try.prog V.drew = .ok (rowV rw k) V.drew := (h2.fr (Fr.refl none' V).drew (fun _ _ => id)).lookRow k hk
  have g2 : (Instr.lookup 75 (.map (some r)) (.string k) false).run Try.prog (V.alloc (.cells #[.int .i64 q] 3)).drew = .ok (rowV rw k) (V.alloc (.cells #[.int .i64 q] 3)).drew := (h2.fr ((Fr.refl none' V).alloc _).drew (fun _ _ => id)).lookRow k hk
  have HO := Lib.hid ((h2.fr ((Fr.refl none' V).alloc (.cells #[.int .i64 q] 3)).drew (fun _ _ => id)).rowOwn k)
  have HR := Lib.hid (h2.rows.fr ((Fr.refl none' V).alloc (.cells #[.int .i64 q] 3)).drew id)
  have HN : Hid (∀ (j : Nat) (u : Value), ([.int .i64 q] : List Value)[j]? = some u → (V.alloc (.cells #[.int .i64 q] 3)).drew.cell? ((⟨V.heap.size, 0, none⟩ : Addr).add j) = some u) := Lib.hid (fun j u hj => by
    have hb := (Bk.new V [.int .i64 q] 3).cell j
    rw [Addr.add_lit, Nat.zero_add]
    exact hb.trans hj)
  have hv63 : (rowL rw k).length + 1 ≤ maxLen := by unfold maxLen; omega
  have hv47 : ((rowL rw k).length + 1) * 8 ≤ 140737488355328 := by omega
  have HK2 := Lib.hid hk2
  have H2 := Lib.hid h2
  have hne : p ≠ r ∧ B ≠ r ∧ (∀ b, (rowV rw k).ownBlock = some b → p ≠ b ∧ B ≠ b ∧ r ≠ b) := by
    have nd := h2.nd
    have hB := HB.out
    have hrow : ∀ b, (rowV rw k).ownBlock = some b → b ∈ rw.filterMap (fun x => x.2.1.ownBlock) := fun b hb => by
      unfold rowV at hb
      cases hg : mget rw k with
      | none => rw [hg] at hb; cases hb
      | some y => rw [hg] at hb; exact List.mem_filterMap.2 ⟨_, mem_of_get hg, hb⟩
    simp only [pblocks, List.nodup_cons, List.mem_cons, not_or] at nd
    refine ⟨nd.1.2.1, ?_, fun b hb => ⟨?_, ?_, ?_⟩⟩
    · have := hB r (by simp [pblocks]); omega
    · intro e; exact nd.1.2.2 (e ▸ hrow b hb)
    · have := hB b (by simp only [pblocks, List.mem_cons]; exact .inr (.inr (.inr (hrow b hb)))); omega
    · intro e; exact nd.2.2.1 (e ▸ hrow b hb)
  have HNE := Lib.hid hne
  clear h2 hk2 hne
  go_region_held3 (fun X => X.cell? ⟨p, 3, none⟩ = some (.map (some r)) ∧ X.cell? ⟨B, 0, none⟩ = some (.string k) ∧ X.cell? ⟨B, 1, none⟩ = some (.int .i64 q)) (first | assumption | go_keep)
    ((refine step_append_row (by rfl) _ _ _ (by rfl) 3 i0 _ 1 8 Try.underlying82 hi hz0 hz1 hz2 rfl (by decide) (rowV rw k) (rowL rw k).length _ (by rfl) HO.out ⟨V.heap.size, 0, none⟩ 1 1 [.int .i64 q] (by rfl) rfl HN.out (by simp [Value.oneCell']) hv63 hv47 ?_
      intro v1 w1 o1 f1 e1
      have O1 := Lib.hid o1
      have E1 := Lib.hid e1
      have F1 := Lib.hid ((((Fr.refl (fun b => b = r ∨ (rowV rw k).ownBlock = some b) V).alloc (.cells #[.int .i64 q] 3)).drew).trans f1 (fun _ _ h => .inr h))
      have hs1 : w1.cell? ⟨p, 3, none⟩ = some (.map (some r)) ∧ w1.cell? ⟨B, 0, none⟩ = some (.string k) ∧ w1.cell? ⟨B, 1, none⟩ = some (.int .i64 q) := by
        have b1 := H2.out.bk.fr F1.out (fun h => h.elim HNE.out.1 (fun h => (HNE.out.2.2 _ h).1 rfl))
        have b2 := HK2.out.fr F1.out (fun h => h.elim HNE.out.2.1 (fun h => (HNE.out.2.2 _ h).2.1 rfl))
        exact ⟨b1.cell 3, b2.cell 0, b2.cell 1⟩
      have hms := (HR.out.fr f1 (fun h => (HNE.out.2.2 _ h).2.2 rfl)).store (P := Try.prog) keyS Try.underlying75 (a := k) (by unfold okS maxLen; omega) v1
      obtain ⟨w2, hr2, m2, f2, z2⟩ := hms
      have hr3 : (Instr.mapUpdate 75 (.map (some r)) (.string k) v1).run Try.prog w1 = .ok () w2 := hr2
      have M2 := Lib.hid m2
      have F2 := Lib.hid (F1.out.trans f2 (fun _ _ h => .inl h))
      have F12 := Lib.hid f2
      have hs2 : w2.cell? ⟨p, 3, none⟩ = some (.map (some r)) ∧ w2.cell? ⟨B, 0, none⟩ = some (.string k) ∧ w2.cell? ⟨B, 1, none⟩ = some (.int .i64 q) := by
        have b1 := H2.out.bk.fr F2.out (fun h => h.elim HNE.out.1 (fun h => (HNE.out.2.2 _ h).1 rfl))
        have b2 := HK2.out.fr F2.out (fun h => h.elim HNE.out.2.1 (fun h => (HNE.out.2.2 _ h).2.1 rfl))
        exact ⟨b1.cell 3, b2.cell 0, b2.cell 1⟩
      clear o1 f1 e1 m2 f2 z2 hr2))
  all_goals
    have hlast : ∃ h3 : PaneR w2 p s r wd ad sm (mput rw k (v1, rowL rw k ++ [q])), (v1.ownBlock = (rowV rw k).ownBlock ∨ ∃ b, v1.ownBlock = some b ∧ V.heap.size ≤ b) := by
      have hv : v1.ownBlock = (rowV rw k).ownBlock ∨ ∃ b, v1.ownBlock = some b ∧ V.heap.size ≤ b := by
        rcases E1.out with e | e
        · exact .inl e
        · exact .inr ⟨_, e, by simp⟩
      have hr := H2.out.lt r (by simp [pblocks])
      refine ⟨H2.out.setRow M2.out F2.out ?_ hv, hv⟩
      have := F12.out.row O1.out (fun b hb e => by
        subst e
        rcases hv with hv | ⟨c, hc, hge⟩
        · exact (HNE.out.2.2 b (by rw [← hv]; exact hb)).2.2 rfl
        · have : c = b := Option.some.inj (hc.symm.trans hb)
          omega)
      simpa using this
    obtain ⟨h3, hv⟩ := hlast
    have HV := Lib.hid hv
    have HF3 : Hid (Fr (fun b => b = s ∨ b = r ∨ (rowV rw k).ownBlock = some b) w w2) := Lib.hid (HF2.out.trans F2.out (fun _ _ h => .inr h))
    have hk3 : Bk w2 B [.string k, .int .i64 q] 81 := HK2.out.fr F2.out (fun h => h.elim HNE.out.2.1 (fun h => (HNE.out.2.2 _ h).2.1 rfl))
    have HVz : Hid (w.heap.size ≤ V.heap.size) := Lib.hid HF2.out.size
    clear hv H2 HK2 HF2 F1 F2 F12 M2 E1 O1 HR HO HN HNE HB hs1 hs2 hr3 g1 g2 hv63 hv47 c0 c1 c2 c3 d0 d1 hlp hlt2 hsz2 hl
    obtain ⟨c0, c1, c2, c3⟩ := h3.cells
    have d0 : w2.cell? ⟨B, 0, none⟩ = some (.string k) := hk3.cell 0
    have d1 : w2.cell? ⟨B, 1, none⟩ = some (.int .i64 q) := hk3.cell 1
    go_wp2_with fail
    have hw : IntKind.i64.wrap n = n := IntWalk.i64_in _ (by omega)
    go_still_tail 8, (by kernel_rfl)
    clear hw
    change wpList _ _ _ _ _ w2.drew
    have h4 := h3.fr (Fr.refl none' w2).drew (fun _ _ => id)
    have HF4 := Lib.hid HF3.out.drew
    clear HF3 h3 hk3 c0 c1 c2 c3 d0 d1
    generalize w2.drew = U at *
    refine wpList_store rfl _ _ _ rfl keyC Try.underlying74 h4.sums rfl (k, q) rfl ⟨by show k.size ≤ _; unfold maxLen; omega, hwf⟩ (.int .i64 n) rfl ?_
    intro w5 m5 f5 z5
    have H5 := Lib.hid (h4.setSum m5 f5)
    have HF5 := Lib.hid (HF4.out.trans f5 (fun _ _ e => .inl e))
    clear m5 f5 z5 h4 HF4
    go_wp2_with fail
    go_end0
    exact ⟨rfl, v1, H5.out, HF5.out, HV.out.imp id (fun ⟨b, h1, h2⟩ => ⟨b, h1, Nat.le_trans HVz.out h2⟩)⟩
end Go.Proofs.Ytbmjddmejmeknaa.Pn

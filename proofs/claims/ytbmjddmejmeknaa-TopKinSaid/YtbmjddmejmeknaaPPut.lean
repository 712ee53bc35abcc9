/- Contract of (*pane.Panes).put. -/
import Derived.Test.YtbmjddmejmeknaaPNew
import Derived.Deep.QuietTactic
import Derived.BigQuiet
import Derived.StillTailTactics
import Derived.Deep.RegionHeld3
import Derived.Outline
namespace Go.Proofs.Ytbmjddmejmeknaa.Pn
open Go.RowKit Go.MapKept Go.Maps
set_option linter.unusedVariables false
theorem PaneR.drewN {w : World} {p s r : Nat} {wd ad : Int} {sm : List (CK × Int)} {rw : List (ByteArray × (Value × List Int))} (h : PaneR w p s r wd ad sm rw) (n : Nat) : PaneR (w.drewN n) p s r wd ad sm rw := h.fr ((Fr.refl none' w).drewN n) (fun _ _ => id)
theorem PaneR.cells {w : World} {p s r : Nat} {wd ad : Int} {sm : List (CK × Int)} {rw : List (ByteArray × (Value × List Int))} (h : PaneR w p s r wd ad sm rw) :
    w.cell? ⟨p, 0, none⟩ = some (.int .i64 wd) ∧ w.cell? ⟨p, 1, none⟩ = some (.int .i64 ad) ∧ w.cell? ⟨p, 2, none⟩ = some (.map (some s)) ∧ w.cell? ⟨p, 3, none⟩ = some (.map (some r)) :=
  ⟨h.bk.cell 0, h.bk.cell 1, h.bk.cell 2, h.bk.cell 3⟩
theorem wf64 {q : Int} (h : I64 q) : (Lit.int .i64 q).wf = true := by
  unfold I64 at h
  simp only [Lit.wf, Bool.and_eq_true, decide_eq_true_eq]
  exact h
theorem nodup_of_map {β γ : Type} {f : β → γ} {m : List (ByteArray × β)} (h : (mkeys (m.map fun x => (x.1, f x.2))).Nodup) : (mkeys m).Nodup := by
  unfold mkeys at *
  simpa [List.map_map, Function.comp_def] using h
theorem fm_apart {rw : List (ByteArray × (Value × List Int))} {k : ByteArray} {b : Nat} (hn : (rw.filterMap (fun x => x.2.1.ownBlock)).Nodup) {x : ByteArray × (Value × List Int)} (hx : x ∈ rw) (hk : x.1 ≠ k) (hb : x.2.1.ownBlock = some b) (e : (rowV rw k).ownBlock = some b) : False := by
  induction rw with
  | nil => cases hx
  | cons y rw ih =>
    rw [List.filterMap_cons] at hn
    by_cases hy : y.1 = k
    · rcases List.mem_cons.1 hx with rfl | hx
      · exact hk hy
      · simp only [rowV, mget, hy, if_true, Option.getD_some] at e
        simp only [e] at hn
        exact (List.nodup_cons.1 hn).1 (List.mem_filterMap.2 ⟨x, hx, hb⟩)
    · have hr : rowV (y :: rw) k = rowV rw k := by simp [rowV, mget, hy]
      rw [hr] at e
      have hn2 : (rw.filterMap (fun x => x.2.1.ownBlock)).Nodup := by
        cases hyb : y.2.1.ownBlock <;> simp only [hyb] at hn
        · exact hn
        · exact (List.nodup_cons.1 hn).2
      rcases List.mem_cons.1 hx with rfl | hx
      · simp only [hb] at hn
        unfold rowV at e
        cases hg : mget rw k with
        | none => rw [hg] at e; cases e
        | some z => rw [hg] at e; exact (List.nodup_cons.1 hn).1 (List.mem_filterMap.2 ⟨_, mem_of_get hg, e⟩)
      · exact ih hn2 hx e
theorem PaneR.setSum {w w' : World} {p s r : Nat} {wd ad : Int} {sm : List (CK × Int)} {rw : List (ByteArray × (Value × List Int))} (h : PaneR w p s r wd ad sm rw) {c : CK} {x : Int}
    (m1 : Mp encC okC w' s (mput (sm.map fun x => (x.1, .int .i64 x.2)) c (.int .i64 x))) (f : Fr (fun b => b = s) w w') : PaneR w' p s r wd ad (mput sm c x) rw := by
  have nd := h.nd
  have hne : ∀ b ∈ pblocks p s r rw, b ≠ s ∨ b = s := fun b _ => by omega
  have hp : p ≠ s := by simp [pblocks] at nd; omega
  have hr : r ≠ s := by simp [pblocks] at nd; omega
  refine ⟨h.bk.fr f hp, ?_, h.rows.fr f hr, fun x hx => f.row (h.own x hx) (fun b hb e => ?_), h.nd⟩
  · rw [← mput_map (fun x => Value.int .i64 x)]; exact m1
  · simp only [pblocks, List.nodup_cons, List.mem_cons, List.mem_filterMap, not_or] at nd
    exact nd.2.1.2 ⟨x, hx, by rw [hb, e]⟩
theorem mem_fm_put {rw : List (ByteArray × (Value × List Int))} {k : ByteArray} {v : Value} {l : List Int} {b : Nat} (h : b ∈ (mput rw k (v, l)).filterMap (fun x => x.2.1.ownBlock)) : v.ownBlock = some b ∨ b ∈ rw.filterMap (fun x => x.2.1.ownBlock) := by
  obtain ⟨x, hx, hb⟩ := List.mem_filterMap.1 h
  rcases mem_put hx with rfl | hx
  · exact .inl hb
  · exact .inr (List.mem_filterMap.2 ⟨x, hx, hb⟩)
/-- the blocks of all rows stay apart if one row's block is what it was, or new -/
theorem nodup_fm_put {rw : List (ByteArray × (Value × List Int))} {k : ByteArray} {v : Value} {l : List Int} (hn : (rw.filterMap (fun x => x.2.1.ownBlock)).Nodup)
    (hv : v.ownBlock = (rowV rw k).ownBlock ∨ ∀ b, v.ownBlock = some b → b ∉ rw.filterMap (fun x => x.2.1.ownBlock)) : ((mput rw k (v, l)).filterMap (fun x => x.2.1.ownBlock)).Nodup := by
  induction rw with
  | nil => simp only [mput, List.filterMap_cons, List.filterMap_nil]; split <;> simp
  | cons x rw ih =>
    rw [mput]
    by_cases e : x.1 = k
    · rw [if_pos e]
      subst e
      rw [List.filterMap_cons] at hn ⊢
      simp only [rowV, mget, if_true, Option.getD_some] at hv
      cases hb : v.ownBlock with
      | none => simp only; cases hx : x.2.1.ownBlock <;> simp only [hx] at hn; exact hn; exact (List.nodup_cons.1 hn).2
      | some b =>
        simp only
        rw [List.nodup_cons]
        rcases hv with hv | hv
        · rw [← hv, hb] at hn
          exact List.nodup_cons.1 hn
        · have h1 := hv b hb
          rw [List.filterMap_cons] at h1
          cases hx : x.2.1.ownBlock with
          | none => simp only [hx] at h1 hn; exact ⟨h1, hn⟩
          | some c => simp only [hx] at h1 hn; exact ⟨fun h => h1 (by simp only [List.mem_cons]; exact .inr h), (List.nodup_cons.1 hn).2⟩
    · rw [if_neg e]
      have hr : rowV (x :: rw) k = rowV rw k := by simp [rowV, mget, e]
      rw [hr] at hv
      rw [List.filterMap_cons] at hn ⊢
      cases hx : x.2.1.ownBlock with
      | none =>
        simp only [hx] at hn ⊢
        exact ih hn (hv.imp id (fun h b hb hm => h b hb (by rw [List.filterMap_cons]; simp only [hx]; exact hm)))
      | some c =>
        simp only [hx] at hn ⊢
        have hn' := List.nodup_cons.1 hn
        rw [List.nodup_cons]
        refine ⟨fun hm => ?_, ih hn'.2 (hv.imp id (fun h b hb hm => h b hb (by rw [List.filterMap_cons]; simp only [hx]; exact List.mem_cons_of_mem _ hm)))⟩
        rcases mem_fm_put hm with hm | hm
        · rcases hv with hv | hv
          · rw [hv] at hm
            unfold rowV at hm
            cases hg : mget rw k with
            | none => rw [hg] at hm; cases hm
            | some y =>
              rw [hg] at hm
              exact hn'.1 (List.mem_filterMap.2 ⟨_, mem_of_get hg, hm⟩)
          · exact hv c hm (by rw [List.filterMap_cons]; simp only [hx]; simp)
        · exact hn'.1 hm
set_option maxHeartbeats 400000 in
theorem put_zero (p : Nat) (k : ByteArray) (q : Int) (w : World) :
    Calls Try.prog 28 #[.pointer (some ⟨p, 0, none⟩), .agg #[.string k, .int .i64 q], .int .i64 0] w fun e w' => e = .returned (.tuple #[]) ∧ Below w.heap.size w w' := by
  go_enter Try.func28, Try.ntmps28
  go_wp2_with fail
  exact bodyPost_ret (v := .tuple #[]) (by simp [results, Try.results28, go_sem]) rfl ⟨rfl, (Below.refl _ _).alloc (Nat.le_refl _) _⟩
set_option maxRecDepth 100000 in
set_option maxHeartbeats 1000000 in
theorem put_old (p s r : Nat) (wd ad : Int) (sm : List (CK × Int)) (rw : List (ByteArray × (Value × List Int))) (k : ByteArray) (q n old : Int) (w : World) (h : PaneR w p s r wd ad sm rw)
    (hk : k.size ≤ 100) (hq : I64 q) (hg : mget sm (k, q) = some old) (ho : 0 < old) (ho' : old ≤ 1099511627776) (hn : 0 < n) (hn' : n ≤ 1099511627776) :
    Calls Try.prog 28 #[.pointer (some ⟨p, 0, none⟩), .agg #[.string k, .int .i64 q], .int .i64 n] w fun e w' => e = .returned (.tuple #[]) ∧ PaneR w' p s r wd ad (mput sm (k, q) (old + n)) rw ∧ Fr (fun b => b = s) w w' := by
  have hwf : (Lit.int .i64 q).wf = true := wf64 hq
  have hb : Below w.heap.size w (w.alloc (.cells #[.string k, .int .i64 q] 81)) := (Below.refl _ _).alloc (Nat.le_refl _) _
  have h1 := h.bel hb
  have hk1 := Bk.new w [.string k, .int .i64 q] 81
  have n0 : (n == 0) = false := by simp; omega
  have o0 : (old == 0) = false := by simp; omega
  have HF := Lib.hid (Fr.of_bel (S := fun b => b = s) hb)
  clear hb h
  go_enter Try.func28, Try.ntmps28
  go_wp2_with fail
  have hlt := hk1.lt
  generalize w.alloc (.cells #[.string k, .int .i64 q] 81) = W at *
  generalize w.heap.size = B at *
  have hl : ∀ j, (Instr.lookup 74 (.map (some s)) (.agg #[.string k, .int .i64 q]) false).run Try.prog (W.drewN j) = .ok (.int .i64 old) (W.drewN j) := fun j => by
    have := (h1.drewN j).look k q hk hwf
    rw [hg] at this; exact this
  obtain ⟨c0, c1, c2, c3⟩ := h1.cells
  have d0 : W.cell? ⟨B, 0, none⟩ = some (.string k) := hk1.cell 0
  have d1 : W.cell? ⟨B, 1, none⟩ = some (.int .i64 q) := hk1.cell 1
  go_quiet (fail)
  go_wp2_with fail
  clear hl c0 c1 c2 c3 d0 d1
  have HF2 := Lib.hid (HF.out.drewN nq)
  have h2 := h1.drewN nq
  have hk2 := hk1.fr ((Fr.refl none' W).drewN nq) id
  clear HF h1 hk1
  generalize W.drewN nq = V at *
  obtain ⟨c0, c1, c2, c3⟩ := h2.cells
  have d0 : V.cell? ⟨B, 0, none⟩ = some (.string k) := hk2.cell 0
  have d1 : V.cell? ⟨B, 1, none⟩ = some (.int .i64 q) := hk2.cell 1
  have hw : IntKind.i64.wrap (old + n) = old + n := IntWalk.i64_in _ (by omega)
  go_still_tail 8, (by kernel_rfl)
  clear hw
  change wpList _ _ _ _ _ V.drew
  have h3 := h2.fr (Fr.refl none' V).drew (fun _ _ => id)
  have HF3 := Lib.hid HF2.out.drew
  clear HF2 h2 hk2 c0 c1 c2 c3 d0 d1
  generalize V.drew = U at *
  refine wpList_store rfl _ _ _ rfl keyC Try.underlying74 h3.sums rfl (k, q) rfl ⟨by show k.size ≤ _; unfold maxLen; omega, hwf⟩ (.int .i64 (old + n)) rfl ?_
  intro w4 m4 f4 z4
  have h4 := h3.setSum m4 f4
  have HF4 := Lib.hid (HF3.out.trans f4 (fun _ _ e => e))
  clear m4 f4 z4
  go_wp2_with fail
  go_end0
  exact ⟨rfl, h4, HF4.out⟩
theorem PaneR.setRow {w w' : World} {p s r : Nat} {wd ad : Int} {sm : List (CK × Int)} {rw : List (ByteArray × (Value × List Int))} (h : PaneR w p s r wd ad sm rw) {k : ByteArray} {v : Value} {l : List Int}
    (m1 : Mp encS okS w' r (mput (rw.map fun x => (x.1, x.2.1)) k v)) (f : Fr (fun b => b = r ∨ (rowV rw k).ownBlock = some b) w w') (ho : w'.ownsRow 0 3 1 v l.length (l.map (Value.int .i64)))
    (hv : v.ownBlock = (rowV rw k).ownBlock ∨ ∃ b, v.ownBlock = some b ∧ w.heap.size ≤ b) : PaneR w' p s r wd ad sm (mput rw k (v, l)) := by
  have nd := h.nd
  have hlt := h.lt
  have hrow : ∀ b, (rowV rw k).ownBlock = some b → b ∈ rw.filterMap (fun x => x.2.1.ownBlock) := fun b hb => by
    unfold rowV at hb
    cases hg : mget rw k with
    | none => rw [hg] at hb; cases hb
    | some y => rw [hg] at hb; exact List.mem_filterMap.2 ⟨_, mem_of_get hg, hb⟩
  have nd' : (p ≠ s ∧ p ≠ r ∧ p ∉ rw.filterMap (fun x => x.2.1.ownBlock)) ∧ (s ≠ r ∧ s ∉ rw.filterMap (fun x => x.2.1.ownBlock)) ∧ r ∉ rw.filterMap (fun x => x.2.1.ownBlock) ∧ (rw.filterMap (fun x => x.2.1.ownBlock)).Nodup := by
    simp only [pblocks, List.nodup_cons, List.mem_cons, not_or] at nd; exact nd
  obtain ⟨⟨n1, n2, n3⟩, ⟨n4, n5⟩, n6, n7⟩ := nd'
  have hin : ∀ b, b ∈ (mput rw k (v, l)).filterMap (fun x => x.2.1.ownBlock) → b ∈ rw.filterMap (fun x => x.2.1.ownBlock) ∨ w.heap.size ≤ b := fun b hb => by
    rcases mem_fm_put hb with hb | hb
    · rcases hv with hv | ⟨c, hc, hge⟩
      · exact .inl (hrow b (by rw [← hv]; exact hb))
      · rw [hc] at hb; cases hb; exact .inr hge
    · exact .inl hb
  have hout : ∀ b, b ∉ rw.filterMap (fun x => x.2.1.ownBlock) → b < w.heap.size → b ∉ (mput rw k (v, l)).filterMap (fun x => x.2.1.ownBlock) := fun b h1 h2 h3 => by
    rcases hin b h3 with h | h
    · exact h1 h
    · omega
  have lp := hlt p (by simp [pblocks])
  have ls := hlt s (by simp [pblocks])
  have lr := hlt r (by simp [pblocks])
  refine ⟨h.bk.fr f (fun e => e.elim n2 (fun e => n3 (hrow _ e))), h.sums.fr f (fun e => e.elim n4 (fun e => n5 (hrow _ e))), ?_, fun x hx => ?_, ?_⟩
  · rw [← mput_map (fun x : Value × List Int => x.1)]; exact m1
  · rcases mem_put hx with rfl | hx'
    · exact ho
    · by_cases hk : x.1 = k
      · have hget := get_of_mem (nodup_put (nodup_of_map h.rows.nd) k (v, l)) hx
        rw [get_put, if_pos hk.symm] at hget
        have : x.2 = (v, l) := (Option.some.inj hget).symm
        rw [this]; exact ho
      · refine f.row (h.own x hx') (fun b hb e => ?_)
        have hbm : b ∈ rw.filterMap (fun x => x.2.1.ownBlock) := List.mem_filterMap.2 ⟨x, hx', hb⟩
        rcases e with e | e
        · exact n6 (e ▸ hbm)
        · exact fm_apart n7 hx' hk hb e
  · simp only [pblocks, List.nodup_cons, List.mem_cons, not_or]
    refine ⟨⟨n1, n2, hout p n3 lp⟩, ⟨n4, hout s n5 ls⟩, hout r n6 lr, nodup_fm_put n7 (hv.imp id (fun ⟨c, hc, hge⟩ b hb hm => ?_))⟩
    have e : c = b := Option.some.inj (hc.symm.trans hb)
    have := hlt b (by simp only [pblocks, List.mem_cons]; exact .inr (.inr (.inr hm)))
    omega
end Go.Proofs.Ytbmjddmejmeknaa.Pn

/- Contract of (*pane.Panes).Add. -/
import Derived.Test.YtbmjddmejmeknaaPPut2
namespace Go.Proofs.Ytbmjddmejmeknaa.Pn
open Go.RowKit Go.MapKept Go.Maps
set_option linter.unusedVariables false
theorem sget_snoc (A : List Ad) (k : ByteArray) (q n : Int) (k' : ByteArray) (n' : Int) : sget (A ++ [(k, q, n)]) k' n' = sget A k' n' + if k = k' ∧ q = n' then n else 0 := by
  rw [sget_append]; simp [sget]
theorem PInv.zero {A : List Ad} {sm : List (CK × Int)} {rw : List (ByteArray × (Value × List Int))} (h : PInv A sm rw) (k : ByteArray) (q : Int) : PInv (A ++ [(k, q, 0)]) sm rw := by
  have e : ∀ k' n', sget (A ++ [(k, q, 0)]) k' n' = sget A k' n' := fun k' n' => by rw [sget_snoc]; split <;> omega
  exact ⟨h.nds, h.ndr, fun k n => by rw [e]; exact h.sums k n, fun k hk n => by rw [e]; exact h.absent k hk n, fun k v l hk => by
    obtain ⟨h1, h2, h3⟩ := h.present k v l hk
    exact ⟨h1, h2, fun n => by rw [e]; exact h3 n⟩⟩
theorem PInv.old {A : List Ad} {sm : List (CK × Int)} {rw : List (ByteArray × (Value × List Int))} (h : PInv A sm rw) (ha : ∀ x ∈ A, AdOk x) {k : ByteArray} {q n old : Int} (hn : 0 < n) (hg : mget sm (k, q) = some old) : PInv (A ++ [(k, q, n)]) (mput sm (k, q) (old + n)) rw := by
  have ho : sget A k q = old ∧ sget A k q ≠ 0 := by
    have := h.sums k q
    rw [hg] at this
    by_cases h0 : sget A k q = 0
    · rw [if_pos h0] at this; cases this
    · rw [if_neg h0] at this; exact ⟨(Option.some.inj this).symm, h0⟩
  have hnn := sget_nonneg ha k q
  have hz : ∀ k' n', sget (A ++ [(k, q, n)]) k' n' = 0 ↔ sget A k' n' = 0 := fun k' n' => by
    rw [sget_snoc]
    by_cases e : k = k' ∧ q = n'
    · obtain ⟨rfl, rfl⟩ := e
      simp only [and_self, if_true]
      have := ho.2
      constructor <;> intro h <;> omega
    · rw [if_neg e, Int.add_zero]
  refine ⟨nodup_put h.nds _ _, h.ndr, fun k' n' => ?_, fun k' hk n' => (hz k' n').2 (h.absent k' hk n'), fun k' v l hk => ?_⟩
  · rw [get_put]
    by_cases e : (k, q) = (k', n')
    · cases e
      rw [if_pos rfl, if_neg (fun h => ho.2 ((hz k q).1 h)), sget_snoc]
      simp [ho.1]
    · rw [if_neg e, h.sums, show sget (A ++ [(k, q, n)]) k' n' = sget A k' n' by rw [sget_snoc, if_neg (fun h => e (by rw [h.1, h.2])), Int.add_zero]]
  · obtain ⟨h1, h2, h3⟩ := h.present k' v l hk
    exact ⟨h1, h2, fun n => (h3 n).trans (not_congr (hz k' n)).symm⟩
theorem PInv.new {A : List Ad} {sm : List (CK × Int)} {rw : List (ByteArray × (Value × List Int))} (h : PInv A sm rw) {k : ByteArray} {q n : Int} (hn : 0 < n) (hg : mget sm (k, q) = none) (v : Value) : PInv (A ++ [(k, q, n)]) (mput sm (k, q) n) (mput rw k (v, rowL rw k ++ [q])) := by
  have ho : sget A k q = 0 := by
    have := h.sums k q
    rw [hg] at this
    by_cases h0 : sget A k q = 0
    · exact h0
    · rw [if_neg h0] at this; cases this
  obtain ⟨hr1, hr2⟩ := h.row k
  refine ⟨nodup_put h.nds _ _, nodup_put h.ndr _ _, fun k' n' => ?_, fun k' hk n' => ?_, fun k' v' l' hk => ?_⟩
  · rw [get_put]
    by_cases e : (k, q) = (k', n')
    · cases e
      rw [if_pos rfl, sget_snoc, ho]
      simp
      omega
    · rw [if_neg e, h.sums, show sget (A ++ [(k, q, n)]) k' n' = sget A k' n' by rw [sget_snoc, if_neg (fun h => e (by rw [h.1, h.2])), Int.add_zero]]
  · rw [get_put] at hk
    by_cases e : k = k'
    · rw [if_pos e] at hk; cases hk
    · rw [if_neg e] at hk
      rw [sget_snoc, if_neg (fun h => e h.1), Int.add_zero]
      exact h.absent k' hk n'
  · rw [get_put] at hk
    by_cases e : k = k'
    · subst e
      rw [if_pos rfl] at hk
      cases hk
      refine ⟨by simp, ?_, fun m => ?_⟩
      · rw [List.nodup_append]
        refine ⟨hr1, by simp, fun a ha b hb => ?_⟩
        simp at hb; subst hb
        intro e; subst e
        exact (hr2 a).1 ha ho
      · rw [List.mem_append, hr2, sget_snoc]
        by_cases e : q = m
        · subst e; simp [ho]; omega
        · simp [e, Ne.symm e]
    · rw [if_neg e] at hk
      obtain ⟨h1, h2, h3⟩ := h.present k' v' l' hk
      refine ⟨h1, h2, fun m => ?_⟩
      rw [sget_snoc, if_neg (fun h => e h.1), Int.add_zero]
      exact h3 m
theorem put_any (p s r : Nat) (wd ad : Int) (sm : List (CK × Int)) (rw : List (ByteArray × (Value × List Int))) (A : List Ad) (k : ByteArray) (q n : Int) (w : World) (h : PaneR w p s r wd ad sm rw)
    (hi : PInv A sm rw) (hA : ∀ x ∈ A, AdOk x) (hlen : A.length ≤ 1048576) (hx : AdOk (k, q, n)) :
    Calls Try.prog 28 #[.pointer (some ⟨p, 0, none⟩), .agg #[.string k, .int .i64 q], .int .i64 n] w fun e w' => e = .returned (.tuple #[]) ∧
      ∃ sm' rw', PaneR w' p s r wd ad sm' rw' ∧ PInv (A ++ [(k, q, n)]) sm' rw' ∧ Fr (fun b => b ∈ pblocks p s r rw) w w' ∧ Spread w (pblocks p s r rw) (pblocks p s r rw') := by
  obtain ⟨x1, x2, x3, x4, x5, x6⟩ := hx
  simp only at x1 x2 x3 x4 x5 x6
  have hq : I64 q := by unfold I64; omega
  by_cases h0 : n = 0
  · subst h0
    refine (put_zero p k q w).mono ?_
    rintro e w' ⟨rfl, hb⟩
    exact ⟨rfl, sm, rw, h.bel hb, hi.zero k q, Fr.of_bel hb, fun b hb => .inl hb⟩
  · cases hg : mget sm (k, q) with
    | some old =>
      have ho : sget A k q = old ∧ sget A k q ≠ 0 := by
        have := hi.sums k q
        rw [hg] at this
        by_cases h0 : sget A k q = 0
        · rw [if_pos h0] at this; cases this
        · rw [if_neg h0] at this; exact ⟨(Option.some.inj this).symm, h0⟩
      have hnn := sget_nonneg hA k q
      have hle := sget_le hA k q
      refine (put_old p s r wd ad sm rw k q n old w h (by omega) hq hg (by omega) (by omega) (by omega) (by omega)).mono ?_
      rintro e w' ⟨rfl, h1, h2⟩
      exact ⟨rfl, _, rw, h1, hi.old hA (by omega) hg, h2.mono (fun b _ e => by subst e; simp [pblocks]), fun b hb => .inl hb⟩
    | none =>
      have hl := hi.len k
      refine (put_new p s r wd ad sm rw k q n w h (by omega) hq hg (by omega) (by omega) (by omega)).mono ?_
      rintro e w' ⟨rfl, v, h1, h2, h3⟩
      have hrow : ∀ b, (rowV rw k).ownBlock = some b → b ∈ rw.filterMap (fun x => x.2.1.ownBlock) := fun b hb => by
        unfold rowV at hb
        cases hg : mget rw k with
        | none => rw [hg] at hb; cases hb
        | some y => rw [hg] at hb; exact List.mem_filterMap.2 ⟨_, mem_of_get hg, hb⟩
      refine ⟨rfl, _, _, h1, hi.new (by omega) hg v, h2.mono (fun b _ e => ?_), fun b hb => ?_⟩
      · rcases e with e | e | e
        · subst e; simp [pblocks]
        · subst e; simp [pblocks]
        · simp only [pblocks, List.mem_cons]; exact .inr (.inr (.inr (hrow b e)))
      · simp only [pblocks, List.mem_cons] at hb ⊢
        rcases hb with hb | hb | hb | hb
        · exact .inl (.inl hb)
        · exact .inl (.inr (.inl hb))
        · exact .inl (.inr (.inr (.inl hb)))
        · rcases mem_fm_put hb with hb | hb
          · rcases h3 with h3 | ⟨c, hc, hge⟩
            · exact .inl (.inr (.inr (.inr (hrow b (by rw [← h3]; exact hb)))))
            · have : c = b := Option.some.inj (hc.symm.trans hb)
              exact .inr (by omega)
          · exact .inl (.inr (.inr (.inr hb)))
/-- which adds are taken -/
def mayAdd (k : ByteArray) (a n ad : Int) : Bool := decide (1 ≤ k.size) && decide (k.size ≤ 24) && decide (0 ≤ a) && decide (a ≤ 1099511627776) && decide (0 ≤ n) && decide (n ≤ 1048576) && decide (ad < 1048576)
theorem PaneR.setAdded {w : World} {p s r : Nat} {wd ad : Int} {sm : List (CK × Int)} {rw : List (ByteArray × (Value × List Int))} (h : PaneR w p s r wd ad sm rw) (x : Int) : PaneR (w.setCell ⟨p, 1, none⟩ (.int .i64 x)) p s r wd x sm rw := by
  have f : Fr (fun b => b = p) w (w.setCell ⟨p, 1, none⟩ (.int .i64 x)) := (Fr.refl _ _).setCell p 1 _ (.inr rfl)
  have nd := h.nd
  simp only [pblocks, List.nodup_cons, List.mem_cons, not_or] at nd
  refine ⟨h.bk.set 1 (.int .i64 x), h.sums.fr f (fun e => nd.1.1 e.symm), h.rows.fr f (fun e => nd.1.2.1 e.symm), fun x hx => f.row (h.own x hx) (fun b hb e => nd.1.2.2 (e ▸ List.mem_filterMap.2 ⟨x, hx, hb⟩)), h.nd⟩
theorem ediv_small (a d : Int) (hd : 1 ≤ d) (h0 : 0 ≤ a) (h1 : a ≤ 1099511627776) : 0 ≤ a / d ∧ a / d ≤ 1099511627776 := by
  have := Int.ediv_nonneg h0 (show 0 ≤ d by omega)
  have := Int.ediv_le_self d h0
  omega
set_option maxHeartbeats 1000000 in
theorem add_no (p : Nat) (B : List Nat) (wd ad : Int) (A : List Ad) (k : ByteArray) (a n : Int) (w : World) (h : PaneAt w p B wd ad A) (hk : k.size ≤ 100) (ha : I64 a) (hn : I64 n) (hm : mayAdd k a n ad = false) :
    Calls Try.prog 16 #[.pointer (some ⟨p, 0, none⟩), .string k, .int .i64 a, .int .i64 n] w fun e w' => e = .returned (.bool false) ∧ w = w' := by
  obtain ⟨s, r, sm, rw, rfl, h1, h2⟩ := h.ex
  obtain ⟨c0, c1, c2, c3⟩ := h1.cells
  have HA := Lib.hid h.a2
  have H0 := Lib.hid h.a1
  unfold I64 at ha hn
  have hm' : ¬ (1 ≤ k.size ∧ k.size ≤ 24 ∧ 0 ≤ a ∧ a ≤ 1099511627776 ∧ 0 ≤ n ∧ n ≤ 1048576 ∧ ad < 1048576) := fun e => by
    obtain ⟨e1, e2, e3, e4, e5, e6, e7⟩ := e
    simp [mayAdd, e1, e2, e3, e4, e5, e6, e7] at hm
  clear h h1 h2 hm
  have Hm := Lib.hid hm'
  clear hm'
  go_enter Try.func16, Try.ntmps16
  go_wp2_with fail
  all_goals first
    | (go_ret; exact ⟨rfl, rfl⟩)
    | (exfalso; exact Hm.out ⟨by omega, by omega, by omega, by omega, by omega, by omega, by omega⟩)
set_option maxRecDepth 100000 in
set_option maxHeartbeats 1000000 in
theorem add_yes (p : Nat) (B : List Nat) (wd ad : Int) (A : List Ad) (k : ByteArray) (a n : Int) (w : World) (h : PaneAt w p B wd ad A) (hm : mayAdd k a n ad = true) :
    Calls Try.prog 16 #[.pointer (some ⟨p, 0, none⟩), .string k, .int .i64 a, .int .i64 n] w fun e w' => e = .returned (.bool true) ∧
      ∃ B', PaneAt w' p B' wd (ad + 1) (A ++ [(k, a / wd, n)]) ∧ Fr (fun b => b ∈ B) w w' ∧ Spread w B B' := by
  simp only [mayAdd, Bool.and_eq_true, decide_eq_true_eq] at hm
  obtain ⟨⟨⟨⟨⟨⟨m1, m2⟩, m3⟩, m4⟩, m5⟩, m6⟩, m7⟩ := hm
  have a1 := h.a1
  have a2 := h.a2
  have w1 := h.w1
  have w2 := h.w2
  have hok := h.ok
  have hd := ediv_small a wd w1 m3 m4
  have hx : AdOk (k, a / wd, n) := ⟨m1, m2, hd.1, hd.2, m5, m6⟩
  obtain ⟨s, r, sm, rw, rfl, h1, h2⟩ := h.ex
  obtain ⟨c0, c1, c2, c3⟩ := h1.cells
  have f1 : w.frozen? ⟨p, 1, none⟩ = false := h1.bk.free 1
  have h3 := h1.setAdded (ad + 1)
  have f3 : Fr (fun b => b ∈ pblocks p s r rw) w (w.setCell ⟨p, 1, none⟩ (.int .i64 (ad + 1))) := (Fr.refl _ _).setCell p 1 _ (.inr (by simp [pblocks]))
  have HO := Lib.hid (of_any p wd a _ h3.cells.1 w1 (by unfold I64; omega))
  have HP := Lib.hid (put_any p s r wd (ad + 1) sm rw A k (a / wd) n _ h3 h2 hok (by omega) hx)
  have hz : (w.setCell ⟨p, 1, none⟩ (.int .i64 (ad + 1))).heap.size = w.heap.size := by simp [World.setCell]
  have HE : ∀ w', (∃ sm' rw', PaneR w' p s r wd (ad + 1) sm' rw' ∧ PInv (A ++ [(k, a / wd, n)]) sm' rw' ∧ Fr (fun b => b ∈ pblocks p s r rw) (w.setCell ⟨p, 1, none⟩ (.int .i64 (ad + 1))) w' ∧ Spread (w.setCell ⟨p, 1, none⟩ (.int .i64 (ad + 1))) (pblocks p s r rw) (pblocks p s r rw')) →
      ∃ B', PaneAt w' p B' wd (ad + 1) (A ++ [(k, a / wd, n)]) ∧ Fr (fun b => b ∈ pblocks p s r rw) w w' ∧ Spread w (pblocks p s r rw) B' := by
    rintro w' ⟨sm', rw', g1, g2, g3, g4⟩
    refine ⟨pblocks p s r rw', ⟨fun x hx' => ?_, w1, w2, by simp; omega, by omega, s, r, sm', rw', rfl, g1, g2⟩, f3.trans g3 (fun _ _ e => e), fun b hb => ?_⟩
    · rcases List.mem_append.1 hx' with h | h
      · exact hok x h
      · simp at h; subst h; exact hx
    · rw [← hz]; exact g4 b hb
  have HE' := Lib.hid HE
  clear h h1 h2 h3 f3 hx hok HE
  generalize pblocks p s r rw = B at *
  generalize A ++ [(k, a / wd, n)] = A2 at *
  generalize a / wd = q at *
  go_enter Try.func16, Try.ntmps16
  go_wp2_with fail
  clear c0 c1 c2 c3 f1 hz
  refine HO.out.mono ?_
  rintro e wx ⟨rfl, rfl⟩
  go_wp2_with fail
  refine HP.out.mono ?_
  rintro e wx ⟨rfl, hx⟩
  have HX := Lib.hid (HE'.out _ hx)
  clear hx HE' HP HO
  go_wp2_with fail
  go_ret
  exact ⟨rfl, HX.out⟩
end Go.Proofs.Ytbmjddmejmeknaa.Pn

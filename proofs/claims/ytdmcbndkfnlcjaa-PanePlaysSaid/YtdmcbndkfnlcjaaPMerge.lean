/- Contract of (*pane.Panes).Merge. -/
import Derived.Test.YtdmcbndkfnlcjaaPDrop3
namespace Go.Proofs.Ytdmcbndkfnlcjaa
open Go.RowKit Go.MapKept Go.Maps
set_option linter.unusedVariables false
/-- blocks that are not shared -/
def Apart' (B C : List Nat) : Prop := ∀ b ∈ B, b ∉ C
def NN (A : List Ad) : Prop := ∀ x ∈ A, 0 ≤ x.2.2
theorem sget_nn : ∀ {A : List Ad}, NN A → ∀ k n, 0 ≤ sget A k n
  | [], _, _, _ => by simp [sget]
  | x :: A, h, k, n => by
    have h1 := sget_nn (A := A) (fun y hy => h y (by simp [hy])) k n
    have h2 := h x (by simp)
    simp only [sget]; split <;> omega
theorem PInv.old' {A : List Ad} {sm : List (CK × Int)} {rw : Rows} (h : PInv A sm rw) (ha : NN A) {k : ByteArray} {q n old : Int} (hn : 0 < n) (hg : mget sm (k, q) = Option.some old) : PInv (A ++ [(k, q, n)]) (mput sm (k, q) (old + n)) rw := by
  have ho : sget A k q = old ∧ sget A k q ≠ 0 := by
    have := h.sums k q
    rw [hg] at this
    by_cases h0 : sget A k q = 0
    · rw [if_pos h0] at this; cases this
    · rw [if_neg h0] at this; exact ⟨(Option.some.inj this).symm, h0⟩
  have hnn := sget_nn ha k q
  have hz : ∀ k' n', sget (A ++ [(k, q, n)]) k' n' = 0 ↔ sget A k' n' = 0 := fun k' n' => by
    rw [sget_snoc]
    by_cases e : k = k' ∧ q = n'
    · obtain ⟨rfl, rfl⟩ := e
      simp only [and_self, if_true]
      have := ho.2
      constructor <;> intro h <;> omega
    · rw [if_neg e, Int.add_zero]
  refine ⟨nodup_put h.nds _ _, h.ndr, fun k' n' => ?_, fun k' hk n' => (hz k' n').2 (h.absent k' hk n'), fun k' v l hk => ?_⟩
  · rw [get_put]
    by_cases e : (k, q) = (k', n')
    · cases e
      rw [if_pos rfl, if_neg (fun h => ho.2 ((hz k q).1 h)), sget_snoc]
      simp [ho.1]
    · rw [if_neg e, h.sums, show sget (A ++ [(k, q, n)]) k' n' = sget A k' n' by rw [sget_snoc, if_neg (fun h => e (by rw [h.1, h.2])), Int.add_zero]]
  · obtain ⟨h1, h2, h3⟩ := h.present k' v l hk
    exact ⟨h1, h2, fun n => (h3 n).trans (not_congr (hz k' n)).symm⟩
theorem put_more (p s r : Nat) (wd ad : Int) (sm : List (CK × Int)) (rw : Rows) (A : List Ad) (k : ByteArray) (q n : Int) (w : World) (h : PaneR w p s r wd ad sm rw)
    (hi : PInv A sm rw) (hA : NN A) (hlen : A.length ≤ 1048576) (hk : k.size ≤ 100) (hq : I64 q) (hn : 0 < n) (hn2 : n ≤ 1099511627776) (hs : sget A k q ≤ 1099511627776) :
    Calls Try.prog 27 #[.pointer (some ⟨p, 0, none⟩), .agg #[.string k, .int .i64 q], .int .i64 n] w fun e w' => e = .returned (.tuple #[]) ∧
      ∃ sm' rw', PaneR w' p s r wd ad sm' rw' ∧ PInv (A ++ [(k, q, n)]) sm' rw' ∧ Fr (fun b => b ∈ pblocks p s r rw) w w' ∧ Spread w (pblocks p s r rw) (pblocks p s r rw') := by
  cases hg : mget sm (k, q) with
  | some old =>
    have ho : sget A k q = old ∧ sget A k q ≠ 0 := by
      have := hi.sums k q
      rw [hg] at this
      by_cases h0 : sget A k q = 0
      · rw [if_pos h0] at this; cases this
      · rw [if_neg h0] at this; exact ⟨(Option.some.inj this).symm, h0⟩
    have hnn := sget_nn hA k q
    refine (put_old p s r wd ad sm rw k q n old w h hk hq hg (by omega) (by omega) hn hn2).mono ?_
    rintro e w' ⟨rfl, h1, h2⟩
    exact ⟨rfl, _, rw, h1, hi.old' hA hn hg, h2.mono (fun b _ e => by subst e; simp [pblocks]), fun b hb => .inl hb⟩
  | none =>
    have hl := hi.len k
    refine (put_new p s r wd ad sm rw k q n w h hk hq hg (by omega) hn hn2).mono ?_
    rintro e w' ⟨rfl, v, h1, h2, h3⟩
    have hrow : ∀ b, (rowV rw k).ownBlock = some b → b ∈ rw.filterMap (fun x => x.2.1.ownBlock) := fun b hb => by
      unfold rowV at hb
      cases hg : mget rw k with
      | none => rw [hg] at hb; cases hb
      | some y => rw [hg] at hb; exact List.mem_filterMap.2 ⟨_, mem_of_get hg, hb⟩
    refine ⟨rfl, _, _, h1, hi.new hn hg v, h2.mono (fun b _ e => ?_), fun b hb => ?_⟩
    · rcases e with e | e | e
      · subst e; simp [pblocks]
      · subst e; simp [pblocks]
      · simp only [pblocks, List.mem_cons]; exact .inr (.inr (.inr (hrow b e)))
    · simp only [pblocks, List.mem_cons] at hb ⊢
      rcases hb with hb | hb | hb | hb
      · exact .inl (.inl hb)
      · exact .inl (.inr (.inl hb))
      · exact .inl (.inr (.inr (.inl hb)))
      · rcases mem_fm_put hb with hb | hb
        · rcases h3 with h3 | ⟨c, hc, hge⟩
          · exact .inl (.inr (.inr (.inr (hrow b (by rw [← h3]; exact hb)))))
          · have : c = b := Option.some.inj (hc.symm.trans hb)
            exact .inr (by omega)
        · exact .inl (.inr (.inr (.inr hb)))
def cAd (x : CK × Int) : Ad := (x.1.1, x.1.2, x.2)
def cV (x : CK × Int) : CK × Value := (x.1, .int .i64 x.2)
def vC (x : CK × Value) : CK × Int := (x.1, match x.2 with | .int _ n => n | _ => 0)
theorem vC_cV (l : List (CK × Int)) : (l.map cV).map vC = l := by
  rw [List.map_map]
  induction l with
  | nil => rfl
  | cons x l ih => rw [List.map_cons, ih]; rfl
theorem sget_cAd {l : List (CK × Int)} (hn : (mkeys l).Nodup) (k : ByteArray) (n : Int) : sget (l.map cAd) k n = (mget l (k, n)).getD 0 := by
  induction l with
  | nil => rfl
  | cons x l ih =>
    have hn' := List.nodup_cons.1 hn
    rw [List.map_cons, sget, ih hn'.2, mget]
    by_cases e : x.1 = (k, n)
    · rw [if_pos e, if_pos (by show x.1.1 = k ∧ x.1.2 = n; rw [e]; exact ⟨rfl, rfl⟩)]
      have : mget l (k, n) = none := mget_none (fun p hp c => hn'.1 (by rw [e, ← c]; exact List.mem_map.2 ⟨p, hp, rfl⟩))
      rw [this]
      show x.2 + 0 = x.2
      omega
    · rw [if_neg e, if_neg (fun c => e (Prod.ext c.1 c.2)), Int.zero_add]
theorem sget_perm {A B : List Ad} (h : A.Perm B) (k : ByteArray) (n : Int) : sget A k n = sget B k n := by
  induction h with
  | nil => rfl
  | cons x _ ih => simp only [sget, ih]
  | swap x y l => simp only [sget]; omega
  | trans _ _ h1 h2 => rw [h1, h2]
theorem PInv.sumsLen {A : List Ad} {sm : List (CK × Int)} {rw : Rows} (h : PInv A sm rw) : sm.length ≤ A.length := by
  have h1 : ∀ c ∈ mkeys sm, c ∈ A.map (fun x => (x.1, x.2.1)) := fun c hc => by
    obtain ⟨x, hx, rfl⟩ := List.mem_map.1 hc
    obtain ⟨⟨k, n⟩, v⟩ := x
    have hg := get_of_mem h.nds hx
    rw [h.sums] at hg
    have h0 : sget A k n ≠ 0 := fun e => by rw [if_pos e] at hg; cases hg
    obtain ⟨y, hy, e1, e2, _⟩ := mem_of_sget h0
    exact List.mem_map.2 ⟨y, hy, by rw [e1, e2]⟩
  have := nodup_length h.nds h1
  simpa [mkeys] using this
structure MergeW (w0 wr : World) (B0 : List Nat) (p s r cm it : Nat) (wd ad : Int) (A : List Ad) (dn : List (CK × Int)) (sm : List (CK × Int)) (rw : Rows) : Prop where
  pr : PaneR wr p s r wd ad sm rw
  inv : PInv (A ++ dn.map cAd) sm rw
  sp : Spread w0 B0 (pblocks p s r rw)
  fr : Fr (fun b => b ∈ B0) w0 wr
  ci : cm ∉ pblocks p s r rw ∧ it ∉ pblocks p s r rw
  lw : w0.heap.size ≤ cm ∧ w0.heap.size ≤ it ∧ cm < it
set_option maxRecDepth 100000 in
set_option maxHeartbeats 4000000 in
theorem merge_yes (p o : Nat) (B C : List Nat) (wd ad ad2 : Int) (A A2 : List Ad) (w : World) (h : PaneAt w p B wd ad A) (h2 : PaneAt w o C wd ad2 A2) (hap : Apart' B C) (hsum : ad + ad2 ≤ 1048576) :
    Calls Try.prog 22 #[.pointer (some ⟨p, 0, none⟩), .pointer (some ⟨o, 0, none⟩)] w fun e w' => e = .returned (.bool true) ∧ ∃ B', PaneAt w' p B' wd (ad + ad2) (A ++ A2) ∧ Fr (fun b => b ∈ B) w w' ∧ Spread w B B' := by
  obtain ⟨s, r, sm, rw, rfl, h1, hi⟩ := h.ex
  obtain ⟨s2, r2, sm2, rw2, rfl, g1, gi⟩ := h2.ex
  have a1 := h.a1
  have a2 := h.a2
  have a3 := h2.a1
  have hw1 := h.w1
  have hw2 := h.w2
  obtain ⟨c0, c1, c2, c3⟩ := h1.cells
  obtain ⟨d0, d1, d2, d3⟩ := g1.cells
  have f1 : w.frozen? ⟨p, 1, none⟩ = false := h1.bk.free 1
  have hne : (p == o) = false := by
    rw [beq_eq_false_iff_ne]
    intro e
    exact hap p (by simp [pblocks]) (by rw [e]; simp [pblocks])
  have H := Lib.hid h1
  have HI := Lib.hid hi
  have G := Lib.hid g1
  have GI := Lib.hid gi
  have HOK := Lib.hid h.ok
  have HOK2 := Lib.hid h2.ok
  have HAP := Lib.hid hap
  have q1 : decide (1048576 < ad + ad2) = false := decide_eq_false (by omega)
  have q2 : IntKind.i64.wrap (ad + ad2) = ad + ad2 := IntWalk.i64_in _ (by omega)
  have q3 : (wd != wd) = false := by simp
  clear h h2 h1 g1 hi gi hap
  go_enter Try.func22, Try.ntmps22
  go_wp2_with fail
  go_quiet (fail)
  go_wp2_with fail
  have H3 := Lib.hid (H.out.drewN nq)
  have G3 := Lib.hid (G.out.drewN nq)
  have HF3 : Hid (Fr (fun b => b ∈ pblocks p s r rw) w (w.drewN nq)) := Lib.hid ((Fr.refl _ w).drewN nq)
  have hzv : (w.drewN nq).heap.size = w.heap.size := rfl
  have HZV := Lib.hid hzv
  clear hzv c0 c1 c2 c3 d0 d1 d2 d3 f1 H G
  generalize w.drewN nq = V at *
  obtain ⟨c0, c1, c2, c3⟩ := H3.out.cells
  obtain ⟨d0, d1, d2, d3⟩ := G3.out.cells
  have f1 : V.frozen? ⟨p, 1, none⟩ = false := H3.out.bk.free 1
  go_still_tail 11, (by kernel_rfl)
  change wpList _ _ _ _ _ V.drew
  have H4 := Lib.hid ((H3.out.fr (Fr.refl none' V).drew (fun _ _ => id)).setAdded (ad + ad2))
  have hfp : Fr (fun b => b = p) V.drew (V.drew.setCell ⟨p, 1, none⟩ (.int .i64 (ad + ad2))) := (Fr.refl _ _).setCell p 1 _ (.inr rfl)
  have hpo : ∀ b ∈ pblocks o s2 r2 rw2, b ≠ p := fun b hb e => HAP.out p (by simp [pblocks]) (by rw [← e]; exact hb)
  have G4 := Lib.hid ((G3.out.fr (Fr.refl none' V).drew (fun _ _ => id)).fr hfp hpo)
  have HF4 : Hid (Fr (fun b => b ∈ pblocks p s r rw) w (V.drew.setCell ⟨p, 1, none⟩ (.int .i64 (ad + ad2)))) := Lib.hid (HF3.out.drew.trans hfp (fun b _ e => by rw [e]; simp [pblocks]))
  have hz4 : (V.drew.setCell ⟨p, 1, none⟩ (.int .i64 (ad + ad2))).heap.size = w.heap.size := by have := HZV.out; simp [World.setCell]; exact this
  have HZ4 := Lib.hid hz4
  have f2 : V.drew.frozen? ⟨p, 1, none⟩ = false := f1
  have c1' : V.drew.cell? ⟨p, 1, none⟩ = some (.int .i64 ad) := c1
  clear hfp hpo hz4 q1 q3
  go_wp2_with fail
  clear c0 c1 c2 c3 d0 d1 d2 d3 f1 f2 c1' q2
  refine (clone_sums s2 _ _ G4.out.sums).mono ?_
  rintro e w5 ⟨rfl, m5, b5, z5⟩
  generalize V.drew.setCell ⟨p, 1, none⟩ (.int .i64 (ad + ad2)) = W4 at *
  have m5' : Mp encC okC w5 W4.heap.size (sm2.map cV) := m5
  have HB5 := Lib.hid b5
  have HZ5 := Lib.hid z5
  clear m5 b5 z5
  go_wp2_with (at_range; refine wpList_range rfl _ rfl Try.underlying52 m5' rfl ?_; intro w6 rg6 b6 z6)
  go_frame
  have hM0 : MergeW w w6 (pblocks p s r rw) p s r W4.heap.size w5.heap.size wd (ad + ad2) A [] sm rw := by
    have hz4 := HZ4.out
    have hz5 := HZ5.out
    have hlt := H4.out.lt
    refine ⟨(H4.out.bel HB5.out).bel b6, by simpa using HI.out, Spread.refl _ _, (HF4.out.bel HB5.out).bel b6, ⟨fun hm => ?_, fun hm => ?_⟩, by omega, by omega, by omega⟩
    · have := hlt _ hm; omega
    · have := hlt _ hm; omega
  have HGI := GI
  clear H4 G4 HF4 HZ4 HB5 HZ5 H3 G3 HF3 HZV b6 z6 m5' HAP
  generalize W4.heap.size = cm at *
  generalize w5.heap.size = it at *
  go_loopw [] (fun wr => ∃ dn left sm' rw', Rg encC okC wr cm it (sm2.map cV) left ∧ Hid ((dn.map cV ++ left).Perm (sm2.map cV)) ∧ MergeW w wr (pblocks p s r rw) p s r cm it wd (ad + ad2) A dn sm' rw') (fun wr => wr.rangeLeft cm it)
  case atStart => exact ⟨[], sm2.map cV, sm, rw, rg6, Lib.hid (List.Perm.refl _), hM0⟩
  case round =>
    obtain ⟨dn, left, sm', rw', hrg, HPm, hmw⟩ := hrel
    clear rg6 hM0
    go_wp2_with (at_next; refine wpList_next' (fun x : CK => .agg #[.string x.1, .int .i64 x.2]) (fun _ => rfl) rfl _ rfl hrg rfl ?_ ?_)
    · intro hl0
      subst hl0
      have hpm := HPm.out
      rw [List.append_nil] at hpm
      have hpd : dn.Perm sm2 := by
        have := hpm.map vC
        rwa [vC_cV, vC_cV] at this
      have HE : Hid (∃ B', PaneAt wr p B' wd (ad + ad2) (A ++ A2) ∧ Fr (fun b => b ∈ pblocks p s r rw) w wr ∧ Spread w (pblocks p s r rw) B') := Lib.hid (by
        refine ⟨pblocks p s r rw', ⟨fun x hx => ?_, hw1, hw2, by rw [List.length_append]; omega, hsum, s, r, sm', rw', rfl, hmw.pr, hmw.inv.toS.ofS (fun k n => ?_)⟩, hmw.fr, hmw.sp⟩
        · rcases List.mem_append.1 hx with h | h
          · exact HOK.out x h
          · exact HOK2.out x h
        · rw [sget_append, sget_append, sget_perm (hpd.map cAd), sget_cAd GI.out.nds, GI.out.at])
      clear hpm HPm hrg hmw hpd
      go_wp2_with fail
      go_ret
      exact ⟨rfl, HE.out⟩
    · intro k0 q0 v more w7 hp hok k q n hy ey hrg7' hf7 hz7 hen
      have hrg7 : Rg encC okC w7 cm it (sm2.map cV) more := hrg7'
      clear hrg7'
      obtain ⟨ey1, rfl⟩ := Prod.mk.inj ey
      obtain ⟨rfl, rfl⟩ := Prod.mk.inj ey1
      clear ey ey1
      have hsg : n = sget A2 k q ∧ sget A2 k q ≠ 0 := by
        have hg := get_of_mem GI.out.nds hy
        rw [GI.out.sums] at hg
        by_cases e : sget A2 k q = 0
        · rw [if_pos e] at hg; cases hg
        · rw [if_neg e] at hg; exact ⟨(Option.some.inj hg).symm, e⟩
      have hnn2 := sget_nonneg HOK2.out k q
      have hle2 := sget_le HOK2.out k q
      have hnnA := sget_nonneg HOK.out k q
      have hleA := sget_le HOK.out k q
      have hpm2 : ((dn ++ [((k, q), n)]).map cV ++ more).Perm (sm2.map cV) := by
        refine List.Perm.trans ?_ HPm.out
        rw [List.map_append, List.append_assoc]
        exact List.Perm.append_left _ hp.symm
      have hnd : (mkeys (dn ++ [((k, q), n)])).Nodup := by
        have h1 : ((((dn ++ [((k, q), n)]).map cV) ++ more).map Prod.fst).Nodup := by
          rw [(hpm2.map Prod.fst).nodup_iff]
          have : (sm2.map cV).map Prod.fst = mkeys sm2 := by rw [List.map_map]; rfl
          rw [this]; exact GI.out.nds
        rw [List.map_append] at h1
        have h2 := (List.nodup_append.1 h1).1
        rw [List.map_map] at h2
        exact h2
      have hnd0 : (mkeys dn).Nodup := by
        unfold mkeys at hnd ⊢
        rw [List.map_append] at hnd
        exact (List.nodup_append.1 hnd).1
      have hnot : mget dn (k, q) = none := mget_none (fun x hx e => by
        unfold mkeys at hnd
        rw [List.map_append] at hnd
        exact (List.nodup_append.1 hnd).2.2 x.1 (List.mem_map.2 ⟨x, hx, rfl⟩) (k, q) (by simp) e)
      have hsD : sget (A ++ dn.map cAd) k q = sget A k q := by rw [sget_append, sget_cAd hnd0, hnot]; simp
      have hlenD : dn.length ≤ A2.length := by
        have h1 := HPm.out.length_eq
        have h2 := GI.out.sumsLen
        simp at h1; omega
      have hsub : ∀ x ∈ dn, x ∈ sm2 := fun x hx => by
        have h1 : cV x ∈ sm2.map cV := HPm.out.mem_iff.1 (List.mem_append.2 (.inl (List.mem_map.2 ⟨x, hx, rfl⟩)))
        have h2 : vC (cV x) ∈ (sm2.map cV).map vC := List.mem_map.2 ⟨cV x, h1, rfl⟩
        rw [vC_cV] at h2
        exact h2
      have hNN : NN (A ++ dn.map cAd) := fun x hx => by
        rcases List.mem_append.1 hx with h | h
        · have := HOK.out x h; unfold AdOk at this; omega
        · obtain ⟨y, hy, rfl⟩ := List.mem_map.1 h
          obtain ⟨⟨k', q'⟩, n'⟩ := y
          have hg := get_of_mem GI.out.nds (hsub _ hy)
          rw [GI.out.sums] at hg
          have h3 := sget_nonneg HOK2.out k' q'
          by_cases e : sget A2 k' q' = 0
          · rw [if_pos e] at hg; cases hg
          · rw [if_neg e] at hg
            have := Option.some.inj hg
            show 0 ≤ n'
            omega
      have hkq : k.size ≤ 24 ∧ I64 q := by
        obtain ⟨x, hx, e1, e2, _⟩ := mem_of_sget hsg.2
        have := HOK2.out x hx
        unfold AdOk at this
        rw [← e1, ← e2]
        exact ⟨this.2.1, by unfold I64; omega⟩
      have hmes : w7.rangeLeft cm it < wr.rangeLeft cm it := by
        rw [hrg7.left_eq, hrg.left_eq, hp.length_eq]; simp
      have HM := Lib.hid hmes
      have HLF := Lib.hid hrg7.left_eq
      have hpr7 : PaneR w7 p s r wd (ad + ad2) sm' rw' := hmw.pr.fr hf7 (fun b hb e => hmw.ci.2 (by rw [← e]; exact hb))
      have hb8 : Below w7.heap.size w7 (w7.alloc (.cells #[.string k, .int .i64 q] 58)) := (Below.refl _ _).alloc (Nat.le_refl _) _
      have HPUT := Lib.hid (put_more p s r wd (ad + ad2) sm' rw' (A ++ dn.map cAd) k q n _ (hpr7.bel hb8) hmw.inv hNN (by rw [List.length_append, List.length_map]; omega) (by omega) hkq.2 (by omega) (by omega) (by omega))
      have HRG7 := Lib.hid (hrg7.bel hb8)
      have HF7 : Hid (Fr (fun b => b ∈ pblocks p s r rw) w (w7.alloc (.cells #[.string k, .int .i64 q] 58))) := Lib.hid ((hmw.fr.trans hf7 (fun b hlt e => by have := hmw.lw; omega)).bel hb8)
      have HPM2 := Lib.hid hpm2
      have HMW := Lib.hid hmw
      have HLT7 : Hid (cm < w7.heap.size ∧ it < w7.heap.size ∧ w.heap.size ≤ w7.heap.size) := Lib.hid ⟨by have := hrg7.mp.lt; omega, hrg7.lt, by have := hmw.fr.size; omega⟩
      clear hy hp hok hrg hrg7 hf7 hz7 hmes hpr7 hb8 hpm2 hnd hnd0 hnot hsD hlenD hsub hNN hkq hsg hmw HPm hnn2 hle2 hnnA hleA
      go_wp2_with fail
      refine HPUT.out.mono ?_
      rintro e w9 ⟨rfl, sm9, rw9, p9, i9, f9, s9⟩
      have HE : Hid (Rg encC okC w9 cm it (sm2.map cV) more ∧ MergeW w w9 (pblocks p s r rw) p s r cm it wd (ad + ad2) A (dn ++ [((k, q), n)]) sm9 rw9) := Lib.hid (by
        have hl := HLT7.out
        have hci := HMW.out.ci
        refine ⟨HRG7.out.fr f9 hci.1 hci.2, p9, ?_, fun b hb => ?_, HF7.out.trans f9 (fun b hlt hb => ?_), ⟨fun hm => ?_, fun hm => ?_⟩, HMW.out.lw⟩
        · rw [List.map_append, ← List.append_assoc]; exact i9
        · rcases s9 b hb with h | h
          · exact HMW.out.sp b h
          · simp at h; exact .inr (by omega)
        · rcases HMW.out.sp b hb with h | h
          · exact h
          · omega
        · rcases s9 _ hm with h | h
          · exact hci.1 h
          · simp at h; omega
        · rcases s9 _ hm with h | h
          · exact hci.2 h
          · simp at h; omega)
      have HM9 : Hid (w9.rangeLeft cm it < wr.rangeLeft cm it) := Lib.hid (by
        rw [HE.out.1.left_eq]
        have h1 := HM.out
        rwa [HLF.out] at h1)
      clear p9 i9 f9 s9 HPUT HRG7 HF7 HMW HLT7 HM
      go_wp2_with fail
      exact ⟨⟨dn ++ [((k, q), n)], more, sm9, rw9, HE.out.1, HPM2, HE.out.2⟩, HM9.out⟩
set_option maxRecDepth 100000 in
set_option maxHeartbeats 1000000 in
theorem merge_nil (p : Nat) (B : List Nat) (wd ad : Int) (A : List Ad) (w : World) (h : PaneAt w p B wd ad A) :
    Calls Try.prog 22 #[.pointer (some ⟨p, 0, none⟩), .pointer none] w fun e w' => e = .returned (.bool false) ∧ ∃ q, w' = w.drewN q := by
  go_enter Try.func22, Try.ntmps22
  go_wp2_with fail
  go_quiet (fail)
  go_wp2_with fail
  go_ret
  exact ⟨rfl, nq, rfl⟩
set_option maxRecDepth 100000 in
set_option maxHeartbeats 1000000 in
theorem merge_no (p o : Nat) (B C : List Nat) (wd wd2 ad ad2 : Int) (A A2 : List Ad) (w : World) (h : PaneAt w p B wd ad A) (h2 : PaneAt w o C wd2 ad2 A2) (hno : wd2 ≠ wd ∨ 1048576 < ad + ad2) :
    Calls Try.prog 22 #[.pointer (some ⟨p, 0, none⟩), .pointer (some ⟨o, 0, none⟩)] w fun e w' => e = .returned (.bool false) ∧ ∃ q, w' = w.drewN q := by
  obtain ⟨s, r, sm, rw, rfl, h1, hi⟩ := h.ex
  obtain ⟨s2, r2, sm2, rw2, rfl, g1, gi⟩ := h2.ex
  have a1 := h.a1
  have a2 := h.a2
  have a3 := h2.a1
  have a4 := h2.a2
  obtain ⟨c0, c1, c2, c3⟩ := h1.cells
  obtain ⟨d0, d1, d2, d3⟩ := g1.cells
  have q2 : IntKind.i64.wrap (ad + ad2) = ad + ad2 := IntWalk.i64_in _ (by omega)
  clear h h2 h1 g1 hi gi
  by_cases hw : wd2 = wd
  · subst hw
    have q1 : decide (1048576 < ad + ad2) = true := decide_eq_true (by rcases hno with h | h; exact absurd rfl h; exact h)
    have q3 : (wd2 != wd2) = false := by simp
    go_enter Try.func22, Try.ntmps22
    go_wp2_with fail
    go_quiet (fail)
    go_wp2_with fail
    go_ret
    exact ⟨rfl, nq, rfl⟩
  · have q3 : (wd2 == wd) = false := by simpa using hw
    have q4 : (wd2 != wd) = true := by simpa using hw
    clear hno hw
    go_enter Try.func22, Try.ntmps22
    go_wp2_with fail
    go_quiet (fail)
    go_wp2_with fail
    go_ret
    exact ⟨rfl, nq, rfl⟩
end Go.Proofs.Ytdmcbndkfnlcjaa

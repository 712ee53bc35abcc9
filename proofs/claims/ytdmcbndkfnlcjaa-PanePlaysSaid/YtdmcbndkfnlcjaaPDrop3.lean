/- Contract of (*pane.Panes).Drop: the walk's loops. -/
import Derived.Test.YtdmcbndkfnlcjaaPDrop2
namespace Go.Proofs.Ytdmcbndkfnlcjaa
open Go.RowKit Go.MapKept Go.Maps
set_option linter.unusedVariables false
theorem lowOf_snoc (least : Int) (l : List Int) (n : Int) : lowOf least (l ++ [n]) = if n < least then lowOf least l ++ [n] else lowOf least l := by
  unfold lowOf
  rw [List.filter_append]
  by_cases h : n < least <;> simp [h]
theorem highOf_snoc (least : Int) (l : List Int) (n : Int) : highOf least (l ++ [n]) = if least ≤ n then highOf least l ++ [n] else highOf least l := by
  unfold highOf
  rw [List.filter_append]
  by_cases h : least ≤ n <;> simp [h]
/-- the row that is to stay -/
def StayW (w0 wv : World) (p s r : Nat) (rw : Rows) (kv v : Value) (l : List Int) : Prop := wv.ownsRow 0 3 1 v l.length (l.map (Value.int .i64)) ∧ ∀ b, v.ownBlock = some b → w0.heap.size ≤ b ∧ b ∉ pblocks p s r rw ∧ kv.ownBlock ≠ some b
theorem take_snoc' {l : List Int} {j : Nat} (h : j < l.length) : l.take (j + 1) = l.take j ++ [l.getD j 0] := by
  rw [List.take_succ_eq_append_getElem h]; simp [h]
set_option maxRecDepth 100000 in
set_option maxHeartbeats 8000000 in
theorem drop_walk (p s r : Nat) (wd ad : Int) (sm : List (CK × Int)) (rw : Rows) (A : List Ad) (bf : Int) (w : World) (h : PaneR w p s r wd ad sm rw) (hi : PInv A sm rw) (hw : 1 ≤ wd) (hA : A.length ≤ 1048576) (hok : ∀ x ∈ A, AdOk x) (hbf : I64 bf) :
    Calls Try.prog 17 #[.pointer (some ⟨p, 0, none⟩), .int .i64 bf] w fun e w' => ∃ ks sm' rw', e = .returned (.int .i64 (lowSum rw (bf / wd) ks : Nat)) ∧ ks.Perm (mkeys rw) ∧ PaneR w' p s r wd ad sm' rw' ∧ PInvS (leftS (sget A) (bf / wd) ks.reverse) sm' rw' ∧ Fr (fun b => b ∈ pblocks p s r rw) w w' ∧ Spread w (pblocks p s r rw) (pblocks p s r rw') := by
  have hlr := hi.rows
  have ho1 := Lib.hid (of_any p wd bf w h.cells.1 hw hbf)
  obtain ⟨c0, c1, c2, c3⟩ := h.cells
  obtain ⟨i0, hi0, hz0, hz1, hz2⟩ := info_parts infoInt
  have b1 := floor_le bf wd hw hbf
  generalize bf / wd = least at *
  unfold I64 at b1
  have HKF := Lib.hid (fun W => keys_fn (some r) W)
  have HCO : Hid (∀ W, Below w.heap.size w W → ∀ Bm, Bm < W.heap.size → W.cell? ⟨Bm, 0, none⟩ = some (.map (some r)) → Calls Try.prog 31 #[.func (.func 40) #[] #[.pointer (some ⟨Bm, 0, none⟩)]] W fun e w' => ∃ (v : Value) (ks : List ByteArray), e = .returned v ∧ ks.Perm (mkeys (rowsM rw)) ∧ TextsAt w' v ks ∧ (∀ b, v.ownBlock = some b → W.heap.size ≤ b) ∧ Below W.heap.size W w') := Lib.hid (fun W hb Bm h1 h2 => collect_any r (rowsM rw) W (h.bel hb).rows (by unfold rowsM; rw [List.length_map]; omega) Bm h1 h2)
  have H := Lib.hid h
  have HI := Lib.hid hi
  have HLE : Hid (∀ k, (rowL rw k).length ≤ 1048576) := Lib.hid (fun k => by have := hi.len k; omega)
  have HR64 : Hid (∀ k n, n ∈ rowL rw k → I64 n) := Lib.hid (fun k n hn => by
    obtain ⟨x, hx, _, e, _⟩ := mem_of_sget (((hi.row k).2 n).1 hn)
    have := hok x hx
    unfold AdOk at this
    unfold I64; omega)
  clear h hi
  go_enter Try.func17, Try.ntmps17
  go_wp2_with fail
  refine ho1.out.mono ?_
  rintro e w1 ⟨rfl, rfl⟩
  go_wp2_with fail
  refine (HKF.out _).mono ?_
  rintro e w1 ⟨rfl, rfl⟩
  have hb1 : Below w.heap.size w (w.alloc (.cells #[.map (some r)] 53)) := (Below.refl _ _).alloc (Nat.le_refl _) _
  have hk1 := Bk.new w [.map (some r)] 53
  have HC2 := Lib.hid (HCO.out _ hb1 w.heap.size hk1.lt (hk1.cell 0))
  have HB1 := Lib.hid hb1
  clear HCO HKF ho1 hb1 hk1
  go_wp2_with fail
  refine HC2.out.mono ?_
  rintro e w2 ⟨kv, ks, rfl, hp, ht, hn, hb⟩
  have hb2 : Below w.heap.size w w2 := HB1.out.trans (hb.mono (by simp))
  have hkm : mkeys (rowsM rw) = mkeys rw := by unfold mkeys rowsM; rw [List.map_map]; rfl
  rw [hkm] at hp
  have hD0 : DropW w w2 (pblocks p s r rw) p s r wd ad sm rw kv ks := by
    have hlt := H.out.lt
    refine ⟨H.out.bel hb2, ht, fun b hb' => ?_, Spread.refl _ _, Fr.of_bel hb2⟩
    have h1 := hn b hb'
    simp at h1
    exact ⟨by omega, fun hm => by have := hlt b hm; omega⟩
  have HPM := Lib.hid hp
  have HND : Hid (ks.Nodup) := Lib.hid (hp.nodup_iff.2 HI.out.ndr)
  have hkl : ks.length ≤ 1048576 := by rw [hp.length_eq]; unfold mkeys; rw [List.length_map]; omega
  obtain ⟨bk, ck, rfl, _, _, _⟩ := ht.strs
  have HLS : Hid (∀ i, lowSum rw least (ks.take i) ≤ 1099511627776) := Lib.hid (fun i => by
    have h1 : ∀ l : List ByteArray, lowSum rw least l ≤ l.length * 1048576 := fun l => by
      induction l with
      | nil => simp [lowSum]
      | cons x l ih =>
        have h2 := HLE.out x
        have h3 : (lowOf least (rowL rw x)).length ≤ (rowL rw x).length := List.length_filter_le _ _
        simp only [lowSum, List.length_cons]
        rw [Nat.add_mul]; omega
    have h2 := h1 (ks.take i)
    have h3 : (ks.take i).length ≤ 1048576 := by rw [List.length_take]; omega
    omega)
  clear hp ht hn hb hb2 hkm HC2 HB1 c0 c1 c2 c3
  generalize hkn : ks.length = kn at *
  have Hkn := Lib.hid hkn
  clear hkn
  go_wp2_with fail
  go_loopw [6, 22] (fun d c wr => ∃ (i : Nat) (sm' : List (CK × Int)) (rw' : Rows), i ≤ kn ∧ c = .int .i64 i ∧ d = .int .i64 (lowSum rw least (ks.take i) : Nat) ∧ DropW w wr (pblocks p s r rw) p s r wd ad sm' rw' (.slice bk kn ck) ks ∧ Hid (PInvS (leftS (sget A) least (ks.take i).reverse) sm' rw') ∧ Hid (∀ j, j ∉ ks.take i → mget rw' j = mget rw j)) (fun _ c _ => kn - (intOf c).toNat)
  case atStart => exact ⟨0, sm, rw, by omega, rfl, rfl, hD0, Lib.hid HI.out.toS, Lib.hid (fun _ _ => rfl)⟩
  case round =>
    obtain ⟨i, sm', rw', hin, rfl, rfl, hdw, HPI, HSA⟩ := hrel
    clear hD0
    have hls := HLS.out i
    by_cases hlt : i < kn
    · obtain ⟨k, hk⟩ : ∃ k, ks[i]? = some k := ⟨ks[i]'(by have := Hkn.out; omega), List.getElem?_eq_getElem _⟩
      obtain ⟨bk', ck', ekv, _, _, hst⟩ := hdw.kt.strs
      obtain rfl : bk = bk' := by injection ekv
      clear ekv
      obtain ⟨B, off, rfl, _, e1⟩ := hst.at hk
      have hknot : k ∉ ks.take i := fun hm => by
        obtain ⟨j, hj, ej⟩ := List.mem_iff_getElem.1 hm
        simp at hj ej
        have h1 := List.getElem?_eq_some_iff.1 hk
        obtain ⟨h1, h2⟩ := h1
        have := (List.getElem_inj HND.out).1 (ej.trans h2.symm)
        omega
      have hkm : k ∈ mkeys rw := HPM.out.mem_iff.1 (List.mem_of_getElem? hk)
      obtain ⟨x, hx, ex⟩ := List.mem_map.1 hkm
      obtain ⟨u, l, hget⟩ : ∃ u l, mget rw k = some (u, l) := ⟨x.2.1, x.2.2, by rw [← ex]; exact get_of_mem HI.out.ndr (by obtain ⟨a, b⟩ := x; exact hx)⟩
      have hlL : rowL rw k = l := by unfold rowL; rw [hget]; rfl
      have hget' : mget rw' k = some (u, l) := (HSA.out k hknot).trans hget
      have hksz : k.size ≤ 24 := by
        obtain ⟨h1, h2, h3⟩ := HI.out.present k u l hget
        obtain ⟨n, l', rfl⟩ := List.exists_cons_of_ne_nil h1
        obtain ⟨y, hy, e, _⟩ := mem_of_sget ((h3 n).1 (by simp))
        have := hok y hy
        unfold AdOk at this
        rw [← e]; omega
      have hmem' := mem_of_get hget'
      have hne : l ≠ [] := (HI.out.present k u l hget).1
      have hu : ∃ g cap, u = .slice (some ⟨g, 0, none⟩) l.length cap := by
        obtain ⟨_, hb | ⟨g, cap, cs, hs, _⟩⟩ := bk_of_row (hdw.pr.own _ hmem')
        · exact absurd (List.map_eq_nil_iff.1 hb.2.2) hne
        · exact ⟨g, cap, hs⟩
      obtain ⟨g, cap, rfl⟩ := hu
      have HCL : Hid (∀ (W : World) (sm2 : List (CK × Int)), PaneR W p s r wd ad sm2 rw' → ∀ j, j < l.length → W.cell? ⟨g, j, none⟩ = some (.int .i64 (l.getD j 0))) := Lib.hid (fun W sm2 hW j hj => (row_cells (hW.own _ hmem')).2 j hj)
      have hlook : (Instr.lookup 53 (.map (some r)) (.string k) false).run Try.prog wr = .ok (.slice (some ⟨g, 0, none⟩) l.length cap) wr := by
        have := hdw.pr.lookRow k (by omega)
        unfold rowV at this
        rw [hget'] at this
        exact this
      have HL64 : Hid (∀ j, j < l.length → I64 (l.getD j 0)) := Lib.hid (fun j hj => HR64.out k _ (by rw [hlL]; simp [hj]))
      have hll : l.length ≤ 1048576 := by rw [← hlL]; exact HLE.out k
      have HKX := Lib.hid hk
      have HSTEP : Hid (∀ v, PInvS (leftS (sget A) least (ks.take (i + 1)).reverse) (delS sm' k (lowOf least l)) (if highOf least l = [] then mdel rw' k else mput rw' k (v, highOf least l))) := Lib.hid (fun v => by
        rw [List.take_add_one, HKX.out]
        simp only [Option.toList_some, List.reverse_append, List.reverse_cons, List.reverse_nil, List.nil_append, List.cons_append]
        exact HPI.out.step (by simpa using hknot) hget')
      have HSAM : Hid (∀ v j, j ∉ ks.take (i + 1) → mget (if highOf least l = [] then mdel rw' k else mput rw' k (v, highOf least l)) j = mget rw j) := Lib.hid (fun v j hj => by
        rw [List.take_add_one, HKX.out] at hj
        simp only [Option.toList_some, List.mem_append, List.mem_cons, List.not_mem_nil, or_false, not_or] at hj
        have hne' : ¬ k = j := fun e => hj.2 e.symm
        split
        · rw [get_del HPI.out.ndr, if_neg hne']; exact HSA.out j hj.1
        · rw [get_put, if_neg hne']; exact HSA.out j hj.1)
      have HLSN : Hid (lowSum rw least (ks.take (i + 1)) = lowSum rw least (ks.take i) + (lowOf least l).length) := Lib.hid (by
        rw [List.take_add_one, HKX.out]
        simp only [Option.toList_some]
        rw [lowSum_snoc, hlL])
      have hkok : okS k := by unfold okS maxLen; omega
      have hi1' : (0 : Int) ≤ (i : Int) := by omega
      have hi2' : (i : Int) < (kn : Int) := by omega
      obtain ⟨f0, f1, f2, f3⟩ := hdw.pr.cells
      have HPIo := HPI
      clear hk hknot hkm hx ex hget hlL hget' hmem' HPI HSA hst
      generalize lowSum rw least (ks.take i) = D at *
      generalize hln : l.length = ln at *
      have Hln := Lib.hid hln
      clear hln
      obtain ⟨wo, hwo⟩ : ∃ wo : World, wo = wr := ⟨_, rfl⟩
      subst hwo
      go_wp2_with fail
      go_loopw [6, 9, 33] (fun d y c wv => ∃ (j : Nat) (bs : Option Addr) (cs : Nat), j ≤ ln ∧ c = .int .i64 j ∧ d = .int .i64 ((D + (lowOf least (l.take j)).length : Nat) : Int) ∧ y = .slice bs (highOf least (l.take j)).length cs ∧ DropW w wv (pblocks p s r rw) p s r wd ad (delS sm' k (lowOf least (l.take j))) rw' (.slice (some ⟨B, off, none⟩) kn ck) ks ∧ StayW w wv p s r rw' (.slice (some ⟨B, off, none⟩) kn ck) (.slice bs (highOf least (l.take j)).length cs) (highOf least (l.take j))) (fun _ _ c _ => ln - (intOf c).toNat)
      case atStart => exact ⟨0, none, 0, by omega, rfl, rfl, rfl, hdw, own_nil _ _, fun b hb => by cases hb⟩
      case round =>
        obtain ⟨j, bs, cs, hjn, rfl, rfl, rfl, hdv, hsv⟩ := hrel
        clear hdw f0 f1 f2 f3 hlook e1
        have hlow : (lowOf least (l.take j)).length ≤ 1048576 := by
          have h1 : (lowOf least (l.take j)).length ≤ (l.take j).length := List.length_filter_le _ _
          rw [List.length_take] at h1; omega
        have hhigh : (highOf least (l.take j)).length ≤ 1048576 := by
          have h1 : (highOf least (l.take j)).length ≤ (l.take j).length := List.length_filter_le _ _
          rw [List.length_take] at h1; omega
        by_cases hjt : j < ln
        · have hjl : j < l.length := by rw [Hln.out]; exact hjt
          have HT := Lib.hid (take_snoc' hjl)
          have hcj := HCL.out wr _ hdv.pr j hjt
          have h64 := HL64.out j hjt
          have hj0 : (0 : Int) ≤ (j : Int) := by omega
          have hj1 : (j : Int) < (ln : Int) := by omega
          have HDV := Lib.hid hdv
          have HSV := Lib.hid hsv
          generalize l.getD j 0 = n at *
          by_cases hn : least ≤ n
          · have HO3 := Lib.hid ((Fr.refl none' wr).alloc (.cells #[.int .i64 n] 3) |>.row hsv.1 (fun _ _ => id))
            have HN : Hid (∀ (q : Nat) (u : Value), ([.int .i64 n] : List Value)[q]? = some u → (wr.alloc (.cells #[.int .i64 n] 3)).cell? ((⟨wr.heap.size, 0, none⟩ : Addr).add q) = some u) := Lib.hid (fun q u hq => by
              have hb := (Bk.new wr [.int .i64 n] 3).cell q
              rw [Addr.add_lit, Nat.zero_add]
              exact hb.trans hq)
            have hv63 : (highOf least (l.take j)).length + 1 ≤ maxLen := by unfold maxLen; omega
            have hv47 : ((highOf least (l.take j)).length + 1) * 8 ≤ 140737488355328 := by omega
            have HH : Hid (highOf least (l.take (j + 1)) = highOf least (l.take j) ++ [n] ∧ lowOf least (l.take (j + 1)) = lowOf least (l.take j)) := Lib.hid (by rw [HT.out, highOf_snoc, lowOf_snoc, if_pos hn, if_neg (by omega)]; exact ⟨rfl, rfl⟩)
            clear hdv hsv
            generalize hhl : (highOf least (l.take j)).length = hl at *
            go_wp2_with (at_builtin; refine wpList_append_row _ rfl _ _ _ rfl 3 i0 _ 1 8 Try.underlying60 hi0 hz0 hz1 hz2 rfl (by decide) (.slice bs hl cs) hl _ rfl HO3.out ⟨wr.heap.size, 0, none⟩ 1 1 [.int .i64 n] rfl rfl HN.out (by simp [Value.oneCell']) hv63 hv47 ?_; intro v5 w5 ho5 hf5 hh5)
            have hf5' : Fr (fun b => (Value.slice bs hl cs).ownBlock = some b) wr w5 := ((Fr.refl _ wr).alloc _).trans hf5 (fun _ _ e => e)
            have ho6 : w5.ownsRow 0 3 1 v5 (highOf least (l.take (j + 1))).length ((highOf least (l.take (j + 1))).map (Value.int .i64)) := by
              rw [HH.out.1, List.length_append, List.map_append, hhl]; exact ho5
            obtain ⟨b5, c5, hv5, _⟩ := inw_of_row (Value.int .i64) ho6
            have HE : Hid (DropW w w5 (pblocks p s r rw) p s r wd ad (delS sm' k (lowOf least (l.take (j + 1)))) rw' (.slice (some ⟨B, off, none⟩) kn ck) ks ∧ StayW w w5 p s r rw' (.slice (some ⟨B, off, none⟩) kn ck) (.slice b5 (highOf least (l.take (j + 1))).length c5) (highOf least (l.take (j + 1)))) := Lib.hid (by
              have hold := HSV.out.2
              refine ⟨by rw [HH.out.2]; exact HDV.out.side hold hf5', by rw [← hv5]; exact ho6, fun b hb => ?_⟩
              rw [← hv5] at hb
              rcases hh5 with h' | h'
              · exact hold b (by rw [← h']; exact hb)
              · have e : wr.heap.size + 1 = b := by
                  have := Option.some.inj (h'.symm.trans hb)
                  simpa using this
                have l1 := HDV.out.pr.lt
                have l2 := HDV.out.fr.size
                refine ⟨by omega, fun hm => by have := l1 b hm; omega, fun hk' => ?_⟩
                have := own_lt HDV.out.kt hk'
                omega)
            subst hv5
            have HHL := Lib.hid hhl
            clear ho5 hf5 hh5 hf5' ho6 HO3 HN hv63 hv47 HDV HSV hhl
            go_wp2_with fail
            exact ⟨⟨j + 1, b5, c5, by omega, by go_num, by rw [HH.out.2]; go_num, rfl, HE.out⟩, by simp [intOf]; omega⟩
          · have HH : Hid (highOf least (l.take (j + 1)) = highOf least (l.take j) ∧ lowOf least (l.take (j + 1)) = lowOf least (l.take j) ++ [n]) := Lib.hid (by rw [HT.out, highOf_snoc, lowOf_snoc, if_neg hn, if_pos (by omega)]; exact ⟨rfl, rfl⟩)
            obtain ⟨f0, f1, f2, f3⟩ := hdv.pr.cells
            have hok2 : okC (k, n) := ⟨by show k.size ≤ _; unfold maxLen; omega, wf64 h64⟩
            clear hdv hsv
            generalize hhl : (highOf least (l.take j)).length = hl at *
            go_wp2_with (at_delete; refine wpList_drop rfl _ _ rfl keyC Try.underlying52 HDV.out.pr.sums rfl (k, n) rfl hok2 ?_; intro w6 m6 f6 z6)
            have HE : Hid (DropW w w6 (pblocks p s r rw) p s r wd ad (delS sm' k (lowOf least (l.take (j + 1)))) rw' (.slice (some ⟨B, off, none⟩) kn ck) ks ∧ StayW w w6 p s r rw' (.slice (some ⟨B, off, none⟩) kn ck) (.slice bs (highOf least (l.take (j + 1))).length cs) (highOf least (l.take (j + 1)))) := Lib.hid (by
              rw [HH.out.1, HH.out.2, delS_snoc, hhl]
              refine ⟨HDV.out.sum m6 f6, ?_, HSV.out.2⟩
              have := f6.row HSV.out.1 (fun b hb e => (HSV.out.2 b hb).2.1 (by rw [e]; simp [pblocks]))
              rw [← hhl] at this ⊢
              exact this)
            have HHL : Hid ((highOf least (l.take (j + 1))).length = hl) := Lib.hid (by rw [HH.out.1]; exact hhl)
            clear m6 f6 z6 f0 f1 f2 f3 HDV HSV hhl
            go_wp2_with fail
            exact ⟨⟨j + 1, bs, cs, by omega, by go_num, by rw [HH.out.2, List.length_append]; go_num, by rw [HHL.out], HE.out⟩, by simp [intOf]; omega⟩
        · obtain rfl : j = ln := by omega
          have htk : l.take j = l := List.take_of_length_le (by have := Hln.out; omega)
          rw [htk] at hdv hsv hlow hhigh ⊢
          have HDV := Lib.hid hdv
          have HSV := Lib.hid hsv
          obtain ⟨f0, f1, f2, f3⟩ := hdv.pr.cells
          clear hdv hsv htk
          have hls2 := HLS.out (i + 1)
          by_cases hh : highOf least l = []
          · have h1 := HSTEP.out (.slice none 0 0)
            have h2 := HSAM.out (.slice none 0 0)
            rw [if_pos hh] at h1 h2
            have HS1 := Lib.hid h1
            have HS2 := Lib.hid h2
            rw [hh]
            clear h1 h2
            generalize hlw : (lowOf least l).length = lw at *
            have HLW := Lib.hid hlw
            clear hlw
            go_wp2_with (at_delete; refine wpList_drop rfl _ _ rfl keyS Try.underlying53 HDV.out.pr.rows rfl k rfl hkok ?_; intro w6 m6 f6 z6)
            have HE := Lib.hid (HDV.out.gone m6 f6)
            clear m6 f6 z6 f0 f1 f2 f3 HDV HSV
            go_wp2_with fail
            exact ⟨⟨i + 1, _, _, by omega, by go_num, by rw [HLSN.out]; go_num, HE.out, HS1, HS2⟩, by simp [intOf]; omega⟩
          · have h1 := HSTEP.out (.slice bs (highOf least l).length cs)
            have h2 := HSAM.out (.slice bs (highOf least l).length cs)
            rw [if_neg hh] at h1 h2
            have HS1 := Lib.hid h1
            have HS2 := Lib.hid h2
            have hlen0 : 0 < (highOf least l).length := List.length_pos_iff.2 hh
            clear h1 h2 hh
            generalize hlw : (lowOf least l).length = lw at *
            have HLW := Lib.hid hlw
            clear hlw
            generalize hhw : (highOf least l).length = hw2 at *
            have HHW := Lib.hid hhw
            clear hhw
            have t1 : ((hw2 : Int) == 0) = false := by simp; omega
            have t2 : (hw2 == 0) = false := by simp; omega
            go_wp2_with (at_mapUpdate; refine wpList_store rfl _ _ _ rfl keyS Try.underlying53 HDV.out.pr.rows rfl k rfl hkok (.slice bs hw2 cs) rfl ?_; intro w6 m6 f6 z6)
            have hrow : wr.ownsRow 0 3 1 (.slice bs hw2 cs) (highOf least l).length ((highOf least l).map (Value.int .i64)) := by rw [HHW.out]; have := HSV.out.1; rw [HHW.out] at this; exact this
            have HE := Lib.hid (HDV.out.row HSV.out.2 m6 f6 hrow)
            clear m6 f6 z6 f0 f1 f2 f3 HDV HSV hrow
            go_wp2_with fail
            exact ⟨⟨i + 1, _, _, by omega, by go_num, by rw [HLSN.out]; go_num, HE.out, HS1, HS2⟩, by simp [intOf]; omega⟩
    · obtain rfl : i = kn := by omega
      have htk : ks.take i = ks := List.take_of_length_le (by have := Hkn.out; omega)
      rw [htk] at HPI ⊢
      have HE : Hid (∃ ks' sm' rw', (.int .i64 (lowSum rw least ks : Nat) : Value) = .int .i64 (lowSum rw least ks' : Nat) ∧ ks'.Perm (mkeys rw) ∧ PaneR wr p s r wd ad sm' rw' ∧ PInvS (leftS (sget A) least ks'.reverse) sm' rw' ∧ Fr (fun b => b ∈ pblocks p s r rw) w wr ∧ Spread w (pblocks p s r rw) (pblocks p s r rw')) := Lib.hid ⟨ks, sm', rw', rfl, HPM.out, hdw.pr, HPI.out, hdw.fr, hdw.sp⟩
      clear htk
      generalize lowSum rw least ks = Z at *
      go_wp2_with fail
      go_ret
      obtain ⟨ks', sm2, rw2, e, h⟩ := HE.out
      exact ⟨ks', sm2, rw2, congrArg Ending.returned e, h⟩
/-- how many sums above 0 lie below a pane -/
def DropCount (A : List Ad) (least : Int) (c : Nat) : Prop := ∃ L : List CK, L.Nodup ∧ L.length = c ∧ ∀ k n, (k, n) ∈ L ↔ n < least ∧ sget A k n ≠ 0
theorem DropCount.uniq {A B : List Ad} {least : Int} {c d : Nat} (h : DropCount A least c) (h' : DropCount B least d) (e : ∀ k n, n < least → sget A k n = sget B k n) : c = d := by
  obtain ⟨L, n1, l1, m1⟩ := h
  obtain ⟨M, n2, l2, m2⟩ := h'
  have hmem : ∀ x, x ∈ L ↔ x ∈ M := fun ⟨k, n⟩ => by
    rw [m1, m2]
    exact and_congr_right fun hn => by rw [e k n hn]
  have h1 := nodup_length n1 (fun x hx => (hmem x).1 hx)
  have h2 := nodup_length n2 (fun x hx => (hmem x).2 hx)
  omega
theorem DropCount.zero {A : List Ad} {least : Int} {c : Nat} (h : DropCount A least c) (e : ∀ k n, n < least → sget A k n = 0) : c = 0 := by
  obtain ⟨L, n1, l1, m1⟩ := h
  cases L with
  | nil => rw [← l1]; rfl
  | cons x L =>
    have := (m1 x.1 x.2).1 (by simp)
    exact absurd (e _ _ this.1) this.2
def lowPairs (rw : Rows) (least : Int) : List ByteArray → List CK
  | [] => []
  | k :: l => (lowOf least (rowL rw k)).map (fun n => (k, n)) ++ lowPairs rw least l
theorem lowPairs_len (rw : Rows) (least : Int) (l : List ByteArray) : (lowPairs rw least l).length = lowSum rw least l := by
  induction l with
  | nil => rfl
  | cons k l ih => simp [lowPairs, lowSum, ih]
theorem lowPairs_mem (rw : Rows) (least : Int) (l : List ByteArray) (k : ByteArray) (n : Int) : (k, n) ∈ lowPairs rw least l ↔ k ∈ l ∧ n < least ∧ n ∈ rowL rw k := by
  induction l with
  | nil => simp [lowPairs]
  | cons j l ih =>
    simp only [lowPairs, List.mem_append, ih, List.mem_map, lowOf, List.mem_filter, decide_eq_true_eq, List.mem_cons, Prod.mk.injEq]
    constructor
    · rintro (⟨m, ⟨h1, h2⟩, rfl, rfl⟩ | ⟨h1, h2⟩)
      · exact ⟨.inl rfl, h2, h1⟩
      · exact ⟨.inr h1, h2⟩
    · rintro ⟨rfl | h1, h2, h3⟩
      · exact .inl ⟨n, ⟨h3, h2⟩, rfl, rfl⟩
      · exact .inr ⟨h1, h2, h3⟩
theorem lowPairs_nodup {rw : Rows} {least : Int} {l : List ByteArray} (hl : l.Nodup) (hr : ∀ k, (rowL rw k).Nodup) : (lowPairs rw least l).Nodup := by
  induction l with
  | nil => simp [lowPairs]
  | cons k l ih =>
    have hl' := List.nodup_cons.1 hl
    rw [lowPairs, List.nodup_append]
    refine ⟨?_, ih hl'.2, fun x hx y hy e => ?_⟩
    · refine List.Pairwise.map _ (fun a b (h : a ≠ b) e => h (Prod.mk.inj e).2) ((hr k).sublist List.filter_sublist)
    · subst e
      obtain ⟨m, _, rfl⟩ := List.mem_map.1 hx
      exact hl'.1 ((lowPairs_mem rw least l k m).1 hy).1
theorem sget_high (A : List Ad) (least : Int) (k : ByteArray) (n : Int) : sget (A.filter fun x => decide (least ≤ x.2.1)) k n = if n < least then 0 else sget A k n := by
  induction A with
  | nil => simp [sget]
  | cons x A ih =>
    by_cases h : least ≤ x.2.1
    · rw [List.filter_cons, if_pos (by simpa using h), sget, ih, sget]
      by_cases e : n < least
      · rw [if_pos e, if_pos e, if_neg (fun c => by omega)]; rfl
      · rw [if_neg e, if_neg e]
    · rw [List.filter_cons, if_neg (by simpa using h), ih, sget]
      by_cases e : n < least
      · rw [if_pos e, if_pos e]
      · rw [if_neg e, if_neg e, if_neg (fun c => by omega), Int.zero_add]
theorem drop_any (p : Nat) (B : List Nat) (wd ad : Int) (A : List Ad) (bf : Int) (w : World) (h : PaneAt w p B wd ad A) (hbf : I64 bf) :
    Calls Try.prog 17 #[.pointer (some ⟨p, 0, none⟩), .int .i64 bf] w fun e w' => ∃ (c : Nat) (B' : List Nat), e = .returned (.int .i64 (c : Int)) ∧ DropCount A (bf / wd) c ∧ PaneAt w' p B' wd ad (A.filter fun x => decide (bf / wd ≤ x.2.1)) ∧ Fr (fun b => b ∈ B) w w' ∧ Spread w B B' := by
  obtain ⟨s, r, sm, rw, rfl, h1, h2⟩ := h.ex
  have a1 := h.a1
  have a2 := h.a2
  refine (drop_walk p s r wd ad sm rw A bf w h1 h2 h.w1 (by omega) h.ok hbf).mono ?_
  rintro e w' ⟨ks, sm', rw', rfl, hp, hr, hs, hf, hsp⟩
  have hnd : ks.Nodup := hp.nodup_iff.2 h2.ndr
  have hmemk : ∀ k n, sget A k n ≠ 0 → k ∈ ks := fun k n hn => by
    refine hp.mem_iff.2 ?_
    cases hg : mget rw k with
    | none => exact absurd (h2.absent k hg n) hn
    | some x => exact List.mem_map.2 ⟨(k, x), mem_of_get hg, rfl⟩
  refine ⟨lowSum rw (bf / wd) ks, pblocks p s r rw', rfl, ⟨lowPairs rw (bf / wd) ks, lowPairs_nodup hnd (fun k => (h2.row k).1), lowPairs_len _ _ _, fun k n => ?_⟩, ⟨fun x hx => h.ok x (List.mem_filter.1 hx).1, h.w1, h.w2, ?_, h.a2, s, r, sm', rw', rfl, hr, hs.ofS (fun k n => ?_)⟩, hf, hsp⟩
  · rw [lowPairs_mem, (h2.row k).2]
    exact ⟨fun h => h.2, fun h => ⟨hmemk k n h.2, h⟩⟩
  · have := List.length_filter_le (fun x : Ad => decide (bf / wd ≤ x.2.1)) A
    omega
  · rw [sget_high]
    by_cases hn : n < bf / wd
    · rw [if_pos hn]
      by_cases hk : k ∈ ks
      · exact leftS_in (by simpa using hk) hn
      · rw [leftS_out (.inl (by simpa using hk))]
        exact Decidable.byContradiction fun c => hk (hmemk k n c)
    · rw [if_neg hn, leftS_out (.inr hn)]
end Go.Proofs.Ytdmcbndkfnlcjaa

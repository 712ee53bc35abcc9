/- The document's Of, Drop, Merge (chapter 12). -/
import Derived.Test.YtcnddbcdkpdkbaaEDAll
namespace Go.Proofs.Ytcnddbcdkpdkbaa
open Go.RowKit Go.MapKept Go.Maps Go.ChangeShapes Go.WideShapes
set_option linter.unusedVariables false
set_option linter.unusedSimpArgs false
theorem upto_of {gap : Int} {L : List Tri} (h : RiseT L) (p : ByteArray) (now : Int) : (allS gap (uptoD L now)).filter (fun s => decide (s.p = p)) = allS gap (uptoT L p now) := by
  have h1 := all_of (gap := gap) (h.filter (fun a => decide (a.2.1 ≤ now))) p
  unfold uptoD
  rw [h1]
  unfold ofP uptoT
  rw [List.filter_filter]
theorem upto_most {L : List Tri} (h : SOk L) (p : ByteArray) : uptoT L p 1099511627776 = ofP L p := by
  unfold uptoT ofP
  refine List.filter_congr fun a ha => ?_
  obtain ⟨-, -, -, -, -, h6⟩ := (okT_iff a).1 (h.ok a ha)
  rw [decide_eq_true h6, Bool.and_true]
theorem uptoD_most {L : List Tri} (h : SOk L) : uptoD L 1099511627776 = L := by
  unfold uptoD
  rw [List.filter_eq_self]
  intro a ha
  obtain ⟨-, -, -, -, -, h6⟩ := (okT_iff a).1 (h.ok a ha)
  exact decide_eq_true h6
theorem snoc_filter {α : Type} {l : List α} {k : Nat} {a : α} (q : α → Bool) (h : l[k]? = some a) : (l.take (k + 1)).filter q = (l.take k).filter q ++ if q a then [a] else [] := by
  rw [List.take_add_one, h, List.filter_append]
  simp [List.filter_cons]
set_option maxRecDepth 20000 in
set_option maxHeartbeats 2000000 in
theorem dof_any {w : World} {p : Nat} {B : List Nat} {gap : Int} {L : List Tri} (h : DocAt w p B gap L) (q : ByteArray) (now : Int) (hq : q.size ≤ maxLen) (hnow : I64 now) :
    Calls Try.prog 20 #[.pointer (some ⟨p, 0, none⟩), .string q, .int .i64 now] w fun e w' => ∃ (b : Option Addr) (c : Nat) (svs : List SV), e = .returned (.slice b svs.length c) ∧ svs.length ≤ c ∧ c ≤ maxLen ∧ SvIn w' b svs ∧ svs.map seOf = allS gap (uptoT L q now) ∧ Below w.heap.size w w' := by
  obtain ⟨i0, hi0T, hz0, hz1, hz2⟩ := info_parts infoRSesD
  have HAL := Lib.hid (dall_any h now hnow)
  have HOK := Lib.hid h.ok
  have HLE : Hid ((allS gap (uptoD L now)).length ≤ 100000) := Lib.hid (by
    have h1 := all_le gap (uptoD L now)
    have h2 : (uptoD L now).length ≤ L.length := List.length_filter_le _ _
    have := h.n
    omega)
  clear h
  go_enter Try.func20, Try.ntmps20
  go_wp2_with fail
  refine HAL.out.mono ?_
  rintro e W ⟨b, c, svs, rfl, q1, q2, q3, q4, q5⟩
  have H := Lib.hid q3
  have HQ := Lib.hid q4
  have HB := Lib.hid q5
  have hle : svs.length ≤ 100000 := by have := HLE.out; rw [← q4, List.length_map] at this; exact this
  clear q3 q4 q5 HAL HLE
  obtain ⟨n, hn⟩ : ∃ n, svs.length = n := ⟨_, rfl⟩
  have HN := Lib.hid hn
  rw [hn] at hle q1 ⊢
  clear hn
  go_wp2_with fail
  go_loopw [8, 9] (fun u c wr => ∃ k : Nat, k ≤ n ∧ c = .int .i64 k ∧ Hid (MkG 49 4 svC W wr u ((svs.take k).filter fun z => decide (z.p = q)))) (fun _ c _ => n - (intOf c).toNat)
  case atStart => exact ⟨0, Nat.zero_le _, rfl, Lib.hid (MkG.nil W)⟩
  case round =>
    obtain ⟨k, hk, rfl, HM⟩ := hrel
    by_cases hlt : k < n
    · obtain ⟨x, hx⟩ : ∃ x, svs[k]? = some x := ⟨svs[k]'(by rw [HN.out]; exact hlt), List.getElem?_eq_getElem _⟩
      obtain ⟨Bz, off, rfl, hBz, d0, d1, d2, d3⟩ := svAt (H.out.i.bel HM.out.bl) hx
      have hk0 : (0 : Int) ≤ (k : Int) := by omega
      have hk1 : (k : Int) < (n : Int) := by omega
      have hsn := snoc_filter (fun z : SV => decide (z.p = q)) hx
      have hal : ((svs.take k).filter fun z => decide (z.p = q)).length ≤ 100000 := by
        have h1 := List.length_filter_le (fun z : SV => decide (z.p = q)) (svs.take k)
        rw [List.length_take] at h1
        omega
      clear hx
      by_cases hp : x.p = q
      · have u1 : (x.p.toList == q.toList) = true := by rw [bytesEq]; exact decide_eq_true hp
        have HSN : Hid ((svs.take (k + 1)).filter (fun z => decide (z.p = q)) = (svs.take k).filter (fun z => decide (z.p = q)) ++ [x]) := Lib.hid (by rw [hsn]; simp [hp])
        obtain ⟨xl, hxl⟩ : ∃ xl, x.its.length = xl := ⟨_, rfl⟩
        have HXL := Lib.hid hxl
        rw [hxl] at d3
        have HLN : Hid (((svs.take k).filter fun z => decide (z.p = q)).length + [x].length ≤ 1000000) := Lib.hid (by rw [List.length_singleton]; omega)
        have HM2 := Lib.hid (HM.out.alloc (.cells #[.string x.p, .int .i64 x.f, .int .i64 x.t, .slice x.ib xl x.ic] 49))
        have HIN : Hid (InW (wr.alloc (.cells #[.string x.p, .int .i64 x.f, .int .i64 x.t, .slice x.ib xl x.ic] 49)) (some ⟨wr.heap.size, 0, none⟩) 4 ([x].map svC)) := Lib.hid (inw_one (f := svC) (x := x) (by rw [← HXL.out]; exact Bk.new wr (svC x) 49))
        clear hp hsn hxl hal
        generalize (svs.take k).filter (fun z => decide (z.p = q)) = acc at *
        go_wp2_with (at_builtin; refine wpList_append_m svLen svOne _ rfl _ _ _ rfl 49 i0 _ 56 Try.underlying34 hi0T hz0 hz1 hz2 rfl (by decide) (by omega) u8 acc [x] rfl HM2.out.tx (some ⟨wr.heap.size, 0, none⟩) 1 1 rfl rfl HIN.out HLN.out ?_; intro v5 w5 o5 f5 h5; have HM5 := Lib.hid (HM2.out.more o5 f5 h5); clear o5 f5 h5)
        go_wp2_with fail
        go_roundw
        case rel => exact ⟨k + 1, by omega, by go_num, by rw [HSN.out]; exact HM5⟩
        case measure => simp [intOf]; omega
      · have u1 : (x.p.toList == q.toList) = false := by rw [bytesEq]; exact decide_eq_false hp
        have u2 : ¬ x.p.toList = q.toList := by intro h; rw [h] at u1; simp at u1
        have HSN : Hid ((svs.take (k + 1)).filter (fun z => decide (z.p = q)) = (svs.take k).filter (fun z => decide (z.p = q))) := Lib.hid (by rw [hsn]; simp [hp])
        clear hp hsn hal
        go_wp2_with fail
        go_roundw
        case rel => exact ⟨k + 1, by omega, by go_num, by rw [HSN.out]; exact HM⟩
        case measure => simp [intOf]; omega
    · obtain rfl : k = n := by omega
      rw [List.take_of_length_le (by rw [HN.out]; exact Nat.le_refl _)] at HM
      obtain ⟨ub, uc, hu, h1, h2, h3⟩ := HM.out.read svLen (by omega)
      subst hu
      have HI := Lib.hid h3
      go_wp2_with fail
      go_ret
      refine ⟨ub, uc, svs.filter (fun z => decide (z.p = q)), rfl, h1, h2, ⟨HI.out, fun x hx => ⟨(H.out.it x (List.mem_filter.1 hx).1).1.bel HM.out.bl, (H.out.it x (List.mem_filter.1 hx).1).2⟩⟩, ?_, HB.out.trans (HM.out.bl.mono HB.out.size)⟩
      rw [← upto_of HOK.out.rise, ← HQ.out, List.filter_map]
      rfl
set_option maxRecDepth 20000 in
set_option maxHeartbeats 2000000 in
theorem ddrop_any {w : World} {p : Nat} {B : List Nat} {gap : Int} {L : List Tri} (h : DocAt w p B gap L) (q : ByteArray) (hq : q.size ≤ maxLen) :
    Calls Try.prog 27 #[.pointer (some ⟨p, 0, none⟩), .string q] w fun e w' => e = .returned (.int .i64 ((allS gap (ofP L q)).length : Nat)) ∧ (∃ B', DocAt w' p B' gap (L.filter fun a => !decide (a.1 = q)) ∧ Sprd w B B') ∧ Fr (fun b => b ∈ B) w w' := by
  obtain ⟨i0, hi0T, hz0, hz1, hz2⟩ := info_parts infoAdd
  have HOF := Lib.hid (dof_any h q 1099511627776 hq (by unfold I64; omega))
  have HD := Lib.hid h
  have HOK := Lib.hid h.ok
  obtain ⟨v, hd, hrow, hB, hne⟩ := h.ex
  obtain ⟨vb, vc, rfl, hlc, hmc, hin, _⟩ := inw_of_rowm aLen (by omega) hrow
  have hnn := h.n
  obtain ⟨n, hln⟩ : ∃ n, L.length = n := ⟨_, rfl⟩
  have Hn := Lib.hid hln
  rw [hln] at hd hnn hlc
  have HDC : Hid (∀ W, Below w.heap.size w W → Bk W p [.int .i64 gap, .slice vb n vc] 62 ∧ InW W vb 3 (L.map aC)) := Lib.hid (fun W hW => ⟨hd.bel hW, hin.bel hW⟩)
  have HPB : Hid (p ∈ B) := Lib.hid (by rw [hB]; simp)
  have hpl := hd.lt
  clear h hd hrow hin hln hB hne
  go_enter Try.func27, Try.ntmps27
  go_wp2_with fail
  refine HOF.out.mono ?_
  rintro e W ⟨b, c, svs, rfl, q1, q2, q3, q4, q5⟩
  have HB := Lib.hid q5
  have HNS : Hid (svs.length = (allS gap (ofP L q)).length) := Lib.hid (by have := congrArg List.length q4; rw [List.length_map, upto_most HOK.out] at this; exact this)
  clear q1 q2 q3 q4 q5 HOF
  obtain ⟨ns, hns⟩ : ∃ ns, svs.length = ns := ⟨_, rfl⟩
  rw [hns] at HNS ⊢
  clear hns
  go_wp2_with fail
  go_loopw [6, 7] (fun u c wr => ∃ k : Nat, k ≤ n ∧ c = .int .i64 k ∧ Hid (MkG 31 3 aC W wr u ((L.take k).filter fun a => !decide (a.1 = q)))) (fun _ c _ => n - (intOf c).toNat)
  case atStart => exact ⟨0, Nat.zero_le _, rfl, Lib.hid (MkG.nil W)⟩
  case round =>
    obtain ⟨k, hk, rfl, HM⟩ := hrel
    have HBW := Lib.hid (HB.out.trans (HM.out.bl.mono HB.out.size))
    have hdc := (HDC.out _ HBW.out).1
    have c1 : wr.cell? ⟨p, 1, none⟩ = some (.slice vb n vc) := hdc.cell 1
    by_cases hlt : k < n
    · obtain ⟨x, hx⟩ : ∃ x, L[k]? = some x := ⟨L[k]'(by rw [Hn.out]; exact hlt), List.getElem?_eq_getElem _⟩
      obtain ⟨Bz, off, rfl, hBz, d0, d1, d2⟩ := aAt (HDC.out _ HBW.out).2 hx
      have hk0 : (0 : Int) ≤ (k : Int) := by omega
      have hk1 : (k : Int) < (n : Int) := by omega
      have hsn := snoc_filter (fun a : Tri => !decide (a.1 = q)) hx
      have hal : ((L.take k).filter fun a => !decide (a.1 = q)).length ≤ 100000 := by
        have h1 := List.length_filter_le (fun a : Tri => !decide (a.1 = q)) (L.take k)
        rw [List.length_take] at h1
        omega
      clear hx hdc
      by_cases hp : x.1 = q
      · have u1 : (x.1.toList == q.toList) = true := by rw [bytesEq]; exact decide_eq_true hp
        have u1b : (x.1.toList != q.toList) = false := by simp [bne, u1]
        have HSN : Hid ((L.take (k + 1)).filter (fun a => !decide (a.1 = q)) = (L.take k).filter (fun a => !decide (a.1 = q))) := Lib.hid (by rw [hsn]; simp [hp])
        clear hp hsn hal
        go_wp2_with fail
        go_roundw
        case rel => exact ⟨k + 1, by omega, by go_num, by rw [HSN.out]; exact HM⟩
        case measure => simp [intOf]; omega
      · have u1 : (x.1.toList == q.toList) = false := by rw [bytesEq]; exact decide_eq_false hp
        have u1b : (x.1.toList != q.toList) = true := by simp [bne, u1]
        have u2 : ¬ x.1.toList = q.toList := by intro h; rw [h] at u1; simp at u1
        have HSN : Hid ((L.take (k + 1)).filter (fun a => !decide (a.1 = q)) = (L.take k).filter (fun a => !decide (a.1 = q)) ++ [x]) := Lib.hid (by rw [hsn]; simp [hp])
        have HLN : Hid (((L.take k).filter fun a => !decide (a.1 = q)).length + [x].length ≤ 1000000) := Lib.hid (by rw [List.length_singleton]; omega)
        have HM2 := Lib.hid (HM.out.alloc (.cells #[.string x.1, .int .i64 x.2.1, .string x.2.2] 31))
        have HIN : Hid (InW (wr.alloc (.cells #[.string x.1, .int .i64 x.2.1, .string x.2.2] 31)) (some ⟨wr.heap.size, 0, none⟩) 3 ([x].map aC)) := Lib.hid (inw_one (f := aC) (x := x) (Bk.new wr (aC x) 31))
        clear hp hsn hal HBW
        generalize (L.take k).filter (fun a => !decide (a.1 = q)) = acc at *
        go_wp2_with (at_builtin; refine wpList_append_m aLen aOne _ rfl _ _ _ rfl 31 i0 _ 40 Try.underlying22 hi0T hz0 hz1 hz2 rfl (by decide) (by omega) u6 acc [x] rfl HM2.out.tx (some ⟨wr.heap.size, 0, none⟩) 1 1 rfl rfl HIN.out HLN.out ?_; intro v5 w5 o5 f5 h5; have HM5 := Lib.hid (HM2.out.more o5 f5 h5); clear o5 f5 h5)
        go_wp2_with fail
        go_roundw
        case rel => exact ⟨k + 1, by omega, by go_num, by rw [HSN.out]; exact HM5⟩
        case measure => simp [intOf]; omega
    · obtain rfl : k = n := by omega
      rw [List.take_of_length_le (by rw [Hn.out]; exact Nat.le_refl _)] at HM
      have HBK := Lib.hid hdc
      have pf : wr.frozen? ⟨p, 1, none⟩ = false := hdc.free 1
      clear hdc
      obtain ⟨ub, uc, hu, -, -, -⟩ := HM.out.read aLen (by omega)
      obtain ⟨ll, hll⟩ : ∃ ll, (L.filter fun a => !decide (a.1 = q)).length = ll := ⟨_, rfl⟩
      rw [hll] at hu
      subst hu
      clear hll
      go_wp2_with fail
      go_ret
      have f8 : Fr (fun b => b = p) wr (wr.setCell ⟨p, 1, none⟩ (Value.slice ub ll uc)) := (Fr.refl _ wr).setCell p 1 _ (.inr rfl)
      have hnw : ∀ b, (Value.slice ub ll uc).ownBlock = some b → w.heap.size ≤ b := fun b hb => Nat.le_trans HB.out.size (HM.out.nw b hb)
      refine ⟨by rw [← HNS.out]; rfl, ⟨p :: (Value.slice ub ll uc).ownBlock.toList, ⟨HOK.out.filter _, HD.out.g, Nat.le_trans (List.length_filter_le _ _) HD.out.n, (Value.slice ub ll uc), HBK.out.set 1 (Value.slice ub ll uc), f8.row HM.out.tx (fun b hb hbp => by have := hnw b hb; omega), rfl, fun hb => by have := hnw p hb; omega⟩, fun b hb => ?_⟩, ?_⟩
      · rcases List.mem_cons.1 hb with rfl | hb
        · exact .inl HPB.out
        · exact .inr (hnw b (Option.mem_toList.1 hb))
      · exact (Fr.of_bel HBW.out).setCell p 1 _ (.inr HPB.out)
section
variable {w0 w : World} {os : List Ob12} {i p : Nat} {gap : Int} {L : List Tri}
theorem h_dall (h : Here K12 w0 w os) (hi : os[i]? = some (.doc p gap L)) (now : Int) (hnow : I64 now) :
    Calls Try.prog 22 #[.pointer (some ⟨p, 0, none⟩), .int .i64 now] w fun e w' => ∃ (b : Option Addr) (c : Nat) (svs : List SV), e = .returned (.slice b svs.length c) ∧ svs.length ≤ c ∧ c ≤ maxLen ∧ SvIn w' b svs ∧ svs.map seOf = allS gap (uptoD L now) ∧ Below w.heap.size w w' := by
  obtain ⟨B, h1⟩ := h_doc h hi
  exact dall_any h1 now hnow
theorem h_dallM (h : Here K12 w0 w os) (hi : os[i]? = some (.doc p gap L)) :
    Calls Try.prog 22 #[.pointer (some ⟨p, 0, none⟩), .int .i64 1099511627776] w fun e w' => ∃ (b : Option Addr) (c : Nat) (svs : List SV), e = .returned (.slice b svs.length c) ∧ svs.length ≤ c ∧ c ≤ maxLen ∧ SvIn w' b svs ∧ svs.map seOf = allS gap L ∧ Below w.heap.size w w' := by
  obtain ⟨B, h1⟩ := h_doc h hi
  have := dall_any h1 1099511627776 (by unfold I64; omega)
  rwa [uptoD_most h1.ok] at this
theorem h_dof (h : Here K12 w0 w os) (hi : os[i]? = some (.doc p gap L)) (q : ByteArray) (now : Int) (hq : q.size ≤ maxLen) (hnow : I64 now) :
    Calls Try.prog 20 #[.pointer (some ⟨p, 0, none⟩), .string q, .int .i64 now] w fun e w' => ∃ (b : Option Addr) (c : Nat) (svs : List SV), e = .returned (.slice b svs.length c) ∧ svs.length ≤ c ∧ c ≤ maxLen ∧ SvIn w' b svs ∧ svs.map seOf = allS gap (uptoT L q now) ∧ Below w.heap.size w w' := by
  obtain ⟨B, h1⟩ := h_doc h hi
  exact dof_any h1 q now hq hnow
theorem h_dofM (h : Here K12 w0 w os) (hi : os[i]? = some (.doc p gap L)) (q : ByteArray) (hq : q.size ≤ maxLen) :
    Calls Try.prog 20 #[.pointer (some ⟨p, 0, none⟩), .string q, .int .i64 1099511627776] w fun e w' => ∃ (b : Option Addr) (c : Nat) (svs : List SV), e = .returned (.slice b svs.length c) ∧ svs.length ≤ c ∧ c ≤ maxLen ∧ SvIn w' b svs ∧ svs.map seOf = allS gap (ofP L q) ∧ Below w.heap.size w w' := by
  obtain ⟨B, h1⟩ := h_doc h hi
  have := dof_any h1 q 1099511627776 hq (by unfold I64; omega)
  rwa [upto_most h1.ok] at this
theorem h_ddrop (h : Here K12 w0 w os) (hi : os[i]? = some (.doc p gap L)) (q : ByteArray) (hq : q.size ≤ maxLen) :
    Calls Try.prog 27 #[.pointer (some ⟨p, 0, none⟩), .string q] w fun e w' => e = .returned (.int .i64 ((allS gap (ofP L q)).length : Nat)) ∧ Here K12 w0 w' (os.set i (.doc p gap (L.filter fun a => !decide (a.1 = q)))) := by
  obtain ⟨B, h1, _, h3, _⟩ := h.use hi
  refine (ddrop_any h1 q hq).mono ?_
  rintro e w' ⟨rfl, ⟨B', h4, h5⟩, h6⟩
  exact ⟨rfl, h3 w' (.doc p gap _) B' h4 h6 h5⟩
end
end Go.Proofs.Ytcnddbcdkpdkbaa

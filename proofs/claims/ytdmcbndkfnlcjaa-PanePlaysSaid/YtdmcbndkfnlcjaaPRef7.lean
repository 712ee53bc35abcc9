/- Contract of the document's Drop: the walk. -/
import Derived.Test.YtdmcbndkfnlcjaaPRef6
namespace Go.Proofs.Ytdmcbndkfnlcjaa
open Go.RowKit Go.MapKept Go.Maps
set_option linter.unusedVariables false
set_option maxRecDepth 100000 in
set_option maxHeartbeats 16000000 in
theorem rdrop_any (m : Nat) (v : Value) (wd cnt : Int) (A : List Ad) (bf : Int) (w : World) (h : RefAt w m v wd cnt A) (hlen : A.length ≤ 1000) (hbf : I64 bf) :
    Calls Try.prog 37 #[.pointer (some ⟨m, 0, none⟩), .int .i64 bf] w fun e w' => ∃ (c : Nat) (v' : Value), e = .returned (.int .i64 (c : Int)) ∧ DropCount A (bf / wd) c ∧ RefAt w' m v' wd cnt (highA (bf / wd) A) ∧ (∀ b, v'.ownBlock = some b → w.heap.size ≤ b) ∧ Fr (fun b => b = m) w w' := by
  obtain ⟨bv, cv, rfl, _, _, _, _⟩ := inw_of_rowm adLen (by omega) h.row
  obtain ⟨i0, hi0, hz0, hz1, hz2⟩ := info_parts infoSum
  have H := Lib.hid h
  have HVI : Hid (∀ W, Below w.heap.size w W → InW W bv 3 (A.map adC)) := Lib.hid (fun W hb => by
    obtain ⟨b', c', h1, _, _, h2, _⟩ := inw_of_rowm adLen (by omega) (h.bel hb).row
    cases h1
    exact h2)
  have HOK := Lib.hid h.ok
  have hml := h.bk.lt
  clear h
  generalize hal : A.length = al at *
  have HAL := Lib.hid hal
  clear hal
  have hfl := floor_le bf wd H.out.w1 hbf
  unfold I64 at hfl
  obtain ⟨lo, hlo⟩ : ∃ lo, bf / wd = lo := ⟨_, rfl⟩
  have HPA : Hid (∀ (W : World), Below w.heap.size w W → Calls Try.prog 36 #[.pointer (some ⟨m, 0, none⟩), .int .i64 bf] W fun e w' => e = .returned (.int .i64 lo) ∧ W = w') := Lib.hid (fun W hb => by
    rw [← hlo]
    exact rpane_any m wd bf W (H.out.bel hb).cells.1 H.out.w1 hbf)
  rw [hlo] at hfl ⊢
  clear hlo
  go_enter Try.func37, Try.ntmps37
  go_wp2_with fail
  go_loopw [5, 6, 7] (fun uk ug c wr => ∃ (i : Nat) (g : List Ad), i ≤ al ∧ c = .int .i64 i ∧ DropIn w wr A lo i uk ug g) (fun _ _ c _ => al - (intOf c).toNat)
  case atStart => exact ⟨0, [], by omega, rfl, ⟨⟨rfl, .inl ⟨rfl, rfl⟩⟩, ⟨rfl, .inl ⟨rfl, rfl⟩⟩, by simp [Value.ownBlock], by simp [Value.ownBlock], by simp [Value.ownBlock], Below.refl _ _, Gone.nil A lo⟩⟩
  case round =>
    obtain ⟨i, g, hin, rfl, hdi⟩ := hrel
    obtain ⟨bk, ck, hbk, hk1, hk2, hki, _⟩ := inw_of_rowm adLen (by omega) hdi.rk
    obtain ⟨bg, cg, rfl, hg1, hg2, hgi, _⟩ := inw_of_rowm adLen (by omega) hdi.rg
    have hgl := hdi.go.len
    have HDI := Lib.hid hdi
    have HGI := Lib.hid hgi
    clear hdi hki hgi hbk
    obtain ⟨c0, c1, c2⟩ := (H.out.bel HDI.out.bl).cells
    generalize hgn : g.length = gn at *
    have Hgn := Lib.hid hgn
    clear hgn
    by_cases hlt : i < al
    · obtain ⟨a, ha⟩ : ∃ a, A[i]? = some a := ⟨A[i]'(by rw [HAL.out]; exact hlt), List.getElem?_eq_getElem _⟩
      obtain ⟨B, off, rfl, d0, d1, d2⟩ := sums_at (HVI.out _ HDI.out.bl) ha
      have HA := Lib.hid ha
      have hao := HOK.out a (List.mem_of_getElem? ha)
      unfold AdOk at hao
      have HAO := Lib.hid hao
      have hi0' : (0 : Int) ≤ (i : Int) := by omega
      have hi1' : (i : Int) < (al : Int) := by omega
      clear ha hao
      have HP0 : Hid (∀ n, Calls Try.prog 36 #[.pointer (some ⟨m, 0, none⟩), .int .i64 bf] (wr.drewN n) fun e w' => e = .returned (.int .i64 lo) ∧ wr.drewN n = w') := Lib.hid (fun n => HPA.out _ (bdrewN HDI.out.bl n))
      by_cases hlo : lo ≤ a.2.1
      · have HLN : Hid ((highA lo (A.take i)).length + [a].length ≤ 1000000) := Lib.hid (by
          have h1 := highA_len lo (A.take i)
          have h2 : (A.take i).length ≤ al := by rw [List.length_take, HAL.out]; omega
          simp; omega)
        go_wp2_with fail
        go_quiet ((go_at_call 36; exact quiet_same (HP0.out _)))
        have HW : Hid (DropIn w (wr.drewN nq) A lo i u5 (.slice bg gn cg) g) := Lib.hid (HDI.out.still ((Fr.refl none' wr).drewN nq))
        have HR := Lib.hid (((Fr.refl none' (wr.drewN nq)).alloc (.cells #[.string a.1, .int .i64 a.2.1, .int .i64 a.2.2] 70)).row HW.out.rk (fun _ _ => id))
        go_wp2_with (at_builtin; refine wpList_append_m adLen adOne _ rfl (.tmp 31) (.tmp 39) _ rfl 70 i0 _ 32 Try.underlying48 hi0 hz0 hz1 hz2 rfl (by decide) (by omega) u5 (highA lo (A.take i)) [a] rfl HR.out (some ⟨(wr.drewN nq).heap.size, 0, none⟩) 1 1 rfl rfl (inw_one (f := adC) (sz := 3) (x := a) (Bk.new (wr.drewN nq) (adC a) 70)) HLN.out ?_; intro v7 w7 o7 f7 h7; have O7 := Lib.hid o7; have F7 := Lib.hid f7; have H7 := Lib.hid h7; clear o7 f7 h7)
        go_roundw
        case rel => exact ⟨i + 1, g, by omega, by go_num, (HW.out.still ((Fr.refl none' (wr.drewN nq)).alloc _)).keep HA.out hlo O7.out F7.out H7.out⟩
        case measure => simp [intOf]; omega
      · have hlo' : a.2.1 < lo := by omega
        have t0 : decide (lo ≤ a.2.1) = false := decide_eq_false hlo
        have HGA : Hid (∀ j, j < gn → ∃ x Bx ox, g[j]? = some x ∧ bg = some ⟨Bx, ox, none⟩ ∧ ∀ z, (wr.drewN z).cell? ⟨Bx, ox + j * 3, none⟩ = some (.string x.1) ∧ (wr.drewN z).cell? ⟨Bx, ox + j * 3 + 1, none⟩ = some (.int .i64 x.2.1)) := Lib.hid (fun j hj => by
          obtain ⟨x, hx⟩ : ∃ x, g[j]? = some x := ⟨g[j]'(by rw [Hgn.out]; exact hj), List.getElem?_eq_getElem _⟩
          obtain ⟨Bx, ox, e0, e1, e2, _⟩ := sums_at HGI.out hx
          exact ⟨x, Bx, ox, hx, e0, fun z => ⟨e1, e2⟩⟩)
        clear hlo
        obtain ⟨z0, hz0'⟩ : ∃ z0, (a.2.2 == 0) = z0 := ⟨_, rfl⟩
        have HZ0 := Lib.hid hz0'
        go_wp2_with fail
        go_quiet ((go_at_call 36; exact quiet_same (HP0.out _)))
        clear t0
        go_wp2_with fail
        clear hz0'
        go_loopw [8, 9] (fun u c wv => ∃ (j z : Nat), j ≤ gn ∧ c = .int .i64 j ∧ wv = wr.drewN z ∧ u = .bool (z0 || metB (g.take j) a)) (fun _ c _ => gn - (intOf c).toNat)
        case atStart => exact ⟨0, nq, by omega, rfl, rfl, by simp [metB]⟩
        case round =>
          obtain ⟨j, z, hj, rfl, rfl, rfl⟩ := hrel
          have e1 : (wr.drewN z).cell? ⟨m, 1, none⟩ = some (.slice (some ⟨B, off, none⟩) al cv) := c1
          have g0 : (wr.drewN z).cell? ⟨B, off + i * 3, none⟩ = some (.string a.1) := d0
          have g1 : (wr.drewN z).cell? ⟨B, off + i * 3 + 1, none⟩ = some (.int .i64 a.2.1) := d1
          have g2 : (wr.drewN z).cell? ⟨B, off + i * 3 + 2, none⟩ = some (.int .i64 a.2.2) := d2
          by_cases hjt : j < gn
          · obtain ⟨x, Bx, ox, hx, hbg, hcs⟩ := HGA.out j hjt
            obtain ⟨x0, x1⟩ := hcs z
            have HT := Lib.hid (metB_take hx a)
            have hj0 : (0 : Int) ≤ (j : Int) := by omega
            have hj1 : (j : Int) < (gn : Int) := by omega
            clear hcs hx g2 c0 c1 c2 d0 d1 d2
            subst hbg
            generalize hW : wr.drewN z = V at *
            have HW := Lib.hid hW
            clear hW
            generalize hM : metB (g.take j) a = M at *
            by_cases hk : x.1 = a.1
            · have t1 : (x.1.toList == a.1.toList) = true := by rw [bytesEq]; exact decide_eq_true hk
              by_cases hp : x.2.1 = a.2.1
              · have t2 : (x.2.1 == a.2.1) = true := by simpa using hp
                have HM := Lib.hid hM
                have HKP := Lib.hid (And.intro hk hp)
                clear hM hk hp
                go_wp2_with fail
                go_quiet (fail)
                go_wp2_with fail
                go_roundw
                case rel => exact ⟨j + 1, z + nq, by omega, by go_num, by rw [← HW.out]; simp, by rw [HT.out, decide_eq_true HKP.out]; simp⟩
                case measure => simp [intOf]; omega
              · have t2 : (x.2.1 == a.2.1) = false := by simpa using hp
                have HM := Lib.hid hM
                have HKP : Hid (¬ (x.1 = a.1 ∧ x.2.1 = a.2.1)) := Lib.hid (fun h => hp h.2)
                clear hM hk hp
                go_wp2_with fail
                go_quiet (fail)
                go_wp2_with fail
                go_roundw
                case rel => exact ⟨j + 1, z + nq, by omega, by go_num, by rw [← HW.out]; simp, by rw [HT.out, decide_eq_false HKP.out]; simp⟩
                case measure => simp [intOf]; omega
            · have t1 : (x.1.toList == a.1.toList) = false := by rw [bytesEq]; exact decide_eq_false hk
              have HM := Lib.hid hM
              have HKP : Hid (¬ (x.1 = a.1 ∧ x.2.1 = a.2.1)) := Lib.hid (fun h => hk h.1)
              clear hM hk
              go_wp2_with fail
              go_quiet (fail)
              go_wp2_with fail
              go_roundw
              case rel => exact ⟨j + 1, z + nq, by omega, by go_num, by rw [← HW.out]; simp, by rw [HT.out, decide_eq_false HKP.out]; simp⟩
              case measure => simp [intOf]; omega
          · obtain rfl : j = gn := by omega
            have htk : g.take j = g := List.take_of_length_le (by rw [Hgn.out]; exact Nat.le_refl _)
            rw [htk]
            have HW : Hid (DropIn w (wr.drewN z) A lo i u5 (.slice bg j cg) g) := Lib.hid (HDI.out.still ((Fr.refl none' wr).drewN z))
            generalize wr.drewN z = V at *
            clear htk c0 c1 c2 d0 d1 d2 hjt HGA HDI
            cases hmet : (z0 || metB g a) with
            | true =>
              have HS : Hid (a.2.2 ≠ 0 → cellOf a ∈ g.map cellOf) := Lib.hid (fun h => (metB_mem g a).1 (by
                have h1 : z0 = false := by rw [← HZ0.out]; simpa using h
                rw [h1] at hmet; simpa using hmet))
              clear hmet
              go_wp2_with fail
              go_roundw
              case rel => exact ⟨i + 1, g, by omega, by go_num, HW.out.skip HA.out hlo' HS.out⟩
              case measure => simp [intOf]; omega
            | false =>
              have HS : Hid (a.2.2 ≠ 0 ∧ cellOf a ∉ g.map cellOf) := Lib.hid (by
                simp only [Bool.or_eq_false_iff] at hmet
                refine ⟨by have := hmet.1; rw [← HZ0.out] at this; simpa using this, fun c => ?_⟩
                have := (metB_mem g a).2 c
                rw [hmet.2] at this; cases this)
              clear hmet
              have HLN : Hid (g.length + [a].length ≤ 1000000) := Lib.hid (by rw [Hgn.out]; simp; omega)
              have HR : Hid ((V.alloc (.cells #[.string a.1, .int .i64 a.2.1, .int .i64 a.2.2] 70)).ownsRow 0 70 3 (.slice bg j cg) g.length (g.flatMap adC)) := Lib.hid (((Fr.refl none' V).alloc _).row HW.out.rg (fun _ _ => id))
              go_wp2_with (at_builtin; refine wpList_append_m adLen adOne _ rfl (.tmp 88) (.tmp 96) _ rfl 70 i0 _ 32 Try.underlying48 hi0 hz0 hz1 hz2 rfl (by decide) (by omega) (.slice bg j cg) g [a] rfl HR.out (some ⟨V.heap.size, 0, none⟩) 1 1 rfl rfl (inw_one (f := adC) (sz := 3) (x := a) (Bk.new V (adC a) 70)) HLN.out ?_; intro v7 w7 o7 f7 h7; have O7 := Lib.hid o7; have F7 := Lib.hid f7; have H7 := Lib.hid h7; clear o7 f7 h7)
              go_roundw
              case rel => exact ⟨i + 1, g ++ [a], by omega, by go_num, (HW.out.still ((Fr.refl none' V).alloc _)).more HA.out hlo' HS.out.1 HS.out.2 O7.out F7.out H7.out⟩
              case measure => simp [intOf]; omega
    · obtain rfl : i = al := by omega
      have htk : A.take i = A := List.take_of_length_le (by rw [HAL.out]; exact Nat.le_refl _)
      have hrk := HDI.out.rk
      rw [htk] at hrk
      clear htk
      obtain ⟨bk, ck, rfl, _, _, _, _⟩ := inw_of_rowm adLen (by omega) hrk
      have HRK := Lib.hid hrk
      have HBK := Lib.hid (H.out.bel HDI.out.bl).bk
      have hm1 := (H.out.bel HDI.out.bl).bk.free 1
      have HNK := Lib.hid HDI.out.nk
      clear hrk
      generalize hkl : (highA lo A).length = kl at *
      have HKL := Lib.hid hkl
      clear hkl
      go_wp2_with fail
      go_ret
      refine ⟨gn, rfl, by rw [← Hgn.out]; exact HDI.out.go.count HAL.out HOK.out, .slice bk kl ck, ⟨HBK.out.set 1 _, ?_, ?_, H.out.w1, H.out.w2, ?_, H.out.a2, fun x hx => HOK.out x (List.mem_filter.1 hx).1⟩, HNK.out, ?_⟩
      · rw [HKL.out]
        exact ((Fr.refl (fun b => b = m) wr).setCell m 1 _ (.inr rfl)).row HRK.out (fun b hb e => by have := HNK.out b hb; omega)
      · intro e
        have := HNK.out m e; omega
      · have := H.out.a1
        have := highA_len lo A
        have := HAL.out
        omega
      · exact (Fr.of_bel HDI.out.bl).trans ((Fr.refl (fun b => b = m) wr).setCell m 1 _ (.inr rfl)) (fun _ _ e => e)
end Go.Proofs.Ytdmcbndkfnlcjaa

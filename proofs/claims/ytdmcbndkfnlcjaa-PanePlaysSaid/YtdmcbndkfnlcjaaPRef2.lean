/- Contract of the document's Add. -/
import Derived.Test.YtdmcbndkfnlcjaaPRef
namespace Go.Proofs.Ytdmcbndkfnlcjaa
open Go.RowKit Go.MapKept Go.Maps
set_option linter.unusedVariables false
set_option maxHeartbeats 1000000 in
theorem radd_no (m : Nat) (v : Value) (wd cnt : Int) (A : List Ad) (k : ByteArray) (a n : Int) (w : World) (h : RefAt w m v wd cnt A) (hk : k.size ≤ 100) (ha : I64 a) (hn : I64 n) (hm : mayAdd k a n cnt = false) :
    Calls Try.prog 21 #[.pointer (some ⟨m, 0, none⟩), .string k, .int .i64 a, .int .i64 n] w fun e w' => e = .returned (.bool false) ∧ w = w' := by
  obtain ⟨c0, c1, c2⟩ := h.cells
  have HA := Lib.hid h.a2
  unfold I64 at ha hn
  have hm' : ¬ (1 ≤ k.size ∧ k.size ≤ 24 ∧ 0 ≤ a ∧ a ≤ 1099511627776 ∧ 0 ≤ n ∧ n ≤ 1048576 ∧ cnt < 1048576) := fun e => by
    obtain ⟨e1, e2, e3, e4, e5, e6, e7⟩ := e
    simp [mayAdd, e1, e2, e3, e4, e5, e6, e7] at hm
  clear h hm
  have Hm := Lib.hid hm'
  clear hm'
  go_enter Try.func21, Try.ntmps21
  go_wp2_with fail
  all_goals first
    | (go_ret; exact ⟨rfl, rfl⟩)
    | (exfalso; exact Hm.out ⟨by omega, by omega, by omega, by omega, by omega, by omega, by omega⟩)
set_option maxRecDepth 100000 in
set_option maxHeartbeats 2000000 in
theorem radd_yes (m : Nat) (v : Value) (wd cnt : Int) (A : List Ad) (k : ByteArray) (a n : Int) (w : World) (h : RefAt w m v wd cnt A) (hlen : A.length ≤ 1000) (hm : mayAdd k a n cnt = true) :
    Calls Try.prog 21 #[.pointer (some ⟨m, 0, none⟩), .string k, .int .i64 a, .int .i64 n] w fun e w' => e = .returned (.bool true) ∧ ∃ v', RefAt w' m v' wd (cnt + 1) (A ++ [(k, a / wd, n)]) ∧ (∀ b, v'.ownBlock = some b → w.heap.size ≤ b) ∧ Fr (fun b => b = m) w w' := by
  simp only [mayAdd, Bool.and_eq_true, decide_eq_true_eq] at hm
  obtain ⟨⟨⟨⟨⟨⟨m1, m2⟩, m3⟩, m4⟩, m5⟩, m6⟩, m7⟩ := hm
  obtain ⟨c0, c1, c2⟩ := h.cells
  obtain ⟨i0, hi0, hz0, hz1, hz2⟩ := info_parts infoSum
  have hml := h.bk.lt
  have f1 : w.frozen? ⟨m, 1, none⟩ = false := h.bk.free 1
  have f2 : w.frozen? ⟨m, 2, none⟩ = false := h.bk.free 2
  have hd := ediv_small a wd h.w1 m3 m4
  have hc0 : 0 ≤ cnt := by have := h.a1; omega
  obtain ⟨bv, cv, hv, hv1, hv2, hvi, _⟩ := inw_of_rowm adLen (by omega) h.row
  have hst : InW (w.alloc (.cells #[] 70)) bv 3 (A.map adC) := InW.bel hvi ((Below.refl _ _).alloc (Nat.le_refl _) _)
  have HO4 : Hid ((w.alloc (.cells #[] 70)).ownsRow 0 70 3 (.slice (some ⟨w.heap.size, 0, none⟩) 0 0) ([] : List Ad).length (([] : List Ad).flatMap adC)) := Lib.hid ⟨rfl, .inr ⟨w.heap.size, 0, #[], rfl, Nat.zero_le _, Bk.new w [] 70, Nat.le_refl _, Nat.zero_le _, rfl, rfl⟩⟩
  have H := Lib.hid h
  have HS := Lib.hid hst
  subst hv
  have hl0 : ([] : List Ad).length + A.length ≤ 1000000 := by simp; omega
  clear h hvi hst
  generalize hal : A.length = al at *
  have HAL := Lib.hid hal
  clear hal
  go_enter Try.func21, Try.ntmps21
  go_wp2_with (at_builtin; refine wpList_append_m adLen adOne _ rfl (.tmp 41) (.tmp 45) _ rfl 70 i0 _ 32 Try.underlying48 hi0 hz0 hz1 hz2 rfl (by decide) (by omega) (.slice (some ⟨w.heap.size, 0, none⟩) 0 0) [] A rfl HO4.out bv al cv rfl HAL.out.symm HS.out (by rw [HAL.out]; exact hl0) ?_; intro v5 w5 o5 f5 h5)
  have hf5 : Fr (fun b => b = m) w w5 := ((Fr.refl _ w).alloc (.cells #[] 70)).trans f5 (fun b hlt e => by
    have hb' : w.heap.size = b := by simpa [Value.ownBlock] using e
    omega)
  have hbk5 : Bk w5 m [.int .i64 wd, .slice bv al cv, .int .i64 cnt] 50 := (H.out.bk.old _).fr f5 (fun e => by
    have hb' : w.heap.size = m := by simpa [Value.ownBlock] using e
    omega)
  have hv5 : ∀ b, v5.ownBlock = some b → w.heap.size ≤ b := fun b hb => by
    rcases h5 with h' | h'
    · rw [h'] at hb
      have hb' : w.heap.size = b := by simpa [Value.ownBlock] using hb
      omega
    · have := Option.some.inj (h'.symm.trans hb)
      simp at this; omega
  have HP := Lib.hid (rpane_any m wd a w5 (hbk5.cell 0) H.out.w1 (by unfold I64; omega))
  have HF5 := Lib.hid hf5
  have HK5 := Lib.hid hbk5
  have HV5 := Lib.hid hv5
  have HO5 := Lib.hid o5
  have hz5 : w.heap.size ≤ w5.heap.size := hf5.size
  clear hf5 hbk5 hv5 o5 f5 h5 c0 c1 c2 f1 f2 HS HO4
  generalize hq : a / wd = q at *
  have HQ := Lib.hid hq
  clear hq
  refine HP.out.mono ?_
  rintro e wx ⟨rfl, rfl⟩
  have HN : Hid (InW (w5.alloc (.cells #[.string k, .int .i64 q, .int .i64 n] 70)) (some ⟨w5.heap.size, 0, none⟩) 3 ([((k, q, n) : Ad)].map adC)) := Lib.hid (.inr ⟨w5.heap.size, 0, rfl, by simp, fun i' c' hi' j u hj => by
    have hb := (Bk.new w5 [.string k, .int .i64 q, .int .i64 n] 70).cell j
    cases i' with
    | zero =>
      simp at hi'
      subst hi'
      simp only [Nat.zero_mul, Nat.zero_add]
      exact hb.trans hj
    | succ i' => simp at hi'⟩)
  have HO6 := Lib.hid (((Fr.refl none' w5).alloc (.cells #[.string k, .int .i64 q, .int .i64 n] 70)).row HO5.out (fun _ _ => id))
  have hl1 : ([] ++ A : List Ad).length + [((k, q, n) : Ad)].length ≤ 1000000 := by simp [HAL.out]; omega
  obtain ⟨A3, hA3⟩ : ∃ A3, ([] ++ A) ++ [((k, q, n) : Ad)] = A3 := ⟨_, rfl⟩
  have HFIN : Hid (∀ (v7 : Value) (w7 : World), w7.ownsRow 0 70 3 v7 A3.length (A3.flatMap adC) → Fr (fun b => v5.ownBlock = some b) (w5.alloc (.cells #[.string k, .int .i64 q, .int .i64 n] 70)) w7 → Hence v5 v7 (w5.alloc (.cells #[.string k, .int .i64 q, .int .i64 n] 70)) →
      Bk w7 m [.int .i64 wd, .slice bv al cv, .int .i64 cnt] 50 ∧ (∃ b7 c7 l7, v7 = .slice b7 l7 c7) ∧
      ∃ v', v' = v7 ∧ RefAt ((w7.setCell ⟨m, 1, none⟩ v7).setCell ⟨m, 2, none⟩ (.int .i64 (cnt + 1))) m v' wd (cnt + 1) (A ++ [(k, q, n)]) ∧ (∀ b, v'.ownBlock = some b → w.heap.size ≤ b) ∧ Fr (fun b => b = m) w ((w7.setCell ⟨m, 1, none⟩ v7).setCell ⟨m, 2, none⟩ (.int .i64 (cnt + 1)))) := Lib.hid (fun v7 w7 o7 f7 h7 => by
    have hk7 := (HK5.out.old (.cells #[.string k, .int .i64 q, .int .i64 n] 70)).fr f7 (fun e => by have := HV5.out _ e; omega)
    obtain ⟨b7, c7, hv7, _⟩ := inw_of_rowm adLen (by omega) o7
    have hnew : ∀ b, v7.ownBlock = some b → w.heap.size ≤ b := fun b hb => by
      rcases h7 with h' | h'
      · exact HV5.out b (by rw [← h']; exact hb)
      · have := Option.some.inj (h'.symm.trans hb)
        simp at this; omega
    have hne7 : v7.ownBlock ≠ some m := fun e => by have := hnew m e; omega
    have fm : Fr (fun b => b = m) w7 ((w7.setCell ⟨m, 1, none⟩ v7).setCell ⟨m, 2, none⟩ (.int .i64 (cnt + 1))) := ((Fr.refl (fun b => b = m) w7).setCell m 1 _ (.inr rfl)).setCell m 2 _ (.inr rfl)
    have hA3' : A3 = A ++ [(k, q, n)] := by rw [← hA3]; simp
    refine ⟨hk7, ⟨b7, c7, _, hv7⟩, v7, rfl, ⟨(hk7.set 1 v7).set 2 _, ?_, hne7, H.out.w1, H.out.w2, ?_, by omega, fun x hx => ?_⟩, hnew, ((HF5.out.alloc _).trans f7 (fun b hlt e => by have := HV5.out b e; omega)).trans fm (fun _ _ e => e)⟩
    · rw [← hA3']
      exact fm.row o7 (fun b hb e => hne7 (by rw [← e]; exact hb))
    · have := H.out.a1
      simp; omega
    · rcases List.mem_append.1 hx with h' | h'
      · exact H.out.ok x h'
      · simp at h'; subst h'; exact ⟨m1, m2, hd.1, hd.2, m5, m6⟩)
  go_wp2_with (at_builtin; refine wpList_append_m adLen adOne _ rfl (.tmp 46) (.tmp 53) _ rfl 70 i0 _ 32 Try.underlying48 hi0 hz0 hz1 hz2 rfl (by decide) (by omega) v5 ([] ++ A) [((k, q, n) : Ad)] rfl HO6.out (some ⟨w5.heap.size, 0, none⟩) 1 1 rfl rfl HN.out hl1 ?_; intro v7 w7 o7 f7 h7; rw [hA3] at o7; have hfin := HFIN.out v7 w7 o7 f7 h7; obtain ⟨hk7, ⟨b7, c7, l7, hv7⟩, hlast⟩ := hfin; have HLA := Lib.hid hlast; subst hv7; have e1 := hk7.cell 1; have e2 := hk7.cell 2; have g1 := hk7.free 1; have g2 := hk7.free 2; clear hlast o7 f7 h7)
  go_ret
  obtain ⟨v', _, hlast⟩ := HLA.out
  exact ⟨rfl, v', by rw [HQ.out]; exact hlast⟩
end Go.Proofs.Ytdmcbndkfnlcjaa

/- Contract of the document's Apply of aliases. -/
import Derived.Test.YtgflfjmlhapplaaAApply
namespace Go.Proofs.Ytgflfjmlhapplaa
open Go.RowKit Go.MapKept Go.Maps
set_option linter.unusedVariables false
set_option linter.unusedSimpArgs false
set_option maxRecDepth 100000 in
set_option maxHeartbeats 8000000 in
theorem rapply_any (lb : Option Addr) (lcap : Nat) (l : List Two) (b : Option Addr) (cap : Nat) (evs : List Ev) (w : World) (hlw : InW w lb 2 (l.map twoC)) (hll : l.length ≤ 1000) (hlo : ∀ p ∈ l, okTwo p) (h : InW w b 8 (evs.map evC)) (hl : evs.length ≤ 1000) (hs : ∀ e ∈ evs, e.item.size ≤ 1000) :
    Calls Try.prog 22 #[.slice lb l.length lcap, .slice b evs.length cap] w fun x w' => ∃ v, x = .returned v ∧ MkG 62 8 evC w w' v (applyR l evs) := by
  obtain ⟨i0, hi0T, hz0, hz1, hz2⟩ := info_parts infoEv
  have HIW := Lib.hid h
  have HS := Lib.hid hs
  have NA : Hid (∀ W z, Below w.heap.size w W → z.size ≤ 1000 → Calls Try.prog 30 #[.slice lb l.length lcap, .string z] W fun e w' => e = .returned (.string (nameR l z)) ∧ Below W.heap.size W w') := Lib.hid (fun W z hb hz => rnm_any lb lcap l z W (InW.bel hlw hb) hll hlo hz)
  have HAL : Hid (∀ i, (applyR l (evs.take i)).length ≤ 1000) := Lib.hid (fun i => by have := applyR_len l (evs.take i); rw [List.length_take] at this; omega)
  have HEND : Hid (evs.take evs.length = evs) := Lib.hid List.take_length
  have HM0 : Hid (MkG 62 8 evC w (w.alloc (.cells #[] 62)) (.slice (some ⟨w.heap.size, 0, none⟩) 0 0) (applyR l (evs.take 0))) := Lib.hid (MkG.empty w)
  clear hlw hlo h hs
  generalize l.length = ln at *
  generalize hn : evs.length = n at *
  have Hn := Lib.hid hn
  clear hn
  go_enter Try.func22, Try.ntmps22
  go_wp2_with fail
  go_loopw [5, 6] (fun u c wr => ∃ i : Nat, i ≤ n ∧ c = .int .i64 i ∧ MkG 62 8 evC w wr u (applyR l (evs.take i))) (fun _ c _ => n - (intOf c).toNat)
  case atStart => exact ⟨0, by omega, rfl, HM0.out⟩
  case round =>
    obtain ⟨i, hi, rfl, hmi⟩ := hrel
    have HMI := Lib.hid hmi
    clear hmi
    by_cases hlt : i < n
    · obtain ⟨e, hei⟩ : ∃ e, evs[i]? = some e := ⟨evs[i]'(by rw [Hn.out]; exact hlt), List.getElem?_eq_getElem _⟩
      obtain ⟨B, off, rfl, hB, c0, c1, c2, c3, c4, c5, c6, c7⟩ := evs_at (InW.bel HIW.out HMI.out.bl) hei
      have hes := HS.out e (List.mem_of_getElem? hei)
      have hi0 : (0 : Int) ≤ (i : Int) := by omega
      have hi1 : (i : Int) < (n : Int) := by omega
      have HSN : Hid (applyR l (evs.take (i + 1)) = applyR l (evs.take i) ++ applyS l e) := Lib.hid (by rw [List.take_add_one, hei]; exact applyR_snoc _ _ _)
      have hol := HAL.out i
      clear hei
      generalize applyR l (evs.take i) = o at *
      obtain ⟨N, hN⟩ : ∃ N, wr.heap.size = N := ⟨_, rfl⟩
      obtain ⟨W2, hW2⟩ : ∃ W2, wr.alloc (.cells #[.string e.src, .int .i64 e.num, .int .i64 e.at_, .int .i64 e.kind, .string e.per, .string e.item, .int .i64 e.val, .string e.txt] 62) = W2 := ⟨_, rfl⟩
      have hm2 := HMI.out.alloc (.cells #[.string e.src, .int .i64 e.num, .int .i64 e.at_, .int .i64 e.kind, .string e.per, .string e.item, .int .i64 e.val, .string e.txt] 62)
      have hbx : Bk W2 N (evC e) 62 := by rw [← hW2, ← hN]; exact Bk.new wr (evC e) 62
      rw [hW2] at hm2
      have HM2 := Lib.hid hm2
      have HBX := Lib.hid hbx
      have HNE : Hid (∀ b, u5.ownBlock = some b → b ≠ N) := Lib.hid (fun b hb c => by have := own_lt HMI.out.tx hb; omega)
      have HNL : Hid (w.heap.size ≤ N) := Lib.hid (by rw [← hN]; exact HMI.out.bl.size)
      have q5 : W2.cell? ⟨N, 5, none⟩ = some (.string e.item) := hbx.cell 5
      have HNN := Lib.hid hN
      have HW2 := Lib.hid hW2
      have NM := Lib.hid (NA.out W2 e.item HM2.out.bl hes)
      clear hm2 hbx hN hW2
      by_cases he : e.item = nameR l e.item
      · rcases (show e.kind = 11 ∨ e.kind = 12 ∨ e.kind = 13 ∨ (e.kind ≠ 11 ∧ e.kind ≠ 12 ∧ e.kind ≠ 13) by omega) with hk | hk | hk | hk
        · have k11 : (e.kind == 11) = true := by rw [hk]; rfl
          have t9 : (e.item.toList == (nameR l e.item).toList) = true := by rw [bytesEq]; exact decide_eq_true he
          have t9' : ((nameR l e.item).toList == e.item.toList) = true := by rw [bytesEq]; exact decide_eq_true he.symm
          have HST : Hid (applyS l e = [{ e with item := nameR l e.item }]) := Lib.hid (by unfold applyS; rw [if_neg (fun c => c.2 he)])
          clear hk he
          go_wp2_with fail
          rw [HNN.out, HW2.out]
          refine NM.out.mono ?_
          rintro x w3 ⟨rfl, b3⟩
          have HM3 := Lib.hid (HM2.out.bel b3)
          have hk3 := HBX.out.bel b3
          have g0 : w3.cell? ⟨N, 0, none⟩ = some (.string e.src) := hk3.cell 0
          have g1 : w3.cell? ⟨N, 1, none⟩ = some (.int .i64 e.num) := hk3.cell 1
          have g2 : w3.cell? ⟨N, 2, none⟩ = some (.int .i64 e.at_) := hk3.cell 2
          have g3 : w3.cell? ⟨N, 3, none⟩ = some (.int .i64 e.kind) := hk3.cell 3
          have g4 : w3.cell? ⟨N, 4, none⟩ = some (.string e.per) := hk3.cell 4
          have g5 : w3.cell? ⟨N, 5, none⟩ = some (.string e.item) := hk3.cell 5
          have g6 : w3.cell? ⟨N, 6, none⟩ = some (.int .i64 e.val) := hk3.cell 6
          have g7 : w3.cell? ⟨N, 7, none⟩ = some (.string e.txt) := hk3.cell 7
          have f5 := hk3.free 5
          have hlt3 := hk3.lt
          have HK3 := Lib.hid hk3
          clear NM b3 hk3
          obtain ⟨W4, hW4⟩ : ∃ W4, w3.setCell ⟨N, 5, none⟩ (.string (nameR l e.item)) = W4 := ⟨_, rfl⟩
          have hk4 := HK3.out.set 5 (.string (nameR l e.item))
          rw [hW4] at hk4
          have hf4 : Fr (fun b => b = N) w3 W4 := by rw [← hW4]; exact (Fr.refl _ _).setCell N 5 _ (.inr rfl)
          have hm4 : MkG 62 8 evC w W4 u5 o := ⟨hf4.row HM3.out.tx (fun b hb c => HNE.out b hb c), HM3.out.nw, HM3.out.bl.trans (hf4.below HM3.out.bl.size (fun b c => by rw [c]; exact HNL.out))⟩
          have m0 : W4.cell? ⟨N, 0, none⟩ = some (.string e.src) := hk4.cell 0
          have m1 : W4.cell? ⟨N, 1, none⟩ = some (.int .i64 e.num) := hk4.cell 1
          have m2 : W4.cell? ⟨N, 2, none⟩ = some (.int .i64 e.at_) := hk4.cell 2
          have m3 : W4.cell? ⟨N, 3, none⟩ = some (.int .i64 e.kind) := hk4.cell 3
          have m4 : W4.cell? ⟨N, 4, none⟩ = some (.string e.per) := hk4.cell 4
          have m5 : W4.cell? ⟨N, 5, none⟩ = some (.string (nameR l e.item)) := hk4.cell 5
          have m6 : W4.cell? ⟨N, 6, none⟩ = some (.int .i64 e.val) := hk4.cell 6
          have m7 : W4.cell? ⟨N, 7, none⟩ = some (.string e.txt) := hk4.cell 7
          have HM4 := Lib.hid (hm4.alloc (.cells #[.string e.src, .int .i64 e.num, .int .i64 e.at_, .int .i64 e.kind, .string e.per, .string (nameR l e.item), .int .i64 e.val, .string e.txt] 62))
          have HIN : Hid (InW (W4.alloc (.cells #[.string e.src, .int .i64 e.num, .int .i64 e.at_, .int .i64 e.kind, .string e.per, .string (nameR l e.item), .int .i64 e.val, .string e.txt] 62)) (some ⟨W4.heap.size, 0, none⟩) 8 ([{ e with item := nameR l e.item }].map evC)) := Lib.hid (inw_one (f := evC) (x := { e with item := nameR l e.item }) (Bk.new W4 (evC { e with item := nameR l e.item }) 62))
          have HLN : Hid (o.length + [{ e with item := nameR l e.item }].length ≤ 1000000) := Lib.hid (by simp only [List.length_cons, List.length_nil]; omega)
          have HW4 := Lib.hid hW4
          clear hk4 hf4 hm4
          clear hW4
          have HSZ : Hid (W4.heap.size = w3.heap.size) := Lib.hid (by rw [← HW4.out]; simp [World.setCell])
          go_wp2_with (at_builtin; rw [HW4.out]; refine wpList_append_m evLen evOne _ rfl _ _ _ rfl 62 i0 _ 96 Try.underlying40 hi0T hz0 hz1 hz2 rfl (by decide) (by omega) u5 o [{ e with item := nameR l e.item }] rfl HM4.out.tx (some ⟨W4.heap.size, 0, none⟩) 1 1 (by rw [HSZ.out]; rfl) rfl HIN.out HLN.out ?_; intro v5 w5 o5 f5 h5)
          have HM5 := Lib.hid (HM4.out.more o5 f5 h5)
          clear o5 f5 h5 HM4 HIN HLN
          go_wp2_with fail
          go_roundw
          case rel => exact ⟨i + 1, by omega, by go_num, by rw [HSN.out, HST.out]; exact HM5.out⟩
          case measure => simp [intOf]; omega
        · have k11 : (e.kind == 11) = false := by rw [hk]; rfl
          have k12 : (e.kind == 12) = true := by rw [hk]; rfl
          have t9 : (e.item.toList == (nameR l e.item).toList) = true := by rw [bytesEq]; exact decide_eq_true he
          have t9' : ((nameR l e.item).toList == e.item.toList) = true := by rw [bytesEq]; exact decide_eq_true he.symm
          have HST : Hid (applyS l e = [{ e with item := nameR l e.item }]) := Lib.hid (by unfold applyS; rw [if_neg (fun c => c.2 he)])
          clear hk he
          go_wp2_with fail
          rw [HNN.out, HW2.out]
          refine NM.out.mono ?_
          rintro x w3 ⟨rfl, b3⟩
          have HM3 := Lib.hid (HM2.out.bel b3)
          have hk3 := HBX.out.bel b3
          have g0 : w3.cell? ⟨N, 0, none⟩ = some (.string e.src) := hk3.cell 0
          have g1 : w3.cell? ⟨N, 1, none⟩ = some (.int .i64 e.num) := hk3.cell 1
          have g2 : w3.cell? ⟨N, 2, none⟩ = some (.int .i64 e.at_) := hk3.cell 2
          have g3 : w3.cell? ⟨N, 3, none⟩ = some (.int .i64 e.kind) := hk3.cell 3
          have g4 : w3.cell? ⟨N, 4, none⟩ = some (.string e.per) := hk3.cell 4
          have g5 : w3.cell? ⟨N, 5, none⟩ = some (.string e.item) := hk3.cell 5
          have g6 : w3.cell? ⟨N, 6, none⟩ = some (.int .i64 e.val) := hk3.cell 6
          have g7 : w3.cell? ⟨N, 7, none⟩ = some (.string e.txt) := hk3.cell 7
          have f5 := hk3.free 5
          have hlt3 := hk3.lt
          have HK3 := Lib.hid hk3
          clear NM b3 hk3
          obtain ⟨W4, hW4⟩ : ∃ W4, w3.setCell ⟨N, 5, none⟩ (.string (nameR l e.item)) = W4 := ⟨_, rfl⟩
          have hk4 := HK3.out.set 5 (.string (nameR l e.item))
          rw [hW4] at hk4
          have hf4 : Fr (fun b => b = N) w3 W4 := by rw [← hW4]; exact (Fr.refl _ _).setCell N 5 _ (.inr rfl)
          have hm4 : MkG 62 8 evC w W4 u5 o := ⟨hf4.row HM3.out.tx (fun b hb c => HNE.out b hb c), HM3.out.nw, HM3.out.bl.trans (hf4.below HM3.out.bl.size (fun b c => by rw [c]; exact HNL.out))⟩
          have m0 : W4.cell? ⟨N, 0, none⟩ = some (.string e.src) := hk4.cell 0
          have m1 : W4.cell? ⟨N, 1, none⟩ = some (.int .i64 e.num) := hk4.cell 1
          have m2 : W4.cell? ⟨N, 2, none⟩ = some (.int .i64 e.at_) := hk4.cell 2
          have m3 : W4.cell? ⟨N, 3, none⟩ = some (.int .i64 e.kind) := hk4.cell 3
          have m4 : W4.cell? ⟨N, 4, none⟩ = some (.string e.per) := hk4.cell 4
          have m5 : W4.cell? ⟨N, 5, none⟩ = some (.string (nameR l e.item)) := hk4.cell 5
          have m6 : W4.cell? ⟨N, 6, none⟩ = some (.int .i64 e.val) := hk4.cell 6
          have m7 : W4.cell? ⟨N, 7, none⟩ = some (.string e.txt) := hk4.cell 7
          have HM4 := Lib.hid (hm4.alloc (.cells #[.string e.src, .int .i64 e.num, .int .i64 e.at_, .int .i64 e.kind, .string e.per, .string (nameR l e.item), .int .i64 e.val, .string e.txt] 62))
          have HIN : Hid (InW (W4.alloc (.cells #[.string e.src, .int .i64 e.num, .int .i64 e.at_, .int .i64 e.kind, .string e.per, .string (nameR l e.item), .int .i64 e.val, .string e.txt] 62)) (some ⟨W4.heap.size, 0, none⟩) 8 ([{ e with item := nameR l e.item }].map evC)) := Lib.hid (inw_one (f := evC) (x := { e with item := nameR l e.item }) (Bk.new W4 (evC { e with item := nameR l e.item }) 62))
          have HLN : Hid (o.length + [{ e with item := nameR l e.item }].length ≤ 1000000) := Lib.hid (by simp only [List.length_cons, List.length_nil]; omega)
          have HW4 := Lib.hid hW4
          clear hk4 hf4 hm4
          clear hW4
          have HSZ : Hid (W4.heap.size = w3.heap.size) := Lib.hid (by rw [← HW4.out]; simp [World.setCell])
          go_wp2_with (at_builtin; rw [HW4.out]; refine wpList_append_m evLen evOne _ rfl _ _ _ rfl 62 i0 _ 96 Try.underlying40 hi0T hz0 hz1 hz2 rfl (by decide) (by omega) u5 o [{ e with item := nameR l e.item }] rfl HM4.out.tx (some ⟨W4.heap.size, 0, none⟩) 1 1 (by rw [HSZ.out]; rfl) rfl HIN.out HLN.out ?_; intro v5 w5 o5 f5 h5)
          have HM5 := Lib.hid (HM4.out.more o5 f5 h5)
          clear o5 f5 h5 HM4 HIN HLN
          go_wp2_with fail
          go_roundw
          case rel => exact ⟨i + 1, by omega, by go_num, by rw [HSN.out, HST.out]; exact HM5.out⟩
          case measure => simp [intOf]; omega
        · have k11 : (e.kind == 11) = false := by rw [hk]; rfl
          have k12 : (e.kind == 12) = false := by rw [hk]; rfl
          have k13 : (e.kind == 13) = true := by rw [hk]; rfl
          have t9 : (e.item.toList == (nameR l e.item).toList) = true := by rw [bytesEq]; exact decide_eq_true he
          have t9' : ((nameR l e.item).toList == e.item.toList) = true := by rw [bytesEq]; exact decide_eq_true he.symm
          have HST : Hid (applyS l e = [{ e with item := nameR l e.item }]) := Lib.hid (by unfold applyS; rw [if_neg (fun c => c.2 he)])
          clear hk he
          go_wp2_with fail
          rw [HNN.out, HW2.out]
          refine NM.out.mono ?_
          rintro x w3 ⟨rfl, b3⟩
          have HM3 := Lib.hid (HM2.out.bel b3)
          have hk3 := HBX.out.bel b3
          have g0 : w3.cell? ⟨N, 0, none⟩ = some (.string e.src) := hk3.cell 0
          have g1 : w3.cell? ⟨N, 1, none⟩ = some (.int .i64 e.num) := hk3.cell 1
          have g2 : w3.cell? ⟨N, 2, none⟩ = some (.int .i64 e.at_) := hk3.cell 2
          have g3 : w3.cell? ⟨N, 3, none⟩ = some (.int .i64 e.kind) := hk3.cell 3
          have g4 : w3.cell? ⟨N, 4, none⟩ = some (.string e.per) := hk3.cell 4
          have g5 : w3.cell? ⟨N, 5, none⟩ = some (.string e.item) := hk3.cell 5
          have g6 : w3.cell? ⟨N, 6, none⟩ = some (.int .i64 e.val) := hk3.cell 6
          have g7 : w3.cell? ⟨N, 7, none⟩ = some (.string e.txt) := hk3.cell 7
          have f5 := hk3.free 5
          have hlt3 := hk3.lt
          have HK3 := Lib.hid hk3
          clear NM b3 hk3
          obtain ⟨W4, hW4⟩ : ∃ W4, w3.setCell ⟨N, 5, none⟩ (.string (nameR l e.item)) = W4 := ⟨_, rfl⟩
          have hk4 := HK3.out.set 5 (.string (nameR l e.item))
          rw [hW4] at hk4
          have hf4 : Fr (fun b => b = N) w3 W4 := by rw [← hW4]; exact (Fr.refl _ _).setCell N 5 _ (.inr rfl)
          have hm4 : MkG 62 8 evC w W4 u5 o := ⟨hf4.row HM3.out.tx (fun b hb c => HNE.out b hb c), HM3.out.nw, HM3.out.bl.trans (hf4.below HM3.out.bl.size (fun b c => by rw [c]; exact HNL.out))⟩
          have m0 : W4.cell? ⟨N, 0, none⟩ = some (.string e.src) := hk4.cell 0
          have m1 : W4.cell? ⟨N, 1, none⟩ = some (.int .i64 e.num) := hk4.cell 1
          have m2 : W4.cell? ⟨N, 2, none⟩ = some (.int .i64 e.at_) := hk4.cell 2
          have m3 : W4.cell? ⟨N, 3, none⟩ = some (.int .i64 e.kind) := hk4.cell 3
          have m4 : W4.cell? ⟨N, 4, none⟩ = some (.string e.per) := hk4.cell 4
          have m5 : W4.cell? ⟨N, 5, none⟩ = some (.string (nameR l e.item)) := hk4.cell 5
          have m6 : W4.cell? ⟨N, 6, none⟩ = some (.int .i64 e.val) := hk4.cell 6
          have m7 : W4.cell? ⟨N, 7, none⟩ = some (.string e.txt) := hk4.cell 7
          have HM4 := Lib.hid (hm4.alloc (.cells #[.string e.src, .int .i64 e.num, .int .i64 e.at_, .int .i64 e.kind, .string e.per, .string (nameR l e.item), .int .i64 e.val, .string e.txt] 62))
          have HIN : Hid (InW (W4.alloc (.cells #[.string e.src, .int .i64 e.num, .int .i64 e.at_, .int .i64 e.kind, .string e.per, .string (nameR l e.item), .int .i64 e.val, .string e.txt] 62)) (some ⟨W4.heap.size, 0, none⟩) 8 ([{ e with item := nameR l e.item }].map evC)) := Lib.hid (inw_one (f := evC) (x := { e with item := nameR l e.item }) (Bk.new W4 (evC { e with item := nameR l e.item }) 62))
          have HLN : Hid (o.length + [{ e with item := nameR l e.item }].length ≤ 1000000) := Lib.hid (by simp only [List.length_cons, List.length_nil]; omega)
          have HW4 := Lib.hid hW4
          clear hk4 hf4 hm4
          clear hW4
          have HSZ : Hid (W4.heap.size = w3.heap.size) := Lib.hid (by rw [← HW4.out]; simp [World.setCell])
          go_wp2_with (at_builtin; rw [HW4.out]; refine wpList_append_m evLen evOne _ rfl _ _ _ rfl 62 i0 _ 96 Try.underlying40 hi0T hz0 hz1 hz2 rfl (by decide) (by omega) u5 o [{ e with item := nameR l e.item }] rfl HM4.out.tx (some ⟨W4.heap.size, 0, none⟩) 1 1 (by rw [HSZ.out]; rfl) rfl HIN.out HLN.out ?_; intro v5 w5 o5 f5 h5)
          have HM5 := Lib.hid (HM4.out.more o5 f5 h5)
          clear o5 f5 h5 HM4 HIN HLN
          go_wp2_with fail
          go_roundw
          case rel => exact ⟨i + 1, by omega, by go_num, by rw [HSN.out, HST.out]; exact HM5.out⟩
          case measure => simp [intOf]; omega
        · have k11 : (e.kind == 11) = false := by simp; omega
          have k12 : (e.kind == 12) = false := by simp; omega
          have k13 : (e.kind == 13) = false := by simp; omega
          have t9 : (e.item.toList == (nameR l e.item).toList) = true := by rw [bytesEq]; exact decide_eq_true he
          have t9' : ((nameR l e.item).toList == e.item.toList) = true := by rw [bytesEq]; exact decide_eq_true he.symm
          have HST : Hid (applyS l e = [{ e with item := nameR l e.item }]) := Lib.hid (by unfold applyS; rw [if_neg (fun c => c.2 he)])
          clear hk he
          go_wp2_with fail
          rw [HNN.out, HW2.out]
          refine NM.out.mono ?_
          rintro x w3 ⟨rfl, b3⟩
          have HM3 := Lib.hid (HM2.out.bel b3)
          have hk3 := HBX.out.bel b3
          have g0 : w3.cell? ⟨N, 0, none⟩ = some (.string e.src) := hk3.cell 0
          have g1 : w3.cell? ⟨N, 1, none⟩ = some (.int .i64 e.num) := hk3.cell 1
          have g2 : w3.cell? ⟨N, 2, none⟩ = some (.int .i64 e.at_) := hk3.cell 2
          have g3 : w3.cell? ⟨N, 3, none⟩ = some (.int .i64 e.kind) := hk3.cell 3
          have g4 : w3.cell? ⟨N, 4, none⟩ = some (.string e.per) := hk3.cell 4
          have g5 : w3.cell? ⟨N, 5, none⟩ = some (.string e.item) := hk3.cell 5
          have g6 : w3.cell? ⟨N, 6, none⟩ = some (.int .i64 e.val) := hk3.cell 6
          have g7 : w3.cell? ⟨N, 7, none⟩ = some (.string e.txt) := hk3.cell 7
          have f5 := hk3.free 5
          have hlt3 := hk3.lt
          have HK3 := Lib.hid hk3
          clear NM b3 hk3
          obtain ⟨W4, hW4⟩ : ∃ W4, w3.setCell ⟨N, 5, none⟩ (.string (nameR l e.item)) = W4 := ⟨_, rfl⟩
          have hk4 := HK3.out.set 5 (.string (nameR l e.item))
          rw [hW4] at hk4
          have hf4 : Fr (fun b => b = N) w3 W4 := by rw [← hW4]; exact (Fr.refl _ _).setCell N 5 _ (.inr rfl)
          have hm4 : MkG 62 8 evC w W4 u5 o := ⟨hf4.row HM3.out.tx (fun b hb c => HNE.out b hb c), HM3.out.nw, HM3.out.bl.trans (hf4.below HM3.out.bl.size (fun b c => by rw [c]; exact HNL.out))⟩
          have m0 : W4.cell? ⟨N, 0, none⟩ = some (.string e.src) := hk4.cell 0
          have m1 : W4.cell? ⟨N, 1, none⟩ = some (.int .i64 e.num) := hk4.cell 1
          have m2 : W4.cell? ⟨N, 2, none⟩ = some (.int .i64 e.at_) := hk4.cell 2
          have m3 : W4.cell? ⟨N, 3, none⟩ = some (.int .i64 e.kind) := hk4.cell 3
          have m4 : W4.cell? ⟨N, 4, none⟩ = some (.string e.per) := hk4.cell 4
          have m5 : W4.cell? ⟨N, 5, none⟩ = some (.string (nameR l e.item)) := hk4.cell 5
          have m6 : W4.cell? ⟨N, 6, none⟩ = some (.int .i64 e.val) := hk4.cell 6
          have m7 : W4.cell? ⟨N, 7, none⟩ = some (.string e.txt) := hk4.cell 7
          have HM4 := Lib.hid (hm4.alloc (.cells #[.string e.src, .int .i64 e.num, .int .i64 e.at_, .int .i64 e.kind, .string e.per, .string (nameR l e.item), .int .i64 e.val, .string e.txt] 62))
          have HIN : Hid (InW (W4.alloc (.cells #[.string e.src, .int .i64 e.num, .int .i64 e.at_, .int .i64 e.kind, .string e.per, .string (nameR l e.item), .int .i64 e.val, .string e.txt] 62)) (some ⟨W4.heap.size, 0, none⟩) 8 ([{ e with item := nameR l e.item }].map evC)) := Lib.hid (inw_one (f := evC) (x := { e with item := nameR l e.item }) (Bk.new W4 (evC { e with item := nameR l e.item }) 62))
          have HLN : Hid (o.length + [{ e with item := nameR l e.item }].length ≤ 1000000) := Lib.hid (by simp only [List.length_cons, List.length_nil]; omega)
          have HW4 := Lib.hid hW4
          clear hk4 hf4 hm4
          clear hW4
          have HSZ : Hid (W4.heap.size = w3.heap.size) := Lib.hid (by rw [← HW4.out]; simp [World.setCell])
          go_wp2_with (at_builtin; rw [HW4.out]; refine wpList_append_m evLen evOne _ rfl _ _ _ rfl 62 i0 _ 96 Try.underlying40 hi0T hz0 hz1 hz2 rfl (by decide) (by omega) u5 o [{ e with item := nameR l e.item }] rfl HM4.out.tx (some ⟨W4.heap.size, 0, none⟩) 1 1 (by rw [HSZ.out]; rfl) rfl HIN.out HLN.out ?_; intro v5 w5 o5 f5 h5)
          have HM5 := Lib.hid (HM4.out.more o5 f5 h5)
          clear o5 f5 h5 HM4 HIN HLN
          go_wp2_with fail
          go_roundw
          case rel => exact ⟨i + 1, by omega, by go_num, by rw [HSN.out, HST.out]; exact HM5.out⟩
          case measure => simp [intOf]; omega
      · rcases (show e.kind = 11 ∨ e.kind = 12 ∨ e.kind = 13 ∨ (e.kind ≠ 11 ∧ e.kind ≠ 12 ∧ e.kind ≠ 13) by omega) with hk | hk | hk | hk
        · have k11 : (e.kind == 11) = true := by rw [hk]; rfl
          have t9 : (e.item.toList == (nameR l e.item).toList) = false := by rw [bytesEq]; exact decide_eq_false he
          have t9' : ((nameR l e.item).toList == e.item.toList) = false := by rw [bytesEq]; exact decide_eq_false (fun c => he c.symm)
          have HST : Hid (applyS l e = []) := Lib.hid (by unfold applyS; rw [if_pos ⟨by unfold listedK; omega, fun c => he c⟩])
          clear hk he
          go_wp2_with fail
          rw [HNN.out, HW2.out]
          refine NM.out.mono ?_
          rintro x w3 ⟨rfl, b3⟩
          have HM3 := Lib.hid (HM2.out.bel b3)
          have hk3 := HBX.out.bel b3
          have g0 : w3.cell? ⟨N, 0, none⟩ = some (.string e.src) := hk3.cell 0
          have g1 : w3.cell? ⟨N, 1, none⟩ = some (.int .i64 e.num) := hk3.cell 1
          have g2 : w3.cell? ⟨N, 2, none⟩ = some (.int .i64 e.at_) := hk3.cell 2
          have g3 : w3.cell? ⟨N, 3, none⟩ = some (.int .i64 e.kind) := hk3.cell 3
          have g4 : w3.cell? ⟨N, 4, none⟩ = some (.string e.per) := hk3.cell 4
          have g5 : w3.cell? ⟨N, 5, none⟩ = some (.string e.item) := hk3.cell 5
          have g6 : w3.cell? ⟨N, 6, none⟩ = some (.int .i64 e.val) := hk3.cell 6
          have g7 : w3.cell? ⟨N, 7, none⟩ = some (.string e.txt) := hk3.cell 7
          have f5 := hk3.free 5
          have hlt3 := hk3.lt
          have HK3 := Lib.hid hk3
          clear NM b3 hk3
          go_wp2_with fail
          go_roundw
          case rel => exact ⟨i + 1, by omega, by go_num, by rw [HSN.out, HST.out, List.append_nil]; exact HM3.out⟩
          case measure => simp [intOf]; omega
        · have k11 : (e.kind == 11) = false := by rw [hk]; rfl
          have k12 : (e.kind == 12) = true := by rw [hk]; rfl
          have t9 : (e.item.toList == (nameR l e.item).toList) = false := by rw [bytesEq]; exact decide_eq_false he
          have t9' : ((nameR l e.item).toList == e.item.toList) = false := by rw [bytesEq]; exact decide_eq_false (fun c => he c.symm)
          have HST : Hid (applyS l e = []) := Lib.hid (by unfold applyS; rw [if_pos ⟨by unfold listedK; omega, fun c => he c⟩])
          clear hk he
          go_wp2_with fail
          rw [HNN.out, HW2.out]
          refine NM.out.mono ?_
          rintro x w3 ⟨rfl, b3⟩
          have HM3 := Lib.hid (HM2.out.bel b3)
          have hk3 := HBX.out.bel b3
          have g0 : w3.cell? ⟨N, 0, none⟩ = some (.string e.src) := hk3.cell 0
          have g1 : w3.cell? ⟨N, 1, none⟩ = some (.int .i64 e.num) := hk3.cell 1
          have g2 : w3.cell? ⟨N, 2, none⟩ = some (.int .i64 e.at_) := hk3.cell 2
          have g3 : w3.cell? ⟨N, 3, none⟩ = some (.int .i64 e.kind) := hk3.cell 3
          have g4 : w3.cell? ⟨N, 4, none⟩ = some (.string e.per) := hk3.cell 4
          have g5 : w3.cell? ⟨N, 5, none⟩ = some (.string e.item) := hk3.cell 5
          have g6 : w3.cell? ⟨N, 6, none⟩ = some (.int .i64 e.val) := hk3.cell 6
          have g7 : w3.cell? ⟨N, 7, none⟩ = some (.string e.txt) := hk3.cell 7
          have f5 := hk3.free 5
          have hlt3 := hk3.lt
          have HK3 := Lib.hid hk3
          clear NM b3 hk3
          go_wp2_with fail
          go_roundw
          case rel => exact ⟨i + 1, by omega, by go_num, by rw [HSN.out, HST.out, List.append_nil]; exact HM3.out⟩
          case measure => simp [intOf]; omega
        · have k11 : (e.kind == 11) = false := by rw [hk]; rfl
          have k12 : (e.kind == 12) = false := by rw [hk]; rfl
          have k13 : (e.kind == 13) = true := by rw [hk]; rfl
          have t9 : (e.item.toList == (nameR l e.item).toList) = false := by rw [bytesEq]; exact decide_eq_false he
          have t9' : ((nameR l e.item).toList == e.item.toList) = false := by rw [bytesEq]; exact decide_eq_false (fun c => he c.symm)
          have HST : Hid (applyS l e = []) := Lib.hid (by unfold applyS; rw [if_pos ⟨by unfold listedK; omega, fun c => he c⟩])
          clear hk he
          go_wp2_with fail
          rw [HNN.out, HW2.out]
          refine NM.out.mono ?_
          rintro x w3 ⟨rfl, b3⟩
          have HM3 := Lib.hid (HM2.out.bel b3)
          have hk3 := HBX.out.bel b3
          have g0 : w3.cell? ⟨N, 0, none⟩ = some (.string e.src) := hk3.cell 0
          have g1 : w3.cell? ⟨N, 1, none⟩ = some (.int .i64 e.num) := hk3.cell 1
          have g2 : w3.cell? ⟨N, 2, none⟩ = some (.int .i64 e.at_) := hk3.cell 2
          have g3 : w3.cell? ⟨N, 3, none⟩ = some (.int .i64 e.kind) := hk3.cell 3
          have g4 : w3.cell? ⟨N, 4, none⟩ = some (.string e.per) := hk3.cell 4
          have g5 : w3.cell? ⟨N, 5, none⟩ = some (.string e.item) := hk3.cell 5
          have g6 : w3.cell? ⟨N, 6, none⟩ = some (.int .i64 e.val) := hk3.cell 6
          have g7 : w3.cell? ⟨N, 7, none⟩ = some (.string e.txt) := hk3.cell 7
          have f5 := hk3.free 5
          have hlt3 := hk3.lt
          have HK3 := Lib.hid hk3
          clear NM b3 hk3
          go_wp2_with fail
          go_roundw
          case rel => exact ⟨i + 1, by omega, by go_num, by rw [HSN.out, HST.out, List.append_nil]; exact HM3.out⟩
          case measure => simp [intOf]; omega
        · have k11 : (e.kind == 11) = false := by simp; omega
          have k12 : (e.kind == 12) = false := by simp; omega
          have k13 : (e.kind == 13) = false := by simp; omega
          have t9 : (e.item.toList == (nameR l e.item).toList) = false := by rw [bytesEq]; exact decide_eq_false he
          have t9' : ((nameR l e.item).toList == e.item.toList) = false := by rw [bytesEq]; exact decide_eq_false (fun c => he c.symm)
          have HST : Hid (applyS l e = [{ e with item := nameR l e.item }]) := Lib.hid (by unfold applyS; rw [if_neg (fun c => by have := c.1; unfold listedK at this; omega)])
          clear hk he
          go_wp2_with fail
          rw [HNN.out, HW2.out]
          refine NM.out.mono ?_
          rintro x w3 ⟨rfl, b3⟩
          have HM3 := Lib.hid (HM2.out.bel b3)
          have hk3 := HBX.out.bel b3
          have g0 : w3.cell? ⟨N, 0, none⟩ = some (.string e.src) := hk3.cell 0
          have g1 : w3.cell? ⟨N, 1, none⟩ = some (.int .i64 e.num) := hk3.cell 1
          have g2 : w3.cell? ⟨N, 2, none⟩ = some (.int .i64 e.at_) := hk3.cell 2
          have g3 : w3.cell? ⟨N, 3, none⟩ = some (.int .i64 e.kind) := hk3.cell 3
          have g4 : w3.cell? ⟨N, 4, none⟩ = some (.string e.per) := hk3.cell 4
          have g5 : w3.cell? ⟨N, 5, none⟩ = some (.string e.item) := hk3.cell 5
          have g6 : w3.cell? ⟨N, 6, none⟩ = some (.int .i64 e.val) := hk3.cell 6
          have g7 : w3.cell? ⟨N, 7, none⟩ = some (.string e.txt) := hk3.cell 7
          have f5 := hk3.free 5
          have hlt3 := hk3.lt
          have HK3 := Lib.hid hk3
          clear NM b3 hk3
          obtain ⟨W4, hW4⟩ : ∃ W4, w3.setCell ⟨N, 5, none⟩ (.string (nameR l e.item)) = W4 := ⟨_, rfl⟩
          have hk4 := HK3.out.set 5 (.string (nameR l e.item))
          rw [hW4] at hk4
          have hf4 : Fr (fun b => b = N) w3 W4 := by rw [← hW4]; exact (Fr.refl _ _).setCell N 5 _ (.inr rfl)
          have hm4 : MkG 62 8 evC w W4 u5 o := ⟨hf4.row HM3.out.tx (fun b hb c => HNE.out b hb c), HM3.out.nw, HM3.out.bl.trans (hf4.below HM3.out.bl.size (fun b c => by rw [c]; exact HNL.out))⟩
          have m0 : W4.cell? ⟨N, 0, none⟩ = some (.string e.src) := hk4.cell 0
          have m1 : W4.cell? ⟨N, 1, none⟩ = some (.int .i64 e.num) := hk4.cell 1
          have m2 : W4.cell? ⟨N, 2, none⟩ = some (.int .i64 e.at_) := hk4.cell 2
          have m3 : W4.cell? ⟨N, 3, none⟩ = some (.int .i64 e.kind) := hk4.cell 3
          have m4 : W4.cell? ⟨N, 4, none⟩ = some (.string e.per) := hk4.cell 4
          have m5 : W4.cell? ⟨N, 5, none⟩ = some (.string (nameR l e.item)) := hk4.cell 5
          have m6 : W4.cell? ⟨N, 6, none⟩ = some (.int .i64 e.val) := hk4.cell 6
          have m7 : W4.cell? ⟨N, 7, none⟩ = some (.string e.txt) := hk4.cell 7
          have HM4 := Lib.hid (hm4.alloc (.cells #[.string e.src, .int .i64 e.num, .int .i64 e.at_, .int .i64 e.kind, .string e.per, .string (nameR l e.item), .int .i64 e.val, .string e.txt] 62))
          have HIN : Hid (InW (W4.alloc (.cells #[.string e.src, .int .i64 e.num, .int .i64 e.at_, .int .i64 e.kind, .string e.per, .string (nameR l e.item), .int .i64 e.val, .string e.txt] 62)) (some ⟨W4.heap.size, 0, none⟩) 8 ([{ e with item := nameR l e.item }].map evC)) := Lib.hid (inw_one (f := evC) (x := { e with item := nameR l e.item }) (Bk.new W4 (evC { e with item := nameR l e.item }) 62))
          have HLN : Hid (o.length + [{ e with item := nameR l e.item }].length ≤ 1000000) := Lib.hid (by simp only [List.length_cons, List.length_nil]; omega)
          have HW4 := Lib.hid hW4
          clear hk4 hf4 hm4
          clear hW4
          have HSZ : Hid (W4.heap.size = w3.heap.size) := Lib.hid (by rw [← HW4.out]; simp [World.setCell])
          go_wp2_with (at_builtin; rw [HW4.out]; refine wpList_append_m evLen evOne _ rfl _ _ _ rfl 62 i0 _ 96 Try.underlying40 hi0T hz0 hz1 hz2 rfl (by decide) (by omega) u5 o [{ e with item := nameR l e.item }] rfl HM4.out.tx (some ⟨W4.heap.size, 0, none⟩) 1 1 (by rw [HSZ.out]; rfl) rfl HIN.out HLN.out ?_; intro v5 w5 o5 f5 h5)
          have HM5 := Lib.hid (HM4.out.more o5 f5 h5)
          clear o5 f5 h5 HM4 HIN HLN
          go_wp2_with fail
          go_roundw
          case rel => exact ⟨i + 1, by omega, by go_num, by rw [HSN.out, HST.out]; exact HM5.out⟩
          case measure => simp [intOf]; omega
    · obtain rfl : i = n := by omega
      rw [HEND.out] at HMI
      go_wp2_with fail
      go_ret
      exact ⟨u5, rfl, HMI.out⟩
end Go.Proofs.Ytgflfjmlhapplaa

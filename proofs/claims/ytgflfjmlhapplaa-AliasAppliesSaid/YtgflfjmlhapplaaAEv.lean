/- Events: what they are in memory; Big, Some and Same of the document (layer 2). -/
import Derived.Test.YtgflfjmlhapplaaBase
import Derived.Test.YtgflfjmlhapplaaMk
import Derived.Laws.StructEq
namespace Go.Proofs.Ytgflfjmlhapplaa
open Go.RowKit Go.ChangeShapes Go.WideShapes
set_option linter.unusedVariables false
structure Ev where
  src : ByteArray
  num : Int
  at_ : Int
  kind : Int
  per : ByteArray
  item : ByteArray
  val : Int
  txt : ByteArray
def evC (e : Ev) : List Value := [.string e.src, .int .i64 e.num, .int .i64 e.at_, .int .i64 e.kind, .string e.per, .string e.item, .int .i64 e.val, .string e.txt]
def evOk (e : Ev) : Prop := e.src.size ≤ maxLen ∧ I64 e.num ∧ I64 e.at_ ∧ I64 e.kind ∧ e.per.size ≤ maxLen ∧ e.item.size ≤ maxLen ∧ I64 e.val ∧ e.txt.size ≤ maxLen
theorem evLen (e : Ev) : (evC e).length = 8 := rfl
theorem evOne (e : Ev) : ∀ u ∈ evC e, u.oneCell' = true := fun u hu => by
  simp only [evC, List.mem_cons, List.not_mem_nil, or_false] at hu
  rcases hu with rfl | rfl | rfl | rfl | rfl | rfl | rfl | rfl <;> rfl
theorem infoEv : (Try.prog.info? 62).map (fun i => (i.zero, i.size, i.bytes)) = some (some (.agg #[.string ⟨#[]⟩, .int .i64 0, .int .i64 0, .int .i64 0, .string ⟨#[]⟩, .string ⟨#[]⟩, .int .i64 0, .string ⟨#[]⟩]), 8, 96) := by kernel_rfl
theorem evs_at {w : World} {b : Option Addr} {xs : List Ev} (h : InW w b 8 (xs.map evC)) {i : Nat} {e : Ev} (hi : xs[i]? = some e) :
    ∃ B off, b = some ⟨B, off, none⟩ ∧ B < w.heap.size ∧ w.cell? ⟨B, off + i * 8, none⟩ = some (.string e.src) ∧ w.cell? ⟨B, off + i * 8 + 1, none⟩ = some (.int .i64 e.num) ∧ w.cell? ⟨B, off + i * 8 + 2, none⟩ = some (.int .i64 e.at_) ∧ w.cell? ⟨B, off + i * 8 + 3, none⟩ = some (.int .i64 e.kind) ∧ w.cell? ⟨B, off + i * 8 + 4, none⟩ = some (.string e.per) ∧ w.cell? ⟨B, off + i * 8 + 5, none⟩ = some (.string e.item) ∧ w.cell? ⟨B, off + i * 8 + 6, none⟩ = some (.int .i64 e.val) ∧ w.cell? ⟨B, off + i * 8 + 7, none⟩ = some (.string e.txt) := by
  rcases h with h | ⟨B, off, hb, hl, hc⟩
  · rw [List.map_eq_nil_iff.1 h] at hi; cases hi
  · have hm : (xs.map evC)[i]? = some (evC e) := by rw [List.getElem?_map, hi]; rfl
    exact ⟨B, off, hb, hl, hc i _ hm 0 _ rfl, hc i _ hm 1 _ rfl, hc i _ hm 2 _ rfl, hc i _ hm 3 _ rfl, hc i _ hm 4 _ rfl, hc i _ hm 5 _ rfl, hc i _ hm 6 _ rfl, hc i _ hm 7 _ rfl⟩
theorem cellsE1 : Try.prog.cellsOf 9 = 1 := by kernel_rfl
theorem cellsE2 : Try.prog.cellsOf 3 = 1 := by kernel_rfl
theorem cellsE3 : Try.prog.cellsOf 60 = 1 := by kernel_rfl
section
variable {H : Type} {enc : TypeId × Value → H} {W : World}
theorem trod_struct8 {P : Program} {w : World} {base : Nat} {spare : Nat → Bool} {held : Bool} {t : TypeId} {f0 f1 f2 f3 f4 f5 f6 f7 : Field} {fuel : Nat} {cs : List Value} {x : DataW H × List MemPlace} (ht : P.underlying t = some (.struct #[f0, f1, f2, f3, f4, f5, f6, f7])) (h : DataW.trod enc P w base spare held fuel t cs = some x) :
    ∃ y0 y1 y2 y3 y4 y5 y6 y7 n, DataW.trod enc P w base spare held n f0.type ((cs.drop f0.offset).take (P.cellsOf f0.type)) = some y0 ∧ DataW.trod enc P w base spare held n f1.type ((cs.drop f1.offset).take (P.cellsOf f1.type)) = some y1 ∧ DataW.trod enc P w base spare held n f2.type ((cs.drop f2.offset).take (P.cellsOf f2.type)) = some y2 ∧ DataW.trod enc P w base spare held n f3.type ((cs.drop f3.offset).take (P.cellsOf f3.type)) = some y3 ∧ DataW.trod enc P w base spare held n f4.type ((cs.drop f4.offset).take (P.cellsOf f4.type)) = some y4 ∧ DataW.trod enc P w base spare held n f5.type ((cs.drop f5.offset).take (P.cellsOf f5.type)) = some y5 ∧ DataW.trod enc P w base spare held n f6.type ((cs.drop f6.offset).take (P.cellsOf f6.type)) = some y6 ∧ DataW.trod enc P w base spare held n f7.type ((cs.drop f7.offset).take (P.cellsOf f7.type)) = some y7 := by
  obtain ⟨xs, n, _, rfl, hl, hlen, hf⟩ := DataW.trod_struct ht h
  match xs, hlen with
  | [y0, y1, y2, y3, y4, y5, y6, y7], _ => exact ⟨y0, y1, y2, y3, y4, y5, y6, y7, n, by simpa using hf 0 f0 rfl, by simpa using hf 1 f1 rfl, by simpa using hf 2 f2 rfl, by simpa using hf 3 f3 rfl, by simpa using hf 4 f4 rfl, by simpa using hf 5 f5 rfl, by simpa using hf 6 f6 rfl, by simpa using hf 7 f7 rfl⟩
set_option maxRecDepth 100000 in
set_option maxHeartbeats 1000000 in
theorem open_events {r : Reach} {b0 : Nat} {v : Value} {d : DataW H} {p : List MemPlace} (hval : Value.okWide Try.prog W r b0 40 v) (h : DataW.Trod enc Try.prog W 0 (fun _ => true) true 40 v d p) :
    ∃ (b : Option Addr) (cap : Nat) (xs : List Ev), v = .slice b xs.length cap ∧ xs.length ≤ cap ∧ cap ≤ maxLen ∧ InW W b 8 (xs.map evC) ∧ ∀ a ∈ xs, evOk a := by
  refine open_slice_as 8 _ _ Try.underlying40 (by kernel_rfl) (by omega) hval h fun c fuel x hl hx => ?_
  obtain ⟨y0, y1, y2, y3, y4, y5, y6, y7, n, h0, h1, h2, h3, h4, h5, h6, h7⟩ := trod_struct8 Try.underlying62 hx
  match c, hl with
  | [u0, u1, u2, u3, u4, u5, u6, u7], _ =>
    obtain ⟨a0, e0, _, w0⟩ := DataW.trod_string Try.underlying9 h0
    obtain ⟨a1, e1, _, w1⟩ := DataW.trod_int Try.underlying3 h1
    obtain ⟨a2, e2, _, w2⟩ := DataW.trod_int Try.underlying3 h2
    obtain ⟨a3, e3, _, w3⟩ := DataW.trod_int Try.underlying60 h3
    obtain ⟨a4, e4, _, w4⟩ := DataW.trod_string Try.underlying9 h4
    obtain ⟨a5, e5, _, w5⟩ := DataW.trod_string Try.underlying9 h5
    obtain ⟨a6, e6, _, w6⟩ := DataW.trod_int Try.underlying3 h6
    obtain ⟨a7, e7, _, w7⟩ := DataW.trod_string Try.underlying9 h7
    simp [cellsE1, cellsE2, cellsE3] at e0 e1 e2 e3 e4 e5 e6 e7
    subst e0 e1 e2 e3 e4 e5 e6 e7
    exact ⟨⟨a0, a1, a2, a3, a4, a5, a6, a7⟩, rfl, w0, i64_wf w1, i64_wf w2, i64_wf w3, w4, w5, i64_wf w6, w7⟩
end
/-- are there more bytes than may be? -/
def bigB (e : Ev) (most : Nat) : Bool := decide (most < e.src.size) || decide (most < e.per.size) || decide (most < e.item.size) || decide (most < e.txt.size)
set_option maxHeartbeats 2000000 in
theorem big_any (e : Ev) (most : Nat) (w : World) (h : evOk e) (hm : most ≤ 1000000) :
    Calls Try.prog 33 #[.agg #[.string e.src, .int .i64 e.num, .int .i64 e.at_, .int .i64 e.kind, .string e.per, .string e.item, .int .i64 e.val, .string e.txt], .int .i64 most] w fun x w' => x = .returned (.bool (bigB e most)) ∧ Below w.heap.size w w' := by
  obtain ⟨h0, _, _, _, h4, h5, _, h7⟩ := h
  unfold maxLen at h0 h4 h5 h7
  have HB := Lib.hid ((Below.refl w.heap.size w).alloc (Nat.le_refl _) (.cells #[.string e.src, .int .i64 e.num, .int .i64 e.at_, .int .i64 e.kind, .string e.per, .string e.item, .int .i64 e.val, .string e.txt] 62))
  obtain ⟨r, hr⟩ : ∃ r, bigB e most = r := ⟨_, rfl⟩
  rw [hr]
  have HR := Lib.hid hr
  clear hr
  unfold bigB at HR
  by_cases hc0 : most < e.src.size
  · have t0 : decide ((most : Int) < (e.src.size : Int)) = true := decide_eq_true (by omega)
    have t0' : decide (most < e.src.size) = true := decide_eq_true (by omega)
    have er : r = true := by rw [← HR.out, t0']; simp
    subst er
    go_enter Try.func33, Try.ntmps33
    go_wp2_with fail
    go_ret
    exact ⟨rfl, HB.out⟩
  by_cases hc1 : most < e.per.size
  · have t0 : decide ((most : Int) < (e.src.size : Int)) = false := decide_eq_false (by omega)
    have t0' : decide (most < e.src.size) = false := decide_eq_false (by omega)
    have t1 : decide ((most : Int) < (e.per.size : Int)) = true := decide_eq_true (by omega)
    have t1' : decide (most < e.per.size) = true := decide_eq_true (by omega)
    have er : r = true := by rw [← HR.out, t0', t1']; simp
    subst er
    go_enter Try.func33, Try.ntmps33
    go_wp2_with fail
    go_ret
    exact ⟨rfl, HB.out⟩
  by_cases hc2 : most < e.item.size
  · have t0 : decide ((most : Int) < (e.src.size : Int)) = false := decide_eq_false (by omega)
    have t0' : decide (most < e.src.size) = false := decide_eq_false (by omega)
    have t1 : decide ((most : Int) < (e.per.size : Int)) = false := decide_eq_false (by omega)
    have t1' : decide (most < e.per.size) = false := decide_eq_false (by omega)
    have t2 : decide ((most : Int) < (e.item.size : Int)) = true := decide_eq_true (by omega)
    have t2' : decide (most < e.item.size) = true := decide_eq_true (by omega)
    have er : r = true := by rw [← HR.out, t0', t1', t2']; simp
    subst er
    go_enter Try.func33, Try.ntmps33
    go_wp2_with fail
    go_ret
    exact ⟨rfl, HB.out⟩
  by_cases hc3 : most < e.txt.size
  · have t0 : decide ((most : Int) < (e.src.size : Int)) = false := decide_eq_false (by omega)
    have t0' : decide (most < e.src.size) = false := decide_eq_false (by omega)
    have t1 : decide ((most : Int) < (e.per.size : Int)) = false := decide_eq_false (by omega)
    have t1' : decide (most < e.per.size) = false := decide_eq_false (by omega)
    have t2 : decide ((most : Int) < (e.item.size : Int)) = false := decide_eq_false (by omega)
    have t2' : decide (most < e.item.size) = false := decide_eq_false (by omega)
    have t3 : decide ((most : Int) < (e.txt.size : Int)) = true := decide_eq_true (by omega)
    have t3' : decide (most < e.txt.size) = true := decide_eq_true (by omega)
    have er : r = true := by rw [← HR.out, t0', t1', t2', t3']; simp
    subst er
    go_enter Try.func33, Try.ntmps33
    go_wp2_with fail
    go_ret
    exact ⟨rfl, HB.out⟩
  have t0 : decide ((most : Int) < (e.src.size : Int)) = false := decide_eq_false (by omega)
  have t0' : decide (most < e.src.size) = false := decide_eq_false (by omega)
  have t1 : decide ((most : Int) < (e.per.size : Int)) = false := decide_eq_false (by omega)
  have t1' : decide (most < e.per.size) = false := decide_eq_false (by omega)
  have t2 : decide ((most : Int) < (e.item.size : Int)) = false := decide_eq_false (by omega)
  have t2' : decide (most < e.item.size) = false := decide_eq_false (by omega)
  have t3 : decide ((most : Int) < (e.txt.size : Int)) = false := decide_eq_false (by omega)
  have t3' : decide (most < e.txt.size) = false := decide_eq_false (by omega)
  have er : r = false := by rw [← HR.out, t0', t1', t2', t3']; rfl
  subst er
  go_enter Try.func33, Try.ntmps33
  go_wp2_with fail
  go_ret
  exact ⟨rfl, HB.out⟩
set_option maxRecDepth 100000 in
set_option maxHeartbeats 2000000 in
theorem some_any (b : Option Addr) (cap : Nat) (l : List Ev) (most : Nat) (w : World) (h : InW w b 8 (l.map evC)) (hm : most ≤ 1000000) (hc : cap ≤ maxLen) (hlc : l.length ≤ cap) (ho : ∀ e ∈ l, evOk e) :
    Calls Try.prog 19 #[.slice b l.length cap, .int .i64 most] w fun x w' => x = .returned (.bool (l.any fun e => bigB e most)) ∧ Below w.heap.size w w' := by
  obtain ⟨r, hr⟩ : ∃ r, (l.any fun e => bigB e most) = r := ⟨_, rfl⟩
  rw [hr]
  have HR := Lib.hid hr
  have HIW := Lib.hid h
  have HO := Lib.hid ho
  unfold maxLen at hc
  clear hr h ho
  generalize hn : l.length = n at *
  have Hn := Lib.hid hn
  clear hn
  go_enter Try.func19, Try.ntmps19
  go_wp2_with fail
  go_loopw [5] (fun c wr => ∃ i : Nat, i ≤ n ∧ c = .int .i64 i ∧ Hid (((l.take i).any fun e => bigB e most) = false) ∧ Below w.heap.size w wr) (fun c _ => n - (intOf c).toNat)
  case atStart => exact ⟨0, by omega, rfl, Lib.hid (by simp), Below.refl _ _⟩
  case round =>
    obtain ⟨i, hi, rfl, HA, hbl⟩ := hrel
    have HBL := Lib.hid hbl
    clear hbl
    by_cases hlt : i < n
    · obtain ⟨e, he⟩ : ∃ e, l[i]? = some e := ⟨l[i]'(by rw [Hn.out]; exact hlt), List.getElem?_eq_getElem _⟩
      obtain ⟨B, off, rfl, hB, c0, c1, c2, c3, c4, c5, c6, c7⟩ := evs_at (InW.bel HIW.out HBL.out) he
      have hi0 : (0 : Int) ≤ (i : Int) := by omega
      have hi1 : (i : Int) < (n : Int) := by omega
      have BG := Lib.hid (big_any e most wr (HO.out e (List.mem_of_getElem? he)) hm)
      have HE := Lib.hid he
      clear he
      cases hbg : bigB e most with
      | true =>
        rw [hbg] at BG
        have er : r = true := by
          rw [← HR.out, List.any_eq_true]
          exact ⟨e, List.mem_of_getElem? HE.out, hbg⟩
        subst er
        clear hbg
        go_wp2_with fail
        refine BG.out.mono ?_
        rintro x w2 ⟨rfl, b2⟩
        have HB2 := Lib.hid (HBL.out.trans (b2.mono HBL.out.size))
        clear b2
        go_wp2_with fail
        go_ret
        exact ⟨rfl, HB2.out⟩
      | false =>
        rw [hbg] at BG
        have HA' : Hid (((l.take (i + 1)).any fun e => bigB e most) = false) := Lib.hid (by
          rw [List.take_add_one, HE.out, List.any_append, HA.out]
          simp [hbg])
        clear hbg
        go_wp2_with fail
        refine BG.out.mono ?_
        rintro x w2 ⟨rfl, b2⟩
        have HB2 := Lib.hid (HBL.out.trans (b2.mono HBL.out.size))
        clear b2
        go_wp2_with fail
        go_roundw
        case rel => exact ⟨i + 1, by omega, by go_num, HA', HB2.out⟩
        case measure => simp [intOf]; omega
    · have er : r = false := by
        rw [← HR.out]
        have h := HA.out
        rw [List.take_of_length_le (by rw [Hn.out]; omega)] at h
        exact h
      subst er
      go_wp2_with fail
      go_ret
      exact ⟨rfl, HBL.out⟩
set_option maxRecDepth 100000 in
set_option maxHeartbeats 4000000 in
theorem evsame_any (b1 b2 : Option Addr) (cap1 cap2 : Nat) (l : List Ev) (w : World) (h1 : InW w b1 8 (l.map evC)) (h2 : InW w b2 8 (l.map evC)) (hl : l.length ≤ 1000000) :
    Calls Try.prog 21 #[.slice b1 l.length cap1, .slice b2 l.length cap2] w fun x w' => x = .returned (.bool true) ∧ Below w.heap.size w w' := by
  have H1 := Lib.hid h1
  have H2 := Lib.hid h2
  clear h1 h2
  generalize hn : l.length = n at *
  have Hn := Lib.hid hn
  clear hn
  go_enter Try.func21, Try.ntmps21
  go_wp2_with fail
  go_loopw [5] (fun c wr => ∃ k q : Nat, k ≤ n ∧ c = .int .i64 k ∧ wr = w.drewN q) (fun c _ => n - (intOf c).toNat)
  case atStart => exact ⟨0, 0, by omega, rfl, rfl⟩
  case round =>
    obtain ⟨i, q, hk, rfl, rfl⟩ := hrel
    by_cases hlt : i < n
    · obtain ⟨e, he⟩ : ∃ e, l[i]? = some e := ⟨l[i]'(by rw [Hn.out]; exact hlt), List.getElem?_eq_getElem _⟩
      obtain ⟨B, off, rfl, hB, c0, c1, c2, c3, c4, c5, c6, c7⟩ := evs_at H1.out he
      obtain ⟨B2, off2, rfl, hB2, d0, d1, d2, d3, d4, d5, d6, d7⟩ := evs_at H2.out he
      have hi0 : (0 : Int) ≤ (i : Int) := by omega
      have hi1 : (i : Int) < (n : Int) := by omega
      clear he
      go_wp2_with fail
      go_quiet (fail)
      go_wp2_with fail
      go_roundw
      case rel => exact ⟨i + 1, q + nq, by omega, by go_num, by simp⟩
      case measure => simp [intOf]; omega
    · obtain rfl : i = n := by omega
      go_wp2_with fail
      go_ret
      exact ⟨rfl, bdrewN (Below.refl _ _) q⟩
end Go.Proofs.Ytgflfjmlhapplaa

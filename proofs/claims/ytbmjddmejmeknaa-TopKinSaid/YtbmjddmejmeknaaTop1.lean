/- The laws of the top: contracts of counts, few; panes and boxes beside one another; adds that came in. -/
import Derived.Test.YtbmjddmejmeknaaPSum
import Derived.Test.YtbmjddmejmeknaaHere
import Derived.LoopTactic
import Derived.Deep.LoopGhost
import Derived.Test.YtbmjddmejmeknaaRowAny
import Derived.Lib.SmallJoins
import Derived.Deep.Strs
namespace Go.Proofs.Ytbmjddmejmeknaa.Pn
open Go.RowKit Go.MapKept Go.Maps Go.ChangeShapes Go.WideShapes
set_option linter.unusedVariables false
theorem Spread.refl (w : World) (B : List Nat) : Spread w B B := fun _ h => .inl h
/-- what an Add leaves -/
def addTo (wd ad : Int) (A : List Ad) (k : ByteArray) (a n : Int) : Int × List Ad := if mayAdd k a n ad then (ad + 1, A ++ [(k, a / wd, n)]) else (ad, A)
theorem add_any (p : Nat) (B : List Nat) (wd ad : Int) (A : List Ad) (k : ByteArray) (a n : Int) (w : World) (h : PaneAt w p B wd ad A) (hk : k.size ≤ 100) (ha : I64 a) (hn : I64 n) :
    Calls Try.prog 16 #[.pointer (some ⟨p, 0, none⟩), .string k, .int .i64 a, .int .i64 n] w fun e w' => e = .returned (.bool (mayAdd k a n ad)) ∧
      ∃ B', PaneAt w' p B' wd (addTo wd ad A k a n).1 (addTo wd ad A k a n).2 ∧ Fr (fun b => b ∈ B) w w' ∧ Spread w B B' := by
  cases hm : mayAdd k a n ad with
  | true =>
    have e : addTo wd ad A k a n = (ad + 1, A ++ [(k, a / wd, n)]) := by simp [addTo, hm]
    rw [e]
    exact add_yes p B wd ad A k a n w h hm
  | false =>
    have e : addTo wd ad A k a n = (ad, A) := by simp [addTo, hm]
    rw [e]
    refine (add_no p B wd ad A k a n w h hk ha hn hm).mono ?_
    rintro e w' ⟨rfl, rfl⟩
    exact ⟨rfl, B, h, Fr.refl _ _, Spread.refl _ _⟩
inductive Ob where
  | pane (p : Nat) (wd ad : Int) (A : List Ad)
  | box (b : Nat) (cs : List Value) (t : TypeId)
def Holds (w : World) : Ob → List Nat → Prop
  | .pane p wd ad A, B => PaneAt w p B wd ad A
  | .box b cs t, B => Bk w b cs t ∧ B = [b]
theorem Holds.fr {S : Nat → Prop} {w w' : World} {o : Ob} {B : List Nat} (h : Holds w o B) (hf : Fr S w w') (hs : ∀ b ∈ B, ¬ S b) : Holds w' o B := by
  cases o with
  | pane p wd ad A => exact PaneAt.fr h hf hs
  | box b cs t =>
    obtain ⟨h1, rfl⟩ := h
    exact ⟨h1.fr hf (hs b (by simp)), rfl⟩
theorem Holds.lt {w : World} {o : Ob} {B : List Nat} (h : Holds w o B) : ∀ b ∈ B, b < w.heap.size := by
  cases o with
  | pane p wd ad A => exact PaneAt.lt h
  | box b cs t =>
    obtain ⟨h1, rfl⟩ := h
    intro b' hb
    simp at hb
    subst hb
    exact h1.lt
def KT : Kind Ob := ⟨Holds, Holds.fr, Holds.lt⟩
theorem h_box {w0 w : World} {os : List Ob} (h : Here KT w0 w os) (cs : List Value) (t : TypeId) : Here KT w0 (w.alloc (.cells cs.toArray t)) (os ++ [.box w.heap.size cs t]) :=
  h.push ((Below.refl _ _).alloc (Nat.le_refl _) _) (o := .box _ _ _) ⟨Bk.new w cs t, rfl⟩ (fun b hb => by simp at hb; omega)
theorem h_boxAt {w0 w : World} {os : List Ob} (h : Here KT w0 w os) {i b : Nat} {cs : List Value} {t : TypeId} (hi : os[i]? = some (.box b cs t)) : Bk w b cs t := by
  obtain ⟨B, h1, _⟩ := h.use hi
  exact h1.1
theorem h_new {w0 w : World} {os : List Ob} (h : Here KT w0 w os) (x : Int) (hx : I64 x) :
    Calls Try.prog 15 #[.int .i64 x] w fun e w' => e = .returned (.pointer (some ⟨w.heap.size + 2, 0, none⟩)) ∧ Here KT w0 w' (os ++ [.pane (w.heap.size + 2) (wdOf x) 0 []]) := by
  refine (new_pane x w hx).mono ?_
  rintro e w' ⟨rfl, h1, h2, h3⟩
  exact ⟨rfl, h.push h2 (o := .pane _ _ _ _) h1 (fun b hb => by simp at hb; omega)⟩
theorem h_add {w0 w : World} {os : List Ob} (h : Here KT w0 w os) {i p : Nat} {wd ad : Int} {A : List Ad} (hi : os[i]? = some (.pane p wd ad A)) (k : ByteArray) (a n : Int) (hk : k.size ≤ 100) (ha : I64 a) (hn : I64 n) :
    Calls Try.prog 16 #[.pointer (some ⟨p, 0, none⟩), .string k, .int .i64 a, .int .i64 n] w fun e w' => e = .returned (.bool (mayAdd k a n ad)) ∧ Here KT w0 w' (os.set i (.pane p wd (addTo wd ad A k a n).1 (addTo wd ad A k a n).2)) := by
  obtain ⟨B, h1, _, h3, _⟩ := h.use hi
  refine (add_any p B wd ad A k a n w h1 hk ha hn).mono ?_
  rintro e w' ⟨rfl, B', g1, g2, g3⟩
  exact ⟨rfl, h3 w' (.pane _ _ _ _) B' g1 g2 g3⟩
set_option maxHeartbeats 400000 in
theorem weight_one (w : World) : Calls Try.prog 18 #[.int .i64 0, .int .i64 5] w fun e w' => e = .returned (.int .i64 1048576) ∧ w = w' := by
  go_enter Try.func18, Try.ntmps18
  go_wp2_with fail
  go_ret
  exact ⟨rfl, rfl⟩
def tA : ByteArray := ⟨#[97]⟩
set_option maxHeartbeats 1000000 in
theorem counts_any (w : World) : Calls Try.prog 5 #[] w fun e w' => e = .returned (.bool true) ∧ Below w.heap.size w w' := by
  have HN := Lib.hid (h_new (Here.nil (K := KT) (Below.refl w.heap.size w)) 10 (by unfold I64; omega))
  go_enter Try.func5, Try.ntmps5
  go_wp2_with fail
  refine HN.out.mono ?_
  rintro e w1 ⟨rfl, h1⟩
  have ha := h_add h1 (i := 0) rfl tA 5 3 (by decide) (by unfold I64; omega) (by unfold I64; omega)
  rw [show mayAdd tA 5 3 0 = true by decide] at ha
  have HA := Lib.hid ha
  clear h1 HN ha
  go_wp2_with fail
  refine HA.out.mono ?_
  rintro e w2 ⟨rfl, h2⟩
  have h2' : Here KT w w2 [.pane (w.heap.size + 2) 10 1 [(tA, 0, 3)]] := h2
  obtain ⟨B, hB, _⟩ := h2'.use (i := 0) rfl
  have hs := sum_any (w.heap.size + 2) B 10 1 [(tA, 0, 3)] tA 0 10 w2 hB (by decide) (by unfold I64; omega) (by unfold I64; omega)
  rw [show psum [(tA, 0, 3)] tA (0 / 10) (10 / 10) = 3 by decide] at hs
  have HS := Lib.hid hs
  have H2 := Lib.hid h2'
  have HW := Lib.hid (weight_one w2)
  clear h2 h2' hs hB HA
  go_wp2_with fail
  refine HS.out.mono ?_
  rintro e wx ⟨rfl, rfl⟩
  go_wp2_with fail
  refine HW.out.mono ?_
  rintro e wx ⟨rfl, rfl⟩
  go_wp2_with fail
  go_ret
  exact ⟨rfl, H2.out.bel⟩
abbrev AddT := ByteArray × Nat × Nat
def atC (a : AddT) : List Value := [.string a.1, .int .u16 (a.2.1 : Int), .int .u16 (a.2.2 : Int)]
def atOk (a : AddT) : Prop := a.1.size ≤ maxLen ∧ a.2.1 ≤ 65535 ∧ a.2.2 ≤ 65535
theorem ats_at {w : World} {b : Option Addr} {xs : List AddT} (h : InW w b 3 (xs.map atC)) {i : Nat} {a : AddT} (hi : xs[i]? = some a) :
    ∃ B off, b = some ⟨B, off, none⟩ ∧ B < w.heap.size ∧ w.cell? ⟨B, off + i * 3, none⟩ = some (.string a.1) ∧ w.cell? ⟨B, off + i * 3 + 1, none⟩ = some (.int .u16 (a.2.1 : Int)) ∧ w.cell? ⟨B, off + i * 3 + 2, none⟩ = some (.int .u16 (a.2.2 : Int)) := by
  rcases h with h | ⟨B, off, hb, hl, hc⟩
  · rw [List.map_eq_nil_iff.1 h] at hi; cases hi
  · have hm : (xs.map atC)[i]? = some (atC a) := by rw [List.getElem?_map, hi]; rfl
    exact ⟨B, off, hb, hl, hc i _ hm 0 _ rfl, hc i _ hm 1 _ rfl, hc i _ hm 2 _ rfl⟩
theorem cellsT1 : Try.prog.cellsOf 9 = 1 := by kernel_rfl
theorem cellsT2 : Try.prog.cellsOf 34 = 1 := by kernel_rfl
theorem u16_wf {q : Int} (h : (Lit.int .u16 q).wf = true) : 0 ≤ q ∧ q ≤ 65535 := by
  simp only [Lit.wf, Bool.and_eq_true, decide_eq_true_eq] at h
  exact h
section
variable {H : Type} {enc : TypeId × Value → H} {W : World}
set_option maxRecDepth 100000 in
theorem open_ats {r : Reach} {b0 : Nat} {v : Value} {d : DataW H} {p : List MemPlace} (hval : Value.okWide Try.prog W r b0 22 v) (h : DataW.Trod enc Try.prog W 0 (fun _ => true) true 22 v d p) :
    ∃ (b : Option Addr) (cap : Nat) (xs : List AddT), v = .slice b xs.length cap ∧ xs.length ≤ cap ∧ cap ≤ maxLen ∧ InW W b 3 (xs.map atC) ∧ ∀ a ∈ xs, atOk a := by
  refine open_slice_as 3 _ _ Try.underlying22 (by kernel_rfl) (by omega) hval h fun c fuel x hl hx => ?_
  obtain ⟨y0, y1, y2, n, _, _, h0, h1, h2⟩ := Deep.trod_struct3 Try.underlying36 hx
  match c, hl with
  | [u0, u1, u2], _ =>
    obtain ⟨a1, e1, _, w1⟩ := DataW.trod_string Try.underlying9 h0
    obtain ⟨a2, e2, _, w2⟩ := DataW.trod_int Try.underlying34 h1
    obtain ⟨a3, e3, _, w3⟩ := DataW.trod_int Try.underlying34 h2
    simp [cellsT1, cellsT2] at e1 e2 e3
    subst e1 e2 e3
    have k2 := u16_wf w2
    have k3 := u16_wf w3
    refine ⟨(a1, a2.toNat, a3.toNat), ?_, w1, by simp only; omega, by simp only; omega⟩
    unfold atC
    simp only
    rw [Int.toNat_of_nonneg k2.1, Int.toNat_of_nonneg k3.1]
end
def fewT (l : List AddT) : Bool := l.all (fun a => decide (a.1.size ≤ 24)) && decide (l.length ≤ 60)
theorem few_of {l : List AddT} (h : fewT l = true) : l.length ≤ 60 ∧ ∀ a ∈ l, a.1.size ≤ 24 := by
  rw [fewT, Bool.and_eq_true] at h
  exact ⟨by simpa using h.2, fun a ha => by simpa using List.all_eq_true.1 h.1 a ha⟩
set_option maxHeartbeats 1000000 in
theorem few_any (b : Option Addr) (cap : Nat) (xs : List AddT) (w : World) (h : InW w b 3 (xs.map atC)) (hm : cap ≤ maxLen) (hl : xs.length ≤ cap) (ho : ∀ a ∈ xs, atOk a) :
    Calls Try.prog 6 #[.slice b xs.length cap] w fun e w' => e = .returned (.bool (fewT xs)) ∧ Below w.heap.size w w' := by
  obtain ⟨r, hr⟩ : ∃ r, fewT xs = r := ⟨_, rfl⟩
  rw [hr]
  have HR := Lib.hid hr
  have HIW := Lib.hid h
  have HO := Lib.hid ho
  clear hr h ho
  unfold maxLen at hm
  generalize hn : xs.length = n at *
  have Hn := Lib.hid hn
  clear hn
  go_enter Try.func6, Try.ntmps6
  go_wp2_with fail
  go_loopw [7] (fun c wr => ∃ k : Nat, k ≤ n ∧ c = .int .i64 k ∧ Below w.heap.size w wr ∧ Hid ((xs.take k).all (fun a => decide (a.1.size ≤ 24)) = true)) (fun c _ => n - (intOf c).toNat)
  case atStart => exact ⟨0, by omega, rfl, Below.refl _ _, Lib.hid (by simp)⟩
  case round =>
    obtain ⟨k, hk, rfl, hbl, HA⟩ := hrel
    have HB := Lib.hid hbl
    by_cases hlt : k < n
    · obtain ⟨a, ha⟩ : ∃ a, xs[k]? = some a := ⟨xs[k]'(by have := Hn.out; omega), List.getElem?_eq_getElem _⟩
      obtain ⟨B, off, rfl, hB, d0, d1, d2⟩ := ats_at HIW.out ha
      have c0 := (hbl.cell (p := ⟨B, off + k * 3, none⟩) hB).trans d0
      have c1 := (hbl.cell (p := ⟨B, off + k * 3 + 1, none⟩) hB).trans d1
      have c2 := (hbl.cell (p := ⟨B, off + k * 3 + 2, none⟩) hB).trans d2
      have hsz : a.1.size ≤ maxLen := (HO.out a (List.mem_of_getElem? ha)).1
      unfold maxLen at hsz
      have HS := Lib.hid ha
      have HBA : Hid (Below w.heap.size w (wr.alloc (.cells #[.string a.1, .int .u16 (a.2.1 : Int), .int .u16 (a.2.2 : Int)] 36))) := Lib.hid (hbl.trans (((Below.refl _ _).alloc (Nat.le_refl _) _).mono hbl.size))
      have hi0 : (0 : Int) ≤ (k : Int) := by omega
      have hi1 : (k : Int) < (n : Int) := by omega
      clear ha d0 d1 d2 hbl
      by_cases hbig : a.1.size ≤ 24
      · have t1 : decide ((24 : Int) < (a.1.size : Int)) = false := decide_eq_false (by omega)
        have HA2 : Hid ((xs.take (k + 1)).all (fun a => decide (a.1.size ≤ 24)) = true) := Lib.hid (by
          rw [List.take_add_one, HS.out, List.all_append, HA.out]
          simp [hbig])
        go_wp2_with fail
        go_roundw
        case rel => exact ⟨k + 1, by omega, by go_num, HBA.out, HA2⟩
        case measure => simp [intOf]; omega
      · have t1 : decide ((24 : Int) < (a.1.size : Int)) = true := decide_eq_true (by omega)
        have e : r = false := by
          rw [← HR.out, fewT, Bool.and_eq_false_iff]
          left
          rw [List.all_eq_false]
          exact ⟨a, List.mem_of_getElem? HS.out, by simpa using hbig⟩
        subst e
        go_wp2_with fail
        go_ret
        exact ⟨rfl, HBA.out⟩
    · obtain rfl : k = n := by omega
      have e : r = decide ((k : Int) ≤ 60) := by
        have h1 := HA.out
        rw [List.take_of_length_le (by rw [Hn.out]; omega)] at h1
        rw [← HR.out, fewT, h1, Hn.out, Bool.true_and]
        exact decide_eq_decide.2 (by omega)
      subst e
      clear hbl
      go_wp2_with fail
      go_ret
      exact ⟨rfl, HB.out⟩
end Go.Proofs.Ytbmjddmejmeknaa.Pn

/- Layer 44: panes beside one another, contracts by one word; the law's long, fill. -/
import Derived.Test.YtlmonbclloamiaaSROdd
import Derived.WalkLawsBesides
import Derived.WalkSpells
namespace Go.Proofs.Ytlmonbclloamiaa
open Go.RowKit Go.MapKept Go.Maps Wide Go.ChangeShapes Go.WideShapes
set_option linter.unusedVariables false
inductive Ob where
  | pane (p : Nat) (wd ad : Int) (A : List Ad)
  | box (b : Nat) (cs : List Value) (t : TypeId)
  | texts (v : Value) (ks : List ByteArray)
def Holds (w : World) : Ob → List Nat → Prop
  | .pane p wd ad A, B => PaneAt w p B wd ad A
  | .box b cs t, B => Bk w b cs t ∧ B = [b]
  | .texts v ks, B => TextsAt w v ks ∧ B = v.ownBlock.toList
theorem Holds.fr {S : Nat → Prop} {w w' : World} {o : Ob} {B : List Nat} (h : Holds w o B) (hf : Fr S w w') (hs : ∀ b ∈ B, ¬ S b) : Holds w' o B := by
  cases o with
  | pane p wd ad A => exact PaneAt.fr h hf hs
  | box b cs t =>
    obtain ⟨h1, rfl⟩ := h
    exact ⟨h1.fr hf (hs b (by simp)), rfl⟩
  | texts v ks =>
    obtain ⟨h1, rfl⟩ := h
    exact ⟨hf.row h1 (fun b hb => hs b (by simp [hb])), rfl⟩
theorem Holds.lt {w : World} {o : Ob} {B : List Nat} (h : Holds w o B) : ∀ b ∈ B, b < w.heap.size := by
  cases o with
  | pane p wd ad A => exact PaneAt.lt h
  | box b cs t =>
    obtain ⟨h1, rfl⟩ := h
    intro b' hb
    simp at hb
    subst hb
    exact h1.lt
  | texts v ks =>
    obtain ⟨h1, rfl⟩ := h
    intro b' hb
    exact own_lt h1 (Option.mem_toList.1 hb)
def K44 : Kind Ob := ⟨Holds, Holds.fr, Holds.lt⟩
theorem h_box {w0 w : World} {os : List Ob} (h : Here K44 w0 w os) (cs : List Value) (t : TypeId) : Here K44 w0 (w.alloc (.cells cs.toArray t)) (os ++ [.box w.heap.size cs t]) :=
  h.push ((Below.refl _ _).alloc (Nat.le_refl _) _) (o := .box _ _ _) ⟨Bk.new w cs t, rfl⟩ (fun b hb => by simp at hb; omega)
theorem h_boxAt {w0 w : World} {os : List Ob} (h : Here K44 w0 w os) {i b : Nat} {cs : List Value} {t : TypeId} (hi : os[i]? = some (.box b cs t)) : Bk w b cs t := by
  obtain ⟨B, h1, _⟩ := h.use hi
  exact h1.1
theorem h_texts {w0 w w' : World} {os : List Ob} (h : Here K44 w0 w os) {v : Value} {ks : List ByteArray} (hb : Below w.heap.size w w') (ht : TextsAt w' v ks) (hn : ∀ b, v.ownBlock = some b → w.heap.size ≤ b) : Here K44 w0 w' (os ++ [.texts v ks]) :=
  h.push hb (o := .texts _ _) ⟨ht, rfl⟩ (fun b hb => hn b (Option.mem_toList.1 hb))
theorem h_textsAt {w0 w : World} {os : List Ob} (h : Here K44 w0 w os) {i : Nat} {v : Value} {ks : List ByteArray} (hi : os[i]? = some (.texts v ks)) : TextsAt w v ks := by
  obtain ⟨B, h1, _⟩ := h.use hi
  exact h1.1
theorem h_wd {w0 w : World} {os : List Ob} (h : Here K44 w0 w os) {i p : Nat} {wd ad : Int} {A : List Ad} (hi : os[i]? = some (.pane p wd ad A)) : w.cell? ⟨p, 0, none⟩ = some (.int .i64 wd) := by
  obtain ⟨B, h1, _⟩ := h.use hi
  exact PaneAt.wdCell h1
theorem h_new {w0 w : World} {os : List Ob} (h : Here K44 w0 w os) (x : Int) (hx : I64 x) :
    Calls Try.prog 23 #[.int .i64 x] w fun e w' => e = .returned (.pointer (some ⟨w.heap.size + 2, 0, none⟩)) ∧ Here K44 w0 w' (os ++ [.pane (w.heap.size + 2) (wdOf x) 0 []]) := by
  refine (new_pane x w hx).mono ?_
  rintro e w' ⟨rfl, h1, h2, h3⟩
  exact ⟨rfl, h.push h2 (o := .pane _ _ _ _) h1 (fun b hb => by simp at hb; omega)⟩
theorem h_add {w0 w : World} {os : List Ob} (h : Here K44 w0 w os) {i p : Nat} {wd ad : Int} {A : List Ad} (hi : os[i]? = some (.pane p wd ad A)) (k : ByteArray) (a n : Int) (hk : k.size ≤ 100) (ha : I64 a) (hn : I64 n) :
    Calls Try.prog 24 #[.pointer (some ⟨p, 0, none⟩), .string k, .int .i64 a, .int .i64 n] w fun e w' => e = .returned (.bool (mayAdd k a n ad)) ∧ Here K44 w0 w' (os.set i (.pane p wd (addTo wd ad A k a n).1 (addTo wd ad A k a n).2)) := by
  obtain ⟨B, h1, _, h3, _⟩ := h.use hi
  refine (add_any p B wd ad A k a n w h1 hk ha hn).mono ?_
  rintro e w' ⟨rfl, B', g1, g2, g3⟩
  exact ⟨rfl, h3 w' (.pane _ _ _ _) B' g1 g2 g3⟩
theorem h_width {w0 w : World} {os : List Ob} (h : Here K44 w0 w os) {i p : Nat} {wd ad : Int} {A : List Ad} (hi : os[i]? = some (.pane p wd ad A)) :
    Calls Try.prog 18 #[.pointer (some ⟨p, 0, none⟩)] w fun e w' => e = .returned (.int .i64 wd) ∧ w = w' := width_any p wd w (h_wd h hi)
def nowV (A : List Ad) (pe bk wd now : Int) (k : ByteArray) : Int := if rightS pe bk wd now then nowS A k wd now else 0
def usuN (A : List Ad) (pe bk wd now : Int) (k : ByteArray) : Int := if rightS pe bk wd now then thenS A k pe wd now bk.toNat else 0
def usuD (pe bk wd now : Int) : Int := if rightS pe bk wd now then bk else 1
def OddsV (A : List Ad) (pe bk wd now fl : Int) (os : List ByteArray) : Prop := if rightS pe bk wd now then OddsOf A pe bk wd now fl os else os = []
theorem OddsV.uniq {A A' : List Ad} {pe bk wd now fl : Int} {os os' : List ByteArray} (h : OddsV A pe bk wd now fl os) (h' : OddsV A' pe bk wd now fl os') (e : ∀ k, nowS A k wd now = nowS A' k wd now ∧ thenS A k pe wd now bk.toNat = thenS A' k pe wd now bk.toNat) : os = os' := by
  unfold OddsV at h h'
  split at h
  · rename_i hr
    rw [if_pos hr] at h'
    refine h.1.ext h'.1 (fun k => ?_)
    rw [h.2, h'.2]
    unfold oddB
    rw [(e k).1, (e k).2]
  · rename_i hr
    rw [if_neg hr] at h'
    rw [h, h']
theorem right_no {w0 w : World} {os : List Ob} (h : Here K44 w0 w os) {i p : Nat} {wd ad : Int} {A : List Ad} (hi : os[i]? = some (.pane p wd ad A)) (pe bk now : Int) (h1 : I64 pe) (h2 : I64 bk) (h4 : I64 now) (hr : rightS pe bk wd now = false) :
    ∀ W, Below w.heap.size w W → Calls Try.prog 26 #[.pointer (some ⟨p, 0, none⟩), .agg #[.int .i64 pe, .int .i64 bk], .int .i64 now] W fun e w' => e = .returned (.bool false) ∧ Below W.heap.size W w' := fun W hb => by
  obtain ⟨B, g1, _⟩ := (h.step_bel hb).use hi
  have hw1 := PaneAt.w1 g1
  have hw2 := PaneAt.w2 g1
  have := right_any p pe bk wd now W (PaneAt.wdCell g1) (PaneAt.ptr g1) h1 h2 (by unfold I64; omega) h4
  rw [hr] at this
  exact this
theorem h_now {w0 w : World} {os : List Ob} (h : Here K44 w0 w os) {i p : Nat} {wd ad : Int} {A : List Ad} (hi : os[i]? = some (.pane p wd ad A)) (pe bk now : Int) (k : ByteArray) (hk : k.size ≤ 100) (h1 : I64 pe) (h2 : I64 bk) (h4 : I64 now) :
    Calls Try.prog 12 #[.pointer (some ⟨p, 0, none⟩), .agg #[.int .i64 pe, .int .i64 bk], .string k, .int .i64 now] w fun e w' => e = .returned (.int .i64 (nowV A pe bk wd now k)) ∧ Below w.heap.size w w' := by
  obtain ⟨B, g1, _⟩ := h.use hi
  unfold nowV
  cases hr : rightS pe bk wd now with
  | true => exact now_yes p B wd ad A k pe bk now w g1 hk hr
  | false => exact now_no _ pe bk now k w (right_no h hi pe bk now h1 h2 h4 hr)
theorem h_usual {w0 w : World} {os : List Ob} (h : Here K44 w0 w os) {i p : Nat} {wd ad : Int} {A : List Ad} (hi : os[i]? = some (.pane p wd ad A)) (hl : A.length ≤ 1000) (pe bk now : Int) (k : ByteArray) (hk : k.size ≤ 100) (h1 : I64 pe) (h2 : I64 bk) (h4 : I64 now) :
    Calls Try.prog 13 #[.pointer (some ⟨p, 0, none⟩), .agg #[.int .i64 pe, .int .i64 bk], .string k, .int .i64 now] w fun e w' => e = .returned (.agg #[.int .i64 (usuN A pe bk wd now k), .int .i64 (usuD pe bk wd now)]) ∧ Below w.heap.size w w' := by
  obtain ⟨B, g1, _⟩ := h.use hi
  unfold usuN usuD
  cases hr : rightS pe bk wd now with
  | true => exact usual_yes p B wd ad A k pe bk now w g1 hl hk hr
  | false => exact usual_no _ pe bk now k w (right_no h hi pe bk now h1 h2 h4 hr)
theorem h_oddN {w0 w : World} {os : List Ob} (h : Here K44 w0 w os) {i p : Nat} {wd ad : Int} {A : List Ad} (hi : os[i]? = some (.pane p wd ad A)) (hl : A.length ≤ 1000) (pe bk now fl : Int) (h1 : I64 pe) (h2 : I64 bk) (h4 : I64 now) (h5 : I64 fl) :
    Calls Try.prog 14 #[.pointer (some ⟨p, 0, none⟩), .agg #[.int .i64 pe, .int .i64 bk], .int .i64 now, .int .i64 fl] w fun e w' => ∃ v ks, e = .returned v ∧ OddsV A pe bk wd now fl ks ∧ TextsAt w' v ks ∧ (∀ b, v.ownBlock = some b → w.heap.size ≤ b) ∧ Below w.heap.size w w' := by
  obtain ⟨B, g1, _⟩ := h.use hi
  unfold OddsV
  cases hr : rightS pe bk wd now with
  | true => exact odd_yes p B wd ad A pe bk now fl w g1 hl hr h5
  | false =>
    refine (odd_no _ pe bk now fl w (right_no h hi pe bk now h1 h2 h4 hr)).mono ?_
    rintro e w' ⟨rfl, hb⟩
    exact ⟨_, [], rfl, rfl, own_nil _ _, by simp [Value.ownBlock], hb⟩
theorem h_odd {w0 w : World} {os : List Ob} (h : Here K44 w0 w os) {i p : Nat} {wd ad : Int} {A : List Ad} (hi : os[i]? = some (.pane p wd ad A)) (hl : A.length ≤ 1000) (pe bk now fl : Int) (h1 : I64 pe) (h2 : I64 bk) (h4 : I64 now) (h5 : I64 fl) :
    Calls Try.prog 14 #[.pointer (some ⟨p, 0, none⟩), .agg #[.int .i64 pe, .int .i64 bk], .int .i64 now, .int .i64 fl] w fun e w' => ∃ v ks, e = .returned v ∧ OddsV A pe bk wd now fl ks ∧ TextsAt w' v ks ∧ Below w.heap.size w w' :=
  (h_oddN h hi hl pe bk now fl h1 h2 h4 h5).mono fun _ _ ⟨v, ks, a, b, c, _, d⟩ => ⟨v, ks, a, b, c, d⟩
/-- are there more adds, or periods, than are asked about? -/
def longB (l : List Add10) (bk : Int) : Bool := !(l.all fun a => decide (a.1.size ≤ 60)) || (decide (40 < l.length) || (decide (60 < bk) && decide (bk ≤ 1000)))
theorem long_of {l : List Add10} {bk : Int} (h : longB l bk = false) : l.length ≤ 40 ∧ ∀ a ∈ l, a.1.size ≤ 60 := by
  unfold longB at h
  simp only [Bool.or_eq_false_iff, Bool.not_eq_false', decide_eq_false_iff_not] at h
  exact ⟨by omega, fun a ha => by simpa using List.all_eq_true.1 h.1 a ha⟩
set_option maxHeartbeats 2000000 in
theorem long_any (b : Option Addr) (cap : Nat) (l : List Add10) (pe bk : Int) (w : World) (h : InW w b 3 (l.map a10C)) (hm : cap ≤ maxLen) (hlc : l.length ≤ cap) (ho : ∀ a ∈ l, a10Ok a) :
    Calls Try.prog 15 #[.slice b l.length cap, .agg #[.int .i64 pe, .int .i64 bk]] w fun e w' => e = .returned (.bool (longB l bk)) ∧ Below w.heap.size w w' := by
  unfold maxLen at hm
  have HIW := Lib.hid h
  have HO := Lib.hid ho
  obtain ⟨r, hr⟩ : ∃ r, longB l bk = r := ⟨_, rfl⟩
  rw [hr]
  have HR := Lib.hid hr
  have hbk := Bk.new w [.int .i64 pe, .int .i64 bk] 23
  have HBK := Lib.hid hbk
  have HBB := Lib.hid ((Below.refl w.heap.size w).alloc (Nat.le_refl _) (.cells #[.int .i64 pe, .int .i64 bk] 23))
  obtain ⟨N, hN⟩ : ∃ N, w.heap.size = N := ⟨_, rfl⟩
  have HN := Lib.hid hN
  clear hr h ho hbk hN
  generalize hn : l.length = n at *
  have Hn := Lib.hid hn
  clear hn
  obtain ⟨W1, hW1⟩ : ∃ W1, w.alloc (.cells #[.int .i64 pe, .int .i64 bk] 23) = W1 := ⟨_, rfl⟩
  have HW1 := Lib.hid hW1
  clear hW1
  go_enter Try.func15, Try.ntmps15
  go_wp2_with fail
  rw [HN.out, HW1.out]
  go_loopw [9] (fun c wr => ∃ i : Nat, i ≤ n ∧ c = .int .i64 i ∧ Hid ((l.take i).all (fun a => decide (a.1.size ≤ 60)) = true) ∧ Below W1.heap.size W1 wr) (fun c _ => n - (intOf c).toNat)
  case atStart => exact ⟨0, by omega, rfl, Lib.hid (by simp), Below.refl _ _⟩
  case round =>
    obtain ⟨i, hi, rfl, HA, hbl⟩ := hrel
    have HBL := Lib.hid hbl
    have hwB : Below w.heap.size w wr := by
      have h1 := HBB.out
      rw [HW1.out] at h1
      exact h1.trans (hbl.mono h1.size)
    have HWB := Lib.hid hwB
    clear hbl hwB
    by_cases hlt : i < n
    · obtain ⟨a, ha⟩ : ∃ a, l[i]? = some a := ⟨l[i]'(by rw [Hn.out]; exact hlt), List.getElem?_eq_getElem _⟩
      obtain ⟨B, off, hbb, hB, c0, c1, c2⟩ := adds10_at (InW.bel HIW.out HWB.out) ha
      subst hbb
      have hao := (HO.out a (List.mem_of_getElem? ha)).1
      unfold maxLen at hao
      have hi0 : (0 : Int) ≤ (i : Int) := by omega
      have hi1 : (i : Int) < (n : Int) := by omega
      have HX := Lib.hid ha
      have HB2 := Lib.hid (HWB.out.alloc HWB.out.size (.cells #[.string a.1, .int .i64 a.2.1, .int .i64 a.2.2] 51))
      have HB3 := Lib.hid (HBL.out.alloc HBL.out.size (.cells #[.string a.1, .int .i64 a.2.1, .int .i64 a.2.2] 51))
      clear ha
      by_cases hs : a.1.size ≤ 60
      · go_wp2_with fail
        go_roundw
        case rel =>
          refine ⟨i + 1, by omega, by go_num, Lib.hid ?_, HB3.out⟩
          rw [List.take_add_one, HX.out, List.all_append, HA.out]
          simp [hs]
        case measure => simp [intOf]; omega
      · have e : r = true := by
          rw [← HR.out]; unfold longB
          have : (l.all fun a => decide (a.1.size ≤ 60)) = false := by
            rw [List.all_eq_false]
            exact ⟨a, List.mem_of_getElem? HX.out, by simpa using hs⟩
          rw [this]; rfl
        subst e
        go_wp2_with fail
        go_ret
        exact ⟨rfl, HB2.out⟩
    · obtain rfl : i = n := by omega
      have hall : (l.all fun a => decide (a.1.size ≤ 60)) = true := by
        have h := HA.out
        rw [List.take_of_length_le (by rw [Hn.out]; exact Nat.le_refl _)] at h
        exact h
      have HV : Hid (r = (decide (40 < i) || (decide (60 < bk) && decide (bk ≤ 1000)))) := Lib.hid (by rw [← HR.out]; unfold longB; rw [hall, Hn.out]; rfl)
      have hk : Bk wr N [.int .i64 pe, .int .i64 bk] 23 := by
        have h1 := HBK.out
        rw [HW1.out, HN.out] at h1
        exact h1.bel HBL.out
      have k1 := hk.cell 1
      clear hall hk
      go_wp2_with fail
      all_goals
        go_ret
        refine ⟨ret_bool ?_, HWB.out⟩
        rw [HV.out]
        first | (rw [Bool.eq_iff_iff]; simp; omega) | (rw [Bool.eq_iff_iff]; simp; intros; omega) | grind
end Go.Proofs.Ytlmonbclloamiaa

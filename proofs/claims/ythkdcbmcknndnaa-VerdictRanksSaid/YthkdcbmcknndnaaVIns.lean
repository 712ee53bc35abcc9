/- The sort of a block: each element is let down to its place. -/
import Derived.Test.YthkdcbmcknndnaaVRot
import Derived.Deep.RegionHeld3
namespace Go.Proofs.Ythkdcbmcknndnaa
open Go.RowKit Go.ChangeShapes Go.WideShapes
set_option linter.unusedVariables false
set_option linter.unusedSimpArgs false
namespace Rk
/-- two neighbours' places in the text of a swap -/
theorem SW.swap8 {w0 W : World} {b : Nat} {sp : List Value} {l : List Rw} (h : SW w0 b sp l W) {i j : Nat} {x y : Rw} (hx : l[i]? = some x) (hy : l[j]? = some y) :
    SW w0 b sp ((l.set i y).set j x) ((((((((W.setCell ⟨b, i * 4, none⟩ (.string y.arm)).setCell ⟨b, i * 4 + 1, none⟩ (.int .i64 y.pe)).setCell ⟨b, i * 4 + 2, none⟩ (.int .i64 y.bo)).setCell ⟨b, i * 4 + 3, none⟩ (.int .i64 y.wo)).setCell ⟨b, j * 4, none⟩ (.string x.arm)).setCell ⟨b, j * 4 + 1, none⟩ (.int .i64 x.pe)).setCell ⟨b, j * 4 + 2, none⟩ (.int .i64 x.bo)).setCell ⟨b, j * 4 + 3, none⟩ (.int .i64 x.wo)).drew :=
  (SW.set4 (SW.set4 h (List.getElem?_eq_some_iff.1 hx).1 y) (by rw [List.length_set]; exact (List.getElem?_eq_some_iff.1 hy).1) x).drew
theorem SW.swap4 {w0 W : World} {b : Nat} {sp : List Value} {l : List Rw} (h : SW w0 b sp l W) {i j : Nat} {x y : Rw} (hx : l[i]? = some x) (hy : l[j]? = some y) (hij : i ≠ j) :
    SW w0 b sp (l.set i y) ((((W.setCell ⟨b, i * 4, none⟩ (.string y.arm)).setCell ⟨b, i * 4 + 1, none⟩ (.int .i64 y.pe)).setCell ⟨b, i * 4 + 2, none⟩ (.int .i64 y.bo)).setCell ⟨b, i * 4 + 3, none⟩ (.int .i64 y.wo)).drew ∧ (l.set i y)[j]? = some y :=
  ⟨(SW.set4 h (List.getElem?_eq_some_iff.1 hx).1 y).drew, by rw [List.getElem?_set_ne hij]; exact hy⟩
/-- neighbours swapped -/
theorem set_near (p q : List Rw) (x y : Rw) : ((p ++ x :: y :: q).set (p.length + 1) x).set p.length y = p ++ y :: x :: q := by
  rw [List.set_append_right _ _ (by omega), List.set_append_right _ _ (by omega)]; simp
theorem set_near' (p q : List Rw) (x y : Rw) : ((p ++ x :: y :: q).set p.length y).set (p.length + 1) x = p ++ y :: x :: q := by
  rw [List.set_append_right _ _ (by omega), List.set_append_right _ _ (by omega)]; simp
theorem near_at (p q : List Rw) (x y : Rw) : (p ++ x :: y :: q)[p.length]? = some x ∧ (p ++ x :: y :: q)[p.length + 1]? = some y := by
  constructor <;> simp
structure InsO (w W : World) (b : Nat) (sp : List Value) (x u y : List Rw) (i : Nat) (z r : List Rw) : Prop where
  sw : SW w b sp (x ++ (z ++ (r ++ y))) W
  len : x.length + z.length = i
  perm : (z ++ r).Perm u
  srt : Srt ltRw z
structure InsI (w W : World) (b : Nat) (sp : List Value) (x u y : List Rw) (i j : Nat) (z1 : List Rw) (c : Rw) (z2 r : List Rw) : Prop where
  sw : SW w b sp (x ++ (z1 ++ c :: (z2 ++ (r ++ y)))) W
  len : x.length + z1.length = j
  all : x.length + z1.length + z2.length = i
  perm : (z1 ++ c :: z2 ++ r).Perm u
  srt : Srt ltRw (z1 ++ z2)
  gt : ∀ e ∈ z2, ltRw e c = false
theorem InsI.stop {w W : World} {b : Nat} {sp : List Value} {x u y : List Rw} {i j : Nat} {z1 : List Rw} {c : Rw} {z2 r : List Rw} (h : InsI w W b sp x u y i j z1 c z2 r) (hs : ∀ e ∈ z1, ltRw c e = false) : InsO w W b sp x u y (i + 1) (z1 ++ c :: z2) r :=
  ⟨by simpa [List.append_assoc] using h.sw, by have := h.all; simp; omega, h.perm, put_srt h.srt hs h.gt⟩
theorem not_lt_all {z1 : List Rw} {l c : Rw} (h : Srt ltRw (z1 ++ [l])) (hl : ltRw c l = false) : ∀ e ∈ z1 ++ [l], ltRw c e = false := fun e he => by
  rcases List.mem_append.1 he with he | he
  · have := (List.pairwise_append.1 h).2.2 e he l (by simp)
    exact pre.tr e l c this hl
  · have : e = l := by simpa using he
    subst this; exact hl
theorem InsI.stop' {w W : World} {b : Nat} {sp : List Value} {x u y : List Rw} {i j : Nat} {z1 : List Rw} {l c : Rw} {z2 r : List Rw} (h : InsI w W b sp x u y i j (z1 ++ [l]) c z2 r) (hs : ltRw c l = false) : InsO w W b sp x u y (i + 1) (z1 ++ [l] ++ c :: z2) r :=
  h.stop (not_lt_all (List.pairwise_append.1 h.srt).1 hs)
theorem InsI.step {w W W' : World} {b : Nat} {sp : List Value} {x u y : List Rw} {i j : Nat} {z1 : List Rw} {l c : Rw} {z2 r : List Rw} (h : InsI w W b sp x u y i (j + 1) (z1 ++ [l]) c z2 r) (hs : ltRw c l = true)
    (hw : SW w b sp (x ++ (z1 ++ c :: l :: (z2 ++ (r ++ y)))) W') : InsI w W' b sp x u y i j z1 c (l :: z2) r := by
  refine ⟨hw, by have := h.len; simp at this; omega, by have := h.all; simp at this ⊢; omega, ?_, by simpa using h.srt, fun e he => ?_⟩
  · refine List.Perm.trans ?_ h.perm
    have : (z1 ++ c :: l :: z2).Perm (z1 ++ l :: c :: z2) := (List.Perm.swap l c z2).append_left z1
    simpa [List.append_assoc] using this.append_right r
  · rcases List.mem_cons.1 he with rfl | he
    · exact pre.as _ _ hs
    · exact h.gt e he
theorem InsO.start {w W : World} {b : Nat} {sp : List Value} {x u y : List Rw} {i : Nat} {z r : List Rw} {c : Rw} (h : InsO w W b sp x u y i z (c :: r)) : InsI w W b sp x u y i i z c [] r :=
  ⟨by simpa using h.sw, h.len, by have := h.len; simpa using this, by simpa using h.perm, by simpa using h.srt, fun e he => by cases he⟩
def Sorted (w : World) (b : Nat) (sp : List Value) (x u y : List Rw) (w' : World) : Prop := ∃ z, z.Perm u ∧ Srt ltRw z ∧ SW w b sp (x ++ (z ++ y)) w'
theorem SW.bels {w0 W : World} {b : Nat} {sp : List Value} {l : List Rw} (h : SW w0 b sp l W) {i j : Nat} {x y : Rw} (hx : l[i]? = some x) (hy : l[j]? = some y) {X : World} (hb : Below W.heap.size W X) :
    X.cell? ⟨b, i * 4, none⟩ = some (.string x.arm) ∧ X.cell? ⟨b, i * 4 + 1, none⟩ = some (.int .i64 x.pe) ∧ X.cell? ⟨b, i * 4 + 2, none⟩ = some (.int .i64 x.bo) ∧ X.cell? ⟨b, i * 4 + 3, none⟩ = some (.int .i64 x.wo) ∧
    X.cell? ⟨b, j * 4, none⟩ = some (.string y.arm) ∧ X.cell? ⟨b, j * 4 + 1, none⟩ = some (.int .i64 y.pe) ∧ X.cell? ⟨b, j * 4 + 2, none⟩ = some (.int .i64 y.bo) ∧ X.cell? ⟨b, j * 4 + 3, none⟩ = some (.int .i64 y.wo) := by
  obtain ⟨a0, a1, a2, a3⟩ := (h.bel hb).cells hx
  obtain ⟨c0, c1, c2, c3⟩ := (h.bel hb).cells hy
  exact ⟨a0, a1, a2, a3, c0, c1, c2, c3⟩
/-- the closure, as the sorts call it -/
theorem clo_any {x y : Rw} (hx : Ok x) (hy : Ok y) (W : World) : Calls Try.prog 14 #[.agg #[.string x.arm, .int .i64 x.pe, .int .i64 x.bo, .int .i64 x.wo], .agg #[.string y.arm, .int .i64 y.pe, .int .i64 y.bo, .int .i64 y.wo]] W fun e w' => e = .returned (.int .i64 (cRw x y)) ∧ Below W.heap.size W w' :=
  rank1_any x y W hx hy
theorem cRw_yes {x y : Rw} : ltRw x y = true ↔ cRw x y < 0 := by rw [cRw_lt]; exact decide_eq_true_iff
theorem cRw_no {x y : Rw} : ltRw x y = false ↔ ¬ cRw x y < 0 := by rw [cRw_lt]; exact decide_eq_false_iff_not
set_option maxHeartbeats 8000000 in
set_option maxRecDepth 100000 in
theorem isort_parts (w : World) (b : Nat) (sp : List Value) (x : List Rw) (u0 : Rw) (u y : List Rw) (n cap : Nat) (ai bi : Int) (h : Bk w b ((x ++ ((u0 :: u) ++ y)).flatMap rwC ++ sp) 24) (hn : n = x.length + (u.length + 1) + y.length)
    (ha : ai = x.length) (hb : bi = x.length + (u.length + 1)) (hok : ∀ e ∈ u0 :: u, Ok e) (h1000 : n ≤ 1000) (hcap : n ≤ cap) (hmax : cap ≤ maxLen) :
    Calls Try.prog 29 #[.slice (some ⟨b, 0, none⟩) n cap, .int .i64 ai, .int .i64 bi, .func (.func 14) #[] #[]] w fun e w' => e = .returned (.tuple #[]) ∧ Sorted w b sp x (u0 :: u) y w' := by
  obtain ⟨a, hA⟩ : ∃ a, a = x.length := ⟨_, rfl⟩
  obtain ⟨B, hB⟩ : ∃ B, B = x.length + (u.length + 1) := ⟨_, rfl⟩
  obtain rfl : ai = (a : Int) := by omega
  obtain rfl : bi = (B : Int) := by omega
  have H0 := Lib.hid (InsO.mk (w := w) (W := w) (b := b) (sp := sp) (x := x) (u := u0 :: u) (y := y) (i := a + 1) (z := [u0]) (r := u) (by simpa using SW.start h) (by simp; omega) (by simp) (List.pairwise_singleton _ _))
  have HOK := Lib.hid hok
  have HN := Lib.hid hn
  have HAB := Lib.hid (And.intro hA hB)
  unfold maxLen at hmax
  have q1 : a + 1 ≤ B := by omega
  have q2 : B ≤ n := by omega
  clear h hn ha hb hok hA hB
  generalize u0 :: u = u1 at *
  go_enter Try.func29, Try.ntmps29
  go_wp2_with fail
  go_loopg [8] (B - a) (fun g1 vi wr => ∃ (i : Nat) (z r : List Rw), vi = .int .i64 i ∧ a < i ∧ i ≤ B ∧ B - i ≤ g1 ∧ Hid (InsO w wr b sp x u1 y i z r ∧ i + r.length = B))
  case atStart => exact ⟨a + 1, [u0], u, by go_num, by omega, q1, by omega, Lib.hid ⟨H0.out, by have := HAB.out; omega⟩⟩
  case round =>
    obtain ⟨i, z, r, rfl, hai, hib, hg1, HO⟩ := hrel
    clear H0 q1
    by_cases hlt : i < B
    · obtain ⟨c, r, rfl⟩ : ∃ c r', r = c :: r' := by
        cases r with
        | nil => have := HO.out.2; simp at this; omega
        | cons c r => exact ⟨c, r, rfl⟩
      have HS := Lib.hid (And.intro HO.out.1.start (show i + 1 + r.length = B by have := HO.out.2; simp at this; omega))
      clear HO
      go_wp2_with fail
      go_loopg [9] i (fun g2 vj wr2 => ∃ (j : Nat) (z1 z2 : List Rw), vj = .int .i64 j ∧ a ≤ j ∧ j ≤ i ∧ j ≤ g2 ∧ Hid (InsI w wr2 b sp x u1 y i j z1 c z2 r))
      case atStart => exact ⟨i, z, [], rfl, by omega, Nat.le_refl _, Nat.le_refl _, Lib.hid HS.out.1⟩
      case round =>
        obtain ⟨j, z1, z2, rfl, haj, hji, hg2, H⟩ := hrel
        by_cases hja : a < j
        · obtain ⟨z1, l, rfl⟩ : ∃ z l, z1 = z ++ [l] := by
            rcases List.eq_nil_or_concat z1 with e | ⟨z, l, e⟩
            · subst e; have k1 := H.out.len; have k2 := HAB.out.1; simp at k1; omega
            · exact ⟨z, l, by rw [e]; exact List.concat_eq_append⟩
          obtain ⟨jp, rfl⟩ : ∃ jp, j = jp + 1 := ⟨j - 1, by omega⟩
          have hsw := H.out.sw
          have hlen := H.out.len
          rw [show x ++ (z1 ++ [l] ++ c :: (z2 ++ (r ++ y))) = (x ++ z1) ++ l :: c :: (z2 ++ (r ++ y)) by simp [List.append_assoc]] at hsw
          obtain ⟨n1, n2⟩ := near_at (x ++ z1) (z2 ++ (r ++ y)) l c
          have e1 : (x ++ z1).length = jp := by simp at hlen ⊢; omega
          have hset := set_near (x ++ z1) (z2 ++ (r ++ y)) l c
          rw [e1] at n1 n2 hset
          have hm : l ∈ u1 ∧ c ∈ u1 := ⟨H.out.perm.mem_iff.1 (by simp), H.out.perm.mem_iff.1 (by simp)⟩
          have HC : Hid (∀ W, Calls Try.prog 14 #[.agg #[.string c.arm, .int .i64 c.pe, .int .i64 c.bo, .int .i64 c.wo], .agg #[.string l.arm, .int .i64 l.pe, .int .i64 l.bo, .int .i64 l.wo]] W fun e w' => e = .returned (.int .i64 (cRw c l)) ∧ Below W.heap.size W w') := Lib.hid (fun W => clo_any (HOK.out _ hm.2) (HOK.out _ hm.1) W)
          have HB : Hid (∀ X, Below wr.heap.size wr X → _) := Lib.hid (fun X hX => SW.bels hsw n2 n1 hX)
          have HW : Hid (∀ W, Below wr.heap.size wr W → SW w b sp (x ++ z1 ++ l :: c :: (z2 ++ (r ++ y))) W) := Lib.hid (fun W hW => hsw.bel hW)
          have HQ := Lib.hid (And.intro n1 (And.intro n2 hset))
          have HE1 := Lib.hid e1
          have jz0 : (0 : Int) ≤ (jp : Int) + 1 := by omega
          have jz1 : (jp : Int) + 1 < n := by omega
          have jz2 : (jp : Int) < n := by omega
          have jz3 : decide ((a : Int) < (jp : Int) + 1) = true := decide_eq_true (by omega)
          have jz4 : (a : Int) < (jp : Int) + 1 := by omega
          have jz5 : ((jp : Int) + 1).toNat = jp + 1 := by omega
          have jz6 : IntKind.i64.wrap (jp : Int) = (jp : Int) := by rw [IntKind.wrap_i64]; omega
          obtain ⟨cv, hcv⟩ : ∃ cv, cRw c l = cv := ⟨_, rfl⟩
          rw [hcv] at HC
          have HCV := Lib.hid hcv
          clear hcv n1 n2 hset hsw hlen e1 hm
          by_cases hneg : cv < 0
          · have t1 : decide (cv < 0) = true := decide_eq_true hneg
            go_wp2_with fail
            go_region_held3 (fun X => X.cell? ⟨b, (jp + 1) * 4, none⟩ = some (.string c.arm) ∧ X.cell? ⟨b, (jp + 1) * 4 + 1, none⟩ = some (.int .i64 c.pe) ∧ X.cell? ⟨b, (jp + 1) * 4 + 2, none⟩ = some (.int .i64 c.bo) ∧ X.cell? ⟨b, (jp + 1) * 4 + 3, none⟩ = some (.int .i64 c.wo) ∧ X.cell? ⟨b, jp * 4, none⟩ = some (.string l.arm) ∧ X.cell? ⟨b, jp * 4 + 1, none⟩ = some (.int .i64 l.pe) ∧ X.cell? ⟨b, jp * 4 + 2, none⟩ = some (.int .i64 l.bo) ∧ X.cell? ⟨b, jp * 4 + 3, none⟩ = some (.int .i64 l.wo))
              ((refine HB.out _ ?_; repeat (first | assumption | exact Below.refl _ _ | refine Below.drew ?_ | refine bel_alloc ?_ _)))
              (first
                | (go_at_call 14
                   (with_reducible refine (HC.out _).mono ?_); rintro e wx ⟨rfl, bx⟩; have bv := bel_trans (V := wr) (by repeat (first | assumption | exact Below.refl _ _ | refine Below.drew ?_)) bx)
                | fail)
            have hwx := HW.out wx bv
            obtain ⟨n1, n2, hset⟩ := HQ.out
            obtain ⟨a0, a1, a2, a3⟩ := hwx.cells n2
            obtain ⟨c0, c1, c2, c3⟩ := hwx.cells n1
            obtain ⟨k1, k2⟩ := hwx.swap4 n2 n1 (by omega)
            obtain ⟨d0, d1, d2, d3⟩ := k1.cells k2
            have g0 : ∀ j, wx.frozen? ⟨b, j, none⟩ = false := fun j => hwx.free j
            have g1 := fun j => k1.free j
            have hfin := hwx.swap8 n2 n1
            rw [hset] at hfin
            have HFIN := Lib.hid hfin
            clear k1 k2 hwx n1 n2 hset hfin HB HC bx bv
            go_wp2_with fail
            go_big_region
            all_goals
              go_wp2_with fail
              go_roundg jp
              case measure => omega
              case rel =>
                refine ⟨jp, z1, l :: z2, by first | rfl | go_num, by omega, by omega, Nat.le_refl _, Lib.hid ?_⟩
                refine H.out.step (cRw_yes.2 (by rw [HCV.out]; exact hneg)) ?_
                simpa [List.append_assoc] using HFIN.out
          · have t1 : decide (cv < 0) = false := decide_eq_false hneg
            go_wp2_with fail
            go_region_held3 (fun X => X.cell? ⟨b, (jp + 1) * 4, none⟩ = some (.string c.arm) ∧ X.cell? ⟨b, (jp + 1) * 4 + 1, none⟩ = some (.int .i64 c.pe) ∧ X.cell? ⟨b, (jp + 1) * 4 + 2, none⟩ = some (.int .i64 c.bo) ∧ X.cell? ⟨b, (jp + 1) * 4 + 3, none⟩ = some (.int .i64 c.wo) ∧ X.cell? ⟨b, jp * 4, none⟩ = some (.string l.arm) ∧ X.cell? ⟨b, jp * 4 + 1, none⟩ = some (.int .i64 l.pe) ∧ X.cell? ⟨b, jp * 4 + 2, none⟩ = some (.int .i64 l.bo) ∧ X.cell? ⟨b, jp * 4 + 3, none⟩ = some (.int .i64 l.wo))
              ((refine HB.out _ ?_; repeat (first | assumption | exact Below.refl _ _ | refine Below.drew ?_ | refine bel_alloc ?_ _)))
              (first
                | (go_at_call 14
                   (with_reducible refine (HC.out _).mono ?_); rintro e wx ⟨rfl, bx⟩; have bv := bel_trans (V := wr) (by repeat (first | assumption | exact Below.refl _ _ | refine Below.drew ?_)) bx)
                | fail)
            have hwx := HW.out wx bv
            have HWX := Lib.hid hwx
            clear hwx HB HC bx bv
            go_wp2_with fail
            go_roundg (B - (i + 1))
            case measure => omega
            case rel =>
              have hs := H.out.stop' (cRw_no.2 (by rw [HCV.out]; omega))
              exact ⟨i + 1, z1 ++ [l] ++ c :: z2, r, by go_num, by omega, by omega, Nat.le_refl _, Lib.hid ⟨⟨by simpa [List.append_assoc] using HWX.out, hs.len, hs.perm, hs.srt⟩, HS.out.2⟩⟩
        · have jz1 : decide ((a : Int) < (j : Int)) = false := decide_eq_false (by omega)
          have jz2 : ¬ (a : Int) < (j : Int) := by omega
          have hs : ∀ e ∈ z1, ltRw c e = false := fun e he => by
            have k1 := H.out.len
            have k2 := HAB.out.1
            have : z1 = [] := List.eq_nil_of_length_eq_zero (by omega)
            subst this; cases he
          have HST := Lib.hid (H.out.stop hs)
          clear hs
          go_wp2_with fail
          go_big_region
          all_goals
            go_wp2_with fail
            go_roundg (B - (i + 1))
            case measure => omega
            case rel =>
              have hs := HST.out
              exact ⟨i + 1, _, r, by go_num, by omega, by omega, Nat.le_refl _, Lib.hid ⟨⟨hs.sw.drew, hs.len, hs.perm, hs.srt⟩, HS.out.2⟩⟩
    · have hr : r = [] := List.eq_nil_of_length_eq_zero (by have := HO.out.2; omega)
      have HR := Lib.hid hr
      clear hr
      go_wp2_with fail
      go_end0
      refine ⟨rfl, z, ?_, HO.out.1.srt, ?_⟩
      · have := HO.out.1.perm; rw [HR.out, List.append_nil] at this; exact this
      · have := HO.out.1.sw; rw [HR.out] at this; exact this
end Rk
end Go.Proofs.Ythkdcbmcknndnaa

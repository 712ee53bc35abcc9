/- rotate: two parts of a row, one behind the other, change their places. -/
import Derived.Test.YthkdcbmcknndnaaVSwap
namespace Go.Proofs.Ythkdcbmcknndnaa
open Go.RowKit Go.ChangeShapes Go.WideShapes
set_option linter.unusedVariables false
set_option linter.unusedSimpArgs false
namespace Rk
theorem swp_get {l : List Rw} {i j : Nat} (hi : i < l.length) (hj : j < l.length) (q : Nat) : (swp l i j)[q]? = if q = j then l[i]? else if q = i then l[j]? else l[q]? := by
  rw [swp_eq (List.getElem?_eq_getElem hi) (List.getElem?_eq_getElem hj), List.getElem?_set, List.getElem?_set, List.getElem?_eq_getElem hi, List.getElem?_eq_getElem hj, List.length_set]
  by_cases e1 : q = j
  · subst e1; simp [hj]
  · rw [if_neg e1, if_neg (fun e => e1 e.symm)]
    by_cases e2 : q = i
    · subst e2; simp [hi]
    · rw [if_neg e2, if_neg (fun e => e2 e.symm)]
theorem swpR_get {l : List Rw} {s t : Nat} : ∀ (k : Nat), s + k ≤ t → t + k ≤ l.length → ∀ q, (swpR l s t k)[q]? = if s ≤ q ∧ q < s + k then l[t + (q - s)]? else if t ≤ q ∧ q < t + k then l[s + (q - t)]? else l[q]?
  | 0, h1, h2, q => by rw [swpR, if_neg (by omega), if_neg (by omega)]
  | k + 1, h1, h2, q => by
    have ih := swpR_get (l := l) (s := s) (t := t) k (by omega) (by omega)
    rw [swpR, swp_get (by rw [swpR_len]; omega) (by rw [swpR_len]; omega), ih, ih, ih]
    by_cases e1 : q = t + k
    · rw [if_pos e1, if_neg (by omega), if_neg (by omega), if_neg (by omega), if_pos (by omega)]
      congr 1; omega
    · rw [if_neg e1]
      by_cases e2 : q = s + k
      · rw [if_pos e2, if_neg (by omega), if_neg (by omega), if_pos (by omega)]
        congr 1; omega
      · rw [if_neg e2]
        by_cases e3 : s ≤ q ∧ q < s + k
        · rw [if_pos e3, if_pos (by omega)]
        · rw [if_neg e3, if_neg (by omega : ¬ (s ≤ q ∧ q < s + (k + 1)))]
          by_cases e4 : t ≤ q ∧ q < t + k
          · rw [if_pos e4, if_pos (by omega)]
          · rw [if_neg e4, if_neg (by omega)]
theorem get_app (a b : List Rw) (q : Nat) : (a ++ b)[q]? = if q < a.length then a[q]? else b[q - a.length]? := by
  split
  · exact List.getElem?_append_left (by assumption)
  · exact List.getElem?_append_right (by omega)
theorem get_none {a : List Rw} {q : Nat} (h : a.length ≤ q) : a[q]? = none := List.getElem?_eq_none h
theorem swpR_parts (p u y v z : List Rw) (h : u.length = v.length) : swpR (p ++ u ++ y ++ v ++ z) p.length (p.length + u.length + y.length) u.length = p ++ v ++ y ++ u ++ z := by
  apply List.ext_getElem?
  intro q
  rw [swpR_get _ (by omega) (by simp; omega)]
  simp only [List.append_assoc]
  by_cases e1 : q < p.length
  · rw [if_neg (by omega), if_neg (by omega), get_app, if_pos e1, get_app, if_pos e1]
  · by_cases e2 : q < p.length + u.length
    · rw [if_pos (by omega), get_app, if_neg (by omega), get_app, if_neg (by omega), get_app, if_neg (by omega), get_app, if_pos (by omega), get_app, if_neg (by omega), get_app, if_pos (by omega)]
      congr 1; omega
    · rw [if_neg (by omega)]
      by_cases e3 : q < p.length + u.length + y.length
      · rw [if_neg (by omega), get_app, if_neg (by omega), get_app, if_neg (by omega), get_app, if_pos (by omega), get_app, if_neg (by omega), get_app, if_neg (by omega), get_app, if_pos (by omega)]
        congr 1; omega
      · by_cases e4 : q < p.length + u.length + y.length + u.length
        · rw [if_pos (by omega), get_app, if_neg (by omega), get_app, if_pos (by omega), get_app, if_neg (by omega), get_app, if_neg (by omega), get_app, if_neg (by omega), get_app, if_pos (by omega)]
          congr 1; omega
        · rw [if_neg (by omega), get_app, if_neg (by omega), get_app, if_neg (by omega), get_app, if_neg (by omega), get_app, if_neg (by omega), get_app, if_neg (by omega), get_app, if_neg (by omega), get_app, if_neg (by omega), get_app, if_neg (by omega)]
          congr 1; omega
theorem SW.on {w0 W W' : World} {b : Nat} {sp : List Value} {l l' : List Rw} (h : SW w0 b sp l W) (k : SW W b sp l' W') : SW w0 b sp l' W' :=
  ⟨k.row, h.fr.trans k.fr (fun _ _ e => e)⟩
theorem swap_parts (w0 W : World) (b : Nat) (sp : List Value) (p u y v z : List Rw) (n cap : Nat) (fv : Value) (si ti ki : Int) (h : SW w0 b sp (p ++ u ++ y ++ v ++ z) W) (hn : n = p.length + u.length + y.length + v.length + z.length) (huv : u.length = v.length) (hu : 1 ≤ u.length)
    (hs : si = p.length) (ht : ti = p.length + u.length + y.length) (hk : ki = u.length) (h1000 : n ≤ 1000) (hcap : n ≤ cap) (hm : cap ≤ maxLen) :
    Calls Try.prog 37 #[.slice (some ⟨b, 0, none⟩) n cap, .int .i64 si, .int .i64 ti, .int .i64 ki, fv] W fun e w' => e = .returned (.tuple #[]) ∧ SW w0 b sp (p ++ v ++ y ++ u ++ z) w' := by
  subst hs hk
  rw [show ti = ((p.length + u.length + y.length : Nat) : Int) by omega]
  refine (swap_any W b sp (p ++ u ++ y ++ v ++ z) n cap p.length (p.length + u.length + y.length) u.length fv (by simp; omega) h1000 h.row (by omega) (by omega) (by omega) hcap hm).mono ?_
  rintro e w' ⟨rfl, k⟩
  rw [swpR_parts p u y v z huv] at k
  exact ⟨rfl, h.on k⟩
/-- how rotate stands within its loop -/
structure Rot (w0 W : World) (b : Nat) (sp : List Value) (fin : List Rw) (m i j : Nat) (p s t q : List Rw) : Prop where
  sw : SW w0 b sp (p ++ s ++ t ++ q) W
  fin : p ++ t ++ s ++ q = fin
  hp : p.length + i = m
  hs : s.length = i
  ht : t.length = j
  hi : 1 ≤ i
  hj : 1 ≤ j
set_option maxHeartbeats 4000000 in
theorem rot_parts (w : World) (b : Nat) (sp : List Value) (x u v y : List Rw) (n cap : Nat) (fv : Value) (ai mi bi : Int) (h : Bk w b ((x ++ u ++ v ++ y).flatMap rwC ++ sp) 24) (hn : n = x.length + u.length + v.length + y.length) (hu : 1 ≤ u.length) (hv : 1 ≤ v.length)
    (ha : ai = x.length) (hm : mi = x.length + u.length) (hb : bi = x.length + u.length + v.length) (h1000 : n ≤ 1000) (hcap : n ≤ cap) (hmax : cap ≤ maxLen) :
    Calls Try.prog 34 #[.slice (some ⟨b, 0, none⟩) n cap, .int .i64 ai, .int .i64 mi, .int .i64 bi, fv] w fun e w' => e = .returned (.tuple #[]) ∧ SW w b sp (x ++ v ++ u ++ y) w' := by
  obtain ⟨fin, hfin⟩ : ∃ f, x ++ v ++ u ++ y = f := ⟨_, rfl⟩
  rw [hfin]
  obtain ⟨m, hm'⟩ : ∃ m, m = x.length + u.length := ⟨_, rfl⟩
  obtain ⟨i0, hi0⟩ : ∃ m, m = u.length := ⟨_, rfl⟩
  obtain ⟨j0, hj0⟩ : ∃ m, m = v.length := ⟨_, rfl⟩
  have H0 := Lib.hid (Rot.mk (m := m) (i := i0) (j := j0) (SW.start h) hfin (by omega) hi0.symm hj0.symm (by omega) (by omega))
  have HN : Hid (∀ W i j p s t q, Rot w W b sp fin m i j p s t q → n = p.length + s.length + t.length + q.length) := Lib.hid (fun W i j p s t q H => by
    have e1 := congrArg List.length H.fin
    have e2 := congrArg List.length hfin
    simp at e1 e2
    omega)
  obtain rfl : ai = (m : Int) - i0 := by omega
  obtain rfl : mi = (m : Int) := by omega
  obtain rfl : bi = (m : Int) + j0 := by omega
  have q1 : m ≤ 1000 := by omega
  have q2 : i0 ≤ m := by omega
  have q3 : m + j0 ≤ 1000 := by omega
  have HM := Lib.hid hmax
  clear h hn hu hv ha hm hb hfin hm' hi0 hj0 hmax
  have e1 : (m : Int) - ((m : Int) - i0) = i0 := by omega
  have e2 : (m : Int) + j0 - m = j0 := by omega
  go_enter Try.func34, Try.ntmps34
  go_wp2_with fail
  go_loopg [10, 11] (i0 + j0) (fun g c d wr => ∃ (i j : Nat) (p s t q : List Rw), c = .int .i64 i ∧ d = .int .i64 j ∧ i + j ≤ g ∧ i ≤ m ∧ m + j ≤ 1000 ∧ 1 ≤ i ∧ 1 ≤ j ∧ Hid (Rot w wr b sp fin m i j p s t q))
  case atStart => exact ⟨i0, j0, x, u, v, y, by first | rfl | go_num, by first | rfl | go_num, Nat.le_refl _, q2, q3, H0.out.hi, H0.out.hj, H0⟩
  case round =>
    obtain ⟨i, j, p, s, t, q, rfl, rfl, hg, him, hj1000, hi1, hj1, H⟩ := hrel
    clear e1 e2 H0 q2 q3
    by_cases hij : i = j
    · subst hij
      have t1 : ((i : Int) == i) = true := by simp
      have t2 : ((i : Int) != i) = false := by simp
      go_wp2_with fail
      refine (swap_parts w wr b sp p s [] t q n cap fv _ _ _ (by simpa using H.out.sw) (by have := HN.out _ _ _ _ _ _ _ H.out; simpa using this) (by rw [H.out.hs, H.out.ht]) (by rw [H.out.hs]; exact hi1) (by have := H.out.hp; omega) (by have := H.out.hp; have := H.out.hs; simp; omega) (by have := H.out.hs; omega) h1000 hcap HM.out).mono ?_
      rintro e w' ⟨rfl, k⟩
      have K := Lib.hid k
      clear k
      go_wp2_with fail
      go_end0
      exact ⟨rfl, by have := K.out; rw [← H.out.fin]; simpa using this⟩
    · have t1 : ((i : Int) == j) = false := by simp; omega
      have t2 : ((i : Int) != j) = true := by simp; omega
      by_cases hlt : j < i
      · have c1 : (j : Int) < (i : Int) := by omega
        obtain ⟨s1, s2, rfl, hs1⟩ : ∃ s1 s2, s = s1 ++ s2 ∧ s1.length = j := ⟨s.take j, s.drop j, (List.take_append_drop j s).symm, by have := H.out.hs; simp; omega⟩
        have hS := H.out.hs
        have hP := H.out.hp
        have hT := H.out.ht
        have hsw := H.out.sw
        have hnn := HN.out _ _ _ _ _ _ _ H.out
        simp only [List.length_append] at hS hnn
        have HSW : Hid (SW w b sp (p ++ s1 ++ s2 ++ t ++ q) wr) := Lib.hid (by simpa [List.append_assoc] using hsw)
        have HQ := Lib.hid (And.intro hs1 (And.intro hS (And.intro hP (And.intro hT hnn))))
        clear hs1 hS hP hT hnn hsw hij
        go_wp2_with fail
        refine (swap_parts w wr b sp p s1 s2 t q n cap fv _ _ _ HSW.out (by obtain ⟨a1, a2, a3, a4, a5⟩ := HQ.out; omega) (by obtain ⟨a1, a2, a3, a4, a5⟩ := HQ.out; omega) (by obtain ⟨a1, a2, a3, a4, a5⟩ := HQ.out; omega) (by obtain ⟨a1, a2, a3, a4, a5⟩ := HQ.out; omega) (by obtain ⟨a1, a2, a3, a4, a5⟩ := HQ.out; omega) (by obtain ⟨a1, a2, a3, a4, a5⟩ := HQ.out; omega) h1000 hcap HM.out).mono ?_
        rintro e w' ⟨rfl, k⟩
        have K := Lib.hid k
        clear k
        go_wp2_with fail
        go_roundg (i - j + j)
        case measure => omega
        case rel =>
          refine ⟨i - j, j, p ++ t, s2, s1, q, by go_num, rfl, Nat.le_refl _, by omega, hj1000, by omega, hj1, Lib.hid ?_⟩
          obtain ⟨a1, a2, a3, a4, a5⟩ := HQ.out
          refine ⟨by simpa [List.append_assoc] using K.out, by rw [← H.out.fin]; simp [List.append_assoc], by simp; omega, by omega, a1, by omega, hj1⟩
      · have c1 : (i : Int) < (j : Int) := by omega
        have c2 : ¬ (j : Int) < (i : Int) := by omega
        obtain ⟨s1, s2, rfl, hs1⟩ : ∃ s1 s2, t = s1 ++ s2 ∧ s2.length = i := ⟨t.take (j - i), t.drop (j - i), (List.take_append_drop _ t).symm, by have := H.out.ht; simp; omega⟩
        have hS := H.out.ht
        have hP := H.out.hp
        have hT := H.out.hs
        have hsw := H.out.sw
        have hnn := HN.out _ _ _ _ _ _ _ H.out
        simp only [List.length_append] at hS hnn
        have HSW : Hid (SW w b sp (p ++ s ++ s1 ++ s2 ++ q) wr) := Lib.hid (by simpa [List.append_assoc] using hsw)
        have HQ := Lib.hid (And.intro hs1 (And.intro hS (And.intro hP (And.intro hT hnn))))
        clear hs1 hS hP hT hnn hsw hij hlt
        go_wp2_with fail
        refine (swap_parts w wr b sp p s s1 s2 q n cap fv _ _ _ HSW.out (by obtain ⟨a1, a2, a3, a4, a5⟩ := HQ.out; omega) (by obtain ⟨a1, a2, a3, a4, a5⟩ := HQ.out; omega) (by obtain ⟨a1, a2, a3, a4, a5⟩ := HQ.out; omega) (by obtain ⟨a1, a2, a3, a4, a5⟩ := HQ.out; omega) (by obtain ⟨a1, a2, a3, a4, a5⟩ := HQ.out; omega) (by obtain ⟨a1, a2, a3, a4, a5⟩ := HQ.out; omega) h1000 hcap HM.out).mono ?_
        rintro e w' ⟨rfl, k⟩
        have K := Lib.hid k
        clear k
        go_wp2_with fail
        go_roundg (i + (j - i))
        case measure => omega
        case rel =>
          refine ⟨i, j - i, p, s2, s1, s ++ q, rfl, by go_num, Nat.le_refl _, him, by omega, hi1, by omega, Lib.hid ?_⟩
          obtain ⟨a1, a2, a3, a4, a5⟩ := HQ.out
          refine ⟨by simpa [List.append_assoc] using K.out, by rw [← H.out.fin]; simp [List.append_assoc], a3, a1, by omega, hi1, by omega⟩
end Rk
end Go.Proofs.Ythkdcbmcknndnaa

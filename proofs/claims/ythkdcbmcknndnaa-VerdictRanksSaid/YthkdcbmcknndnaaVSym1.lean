/- symMerge where one part has one element: it is put in by a search and neighbours' swaps. -/
import Derived.Test.YthkdcbmcknndnaaVIns
import Derived.WalkLawsBesides
import Derived.WalkSpells
namespace Go.Proofs.Ythkdcbmcknndnaa
open Go.RowKit Go.ChangeShapes Go.WideShapes
set_option linter.unusedVariables false
set_option linter.unusedSimpArgs false
namespace Rk
theorem Srt.part {α : Type} {lt : α → α → Bool} {l : List α} (h : Srt lt l) (k : Nat) : Srt lt (l.take k ++ l.drop k) := by rw [List.take_append_drop]; exact h
/-- one element put in behind the first k -/
def putIn (v : List Rw) (c : Rw) (k : Nat) : List Rw := v.take k ++ c :: v.drop k
theorem putIn_perm (v : List Rw) (c : Rw) (k : Nat) : (putIn v c k).Perm (c :: v) := by
  unfold putIn
  have h := List.perm_middle (a := c) (l₁ := v.take k) (l₂ := v.drop k)
  rwa [List.take_append_drop] at h
theorem mem_take_get {v : List Rw} {k : Nat} {e : Rw} (h : e ∈ v.take k) : ∃ q, q < k ∧ v[q]? = some e := by
  obtain ⟨q, hq⟩ := List.getElem?_of_mem h
  rw [List.getElem?_take] at hq
  split at hq
  · exact ⟨q, by assumption, hq⟩
  · cases hq
theorem mem_drop_get {v : List Rw} {k : Nat} {e : Rw} (h : e ∈ v.drop k) : ∃ q, k ≤ q ∧ v[q]? = some e := by
  obtain ⟨q, hq⟩ := List.getElem?_of_mem h
  rw [List.getElem?_drop] at hq
  exact ⟨k + q, by omega, hq⟩
theorem putIn_srt {v : List Rw} {c : Rw} {k : Nat} (hv : Srt ltRw v) (h1 : ∀ q e, v[q]? = some e → q < k → ltRw c e = false) (h2 : ∀ q e, v[q]? = some e → k ≤ q → ltRw e c = false) : Srt ltRw (putIn v c k) :=
  put_srt (hv.part k) (fun e he => by obtain ⟨q, a, b⟩ := mem_take_get he; exact h1 q e b a) (fun e he => by obtain ⟨q, a, b⟩ := mem_drop_get he; exact h2 q e b a)
theorem Srt.le {l : List Rw} (h : Srt ltRw l) {i j : Nat} {x y : Rw} (hij : i ≤ j) (hx : l[i]? = some x) (hy : l[j]? = some y) : ltRw y x = false := by
  rcases Nat.lt_or_eq_of_le hij with h1 | h1
  · exact h.at h1 hx hy
  · subst h1; rw [hx] at hy; cases hy
    cases e : ltRw x x with
    | false => rfl
    | true => have := pre.as x x e; rw [this] at e; cases e
/-- the search for the first one that isn't less than c, in v, of which the first stands at m -/
structure Sea (v : List Rw) (c : Rw) (m i j : Nat) : Prop where
  lo : ∀ q e, v[q]? = some e → m + q < i → ltRw e c = true
  hi : ∀ q e, v[q]? = some e → j ≤ m + q → ltRw e c = false
theorem Sea.up {v : List Rw} {c : Rw} {m i j h : Nat} {e : Rw} (H : Sea v c m i j) (hv : Srt ltRw v) (he : v[h]? = some e) (hl : ltRw e c = true) : Sea v c m (m + h + 1) j :=
  ⟨(fun q e' hq hlt => by
    cases k : ltRw e' c with
    | true => rfl
    | false =>
      have := pre.tr c e' e k (hv.le (by omega) hq he)
      rw [this] at hl; cases hl), H.hi⟩
theorem Sea.down {v : List Rw} {c : Rw} {m i j h : Nat} {e : Rw} (H : Sea v c m i j) (hv : Srt ltRw v) (he : v[h]? = some e) (hl : ltRw e c = false) : Sea v c m i (m + h) :=
  ⟨H.lo, fun q e' hq hle => pre.tr c e e' hl (hv.le (by omega) he hq)⟩
/-- the search for the first one that is above c, in u, of which the first stands at a -/
structure Seb (u : List Rw) (c : Rw) (a i j : Nat) : Prop where
  lo : ∀ q e, u[q]? = some e → a + q < i → ltRw c e = false
  hi : ∀ q e, u[q]? = some e → j ≤ a + q → ltRw c e = true
theorem Seb.up {u : List Rw} {c : Rw} {a i j h : Nat} {e : Rw} (H : Seb u c a i j) (hu : Srt ltRw u) (he : u[h]? = some e) (hl : ltRw c e = false) : Seb u c a (a + h + 1) j :=
  ⟨fun q e' hq hlt => pre.tr e' e c (hu.le (by omega) hq he) hl, H.hi⟩
theorem Seb.down {u : List Rw} {c : Rw} {a i j h : Nat} {e : Rw} (H : Seb u c a i j) (hu : Srt ltRw u) (he : u[h]? = some e) (hl : ltRw c e = true) : Seb u c a i (a + h) :=
  ⟨H.lo, fun q e' hq hle => by
    cases k : ltRw c e' with
    | true => rfl
    | false =>
      have := pre.tr e e' c (hu.le (by omega) he hq) k
      rw [this] at hl; cases hl⟩
theorem put_near {v : List Rw} {c l : Rw} {k : Nat} (h : v[k]? = some l) : v.take k ++ c :: v.drop k = v.take k ++ c :: l :: v.drop (k + 1) ∧ putIn v c (k + 1) = v.take k ++ l :: c :: v.drop (k + 1) := by
  obtain ⟨h1, h2⟩ := List.getElem?_eq_some_iff.1 h
  constructor
  · rw [List.drop_eq_getElem_cons h1, h2]
  · unfold putIn
    rw [List.take_succ_eq_append_getElem h1, h2]; simp
/-- a world of a loop of symMerge: the row, at l -/
theorem SW.len_eq {w0 W : World} {b : Nat} {sp : List Value} {l l' : List Rw} (h : SW w0 b sp l W) (e : l = l') : SW w0 b sp l' W := e ▸ h
set_option maxHeartbeats 8000000 in
set_option maxRecDepth 100000 in
theorem sym_one (w : World) (b : Nat) (sp : List Value) (x : List Rw) (c : Rw) (v y : List Rw) (n cap a m bb : Nat) (h : Bk w b ((x ++ c :: (v ++ y)).flatMap rwC ++ sp) 24) (hn : n = x.length + 1 + v.length + y.length)
    (ha : a = x.length) (hm : m = x.length + 1) (hb : bb = x.length + 1 + v.length) (hok : ∀ e ∈ c :: v, Ok e) (hv : Srt ltRw v) (h1000 : n ≤ 1000) (hcap : n ≤ cap) (hmax : cap ≤ maxLen) :
    Calls Try.prog 30 #[.slice (some ⟨b, 0, none⟩) n cap, .int .i64 a, .int .i64 m, .int .i64 bb, .func (.func 14) #[] #[]] w fun e w' => e = .returned (.tuple #[]) ∧ Sorted w b sp x (c :: v) y w' := by
  have H0 := Lib.hid (SW.start h)
  have HOK := Lib.hid hok
  have HV := Lib.hid hv
  have HQ := Lib.hid (And.intro hn (And.intro ha (And.intro hm hb)))
  unfold maxLen at hmax
  have q1 : a + 1 ≤ m := by omega
  have q2 : m ≤ bb := by omega
  have q3 : bb ≤ n := by omega
  have q4 : (((m : Int) - a) == 1) = true := by simp; omega
  have HA := Lib.hid (show (x ++ c :: (v ++ y))[a]? = some c by rw [ha]; simp)
  have HG : Hid (∀ q e, v[q]? = some e → (x ++ c :: (v ++ y))[m + q]? = some e) := Lib.hid (fun q e he => by
    rw [hm, show x.length + 1 + q = x.length + (q + 1) by omega, List.getElem?_append_right (by omega)]
    simp
    rw [List.getElem?_append_left (List.getElem?_eq_some_iff.1 he).1]; exact he)
  clear h hn ha hm hb hok hv
  go_enter Try.func30, Try.ntmps30
  go_wp2_with fail
  go_loopg [10, 11] (bb - m) (fun g si sj wr => ∃ (i j : Nat), si = .int .i64 i ∧ sj = .int .i64 j ∧ m ≤ i ∧ i ≤ j ∧ j ≤ bb ∧ j - i ≤ g ∧ Hid (SW w b sp (x ++ c :: (v ++ y)) wr ∧ Sea v c m i j))
  case atStart => exact ⟨m, bb, rfl, rfl, Nat.le_refl _, q2, Nat.le_refl _, Nat.le_refl _, Lib.hid ⟨H0.out, fun q e he hlt => by omega, fun q e he hle => by
    have k1 := (List.getElem?_eq_some_iff.1 he).1
    have k2 := HQ.out.2.2
    omega⟩⟩
  case round =>
    obtain ⟨i, j, rfl, rfl, hmi, hij, hjb, hg, H⟩ := hrel
    clear H0
    by_cases hlt : i < j
    · obtain ⟨h, hh⟩ : ∃ h, h = (i + j) / 2 := ⟨_, rfl⟩
      have hh1 : i ≤ h := by omega
      have hh2 : h < j := by omega
      have hhi : ((i : Int) + (j : Int)) / 2 = (h : Int) := by omega
      clear hh
      obtain ⟨q, rfl⟩ : ∃ q, h = m + q := ⟨h - m, by omega⟩
      obtain ⟨e, he⟩ : ∃ e, v[q]? = some e := ⟨v[q]'(by have := HQ.out.2.2; omega), List.getElem?_eq_getElem _⟩
      have hx := HG.out q e he
      obtain ⟨hp, hhp⟩ : ∃ hp, m + q = hp := ⟨_, rfl⟩
      have HC : Hid (∀ W, Calls Try.prog 14 #[.agg #[.string e.arm, .int .i64 e.pe, .int .i64 e.bo, .int .i64 e.wo], .agg #[.string c.arm, .int .i64 c.pe, .int .i64 c.bo, .int .i64 c.wo]] W fun e' w' => e' = .returned (.int .i64 (cRw e c)) ∧ Below W.heap.size W w') := Lib.hid (fun W => clo_any (HOK.out _ (by simp [List.mem_of_getElem? he])) (HOK.out _ (by simp)) W)
      have hsw := H.out.1
      rw [hhp] at hx hhi hh1 hh2
      have HB : Hid (∀ X, Below wr.heap.size wr X → _) := Lib.hid (fun X hX => SW.bels hsw hx HA.out hX)
      have HW : Hid (∀ W, Below wr.heap.size wr W → SW w b sp (x ++ c :: (v ++ y)) W) := Lib.hid (fun W hW => hsw.bel hW)
      obtain ⟨cv, hcv⟩ : ∃ cv, cRw e c = cv := ⟨_, rfl⟩
      rw [hcv] at HC
      have HCV := Lib.hid hcv
      have HE := Lib.hid (And.intro he hhp)
      have z0 : (0 : Int) ≤ (hp : Int) := by omega
      have z1 : (hp : Int) < n := by omega
      have z2 : (a : Int) < n := by omega
      clear hcv hsw hx he hhp
      by_cases hneg : cv < 0
      · have t1 : decide (cv < 0) = true := decide_eq_true hneg
        go_wp2_with fail
        go_region_held3 (fun X => X.cell? ⟨b, hp * 4, none⟩ = some (.string e.arm) ∧ X.cell? ⟨b, hp * 4 + 1, none⟩ = some (.int .i64 e.pe) ∧ X.cell? ⟨b, hp * 4 + 2, none⟩ = some (.int .i64 e.bo) ∧ X.cell? ⟨b, hp * 4 + 3, none⟩ = some (.int .i64 e.wo) ∧ X.cell? ⟨b, a * 4, none⟩ = some (.string c.arm) ∧ X.cell? ⟨b, a * 4 + 1, none⟩ = some (.int .i64 c.pe) ∧ X.cell? ⟨b, a * 4 + 2, none⟩ = some (.int .i64 c.bo) ∧ X.cell? ⟨b, a * 4 + 3, none⟩ = some (.int .i64 c.wo))
          ((refine HB.out _ ?_; repeat (first | assumption | exact Below.refl _ _ | refine Below.drew ?_ | refine bel_alloc ?_ _)))
          (first
            | (go_at_call 14
               (with_reducible refine (HC.out _).mono ?_); rintro e wx ⟨rfl, bx⟩; have bv := bel_trans (V := wr) (by repeat (first | assumption | exact Below.refl _ _ | refine Below.drew ?_)) bx)
            | fail)
        have HWX := Lib.hid (HW.out wx bv)
        clear HB HC bx bv
        clear hhi
        go_wp2_with fail
        go_roundg (j - (hp + 1))
        case measure => omega
        case rel => exact ⟨hp + 1, j, by go_num, rfl, by omega, by omega, hjb, Nat.le_refl _, Lib.hid ⟨HWX.out, by
          have := H.out.2.up HV.out HE.out.1 (cRw_yes.2 (by rw [HCV.out]; exact hneg))
          rwa [HE.out.2] at this⟩⟩
      · have t1 : decide (cv < 0) = false := decide_eq_false hneg
        go_wp2_with fail
        go_region_held3 (fun X => X.cell? ⟨b, hp * 4, none⟩ = some (.string e.arm) ∧ X.cell? ⟨b, hp * 4 + 1, none⟩ = some (.int .i64 e.pe) ∧ X.cell? ⟨b, hp * 4 + 2, none⟩ = some (.int .i64 e.bo) ∧ X.cell? ⟨b, hp * 4 + 3, none⟩ = some (.int .i64 e.wo) ∧ X.cell? ⟨b, a * 4, none⟩ = some (.string c.arm) ∧ X.cell? ⟨b, a * 4 + 1, none⟩ = some (.int .i64 c.pe) ∧ X.cell? ⟨b, a * 4 + 2, none⟩ = some (.int .i64 c.bo) ∧ X.cell? ⟨b, a * 4 + 3, none⟩ = some (.int .i64 c.wo))
          ((refine HB.out _ ?_; repeat (first | assumption | exact Below.refl _ _ | refine Below.drew ?_ | refine bel_alloc ?_ _)))
          (first
            | (go_at_call 14
               (with_reducible refine (HC.out _).mono ?_); rintro e wx ⟨rfl, bx⟩; have bv := bel_trans (V := wr) (by repeat (first | assumption | exact Below.refl _ _ | refine Below.drew ?_)) bx)
            | fail)
        have HWX := Lib.hid (HW.out wx bv)
        clear HB HC bx bv
        clear hhi
        go_wp2_with fail
        go_roundg (hp - i)
        case measure => omega
        case rel => exact ⟨i, hp, rfl, rfl, hmi, hh1, by omega, Nat.le_refl _, Lib.hid ⟨HWX.out, by
          have := H.out.2.down HV.out HE.out.1 (cRw_no.2 (by rw [HCV.out]; omega))
          rwa [HE.out.2] at this⟩⟩
    · obtain rfl : i = j := by omega
      clear hlt hij hg
      obtain ⟨t, rfl⟩ : ∃ t, i = m + t := ⟨i - m, by omega⟩
      have HS := Lib.hid (And.intro H.out.2 (show Srt ltRw (putIn v c t) from putIn_srt HV.out (fun q e he hlt => pre.as _ _ (H.out.2.lo q e he (by omega))) (fun q e he hle => H.out.2.hi q e he (by omega))))
      have HSW := Lib.hid H.out.1
      clear H
      obtain ⟨k0, hk0⟩ : ∃ k0, k0 + 1 = m + t := ⟨m + t - 1, by omega⟩
      have w1 : ((m + t : Nat) : Int) - 1 = (k0 : Int) := by omega
      have w2 : (((m : Int) + (t : Int)) - 1) = (k0 : Int) := by omega
      have w3 : k0 ≤ 1000 := by omega
      have HK := Lib.hid hk0
      have hak : a ≤ k0 := by omega
      have hkb : k0 < n := by omega
      clear hk0
      go_wp2_with fail
      go_loopg [13] (k0 - a) (fun g sk wr => ∃ k : Nat, sk = .int .i64 k ∧ a ≤ k ∧ k ≤ k0 ∧ k0 - k ≤ g ∧ Hid (SW w b sp (x ++ (putIn v c (k - a) ++ y)) wr))
      case atStart => exact ⟨a, rfl, Nat.le_refl _, hak, Nat.le_refl _, Lib.hid (by
        rw [Nat.sub_self]
        simpa [putIn] using HSW.out)⟩
      case round =>
        obtain ⟨k, rfl, hak', hkk, hg2, HP⟩ := hrel
        by_cases hlt : k < k0
        · obtain ⟨s, hs⟩ : ∃ s, k = a + s := ⟨k - a, by omega⟩
          obtain ⟨l, hl⟩ : ∃ l, v[s]? = some l := ⟨v[s]'(by have := HQ.out.2; have := HK.out; omega), List.getElem?_eq_getElem _⟩
          have hw := HP.out
          obtain ⟨p1, p2⟩ := put_near (c := c) hl
          rw [hs, Nat.add_sub_cancel_left, putIn, p1, show x ++ (v.take s ++ c :: l :: v.drop (s + 1) ++ y) = (x ++ v.take s) ++ c :: l :: (v.drop (s + 1) ++ y) by simp [List.append_assoc]] at hw
          obtain ⟨n1, n2⟩ := near_at (x ++ v.take s) (v.drop (s + 1) ++ y) c l
          have e1 : (x ++ v.take s).length = k := by
            have := (List.getElem?_eq_some_iff.1 hl).1
            have := HQ.out.2.1
            rw [List.length_append, List.length_take]; omega
          have hset := set_near' (x ++ v.take s) (v.drop (s + 1) ++ y) c l
          rw [e1] at n1 n2 hset
          have HP2 := Lib.hid (And.intro p2 (And.intro hs e1))
          clear p1 p2 hl hs e1
          have z0 : (0 : Int) ≤ (k : Int) + 1 := by omega
          have z1 : (k : Int) < n := by omega
          have z2 : (k : Int) + 1 < n := by omega
          have z3 : ((k : Int) + 1).toNat = k + 1 := by omega
          have z4 : IntKind.i64.wrap ((k : Int) + 1) = (k : Int) + 1 := IntWalk.i64_in _ (by omega)
          have z5 : (k : Int) < (k0 : Int) := by omega
          obtain ⟨a0, a1, a2, a3⟩ := hw.cells n1
          obtain ⟨c0, c1, c2, c3⟩ := hw.cells n2
          obtain ⟨k1, k2⟩ := hw.swap4 n1 n2 (by omega)
          obtain ⟨d0, d1, d2, d3⟩ := k1.cells k2
          have g0 : ∀ j, wr.frozen? ⟨b, j, none⟩ = false := fun j => hw.free j
          have g1 := fun j => k1.free j
          have hfin := hw.swap8 n1 n2
          rw [hset] at hfin
          have HFIN := Lib.hid hfin
          clear k1 k2 hw n1 n2 hset hfin
          go_wp2_with fail
          go_big_region
          all_goals
            go_wp2_with fail
            go_roundg (k0 - (k + 1))
            case measure => omega
            case rel => exact ⟨k + 1, by go_num, by omega, by omega, Nat.le_refl _, Lib.hid (by
              rw [show k + 1 - a = s + 1 by have := HP2.out.2.1; omega, HP2.out.1]
              simpa [List.append_assoc] using HFIN.out)⟩
        · obtain rfl : k = k0 := by omega
          have z5 : ¬ (k : Int) < (k : Int) := by omega
          go_wp2_with fail
          refine bodyPost_ret (results_none rfl _ _ _) rfl ?_
          refine ⟨rfl, putIn v c t, putIn_perm v c t, HS.out.2, ?_⟩
          have := HP.out
          rwa [show k - a = t by have := HK.out; have := HQ.out.2; omega] at this
set_option maxHeartbeats 8000000 in
set_option maxRecDepth 100000 in
theorem sym_last (w : World) (b : Nat) (sp : List Value) (x u : List Rw) (c : Rw) (y : List Rw) (n cap a m bb : Nat) (h : Bk w b ((x ++ (u ++ c :: y)).flatMap rwC ++ sp) 24) (hn : n = x.length + u.length + 1 + y.length) (hu2 : 2 ≤ u.length)
    (ha : a = x.length) (hm : m = x.length + u.length) (hb : bb = x.length + u.length + 1) (hok : ∀ e ∈ u ++ [c], Ok e) (hu : Srt ltRw u) (h1000 : n ≤ 1000) (hcap : n ≤ cap) (hmax : cap ≤ maxLen) :
    Calls Try.prog 30 #[.slice (some ⟨b, 0, none⟩) n cap, .int .i64 a, .int .i64 m, .int .i64 bb, .func (.func 14) #[] #[]] w fun e w' => e = .returned (.tuple #[]) ∧ Sorted w b sp x (u ++ [c]) y w' := by
  have H0 := Lib.hid (SW.start h)
  have HOK := Lib.hid hok
  have HV := Lib.hid hu
  have HQ := Lib.hid (And.intro hn (And.intro ha (And.intro hm hb)))
  unfold maxLen at hmax
  have q1 : a + 2 ≤ m := by omega
  have q2 : m + 1 ≤ bb := by omega
  have q3 : bb ≤ n := by omega
  have q4 : (((m : Int) - a) == 1) = false := by simp; omega
  have q5 : (((bb : Int) - m) == 1) = true := by simp; omega
  have HA := Lib.hid (show (x ++ (u ++ c :: y))[m]? = some c by rw [hm, List.getElem?_append_right (by omega)]; simp)
  have HG : Hid (∀ q e, u[q]? = some e → (x ++ (u ++ c :: y))[a + q]? = some e) := Lib.hid (fun q e he => by
    rw [ha, List.getElem?_append_right (by omega), Nat.add_sub_cancel_left, List.getElem?_append_left (List.getElem?_eq_some_iff.1 he).1]; exact he)
  clear h hn ha hm hb hok hu hu2
  go_enter Try.func30, Try.ntmps30
  go_wp2_with fail
  go_loopg [14, 15] (m - a) (fun g si sj wr => ∃ (i j : Nat), si = .int .i64 i ∧ sj = .int .i64 j ∧ a ≤ i ∧ i ≤ j ∧ j ≤ m ∧ j - i ≤ g ∧ Hid (SW w b sp (x ++ (u ++ c :: y)) wr ∧ Seb u c a i j))
  case atStart => exact ⟨a, m, rfl, rfl, Nat.le_refl _, by omega, Nat.le_refl _, Nat.le_refl _, Lib.hid ⟨H0.out, fun q e he hlt => by omega, fun q e he hle => by
    have k1 := (List.getElem?_eq_some_iff.1 he).1
    have k2 := HQ.out.2
    omega⟩⟩
  case round =>
    obtain ⟨i, j, rfl, rfl, hmi, hij, hjb, hg, H⟩ := hrel
    clear H0
    by_cases hlt : i < j
    · obtain ⟨h, hh⟩ : ∃ h, h = (i + j) / 2 := ⟨_, rfl⟩
      have hh1 : i ≤ h := by omega
      have hh2 : h < j := by omega
      have hhi : ((i : Int) + (j : Int)) / 2 = (h : Int) := by omega
      clear hh
      obtain ⟨q, rfl⟩ : ∃ q, h = a + q := ⟨h - a, by omega⟩
      obtain ⟨e, he⟩ : ∃ e, u[q]? = some e := ⟨u[q]'(by have := HQ.out.2; omega), List.getElem?_eq_getElem _⟩
      have hx := HG.out q e he
      obtain ⟨hp, hhp⟩ : ∃ hp, a + q = hp := ⟨_, rfl⟩
      have HC : Hid (∀ W, Calls Try.prog 14 #[.agg #[.string c.arm, .int .i64 c.pe, .int .i64 c.bo, .int .i64 c.wo], .agg #[.string e.arm, .int .i64 e.pe, .int .i64 e.bo, .int .i64 e.wo]] W fun e' w' => e' = .returned (.int .i64 (cRw c e)) ∧ Below W.heap.size W w') := Lib.hid (fun W => clo_any (HOK.out _ (by simp)) (HOK.out _ (by simp [List.mem_of_getElem? he])) W)
      have hsw := H.out.1
      rw [hhp] at hx hhi hh1 hh2
      have HB : Hid (∀ X, Below wr.heap.size wr X → _) := Lib.hid (fun X hX => SW.bels hsw HA.out hx hX)
      have HW : Hid (∀ W, Below wr.heap.size wr W → SW w b sp (x ++ (u ++ c :: y)) W) := Lib.hid (fun W hW => hsw.bel hW)
      obtain ⟨cv, hcv⟩ : ∃ cv, cRw c e = cv := ⟨_, rfl⟩
      rw [hcv] at HC
      have HCV := Lib.hid hcv
      have HE := Lib.hid (And.intro he hhp)
      have z0 : (0 : Int) ≤ (hp : Int) := by omega
      have z1 : (hp : Int) < n := by omega
      have z2 : (m : Int) < n := by omega
      clear hcv hsw hx he hhp
      by_cases hneg : cv < 0
      · have t1 : decide (cv < 0) = true := decide_eq_true hneg
        go_wp2_with fail
        go_region_held3 (fun X => X.cell? ⟨b, m * 4, none⟩ = some (.string c.arm) ∧ X.cell? ⟨b, m * 4 + 1, none⟩ = some (.int .i64 c.pe) ∧ X.cell? ⟨b, m * 4 + 2, none⟩ = some (.int .i64 c.bo) ∧ X.cell? ⟨b, m * 4 + 3, none⟩ = some (.int .i64 c.wo) ∧ X.cell? ⟨b, hp * 4, none⟩ = some (.string e.arm) ∧ X.cell? ⟨b, hp * 4 + 1, none⟩ = some (.int .i64 e.pe) ∧ X.cell? ⟨b, hp * 4 + 2, none⟩ = some (.int .i64 e.bo) ∧ X.cell? ⟨b, hp * 4 + 3, none⟩ = some (.int .i64 e.wo))
          ((refine HB.out _ ?_; repeat (first | assumption | exact Below.refl _ _ | refine Below.drew ?_ | refine bel_alloc ?_ _)))
          (first
            | (go_at_call 14
               (with_reducible refine (HC.out _).mono ?_); rintro e wx ⟨rfl, bx⟩; have bv := bel_trans (V := wr) (by repeat (first | assumption | exact Below.refl _ _ | refine Below.drew ?_)) bx)
            | fail)
        have HWX := Lib.hid (HW.out wx bv)
        clear HB HC bx bv
        clear hhi
        go_wp2_with fail
        go_roundg (hp - i)
        case measure => omega
        case rel => exact ⟨i, hp, rfl, rfl, hmi, hh1, by omega, Nat.le_refl _, Lib.hid ⟨HWX.out, by
          have := H.out.2.down HV.out HE.out.1 (cRw_yes.2 (by rw [HCV.out]; omega))
          rwa [HE.out.2] at this⟩⟩
      · have t1 : decide (cv < 0) = false := decide_eq_false hneg
        go_wp2_with fail
        go_region_held3 (fun X => X.cell? ⟨b, m * 4, none⟩ = some (.string c.arm) ∧ X.cell? ⟨b, m * 4 + 1, none⟩ = some (.int .i64 c.pe) ∧ X.cell? ⟨b, m * 4 + 2, none⟩ = some (.int .i64 c.bo) ∧ X.cell? ⟨b, m * 4 + 3, none⟩ = some (.int .i64 c.wo) ∧ X.cell? ⟨b, hp * 4, none⟩ = some (.string e.arm) ∧ X.cell? ⟨b, hp * 4 + 1, none⟩ = some (.int .i64 e.pe) ∧ X.cell? ⟨b, hp * 4 + 2, none⟩ = some (.int .i64 e.bo) ∧ X.cell? ⟨b, hp * 4 + 3, none⟩ = some (.int .i64 e.wo))
          ((refine HB.out _ ?_; repeat (first | assumption | exact Below.refl _ _ | refine Below.drew ?_ | refine bel_alloc ?_ _)))
          (first
            | (go_at_call 14
               (with_reducible refine (HC.out _).mono ?_); rintro e wx ⟨rfl, bx⟩; have bv := bel_trans (V := wr) (by repeat (first | assumption | exact Below.refl _ _ | refine Below.drew ?_)) bx)
            | fail)
        have HWX := Lib.hid (HW.out wx bv)
        clear HB HC bx bv
        clear hhi
        go_wp2_with fail
        go_roundg (j - (hp + 1))
        case measure => omega
        case rel => exact ⟨hp + 1, j, by go_num, rfl, by omega, by omega, hjb, Nat.le_refl _, Lib.hid ⟨HWX.out, by
          have := H.out.2.up HV.out HE.out.1 (cRw_no.2 (by rw [HCV.out]; omega))
          rwa [HE.out.2] at this⟩⟩
    · obtain rfl : i = j := by omega
      clear hlt hij hg
      have HS := Lib.hid (show Srt ltRw (putIn u c (i - a)) from putIn_srt HV.out (fun q e he hlt => H.out.2.lo q e he (by omega)) (fun q e he hle => pre.as _ _ (H.out.2.hi q e he (by omega))))
      have HSW := Lib.hid H.out.1
      clear H
      go_wp2_with fail
      go_loopg [17] (m - i) (fun g sk wr => ∃ k : Nat, sk = .int .i64 k ∧ i ≤ k ∧ k ≤ m ∧ k - i ≤ g ∧ Hid (SW w b sp (x ++ (putIn u c (k - a) ++ y)) wr))
      case atStart => exact ⟨m, rfl, hjb, Nat.le_refl _, Nat.le_refl _, Lib.hid (by
        have e : m - a = u.length := by have := HQ.out.2; omega
        rw [e]
        simpa [putIn] using HSW.out)⟩
      case round =>
        obtain ⟨k, rfl, hik, hkm, hg2, HP⟩ := hrel
        by_cases hlt : i < k
        · obtain ⟨kp, rfl⟩ : ∃ kp, k = kp + 1 := ⟨k - 1, by omega⟩
          obtain ⟨s, hs⟩ : ∃ s, kp = a + s := ⟨kp - a, by omega⟩
          obtain ⟨l, hl⟩ : ∃ l, u[s]? = some l := ⟨u[s]'(by have := HQ.out.2; omega), List.getElem?_eq_getElem _⟩
          have hw := HP.out
          obtain ⟨p1, p2⟩ := put_near (c := c) hl
          rw [show kp + 1 - a = s + 1 by omega, p2, show x ++ (u.take s ++ l :: c :: u.drop (s + 1) ++ y) = (x ++ u.take s) ++ l :: c :: (u.drop (s + 1) ++ y) by simp [List.append_assoc]] at hw
          obtain ⟨n1, n2⟩ := near_at (x ++ u.take s) (u.drop (s + 1) ++ y) l c
          have e1 : (x ++ u.take s).length = kp := by
            have := (List.getElem?_eq_some_iff.1 hl).1
            have := HQ.out.2.1
            rw [List.length_append, List.length_take]; omega
          have hset := set_near (x ++ u.take s) (u.drop (s + 1) ++ y) l c
          rw [e1] at n1 n2 hset
          have HP2 := Lib.hid (And.intro p1 (And.intro hs e1))
          clear p1 p2 hl hs e1
          have z0 : (0 : Int) ≤ (kp : Int) + 1 := by omega
          have z1 : (kp : Int) < n := by omega
          have z2 : (kp : Int) + 1 < n := by omega
          have z3 : ((kp : Int) + 1).toNat = kp + 1 := by omega
          have z4 : IntKind.i64.wrap ((kp : Int) + 1) = (kp : Int) + 1 := IntWalk.i64_in _ (by omega)
          have z5 : (i : Int) < (kp : Int) + 1 := by omega
          have z6 : IntKind.i64.wrap (kp : Int) = (kp : Int) := by rw [IntKind.wrap_i64]; omega
          obtain ⟨a0, a1, a2, a3⟩ := hw.cells n2
          obtain ⟨c0, c1, c2, c3⟩ := hw.cells n1
          obtain ⟨k1, k2⟩ := hw.swap4 n2 n1 (by omega)
          obtain ⟨d0, d1, d2, d3⟩ := k1.cells k2
          have g0 : ∀ j, wr.frozen? ⟨b, j, none⟩ = false := fun j => hw.free j
          have g1 := fun j => k1.free j
          have hfin := hw.swap8 n2 n1
          rw [hset] at hfin
          have HFIN := Lib.hid hfin
          clear k1 k2 hw n2 n1 hset hfin
          go_wp2_with fail
          go_big_region
          all_goals
            go_wp2_with fail
            go_roundg (kp - i)
            case measure => omega
            case rel => exact ⟨kp, by first | rfl | go_num, by omega, by omega, Nat.le_refl _, Lib.hid (by
              rw [show kp - a = s by have := HP2.out.2.1; omega, putIn, HP2.out.1]
              simpa [List.append_assoc] using HFIN.out)⟩
        · obtain rfl : k = i := by omega
          have z5 : ¬ (k : Int) < (k : Int) := by omega
          go_wp2_with fail
          refine bodyPost_ret (results_none rfl _ _ _) rfl ?_
          exact ⟨rfl, putIn u c (k - a), (putIn_perm u c (k - a)).trans (List.perm_append_comm (l₁ := [c])), HS.out, HP.out⟩
end Rk
end Go.Proofs.Ythkdcbmcknndnaa

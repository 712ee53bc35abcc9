/- Law 12's functions few, told, made; the document's One and Same. -/
import Derived.Test.YtcnddbcdkpdkbaaEKind
namespace Go.Proofs.Ytcnddbcdkpdkbaa
open Go.RowKit Go.MapKept Go.Maps Go.ChangeShapes Go.WideShapes
set_option linter.unusedVariables false
set_option linter.unusedSimpArgs false
def fewB (xs : List Tri) : Bool := xs.all (fun a : Tri => decide (a.1.size ≤ 100) && decide (a.2.2.size ≤ 100)) && decide (xs.length ≤ 101)
theorem few_of {xs : List Tri} (h : fewB xs = true) : xs.length ≤ 101 ∧ ∀ a ∈ xs, a.1.size ≤ 100 ∧ a.2.2.size ≤ 100 := by
  rw [fewB, Bool.and_eq_true] at h
  exact ⟨by simpa using h.2, fun a ha => by simpa using List.all_eq_true.1 h.1 a ha⟩
set_option maxHeartbeats 1000000 in
theorem few_any (b : Option Addr) (cap : Nat) (xs : List Tri) (w : World) (h : InW w b 3 (xs.map aC)) (hm : cap ≤ maxLen) (hl : xs.length ≤ cap) (ho : ∀ a ∈ xs, aOk a) :
    Calls Try.prog 12 #[.slice b xs.length cap] w fun e w' => e = .returned (.bool (fewB xs)) ∧ w = w' := by
  obtain ⟨r, hr⟩ : ∃ r, fewB xs = r := ⟨_, rfl⟩
  rw [hr]
  have HR := Lib.hid hr
  clear hr
  unfold maxLen at hm
  generalize hn : xs.length = n at *
  have Hn := Lib.hid hn
  clear hn
  go_enter Try.func12, Try.ntmps12
  go_wp2_with fail
  go_loop [3] (fun c => ∃ k : Nat, k ≤ n ∧ k ≤ 101 ∧ c = .int .i64 k ∧ Hid ((xs.take k).all (fun a : Tri => decide (a.1.size ≤ 100) && decide (a.2.2.size ≤ 100)) = true)) (fun c => n - (intOf c).toNat)
  case atStart => exact ⟨0, by omega, by omega, rfl, Lib.hid (by simp)⟩
  case round =>
    obtain ⟨k, hk, hk2, rfl, HA⟩ := hrel
    by_cases hlt : k < n
    · obtain ⟨a, ha⟩ : ∃ a, xs[k]? = some a := ⟨xs[k]'(by have := Hn.out; omega), List.getElem?_eq_getElem _⟩
      obtain ⟨B, off, rfl, _, c0, c1, c2⟩ := aAt h ha
      have hsz : a.1.size ≤ maxLen ∧ a.2.2.size ≤ maxLen := ⟨(ho a (List.mem_of_getElem? ha)).1, (ho a (List.mem_of_getElem? ha)).2.2⟩
      unfold maxLen at hsz
      have HS := Lib.hid ha
      clear ha c1
      generalize hs : a.1 = s at *
      generalize hs2 : a.2.2 = z at *
      have HZ := Lib.hid (And.intro hs hs2)
      clear hs hs2
      by_cases hbig : s.size ≤ 100 ∧ z.size ≤ 100 ∧ k ≤ 100
      · obtain ⟨g1, g3, g2⟩ := hbig
        go_wp2_with fail
        go_round
        case rel =>
          refine ⟨k + 1, by omega, by omega, by go_num, Lib.hid ?_⟩
          rw [List.take_add_one, HS.out, List.all_append, HA.out]
          simp [HZ.out.1, HZ.out.2, g1, g3]
        case measure => simp [intOf]; omega
      · have e : r = false := by
          rw [← HR.out, fewB, Bool.and_eq_false_iff]
          by_cases g : s.size ≤ 100 ∧ z.size ≤ 100
          · right; simp [Hn.out]; omega
          · left
            rw [List.all_eq_false]
            refine ⟨a, List.mem_of_getElem? HS.out, ?_⟩
            rw [HZ.out.1, HZ.out.2]
            simp only [Bool.and_eq_true, decide_eq_true_eq]
            exact g
        subst e
        by_cases g : s.size ≤ 100
        · by_cases gz : z.size ≤ 100
          · have g2 : 100 < k := by omega
            go_wp2_with fail
            go_ret
            exact ⟨rfl, rfl⟩
          · go_wp2_with fail
            go_ret
            exact ⟨rfl, rfl⟩
        · go_wp2_with fail
          go_ret
          exact ⟨rfl, rfl⟩
    · have e : r = true := by
        rw [← HR.out, fewB, Bool.and_eq_true]
        have h := HA.out
        rw [List.take_of_length_le (by have := Hn.out; omega)] at h
        exact ⟨h, by simp [Hn.out]; omega⟩
      subst e
      go_wp2_with fail
      go_ret
      exact ⟨rfl, rfl⟩

theorem texts_at {w : World} {b : Option Addr} {xs : List ByteArray} (h : InW w b 1 (xs.map fun s => [.string s])) {i : Nat} {s : ByteArray} (hi : xs[i]? = some s) : ∃ B off, b = some ⟨B, off, none⟩ ∧ B < w.heap.size ∧ w.cell? ⟨B, off + i, none⟩ = some (.string s) := inw_at Value.string h hi
set_option maxRecDepth 20000 in
set_option maxHeartbeats 1000000 in
theorem one_yes (p : ByteArray) (f t : Int) (its : List ByteArray) (ib jb : Option Addr) (ic jc : Nat) (w : World) (h1 : InW w ib 1 (its.map fun s => [.string s])) (h2 : InW w jb 1 (its.map fun s => [.string s])) (hm : its.length ≤ maxLen) :
    Calls Try.prog 25 #[.agg #[.string p, .int .i64 f, .int .i64 t, .slice ib its.length ic], .agg #[.string p, .int .i64 f, .int .i64 t, .slice jb its.length jc]] w fun e w' => e = .returned (.bool true) ∧ Below w.heap.size w w' := by
  have H1 := Lib.hid h1
  have H2 := Lib.hid h2
  obtain ⟨n, hn⟩ : ∃ n, its.length = n := ⟨_, rfl⟩
  have HN := Lib.hid hn
  rw [hn] at hm ⊢
  unfold maxLen at hm
  obtain ⟨g, hg⟩ : ∃ g, w.heap.size = g := ⟨_, rfl⟩
  have hb1 := Bk.new w [.string p, .int .i64 f, .int .i64 t, .slice ib n ic] 49
  have hb2 := Bk.new' w (.cells #[.string p, .int .i64 f, .int .i64 t, .slice ib n ic] 49) [.string p, .int .i64 f, .int .i64 t, .slice jb n jc] 49
  have hb1' := hb1.old (.cells #[.string p, .int .i64 f, .int .i64 t, .slice jb n jc] 49)
  rw [hg] at hb1' hb2
  have HW0 : Hid (Bk ((w.alloc (.cells #[.string p, .int .i64 f, .int .i64 t, .slice ib n ic] 49)).alloc (.cells #[.string p, .int .i64 f, .int .i64 t, .slice jb n jc] 49)) g [.string p, .int .i64 f, .int .i64 t, .slice ib n ic] 49 ∧ Bk ((w.alloc (.cells #[.string p, .int .i64 f, .int .i64 t, .slice ib n ic] 49)).alloc (.cells #[.string p, .int .i64 f, .int .i64 t, .slice jb n jc] 49)) (g + 1) [.string p, .int .i64 f, .int .i64 t, .slice jb n jc] 49 ∧ Below w.heap.size w ((w.alloc (.cells #[.string p, .int .i64 f, .int .i64 t, .slice ib n ic] 49)).alloc (.cells #[.string p, .int .i64 f, .int .i64 t, .slice jb n jc] 49))) := Lib.hid ⟨hb1', hb2, ((Below.refl _ _).alloc (Nat.le_refl _) _).alloc (by simp) _⟩
  clear h1 h2 hn hb1 hb2 hb1'
  go_enter Try.func25, Try.ntmps25
  go_wp2_with fail
  clear hg
  go_loopw [5] (fun c wr => ∃ k : Nat, k ≤ n ∧ c = .int .i64 k ∧ Hid (Bk wr g [.string p, .int .i64 f, .int .i64 t, .slice ib n ic] 49 ∧ Bk wr (g + 1) [.string p, .int .i64 f, .int .i64 t, .slice jb n jc] 49 ∧ Below w.heap.size w wr)) (fun c _ => n - (intOf c).toNat)
  case atStart => exact ⟨0, Nat.zero_le _, rfl, HW0⟩
  case round =>
    obtain ⟨k, hk, rfl, HW⟩ := hrel
    clear HW0
    have c3 : wr.cell? ⟨g, 3, none⟩ = some (.slice ib n ic) := HW.out.1.cell 3
    have e3 : wr.cell? ⟨g + 1, 3, none⟩ = some (.slice jb n jc) := HW.out.2.1.cell 3
    by_cases hlt : k < n
    · obtain ⟨s, hs⟩ : ∃ s, its[k]? = some s := ⟨its[k]'(by rw [HN.out]; exact hlt), List.getElem?_eq_getElem _⟩
      obtain ⟨B1, o1, rfl, hB1, d1⟩ := texts_at (H1.out.bel HW.out.2.2) hs
      obtain ⟨B2, o2, rfl, hB2, d2⟩ := texts_at (H2.out.bel HW.out.2.2) hs
      have hk0 : (0 : Int) ≤ (k : Int) := by omega
      have hk1 : (k : Int) < (n : Int) := by omega
      clear hs
      go_wp2_with fail
      go_quiet (fail)
      have HW2 : Hid (Bk (wr.drewN nq) g [.string p, .int .i64 f, .int .i64 t, .slice (some ⟨B1, o1, none⟩) n ic] 49 ∧ Bk (wr.drewN nq) (g + 1) [.string p, .int .i64 f, .int .i64 t, .slice (some ⟨B2, o2, none⟩) n jc] 49 ∧ Below w.heap.size w (wr.drewN nq)) := Lib.hid ⟨HW.out.1, HW.out.2.1, bdrewN HW.out.2.2 nq⟩
      go_wp2_with fail
      go_roundw
      case rel => exact ⟨k + 1, by omega, by go_num, HW2⟩
      case measure => simp [intOf]; omega
    · obtain rfl : k = n := by omega
      go_wp2_with fail
      go_ret
      exact ⟨rfl, HW.out.2.2⟩
theorem seOf_eq {x y : SV} (h : seOf x = seOf y) : x.p = y.p ∧ x.f = y.f ∧ x.t = y.t ∧ x.its = y.its := by
  unfold seOf at h
  simp only [Se.mk.injEq] at h
  exact h
set_option maxRecDepth 20000 in
set_option maxHeartbeats 1000000 in
theorem same_yes (ba bb : Option Addr) (ca cb : Nat) (xs ys : List SV) (w : World) (h1 : SvIn w ba xs) (h2 : SvIn w bb ys) (he : xs.map seOf = ys.map seOf) (hm : xs.length ≤ maxLen) :
    Calls Try.prog 17 #[.slice ba xs.length ca, .slice bb ys.length cb] w fun e w' => e = .returned (.bool true) ∧ Below w.heap.size w w' := by
  have hl : ys.length = xs.length := by have := congrArg List.length he; simpa using this.symm
  rw [hl]
  have H1 := Lib.hid h1
  have H2 := Lib.hid h2
  have HE := Lib.hid he
  have HL := Lib.hid hl
  obtain ⟨n, hn⟩ : ∃ n, xs.length = n := ⟨_, rfl⟩
  have HN := Lib.hid hn
  rw [hn] at hm ⊢
  unfold maxLen at hm
  clear h1 h2 he hl hn
  go_enter Try.func17, Try.ntmps17
  go_wp2_with fail
  go_loopw [5] (fun c wr => ∃ k : Nat, k ≤ n ∧ c = .int .i64 k ∧ Hid (Below w.heap.size w wr)) (fun c _ => n - (intOf c).toNat)
  case atStart => exact ⟨0, Nat.zero_le _, rfl, Lib.hid (Below.refl _ _)⟩
  case round =>
    obtain ⟨k, hk, rfl, HB⟩ := hrel
    by_cases hlt : k < n
    · obtain ⟨x, hx⟩ : ∃ x, xs[k]? = some x := ⟨xs[k]'(by rw [HN.out]; exact hlt), List.getElem?_eq_getElem _⟩
      obtain ⟨y, hy⟩ : ∃ y, ys[k]? = some y := ⟨ys[k]'(by rw [HL.out, HN.out]; exact hlt), List.getElem?_eq_getElem _⟩
      obtain ⟨B1, o1, rfl, hB1, a0, a1, a2, a3⟩ := svAt (H1.out.i.bel HB.out) hx
      obtain ⟨B2, o2, rfl, hB2, b0, b1, b2, b3⟩ := svAt (H2.out.i.bel HB.out) hy
      have hxy : seOf x = seOf y := by
        have := congrArg (fun l => l[k]?) HE.out
        simp only [List.getElem?_map, hx, hy] at this
        exact Option.some.inj this
      obtain ⟨e1, e2, e3, e4⟩ := seOf_eq hxy
      rw [← e1] at b0
      rw [← e2] at b1
      rw [← e3] at b2
      rw [← e4] at b3
      have hxi := H1.out.it x (List.mem_of_getElem? hx)
      have hyi := H2.out.it y (List.mem_of_getElem? hy)
      rw [← e4] at hyi
      have HO : Hid (∀ W, Below w.heap.size w W → Calls Try.prog 25 #[.agg #[.string x.p, .int .i64 x.f, .int .i64 x.t, .slice x.ib x.its.length x.ic], .agg #[.string x.p, .int .i64 x.f, .int .i64 x.t, .slice y.ib x.its.length y.ic]] W fun e w' => e = .returned (.bool true) ∧ Below W.heap.size W w') := Lib.hid (fun W hW => one_yes x.p x.f x.t x.its x.ib y.ib x.ic y.ic W (hxi.1.bel hW) (hyi.1.bel hW) (by have := hxi.2; omega))
      have HC : Hid (∀ W, Below wr.heap.size wr W → (W.cell? ⟨B1, o1 + k * 4, none⟩ = some (.string x.p) ∧ W.cell? ⟨B1, o1 + k * 4 + 1, none⟩ = some (.int .i64 x.f) ∧ W.cell? ⟨B1, o1 + k * 4 + 2, none⟩ = some (.int .i64 x.t) ∧ W.cell? ⟨B1, o1 + k * 4 + 3, none⟩ = some (.slice x.ib x.its.length x.ic) ∧ W.cell? ⟨B2, o2 + k * 4, none⟩ = some (.string x.p) ∧ W.cell? ⟨B2, o2 + k * 4 + 1, none⟩ = some (.int .i64 x.f) ∧ W.cell? ⟨B2, o2 + k * 4 + 2, none⟩ = some (.int .i64 x.t) ∧ W.cell? ⟨B2, o2 + k * 4 + 3, none⟩ = some (.slice y.ib x.its.length y.ic))) := Lib.hid (fun W hW => ⟨(hW.cell (p := ⟨B1, _, none⟩) hB1).trans a0, (hW.cell (p := ⟨B1, _, none⟩) hB1).trans a1, (hW.cell (p := ⟨B1, _, none⟩) hB1).trans a2, (hW.cell (p := ⟨B1, _, none⟩) hB1).trans a3, (hW.cell (p := ⟨B2, _, none⟩) hB2).trans b0, (hW.cell (p := ⟨B2, _, none⟩) hB2).trans b1, (hW.cell (p := ⟨B2, _, none⟩) hB2).trans b2, (hW.cell (p := ⟨B2, _, none⟩) hB2).trans b3⟩)
      obtain ⟨xl, hxl⟩ : ∃ xl, x.its.length = xl := ⟨_, rfl⟩
      rw [hxl] at a3 b3 HO HC
      have hk0 : (0 : Int) ≤ (k : Int) := by omega
      have hk1 : (k : Int) < (n : Int) := by omega
      have cS := HC.out wr (Below.refl _ _)
      clear hx hy hxy e1 e2 e3 e4 hxi hyi a0 a1 a2 a3 b0 b1 b2 b3 hxl
      go_wp2_with fail
      go_region_held3 (fun X => X.cell? ⟨B1, o1 + k * 4, none⟩ = some (.string x.p) ∧ X.cell? ⟨B1, o1 + k * 4 + 1, none⟩ = some (.int .i64 x.f) ∧ X.cell? ⟨B1, o1 + k * 4 + 2, none⟩ = some (.int .i64 x.t) ∧ X.cell? ⟨B1, o1 + k * 4 + 3, none⟩ = some (.slice x.ib xl x.ic) ∧ X.cell? ⟨B2, o2 + k * 4, none⟩ = some (.string x.p) ∧ X.cell? ⟨B2, o2 + k * 4 + 1, none⟩ = some (.int .i64 x.f) ∧ X.cell? ⟨B2, o2 + k * 4 + 2, none⟩ = some (.int .i64 x.t) ∧ X.cell? ⟨B2, o2 + k * 4 + 3, none⟩ = some (.slice y.ib xl y.ic)) (first | assumption | go_keep | fail)
        (first
          | (go_at_call 25
             (with_reducible refine (HO.out _ HB.out.drew).mono ?_)
             rintro e w2 ⟨rfl, b2⟩
             have hS2 := HC.out w2 ((Below.refl wr.heap.size wr).drew.trans b2)
             have HB2 : Hid (Below w.heap.size w w2) := Lib.hid (HB.out.drew.trans (b2.mono HB.out.size))
             clear b2)
          | fail)
      go_wp2_with fail
      go_roundw
      case rel => exact ⟨k + 1, by omega, by go_num, HB2⟩
      case measure => simp [intOf]; omega
    · obtain rfl : k = n := by omega
      go_wp2_with fail
      go_ret
      exact ⟨rfl, HB.out⟩
theorem infoRSes : (Try.prog.info? 49).map (fun i => (i.zero, i.size, i.bytes)) = some (some (.agg #[.string ⟨#[]⟩, .int .i64 0, .int .i64 0, .slice none 0 0]), 4, 56) := by kernel_rfl
set_option maxRecDepth 20000 in
set_option maxHeartbeats 2000000 in
theorem told_any (b : Option Addr) (cap : Nat) (svs : List SV) (w : World) (h : SvIn w b svs) (hl : svs.length ≤ 100000) :
    Calls Try.prog 18 #[.slice b svs.length cap] w fun e w' => ∃ (b' : Option Addr) (c' : Nat), e = .returned (.slice b' svs.length c') ∧ SvIn w' b' svs ∧ Below w.heap.size w w' := by
  obtain ⟨i0, hi0T, hz0, hz1, hz2⟩ := info_parts infoRSes
  have H := Lib.hid h
  obtain ⟨n, hn⟩ : ∃ n, svs.length = n := ⟨_, rfl⟩
  have HN := Lib.hid hn
  rw [hn] at hl ⊢
  clear h hn
  go_enter Try.func18, Try.ntmps18
  go_wp2_with fail
  go_loopw [3, 4] (fun u c wr => ∃ k : Nat, k ≤ n ∧ c = .int .i64 k ∧ Hid (MkG 49 4 svC w wr u (svs.take k))) (fun _ c _ => n - (intOf c).toNat)
  case atStart => exact ⟨0, Nat.zero_le _, rfl, Lib.hid (MkG.nil w)⟩
  case round =>
    obtain ⟨k, hk, rfl, HM⟩ := hrel
    by_cases hlt : k < n
    · obtain ⟨x, hx⟩ : ∃ x, svs[k]? = some x := ⟨svs[k]'(by rw [HN.out]; exact hlt), List.getElem?_eq_getElem _⟩
      obtain ⟨B, off, rfl, hB, d0, d1, d2, d3⟩ := svAt H.out.i hx
      obtain ⟨xl, hxl⟩ : ∃ xl, x.its.length = xl := ⟨_, rfl⟩
      have HXL := Lib.hid hxl
      rw [hxl] at d3
      have HC : Hid (∀ W, Below w.heap.size w W → (W.cell? ⟨B, off + k * 4, none⟩ = some (.string x.p) ∧ W.cell? ⟨B, off + k * 4 + 1, none⟩ = some (.int .i64 x.f) ∧ W.cell? ⟨B, off + k * 4 + 2, none⟩ = some (.int .i64 x.t) ∧ W.cell? ⟨B, off + k * 4 + 3, none⟩ = some (.slice x.ib xl x.ic))) := Lib.hid (fun W hW => ⟨(hW.cell (p := ⟨B, _, none⟩) hB).trans d0, (hW.cell (p := ⟨B, _, none⟩) hB).trans d1, (hW.cell (p := ⟨B, _, none⟩) hB).trans d2, (hW.cell (p := ⟨B, _, none⟩) hB).trans d3⟩)
      have hk0 : (0 : Int) ≤ (k : Int) := by omega
      have hk1 : (k : Int) < (n : Int) := by omega
      have HSN : Hid (svs.take (k + 1) = svs.take k ++ [x]) := Lib.hid (by rw [List.take_add_one, hx]; rfl)
      have HLN : Hid ((svs.take k).length + [x].length ≤ 1000000) := Lib.hid (by rw [List.length_take]; simp; omega)
      have hb4 : Below wr.heap.size wr (wr.alloc (.cells #[.string x.p, .int .i64 x.f, .int .i64 x.t, .slice x.ib xl x.ic] 49)).drew := ((Below.refl _ _).alloc (Nat.le_refl _) _).drew
      have HM2 := Lib.hid (HM.out.bel hb4)
      have HIN : Hid (InW (wr.alloc (.cells #[.string x.p, .int .i64 x.f, .int .i64 x.t, .slice x.ib xl x.ic] 49)).drew (some ⟨wr.heap.size, 0, none⟩) 4 ([x].map svC)) := Lib.hid (inw_one (f := svC) (x := x) (by rw [← HXL.out]; exact Bk.fr (Bk.new wr (svC x) 49) (Fr.refl none' _).drew id))
      have cS := HC.out wr HM.out.bl
      clear hx hxl d0 d1 d2 d3 hb4
      generalize svs.take k = acc at *
      go_wp2_with fail
      go_region_held3 (fun X => X.cell? ⟨B, off + k * 4, none⟩ = some (.string x.p) ∧ X.cell? ⟨B, off + k * 4 + 1, none⟩ = some (.int .i64 x.f) ∧ X.cell? ⟨B, off + k * 4 + 2, none⟩ = some (.int .i64 x.t) ∧ X.cell? ⟨B, off + k * 4 + 3, none⟩ = some (.slice x.ib xl x.ic)) (first | assumption | go_keep | fail)
        ((refine step_append_m svLen svOne (by rfl) _ _ _ (by rfl) 49 i0 _ 56 Try.underlying34 hi0T hz0 hz1 hz2 rfl (by decide) (by omega) u3 acc [x] (by rfl) HM2.out.tx (some ⟨wr.heap.size, 0, none⟩) 1 1 (by rfl) rfl HIN.out HLN.out ?_
          intro v5 w5 o5 f5 h5
          have HM5 := Lib.hid (HM2.out.more o5 f5 h5)
          have hS5 := HC.out w5 HM5.out.bl
          clear o5 f5 h5))
      go_wp2_with fail
      go_roundw
      case rel => exact ⟨k + 1, by omega, by go_num, by rw [HSN.out]; exact HM5⟩
      case measure => simp [intOf]; omega
    · obtain rfl : k = n := by omega
      rw [List.take_of_length_le (by rw [HN.out]; exact Nat.le_refl _)] at HM
      obtain ⟨ub, uc, hu, h1, h2, h3⟩ := HM.out.read svLen (by omega)
      rw [HN.out] at hu
      subst hu
      have HI := Lib.hid h3
      clear h1 h2 h3
      go_wp2_with fail
      go_ret
      exact ⟨ub, uc, rfl, ⟨HI.out, fun x hx => ⟨(H.out.it x hx).1.bel HM.out.bl, (H.out.it x hx).2⟩⟩, HM.out.bl⟩
set_option maxRecDepth 20000 in
set_option maxHeartbeats 2000000 in
theorem made_any (x : Int) (hx : I64 x) (b : Option Addr) (cap : Nat) (l : List Tri) (w : World) (h : InW w b 3 (l.map aC)) (hl : l.length ≤ 1000) (ho : ∀ a ∈ l, aOk a) :
    Calls Try.prog 23 #[.int .i64 x, .slice b l.length cap] w fun e w' => ∃ s, e = .returned (.pointer (some ⟨s, 0, none⟩)) ∧ Here K12 w w' [.ses s (gapOf x) (addsT [] l)] := by
  have HIW := Lib.hid h
  have HO := Lib.hid ho
  have HN := Lib.hid (h_snew (Here.nil (K := K12) (Below.refl w.heap.size w)) x hx)
  clear h ho
  generalize hn : l.length = n at *
  have Hn := Lib.hid hn
  clear hn
  generalize gapOf x = gap at *
  go_enter Try.func23, Try.ntmps23
  go_wp2_with fail
  refine HN.out.mono ?_
  rintro e w1 ⟨rfl, h1⟩
  have H1 := Lib.hid h1
  clear HN h1
  generalize w.heap.size + 1 = s at *
  go_wp2_with fail
  go_loopw [6] (fun c wr => ∃ i : Nat, i ≤ n ∧ c = .int .i64 i ∧ Here K12 w wr [.ses s gap (addsT [] (l.take i))]) (fun c _ => n - (intOf c).toNat)
  case atStart => exact ⟨0, by omega, rfl, H1.out⟩
  case round =>
    obtain ⟨i, hi, rfl, hh⟩ := hrel
    have HH := Lib.hid hh
    clear hh
    by_cases hlt : i < n
    · obtain ⟨a, ha⟩ : ∃ a, l[i]? = some a := ⟨l[i]'(by rw [Hn.out]; exact hlt), List.getElem?_eq_getElem _⟩
      obtain ⟨B, off, rfl, hB, d0, d1, d2⟩ := aAt HIW.out ha
      have hao := HO.out a (List.mem_of_getElem? ha)
      have HC : Hid (∀ W, Below w.heap.size w W → (W.cell? ⟨B, off + i * 3, none⟩ = some (.string a.1) ∧ W.cell? ⟨B, off + i * 3 + 1, none⟩ = some (.int .i64 a.2.1) ∧ W.cell? ⟨B, off + i * 3 + 2, none⟩ = some (.string a.2.2))) := Lib.hid (fun W hW => ⟨(hW.cell (p := ⟨B, _, none⟩) hB).trans d0, (hW.cell (p := ⟨B, _, none⟩) hB).trans d1, (hW.cell (p := ⟨B, _, none⟩) hB).trans d2⟩)
      have hi0 : (0 : Int) ≤ (i : Int) := by omega
      have hi1 : (i : Int) < (n : Int) := by omega
      have HT : Hid (addsT [] (l.take (i + 1)) = addT (addsT [] (l.take i)) a) := Lib.hid (by rw [List.take_add_one, ha]; exact addsT_snoc _ _ _)
      have HAD := Lib.hid (h_sadd HH.out.drew (i := 0) rfl a hao (by have := adds_len (l.take i) []; rw [List.length_take] at this; simp at this; omega))
      have cS := HC.out wr HH.out.bel
      clear ha d0 d1 d2 hao
      generalize okT a = r at *
      go_wp2_with fail
      go_region_held3 (fun X => X.cell? ⟨B, off + i * 3, none⟩ = some (.string a.1) ∧ X.cell? ⟨B, off + i * 3 + 1, none⟩ = some (.int .i64 a.2.1) ∧ X.cell? ⟨B, off + i * 3 + 2, none⟩ = some (.string a.2.2)) (first | assumption | go_keep | fail)
        (first
          | (go_at_call 15
             (with_reducible refine HAD.out.mono ?_)
             rintro e w2 ⟨rfl, h2⟩
             have H2 := Lib.hid h2
             have hS2 := HC.out w2 h2.bel
             clear h2)
          | fail)
      go_wp2_with fail
      go_roundw
      case rel => exact ⟨i + 1, by omega, by go_num, by rw [HT.out]; exact H2.out⟩
      case measure => simp [intOf]; omega
    · obtain rfl : i = n := by omega
      have htk : l.take i = l := List.take_of_length_le (by rw [Hn.out]; exact Nat.le_refl _)
      rw [htk] at HH
      go_wp2_with fail
      go_ret
      exact ⟨s, rfl, HH.out⟩
end Go.Proofs.Ytcnddbcdkpdkbaa

/- The event of a step. Whole rows and parts of rows of a block, read and written at once. The settings of a tale. The bytes of a tale, one by one. The steps of a tale, and what is known of them. tale.Parse. A region that draws its order, walked by hand: operations that are not wanted, too. No program in sight. The events that a tale tells: begun; parses; people. event.Name: is a text a name? Plain: an event's text, its words, and what is read out of it. No program in sight. event.Tags, event.listing, event.May, at the events of tales. event.May, at the events of tales. -/
import Derived.Test.YtbhghelegonbbaaDoorPk3
import Derived.Deep.MidRow
import Derived.Great.BuildSlice
import Derived.Deep.CutBlock
import Derived.Deep.RegionHeld3
import Derived.Lib.SplitLaws
import Derived.Deep.QuietTactic
import Derived.Deep.DeepBigQuietO
namespace Go.Proofs.YtbhghelegonbbaaDoor
open Go.RowKit Go.MapKept Go.Maps
set_option linter.unusedVariables false
set_option linter.unusedSimpArgs false
namespace Tl
open Es
def PerT (s : ByteArray) : Prop := ∃ k, k < 4 ∧ s = numT ⟨#[112]⟩ k
def ItemT (s : ByteArray) : Prop := ∃ k, k < 6 ∧ s = numT ⟨#[105]⟩ k
def MakT (s : ByteArray) : Prop := ∃ k, k < 3 ∧ s = numT ⟨#[109]⟩ k
def emp : ByteArray := ⟨#[]⟩
inductive Shape (e : Ev) : Prop where
  | plain (h : e.kind = 0 ∨ e.kind = 1 ∨ e.kind = 2 ∨ e.kind = 3 ∨ e.kind = 5 ∨ e.kind = 6) (p : PerT e.per) (i : ItemT e.item) (v : e.val = 0) (t : e.txt = emp)
  | rated (h : e.kind = 4) (p : PerT e.per) (i : ItemT e.item) (v : 1 ≤ e.val ∧ e.val ≤ 5) (t : e.txt = emp)
  | follow (h : e.kind = 7 ∨ e.kind = 9) (p : PerT e.per) (i : e.item = emp) (v : e.val = 0) (t : MakT e.txt)
  | listed (h : e.kind = 11) (p : e.per = emp) (i : ItemT e.item) (v : 0 ≤ e.val ∧ e.val ≤ 255) (t : ∃ m b0 b1 b2, MakT m ∧ e.txt = lstT m b0 b1 b2)
  | stocked (h : e.kind = 12) (p : e.per = emp) (i : ItemT e.item) (v : 0 ≤ e.val ∧ e.val ≤ 2) (t : e.txt = emp)
  | delisted (h : e.kind = 13) (p : e.per = emp) (i : ItemT e.item) (v : e.val = 0) (t : e.txt = emp)
/-- what events of tales are like -/
structure TaleEv (e : Ev) : Prop where
  src : ∃ k, k < 2 ∧ e.src = numT ⟨#[115]⟩ k
  num : 1 ≤ e.num ∧ e.num ≤ 60
  at_ : 0 ≤ e.at_ ∧ e.at_ ≤ 3000
  shp : Shape e
theorem numbered_int (l : ByteArray) (z : Int) (h0 : 0 ≤ z) (h1 : z < 100) (hl : l.size ≤ 100) (w : World) :
    Calls Tryd.prog 30 #[.string l, .int .i64 z] w fun e w' => e = .returned (.string (numT l z.toNat)) ∧ w = w' := by
  have h := numbered_any l z.toNat (by omega) hl w
  rw [show ((z.toNat : Nat) : Int) = z by omega] at h
  exact h
theorem finE {fn : Func} {p : Tmp} {tmps : Array Value} {w : World} {g : Nat} {e : Ev} (h : fn.results = #[.cell p 41]) (hp : tmps.getD p undef = .pointer (some ⟨g, 0, none⟩)) (hb : Bk w g (evC e) 41) : (results fn tmps).run Tryd.prog w = .ok (evV e) w :=
  results_cell_row h tmps w g _ _ (0, 0) _ hp hb Tryd.underlying41 rfl (by kernel_rfl)
def ToldPost (n : Int) (k : Nat) (w : World) (e : Ending) (w' : World) : Prop := ∃ ev, e = .returned (evV ev) ∧ TaleEv ev ∧ ev.num = n ∧ ev.src = numT ⟨#[115]⟩ k ∧ Below w.heap.size w w'
theorem kind_of {i : Nat} {z : Int} (h : kindZ[i]? = some z) : z = 0 ∨ z = 1 ∨ z = 2 ∨ z = 3 ∨ z = 4 ∨ z = 5 ∨ z = 6 ∨ z = 7 ∨ z = 9 ∨ z = 11 ∨ z = 12 ∨ z = 13 := by
  have := List.mem_of_getElem? h
  simp [kindZ] at this
  omega
set_option maxRecDepth 100000 in
set_option maxHeartbeats 8000000 in
theorem told_any (c0 c1 c2 c3 c4 : Nat) (n t : Int) (w : World) (hG : Glob w) (h0 : c0 ≤ 255) (h1 : c1 ≤ 255) (h2 : c2 ≤ 255) (h3 : c3 ≤ 255) (h4 : c4 ≤ 255) (hk : c0 % 16 ≤ 12) (hn0 : 1 ≤ n) (hn1 : n ≤ 60) (ht0 : 0 ≤ t) (ht1 : t ≤ 3000) :
    Calls Tryd.prog 31 #[.agg #[.int .i64 c0, .int .i64 c1, .int .i64 c2, .int .i64 c3, .int .i64 c4], .int .i64 n, .int .i64 t] w (ToldPost n (c0 / 16 % 2) w) := by
  obtain ⟨kk, hkk⟩ : ∃ kk, c0 % 16 = kk := ⟨_, rfl⟩
  obtain ⟨z, hz⟩ : ∃ z, kindZ[kk]? = some z := ⟨kindZ[kk]'(by simp [kindZ]; omega), List.getElem?_eq_getElem _⟩
  have hzc := kind_of hz
  obtain ⟨ks, hks⟩ : ∃ ks, c0 / 16 % 2 = ks := ⟨_, rfl⟩
  rw [hks]
  obtain ⟨qa, hqa⟩ : ∃ qa, c0 / 16 = qa := ⟨_, rfl⟩
  obtain ⟨qb, hqb⟩ : ∃ qb, c0 / 32 = qb := ⟨_, rfl⟩
  have f1 : (c0 : Int) % 16 = (kk : Int) := by omega
  have f2 : (c0 : Int) / 16 = (qa : Int) := by omega
  have f3 : (qa : Int) % 2 = (ks : Int) := by omega
  have f4 : (c0 : Int) / 32 = (qb : Int) := by omega
  have f1t : (c0 : Int).tmod 16 = (kk : Int) := by rw [Int.tmod_eq_emod_of_nonneg (by omega)]; exact f1
  have f2t : (c0 : Int).tdiv 16 = (qa : Int) := by rw [Int.tdiv_eq_ediv_of_nonneg (by omega)]; exact f2
  have f3t : (qa : Int).tmod 2 = (ks : Int) := by rw [Int.tmod_eq_emod_of_nonneg (by omega)]; exact f3
  have f4t : (c0 : Int).tdiv 32 = (qb : Int) := by rw [Int.tdiv_eq_ediv_of_nonneg (by omega)]; exact f4
  have hqb7 : qb ≤ 7 := by omega
  have hqa15 : qa ≤ 15 := by omega
  have hks2 : ks < 2 := by omega
  have HNU : Hid (∀ (l : ByteArray) (z : Int) W, 0 ≤ z → z < 100 → l.size ≤ 100 → Calls Tryd.prog 30 #[.string l, .int .i64 z] W fun e w' => e = .returned (.string (numT l z.toNat)) ∧ W = w') := Lib.hid (fun l z W a b c => numbered_int l z a b c W)
  have HB2 := Lib.hid (((Below.refl w.heap.size w).alloc (Nat.le_refl _) (.cells #[.int .i64 c0, .int .i64 c1, .int .i64 c2, .int .i64 c3, .int .i64 c4] 85)).alloc (by simp) (.cells #[.string ⟨#[]⟩, .int .i64 0, .int .i64 0, .int .i64 0, .string ⟨#[]⟩, .string ⟨#[]⟩, .int .i64 0, .string ⟨#[]⟩] 41))
  have HG := Lib.hid hG
  have HZ := Lib.hid hz
  clear hG hz hkk hks hqa hqb
  go_enter Tryd.func31, Tryd.ntmps31
  go_wp2_with fail
  go_quiet (fail)
  go_wp2_with fail
  have x1 : Bk (((w.alloc (.cells #[.int .i64 c0, .int .i64 c1, .int .i64 c2, .int .i64 c3, .int .i64 c4] 85)).alloc (.cells #[.string ⟨#[]⟩, .int .i64 0, .int .i64 0, .int .i64 0, .string ⟨#[]⟩, .string ⟨#[]⟩, .int .i64 0, .string ⟨#[]⟩] 41)).drewN nq) w.heap.size [.int .i64 c0, .int .i64 c1, .int .i64 c2, .int .i64 c3, .int .i64 c4] 85 := (Bk.new w [.int .i64 c0, .int .i64 c1, .int .i64 c2, .int .i64 c3, .int .i64 c4] 85).old _
  have x2 : Bk (((w.alloc (.cells #[.int .i64 c0, .int .i64 c1, .int .i64 c2, .int .i64 c3, .int .i64 c4] 85)).alloc (.cells #[.string ⟨#[]⟩, .int .i64 0, .int .i64 0, .int .i64 0, .string ⟨#[]⟩, .string ⟨#[]⟩, .int .i64 0, .string ⟨#[]⟩] 41)).drewN nq) (w.heap.size + 1) [.string ⟨#[]⟩, .int .i64 0, .int .i64 0, .int .i64 0, .string ⟨#[]⟩, .string ⟨#[]⟩, .int .i64 0, .string ⟨#[]⟩] 41 := Bk.new' w _ [.string ⟨#[]⟩, .int .i64 0, .int .i64 0, .int .i64 0, .string ⟨#[]⟩, .string ⟨#[]⟩, .int .i64 0, .string ⟨#[]⟩] 41
  have x3 := bdrewN HB2.out nq
  generalize ((w.alloc (.cells #[.int .i64 c0, .int .i64 c1, .int .i64 c2, .int .i64 c3, .int .i64 c4] 85)).alloc (.cells #[.string ⟨#[]⟩, .int .i64 0, .int .i64 0, .int .i64 0, .string ⟨#[]⟩, .string ⟨#[]⟩, .int .i64 0, .string ⟨#[]⟩] 41)).drewN nq = V at x1 x2 x3 ⊢
  have X := Lib.hid (And.intro x1 (And.intro x2 x3))
  have hkc : V.drew.cell? ⟨1, kk, none⟩ = some (.int .i64 z) := (HG.out.bel x3).kind HZ.out
  have HK : Hid (∀ W, Below V.heap.size V W → W.cell? ⟨1, kk, none⟩ = some (.int .i64 z)) := Lib.hid (fun W hW => ((HG.out.bel x3).bel hW).kind HZ.out)
  clear x1 x2 x3 HB2
  have w1 : IntKind.i64.wrap (5 * (qb : Int)) = 5 * (qb : Int) := IntWalk.i64_in _ (by omega)
  have w2 : IntKind.i64.wrap (t - 5 * (qb : Int)) = t - 5 * (qb : Int) := IntWalk.i64_in _ (by omega)
  have w3 : IntKind.i64.wrap (qa : Int) = (qa : Int) := IntWalk.i64_in _ (by omega)
  have w4 : IntKind.i64.wrap (qb : Int) = (qb : Int) := IntWalk.i64_in _ (by omega)
  have i0 : (0 : Int) ≤ (kk : Int) := by omega
  have i1 : (kk : Int) < 13 := by omega
  have i2 : (0 : Int) ≤ (ks : Int) := by omega
  have i3 : (ks : Int) < 100 := by omega
  go_cut [9] (fun s9 wx => s9 = .pointer (some ⟨V.heap.size, 0, none⟩) ∧ Hid (Bk wx V.heap.size [.string (numT ⟨#[115]⟩ ks), .int .i64 n, .int .i64 (max (t - 5 * (qb : Int)) 0), .int .i64 z, .string ⟨#[]⟩, .string ⟨#[]⟩, .int .i64 0, .string ⟨#[]⟩] 41 ∧ Below V.heap.size V wx))
  case first =>
    go_region_held3 (fun X => X.cell? ⟨1, kk, none⟩ = some (.int .i64 z))
      ((first | assumption | (refine HK.out _ ?_; repeat (first | assumption | exact Below.refl _ _ | refine Below.drew ?_ | refine bel_alloc' ?_ _ | refine Below.setCell ?_ (Nat.le_refl _) _))))
      (first
        | (go_at_call 30
           (with_reducible refine (HNU.out _ _ _ i2 i3 (by decide)).mono ?_); rintro e wx ⟨rfl, rfl⟩)
        | fail)
    all_goals
      go_wp2_with fail
      go_meet
      exact ⟨rfl, Lib.hid ⟨Bk.new V [.string (numT ⟨#[115]⟩ ks), .int .i64 n, .int .i64 (max (t - 5 * (qb : Int)) 0), .int .i64 z, .string ⟨#[]⟩, .string ⟨#[]⟩, .int .i64 0, .string ⟨#[]⟩] 41, ((Below.refl _ _).alloc (Nat.le_refl _) _).drew⟩⟩
  case rest =>
    obtain ⟨rfl, HE⟩ := hcut
    have X2 := Lib.hid (And.intro (X.out.1.bel HE.out.2) (And.intro (X.out.2.1.bel HE.out.2) (And.intro HE.out.1 (And.intro (X.out.2.2.trans (HE.out.2.mono X.out.2.2.size)) (show w.heap.size + 2 ≤ V.heap.size from by have := X.out.2.1.lt; omega)))))
    generalize V.heap.size = g at X2 ⊢
    clear HE HK hkc w1 w2 w3 w4 X f1 f2 f3 f4 f1t f2t f3t f4t
    obtain ⟨p1, hp1⟩ : ∃ p1, c1 % 4 = p1 := ⟨_, rfl⟩
    obtain ⟨p2, hp2⟩ : ∃ p2, c2 % 6 = p2 := ⟨_, rfl⟩
    obtain ⟨p3, hp3⟩ : ∃ p3, c3 % 3 = p3 := ⟨_, rfl⟩
    have g1 : (c1 : Int).tmod 4 = (p1 : Int) := by rw [Int.tmod_eq_emod_of_nonneg (by omega)]; omega
    have g2 : (c2 : Int).tmod 6 = (p2 : Int) := by rw [Int.tmod_eq_emod_of_nonneg (by omega)]; omega
    have g3 : (c3 : Int).tmod 3 = (p3 : Int) := by rw [Int.tmod_eq_emod_of_nonneg (by omega)]; omega
    have HP1 : Hid (∀ W, Calls Tryd.prog 30 #[.string ⟨#[112]⟩, .int .i64 (p1 : Int)] W fun e w' => e = .returned (.string (numT ⟨#[112]⟩ p1)) ∧ W = w') := Lib.hid (fun W => numbered_any _ p1 (by omega) (by decide) W)
    have HP2 : Hid (∀ W, Calls Tryd.prog 30 #[.string ⟨#[105]⟩, .int .i64 (p2 : Int)] W fun e w' => e = .returned (.string (numT ⟨#[105]⟩ p2)) ∧ W = w') := Lib.hid (fun W => numbered_any _ p2 (by omega) (by decide) W)
    have HP3 : Hid (∀ W, Calls Tryd.prog 30 #[.string ⟨#[109]⟩, .int .i64 (p3 : Int)] W fun e w' => e = .returned (.string (numT ⟨#[109]⟩ p3)) ∧ W = w') := Lib.hid (fun W => numbered_any _ p3 (by omega) (by decide) W)
    have HPQ := Lib.hid (And.intro (show p1 < 4 by omega) (And.intro (show p2 < 6 by omega) (show p3 < 3 by omega)))
    clear hp1 hp2 hp3
    go_wp2_with fail
    have kk2 : wc.drew.cell? ⟨w.heap.size, 1, none⟩ = some (.int .i64 c1) ∧ wc.drew.cell? ⟨w.heap.size, 2, none⟩ = some (.int .i64 c2) := ⟨X2.out.1.cell 1, X2.out.1.cell 2⟩
    go_cut [10, 11, 12] (fun s10 s11 s12 wx => s10 = .string (numT ⟨#[112]⟩ p1) ∧ s11 = .string (numT ⟨#[105]⟩ p2) ∧ s12 = .string (numT ⟨#[109]⟩ p3) ∧ Hid (Below wc.heap.size wc wx))
    case first =>
      go_region_held3 (fun X => X.cell? ⟨w.heap.size, 1, none⟩ = some (.int .i64 c1) ∧ X.cell? ⟨w.heap.size, 2, none⟩ = some (.int .i64 c2))
        (first | assumption | exact kk2)
        (first
          | (go_at_call 30
             first
             | ((with_reducible refine (HP1.out _).mono ?_); rintro e wx ⟨rfl, rfl⟩)
             | ((with_reducible refine (HP2.out _).mono ?_); rintro e wx ⟨rfl, rfl⟩)
             | ((with_reducible refine (HP3.out _).mono ?_); rintro e wx ⟨rfl, rfl⟩)
             | fail)
          | fail)
      all_goals
        go_wp2_with fail
        go_meet
        exact ⟨rfl, rfl, rfl, Lib.hid ((Below.refl _ _).drew)⟩
    case rest =>
      obtain ⟨rfl, rfl, rfl, HW⟩ := hcut
      have hx1 := X2.out.2.1.bel HW.out
      have hx2 := X2.out.2.2.1.bel HW.out
      have hr : w.heap.size + 2 ≤ g := X2.out.2.2.2.2
      have hbl := X2.out.2.2.2.1.trans (HW.out.mono X2.out.2.2.2.1.size)
      have HE := Lib.hid (And.intro hx1 (And.intro hx2 (And.intro hbl hr)))
      have d0 : wc.cell? ⟨g, 0, none⟩ = some (.string (numT ⟨#[115]⟩ ks)) := hx2.cell 0
      have d1 : wc.cell? ⟨g, 1, none⟩ = some (.int .i64 n) := hx2.cell 1
      have d2 : wc.cell? ⟨g, 2, none⟩ = some (.int .i64 (max (t - 5 * (qb : Int)) 0)) := hx2.cell 2
      have d3 : wc.cell? ⟨g, 3, none⟩ = some (.int .i64 z) := hx2.cell 3
      have d4 : wc.cell? ⟨g, 4, none⟩ = some (.string ⟨#[]⟩) := hx2.cell 4
      have d5 : wc.cell? ⟨g, 5, none⟩ = some (.string ⟨#[]⟩) := hx2.cell 5
      have d6 : wc.cell? ⟨g, 6, none⟩ = some (.int .i64 0) := hx2.cell 6
      have d7 : wc.cell? ⟨g, 7, none⟩ = some (.string ⟨#[]⟩) := hx2.cell 7
      have e0 : wc.cell? ⟨w.heap.size + 1, 0, none⟩ = some (.string ⟨#[]⟩) := hx1.cell 0
      have e1 : wc.cell? ⟨w.heap.size + 1, 1, none⟩ = some (.int .i64 0) := hx1.cell 1
      have e2 : wc.cell? ⟨w.heap.size + 1, 2, none⟩ = some (.int .i64 0) := hx1.cell 2
      have e3 : wc.cell? ⟨w.heap.size + 1, 3, none⟩ = some (.int .i64 0) := hx1.cell 3
      have e4 : wc.cell? ⟨w.heap.size + 1, 4, none⟩ = some (.string ⟨#[]⟩) := hx1.cell 4
      have e5 : wc.cell? ⟨w.heap.size + 1, 5, none⟩ = some (.string ⟨#[]⟩) := hx1.cell 5
      have e6 : wc.cell? ⟨w.heap.size + 1, 6, none⟩ = some (.int .i64 0) := hx1.cell 6
      have e7 : wc.cell? ⟨w.heap.size + 1, 7, none⟩ = some (.string ⟨#[]⟩) := hx1.cell 7
      have gf : ∀ j, wc.frozen? ⟨g, j, none⟩ = false := fun j => hx2.free j
      have rf : ∀ j, wc.frozen? ⟨w.heap.size + 1, j, none⟩ = false := fun j => hx1.free j
      have ne1 : ¬ g = w.heap.size + 1 := by omega
      have ne2 : ¬ w.heap.size + 1 = g := by omega
      obtain ⟨p5, hp5⟩ : ∃ p5, c3 % 5 = p5 := ⟨_, rfl⟩
      have m3 : (c3 : Int) % 3 = (p3 : Int) := by rw [← g3, Int.tmod_eq_emod_of_nonneg (by omega)]
      have m5 : (c3 : Int) % 5 = (p5 : Int) := by omega
      have hp54 : p5 ≤ 4 := by omega
      clear hp5
      have hc3 : (0 : Int) ≤ (c3 : Int) := by omega
      have hc3' : (c3 : Int) ≤ 255 := by omega
      have HLE := Lib.hid (And.intro (show w.heap.size ≤ g by omega) (show w.heap.size ≤ w.heap.size + 1 by omega))
      clear hx1 hx2 hbl hr
      rcases hzc with rfl | rfl | rfl | rfl | rfl | rfl | rfl | rfl | rfl | rfl | rfl | rfl
      · go_wp2_with fail
        refine bodyPost_ret (finE (e := ⟨(numT ⟨#[115]⟩ ks), n, (max (t - 5 * (qb : Int)) 0), 0, (numT ⟨#[112]⟩ p1), (numT ⟨#[105]⟩ p2), 0, ⟨#[]⟩⟩) rfl rfl ?_) rfl ⟨⟨(numT ⟨#[115]⟩ ks), n, (max (t - 5 * (qb : Int)) 0), 0, (numT ⟨#[112]⟩ p1), (numT ⟨#[105]⟩ p2), 0, ⟨#[]⟩⟩, rfl, ⟨⟨ks, hks2, rfl⟩, ⟨hn0, hn1⟩, ⟨by simp only; omega, by simp only; omega⟩, .plain (by simp) ⟨p1, HPQ.out.1, rfl⟩ ⟨p2, HPQ.out.2.1, rfl⟩ rfl rfl⟩, rfl, rfl, ?_⟩
        · exact (((((((((Bk.other (Bk.other HE.out.1 g 4 _ ne2) g 5 _ ne2).set 0 _).set 1 _).set 2 _).set 3 _).set 4 _).set 5 _).set 6 _).set 7 _)
        · exact ((((((((((HE.out.2.2.1.setCell HLE.out.1 _).setCell HLE.out.1 _).setCell HLE.out.2 _).setCell HLE.out.2 _).setCell HLE.out.2 _).setCell HLE.out.2 _).setCell HLE.out.2 _).setCell HLE.out.2 _).setCell HLE.out.2 _).setCell HLE.out.2 _)
      · go_wp2_with fail
        refine bodyPost_ret (finE (e := ⟨(numT ⟨#[115]⟩ ks), n, (max (t - 5 * (qb : Int)) 0), 1, (numT ⟨#[112]⟩ p1), (numT ⟨#[105]⟩ p2), 0, ⟨#[]⟩⟩) rfl rfl ?_) rfl ⟨⟨(numT ⟨#[115]⟩ ks), n, (max (t - 5 * (qb : Int)) 0), 1, (numT ⟨#[112]⟩ p1), (numT ⟨#[105]⟩ p2), 0, ⟨#[]⟩⟩, rfl, ⟨⟨ks, hks2, rfl⟩, ⟨hn0, hn1⟩, ⟨by simp only; omega, by simp only; omega⟩, .plain (by simp) ⟨p1, HPQ.out.1, rfl⟩ ⟨p2, HPQ.out.2.1, rfl⟩ rfl rfl⟩, rfl, rfl, ?_⟩
        · exact (((((((((Bk.other (Bk.other HE.out.1 g 4 _ ne2) g 5 _ ne2).set 0 _).set 1 _).set 2 _).set 3 _).set 4 _).set 5 _).set 6 _).set 7 _)
        · exact ((((((((((HE.out.2.2.1.setCell HLE.out.1 _).setCell HLE.out.1 _).setCell HLE.out.2 _).setCell HLE.out.2 _).setCell HLE.out.2 _).setCell HLE.out.2 _).setCell HLE.out.2 _).setCell HLE.out.2 _).setCell HLE.out.2 _).setCell HLE.out.2 _)
      · go_wp2_with fail
        refine bodyPost_ret (finE (e := ⟨(numT ⟨#[115]⟩ ks), n, (max (t - 5 * (qb : Int)) 0), 2, (numT ⟨#[112]⟩ p1), (numT ⟨#[105]⟩ p2), 0, ⟨#[]⟩⟩) rfl rfl ?_) rfl ⟨⟨(numT ⟨#[115]⟩ ks), n, (max (t - 5 * (qb : Int)) 0), 2, (numT ⟨#[112]⟩ p1), (numT ⟨#[105]⟩ p2), 0, ⟨#[]⟩⟩, rfl, ⟨⟨ks, hks2, rfl⟩, ⟨hn0, hn1⟩, ⟨by simp only; omega, by simp only; omega⟩, .plain (by simp) ⟨p1, HPQ.out.1, rfl⟩ ⟨p2, HPQ.out.2.1, rfl⟩ rfl rfl⟩, rfl, rfl, ?_⟩
        · exact (((((((((Bk.other (Bk.other HE.out.1 g 4 _ ne2) g 5 _ ne2).set 0 _).set 1 _).set 2 _).set 3 _).set 4 _).set 5 _).set 6 _).set 7 _)
        · exact ((((((((((HE.out.2.2.1.setCell HLE.out.1 _).setCell HLE.out.1 _).setCell HLE.out.2 _).setCell HLE.out.2 _).setCell HLE.out.2 _).setCell HLE.out.2 _).setCell HLE.out.2 _).setCell HLE.out.2 _).setCell HLE.out.2 _).setCell HLE.out.2 _)
      · go_wp2_with fail
        refine bodyPost_ret (finE (e := ⟨(numT ⟨#[115]⟩ ks), n, (max (t - 5 * (qb : Int)) 0), 3, (numT ⟨#[112]⟩ p1), (numT ⟨#[105]⟩ p2), 0, ⟨#[]⟩⟩) rfl rfl ?_) rfl ⟨⟨(numT ⟨#[115]⟩ ks), n, (max (t - 5 * (qb : Int)) 0), 3, (numT ⟨#[112]⟩ p1), (numT ⟨#[105]⟩ p2), 0, ⟨#[]⟩⟩, rfl, ⟨⟨ks, hks2, rfl⟩, ⟨hn0, hn1⟩, ⟨by simp only; omega, by simp only; omega⟩, .plain (by simp) ⟨p1, HPQ.out.1, rfl⟩ ⟨p2, HPQ.out.2.1, rfl⟩ rfl rfl⟩, rfl, rfl, ?_⟩
        · exact (((((((((Bk.other (Bk.other HE.out.1 g 4 _ ne2) g 5 _ ne2).set 0 _).set 1 _).set 2 _).set 3 _).set 4 _).set 5 _).set 6 _).set 7 _)
        · exact ((((((((((HE.out.2.2.1.setCell HLE.out.1 _).setCell HLE.out.1 _).setCell HLE.out.2 _).setCell HLE.out.2 _).setCell HLE.out.2 _).setCell HLE.out.2 _).setCell HLE.out.2 _).setCell HLE.out.2 _).setCell HLE.out.2 _).setCell HLE.out.2 _)
      · go_wp2_with fail
        refine bodyPost_ret (finE (e := ⟨(numT ⟨#[115]⟩ ks), n, (max (t - 5 * (qb : Int)) 0), 4, (numT ⟨#[112]⟩ p1), (numT ⟨#[105]⟩ p2), (1 + (p5 : Int)), ⟨#[]⟩⟩) rfl rfl ?_) rfl ⟨⟨(numT ⟨#[115]⟩ ks), n, (max (t - 5 * (qb : Int)) 0), 4, (numT ⟨#[112]⟩ p1), (numT ⟨#[105]⟩ p2), (1 + (p5 : Int)), ⟨#[]⟩⟩, rfl, ⟨⟨ks, hks2, rfl⟩, ⟨hn0, hn1⟩, ⟨by simp only; omega, by simp only; omega⟩, .rated rfl ⟨p1, HPQ.out.1, rfl⟩ ⟨p2, HPQ.out.2.1, rfl⟩ ⟨by simp only; omega, by simp only; omega⟩ rfl⟩, rfl, rfl, ?_⟩
        · exact (((((((((Bk.other (Bk.other (Bk.other HE.out.1 g 4 _ ne2) g 5 _ ne2) g 6 _ ne2).set 0 _).set 1 _).set 2 _).set 3 _).set 4 _).set 5 _).set 6 _).set 7 _)
        · exact (((((((((((HE.out.2.2.1.setCell HLE.out.1 _).setCell HLE.out.1 _).setCell HLE.out.1 _).setCell HLE.out.2 _).setCell HLE.out.2 _).setCell HLE.out.2 _).setCell HLE.out.2 _).setCell HLE.out.2 _).setCell HLE.out.2 _).setCell HLE.out.2 _).setCell HLE.out.2 _)
      · go_wp2_with fail
        refine bodyPost_ret (finE (e := ⟨(numT ⟨#[115]⟩ ks), n, (max (t - 5 * (qb : Int)) 0), 5, (numT ⟨#[112]⟩ p1), (numT ⟨#[105]⟩ p2), 0, ⟨#[]⟩⟩) rfl rfl ?_) rfl ⟨⟨(numT ⟨#[115]⟩ ks), n, (max (t - 5 * (qb : Int)) 0), 5, (numT ⟨#[112]⟩ p1), (numT ⟨#[105]⟩ p2), 0, ⟨#[]⟩⟩, rfl, ⟨⟨ks, hks2, rfl⟩, ⟨hn0, hn1⟩, ⟨by simp only; omega, by simp only; omega⟩, .plain (by simp) ⟨p1, HPQ.out.1, rfl⟩ ⟨p2, HPQ.out.2.1, rfl⟩ rfl rfl⟩, rfl, rfl, ?_⟩
        · exact (((((((((Bk.other (Bk.other HE.out.1 g 4 _ ne2) g 5 _ ne2).set 0 _).set 1 _).set 2 _).set 3 _).set 4 _).set 5 _).set 6 _).set 7 _)
        · exact ((((((((((HE.out.2.2.1.setCell HLE.out.1 _).setCell HLE.out.1 _).setCell HLE.out.2 _).setCell HLE.out.2 _).setCell HLE.out.2 _).setCell HLE.out.2 _).setCell HLE.out.2 _).setCell HLE.out.2 _).setCell HLE.out.2 _).setCell HLE.out.2 _)
      · go_wp2_with fail
        refine bodyPost_ret (finE (e := ⟨(numT ⟨#[115]⟩ ks), n, (max (t - 5 * (qb : Int)) 0), 6, (numT ⟨#[112]⟩ p1), (numT ⟨#[105]⟩ p2), 0, ⟨#[]⟩⟩) rfl rfl ?_) rfl ⟨⟨(numT ⟨#[115]⟩ ks), n, (max (t - 5 * (qb : Int)) 0), 6, (numT ⟨#[112]⟩ p1), (numT ⟨#[105]⟩ p2), 0, ⟨#[]⟩⟩, rfl, ⟨⟨ks, hks2, rfl⟩, ⟨hn0, hn1⟩, ⟨by simp only; omega, by simp only; omega⟩, .plain (by simp) ⟨p1, HPQ.out.1, rfl⟩ ⟨p2, HPQ.out.2.1, rfl⟩ rfl rfl⟩, rfl, rfl, ?_⟩
        · exact (((((((((Bk.other (Bk.other HE.out.1 g 4 _ ne2) g 5 _ ne2).set 0 _).set 1 _).set 2 _).set 3 _).set 4 _).set 5 _).set 6 _).set 7 _)
        · exact ((((((((((HE.out.2.2.1.setCell HLE.out.1 _).setCell HLE.out.1 _).setCell HLE.out.2 _).setCell HLE.out.2 _).setCell HLE.out.2 _).setCell HLE.out.2 _).setCell HLE.out.2 _).setCell HLE.out.2 _).setCell HLE.out.2 _).setCell HLE.out.2 _)
      · go_wp2_with fail
        refine bodyPost_ret (finE (e := ⟨(numT ⟨#[115]⟩ ks), n, (max (t - 5 * (qb : Int)) 0), 7, (numT ⟨#[112]⟩ p1), ⟨#[]⟩, 0, (numT ⟨#[109]⟩ p3)⟩) rfl rfl ?_) rfl ⟨⟨(numT ⟨#[115]⟩ ks), n, (max (t - 5 * (qb : Int)) 0), 7, (numT ⟨#[112]⟩ p1), ⟨#[]⟩, 0, (numT ⟨#[109]⟩ p3)⟩, rfl, ⟨⟨ks, hks2, rfl⟩, ⟨hn0, hn1⟩, ⟨by simp only; omega, by simp only; omega⟩, .follow (by simp) ⟨p1, HPQ.out.1, rfl⟩ rfl rfl ⟨p3, HPQ.out.2.2, rfl⟩⟩, rfl, rfl, ?_⟩
        · exact (((((((((Bk.other (Bk.other HE.out.1 g 4 _ ne2) g 7 _ ne2).set 0 _).set 1 _).set 2 _).set 3 _).set 4 _).set 5 _).set 6 _).set 7 _)
        · exact ((((((((((HE.out.2.2.1.setCell HLE.out.1 _).setCell HLE.out.1 _).setCell HLE.out.2 _).setCell HLE.out.2 _).setCell HLE.out.2 _).setCell HLE.out.2 _).setCell HLE.out.2 _).setCell HLE.out.2 _).setCell HLE.out.2 _).setCell HLE.out.2 _)
      · go_wp2_with fail
        refine bodyPost_ret (finE (e := ⟨(numT ⟨#[115]⟩ ks), n, (max (t - 5 * (qb : Int)) 0), 9, (numT ⟨#[112]⟩ p1), ⟨#[]⟩, 0, (numT ⟨#[109]⟩ p3)⟩) rfl rfl ?_) rfl ⟨⟨(numT ⟨#[115]⟩ ks), n, (max (t - 5 * (qb : Int)) 0), 9, (numT ⟨#[112]⟩ p1), ⟨#[]⟩, 0, (numT ⟨#[109]⟩ p3)⟩, rfl, ⟨⟨ks, hks2, rfl⟩, ⟨hn0, hn1⟩, ⟨by simp only; omega, by simp only; omega⟩, .follow (by simp) ⟨p1, HPQ.out.1, rfl⟩ rfl rfl ⟨p3, HPQ.out.2.2, rfl⟩⟩, rfl, rfl, ?_⟩
        · exact (((((((((Bk.other (Bk.other HE.out.1 g 4 _ ne2) g 7 _ ne2).set 0 _).set 1 _).set 2 _).set 3 _).set 4 _).set 5 _).set 6 _).set 7 _)
        · exact ((((((((((HE.out.2.2.1.setCell HLE.out.1 _).setCell HLE.out.1 _).setCell HLE.out.2 _).setCell HLE.out.2 _).setCell HLE.out.2 _).setCell HLE.out.2 _).setCell HLE.out.2 _).setCell HLE.out.2 _).setCell HLE.out.2 _).setCell HLE.out.2 _)
      · go_wp2_with fail
        refine (tlisting_any (numT ⟨#[109]⟩ p3) c3 wc (Nat.le_trans (numT_size ⟨#[109]⟩ p3 (by have := HPQ.out.2.2; omega)) (by decide)) hc3 hc3').mono ?_
        rintro e w6 ⟨b0, b1, b2, rfl, b6⟩
        have HE6 := Lib.hid (And.intro (HE.out.1.bel b6) (And.intro (HE.out.2.1.bel b6) (And.intro (HE.out.2.2.1.trans (b6.mono HE.out.2.2.1.size)) trivial)))
        have hx1 := HE6.out.1
        have hx2 := HE6.out.2.1
        clear d0 d1 d2 d3 d4 d5 d6 d7 e0 e1 e2 e3 e4 e5 e6 e7 gf rf b6
        have d0 : w6.cell? ⟨g, 0, none⟩ = some (.string (numT ⟨#[115]⟩ ks)) := hx2.cell 0
        have e0 : w6.cell? ⟨w.heap.size + 1, 0, none⟩ = some (.string ⟨#[]⟩) := hx1.cell 0
        have d1 : w6.cell? ⟨g, 1, none⟩ = some (.int .i64 n) := hx2.cell 1
        have e1 : w6.cell? ⟨w.heap.size + 1, 1, none⟩ = some (.int .i64 0) := hx1.cell 1
        have d2 : w6.cell? ⟨g, 2, none⟩ = some (.int .i64 (max (t - 5 * (qb : Int)) 0)) := hx2.cell 2
        have e2 : w6.cell? ⟨w.heap.size + 1, 2, none⟩ = some (.int .i64 0) := hx1.cell 2
        have d3 : w6.cell? ⟨g, 3, none⟩ = some (.int .i64 11) := hx2.cell 3
        have e3 : w6.cell? ⟨w.heap.size + 1, 3, none⟩ = some (.int .i64 0) := hx1.cell 3
        have d4 : w6.cell? ⟨g, 4, none⟩ = some (.string ⟨#[]⟩) := hx2.cell 4
        have e4 : w6.cell? ⟨w.heap.size + 1, 4, none⟩ = some (.string ⟨#[]⟩) := hx1.cell 4
        have d5 : w6.cell? ⟨g, 5, none⟩ = some (.string ⟨#[]⟩) := hx2.cell 5
        have e5 : w6.cell? ⟨w.heap.size + 1, 5, none⟩ = some (.string ⟨#[]⟩) := hx1.cell 5
        have d6 : w6.cell? ⟨g, 6, none⟩ = some (.int .i64 0) := hx2.cell 6
        have e6 : w6.cell? ⟨w.heap.size + 1, 6, none⟩ = some (.int .i64 0) := hx1.cell 6
        have d7 : w6.cell? ⟨g, 7, none⟩ = some (.string ⟨#[]⟩) := hx2.cell 7
        have e7 : w6.cell? ⟨w.heap.size + 1, 7, none⟩ = some (.string ⟨#[]⟩) := hx1.cell 7
        have gf : ∀ j, w6.frozen? ⟨g, j, none⟩ = false := fun j => hx2.free j
        have rf : ∀ j, w6.frozen? ⟨w.heap.size + 1, j, none⟩ = false := fun j => hx1.free j
        clear hx1 hx2
        go_wp2_with fail
        refine bodyPost_ret (finE (e := ⟨(numT ⟨#[115]⟩ ks), n, (max (t - 5 * (qb : Int)) 0), 11, ⟨#[]⟩, (numT ⟨#[105]⟩ p2), c3, (lstT (numT ⟨#[109]⟩ p3) b0 b1 b2)⟩) rfl rfl ?_) rfl ⟨⟨(numT ⟨#[115]⟩ ks), n, (max (t - 5 * (qb : Int)) 0), 11, ⟨#[]⟩, (numT ⟨#[105]⟩ p2), c3, (lstT (numT ⟨#[109]⟩ p3) b0 b1 b2)⟩, rfl, ⟨⟨ks, hks2, rfl⟩, ⟨hn0, hn1⟩, ⟨by simp only; omega, by simp only; omega⟩, .listed rfl rfl ⟨p2, HPQ.out.2.1, rfl⟩ ⟨hc3, hc3'⟩ ⟨_, b0, b1, b2, ⟨p3, HPQ.out.2.2, rfl⟩, rfl⟩⟩, rfl, rfl, ?_⟩
        · exact (((((((((Bk.other (Bk.other (Bk.other HE6.out.1 g 5 _ ne2) g 6 _ ne2) g 7 _ ne2).set 0 _).set 1 _).set 2 _).set 3 _).set 4 _).set 5 _).set 6 _).set 7 _)
        · exact (((((((((((HE6.out.2.2.1.setCell HLE.out.1 _).setCell HLE.out.1 _).setCell HLE.out.1 _).setCell HLE.out.2 _).setCell HLE.out.2 _).setCell HLE.out.2 _).setCell HLE.out.2 _).setCell HLE.out.2 _).setCell HLE.out.2 _).setCell HLE.out.2 _).setCell HLE.out.2 _)
      · go_wp2_with fail
        refine bodyPost_ret (finE (e := ⟨(numT ⟨#[115]⟩ ks), n, (max (t - 5 * (qb : Int)) 0), 12, ⟨#[]⟩, (numT ⟨#[105]⟩ p2), (p3 : Nat), ⟨#[]⟩⟩) rfl rfl ?_) rfl ⟨⟨(numT ⟨#[115]⟩ ks), n, (max (t - 5 * (qb : Int)) 0), 12, ⟨#[]⟩, (numT ⟨#[105]⟩ p2), (p3 : Nat), ⟨#[]⟩⟩, rfl, ⟨⟨ks, hks2, rfl⟩, ⟨hn0, hn1⟩, ⟨by simp only; omega, by simp only; omega⟩, .stocked rfl rfl ⟨p2, HPQ.out.2.1, rfl⟩ ⟨by simp only; omega, by have := HPQ.out.2.2; simp only; omega⟩ rfl⟩, rfl, rfl, ?_⟩
        · exact (((((((((Bk.other (Bk.other HE.out.1 g 5 _ ne2) g 6 _ ne2).set 0 _).set 1 _).set 2 _).set 3 _).set 4 _).set 5 _).set 6 _).set 7 _)
        · exact ((((((((((HE.out.2.2.1.setCell HLE.out.1 _).setCell HLE.out.1 _).setCell HLE.out.2 _).setCell HLE.out.2 _).setCell HLE.out.2 _).setCell HLE.out.2 _).setCell HLE.out.2 _).setCell HLE.out.2 _).setCell HLE.out.2 _).setCell HLE.out.2 _)
      · go_wp2_with fail
        refine bodyPost_ret (finE (e := ⟨(numT ⟨#[115]⟩ ks), n, (max (t - 5 * (qb : Int)) 0), 13, ⟨#[]⟩, (numT ⟨#[105]⟩ p2), 0, ⟨#[]⟩⟩) rfl rfl ?_) rfl ⟨⟨(numT ⟨#[115]⟩ ks), n, (max (t - 5 * (qb : Int)) 0), 13, ⟨#[]⟩, (numT ⟨#[105]⟩ p2), 0, ⟨#[]⟩⟩, rfl, ⟨⟨ks, hks2, rfl⟩, ⟨hn0, hn1⟩, ⟨by simp only; omega, by simp only; omega⟩, .delisted rfl rfl ⟨p2, HPQ.out.2.1, rfl⟩ rfl rfl⟩, rfl, rfl, ?_⟩
        · exact (((((((((Bk.other HE.out.1 g 5 _ ne2).set 0 _).set 1 _).set 2 _).set 3 _).set 4 _).set 5 _).set 6 _).set 7 _)
        · exact (((((((((HE.out.2.2.1.setCell HLE.out.1 _).setCell HLE.out.2 _).setCell HLE.out.2 _).setCell HLE.out.2 _).setCell HLE.out.2 _).setCell HLE.out.2 _).setCell HLE.out.2 _).setCell HLE.out.2 _).setCell HLE.out.2 _)
end Tl
end Go.Proofs.YtbhghelegonbbaaDoor
namespace Go.Proofs.YtbhghelegonbbaaDoor
open Go.RowKit Go.MapKept Go.Maps
set_option linter.unusedVariables false
set_option linter.unusedSimpArgs false
theorem Bk.setRow {w : World} {g : Nat} {cs : List Value} {t : TypeId} (h : Bk w g cs t) (vs : List Value) : Bk (w.setRow g vs.toArray) g vs t := setRow_heap w g _ _ t _ h
theorem Bk.rowOther {w : World} {g : Nat} {cs : List Value} {t : TypeId} (h : Bk w g cs t) (k : Nat) (vs : Array Value) (hk : g ≠ k) : Bk (w.setRow k vs) g cs t := (setRow_other w k g vs hk).trans h
theorem bel_setRow {B : Nat} {a w : World} (h : Below B a w) {g : Nat} (hg : B ≤ g) (cs : Array Value) : Below B a (w.setRow g cs) :=
  h.trans ⟨rfl, rfl, rfl, by simp, fun k hk => setRow_other w g k cs (by omega)⟩
theorem Bk.range {w : World} {g : Nat} {cs : List Value} {t : TypeId} (h : Bk w g cs t) (o : Nat) (vs : List Value) (hv : ∀ j v, vs[j]? = some v → cs[o + j]? = some v) : w.rangeAt g o vs := fun j v hj => by
  rw [h.cell]; exact hv j v hj
theorem Bk.there {w : World} {g : Nat} {cs : List Value} {t : TypeId} (h : Bk w g cs t) (o n : Nat) (ho : o + n ≤ cs.length) : w.there g o n := fun j hj => by
  refine ⟨?_, h.free _⟩
  rw [h.cell, List.getElem?_eq_getElem (by omega)]; rfl
/-- a part of a list is written -/
def lput (cs : List Value) : Nat → List Value → List Value
  | _, [] => cs
  | o, v :: vs => lput (cs.set o v) (o + 1) vs
theorem Bk.lput {g : Nat} {t : TypeId} : ∀ (vs : List Value) (o : Nat) {w : World} {cs : List Value}, Bk w g cs t → Bk (w.setCells g o vs) g (lput cs o vs) t
  | [], _, _, _, h => h
  | v :: vs, o, _, _, h => Bk.lput vs (o + 1) (h.set o v)
theorem Bk.cellsOther {g k : Nat} {t : TypeId} {cs : List Value} (hk : g ≠ k) : ∀ (vs : List Value) (o : Nat) {w : World}, Bk w g cs t → Bk (w.setCells k o vs) g cs t
  | [], _, _, h => h
  | v :: vs, o, _, h => Bk.cellsOther hk vs (o + 1) (h.other k o v hk)
theorem bel_setCells {B g : Nat} {a : World} (hg : B ≤ g) : ∀ (vs : List Value) (o : Nat) {w : World}, Below B a w → Below B a (w.setCells g o vs)
  | [], _, _, h => h
  | v :: vs, o, _, h => bel_setCells hg vs (o + 1) (h.setCell hg _)
theorem fr_setCells {S : Nat → Prop} {a : World} {g : Nat} (hg : a.heap.size ≤ g ∨ S g) : ∀ (vs : List Value) (o : Nat) {w : World}, Fr S a w → Fr S a (w.setCells g o vs)
  | [], _, _, h => h
  | v :: vs, o, _, h => fr_setCells hg vs (o + 1) (h.setCell g o v hg)
theorem size_setCells (g : Nat) : ∀ (vs : List Value) (o : Nat) (w : World), (w.setCells g o vs).heap.size = w.heap.size
  | [], _, _ => rfl
  | v :: vs, o, w => by rw [World.setCells, size_setCells g vs]; simp [World.setCell]
end Go.Proofs.YtbhghelegonbbaaDoor
namespace Go.Proofs.YtbhghelegonbbaaDoor
open Go.RowKit Go.MapKept Go.Maps
set_option linter.unusedVariables false
set_option linter.unusedSimpArgs false
namespace Tl
open Es
/-- the eight numbers of settings -/
structure Sg where
  s0 : Int
  s1 : Int
  s2 : Int
  s3 : Int
  s4 : Int
  s5 : Int
  s6 : Int
  s7 : Int
def sgC : Sg → List Value
  | ⟨s0, s1, s2, s3, s4, s5, s6, s7⟩ => [.int .i64 s0, .int .i64 s1, .int .i64 s2, .int .i64 s3, .int .i64 s4, .int .i64 s5, .int .i64 100, .int .i64 100, .int .i64 100, .int .i64 100, .int .i64 100, .int .i64 100, .int .i64 4, .int .i64 2, .int .i64 3, .int .i64 1073741824, .int .i64 0, .int .i64 5, .int .i64 s6, .string ⟨#[115, 116, 111, 99, 107, 62, 48]⟩, .string ⟨#[111, 119, 110]⟩, .int .u64 s7]
/-- where i weights stand at 100 -/
def wts : Nat → Sg → List Value
  | 0, ⟨s0, s1, s2, s3, s4, s5, s6, s7⟩ => [.int .i64 s0, .int .i64 s1, .int .i64 s2, .int .i64 s3, .int .i64 s4, .int .i64 s5, .int .i64 0, .int .i64 0, .int .i64 0, .int .i64 0, .int .i64 0, .int .i64 0, .int .i64 4, .int .i64 2, .int .i64 3, .int .i64 1073741824, .int .i64 0, .int .i64 5, .int .i64 s6, .string ⟨#[115, 116, 111, 99, 107, 62, 48]⟩, .string ⟨#[111, 119, 110]⟩, .int .u64 s7]
  | 1, ⟨s0, s1, s2, s3, s4, s5, s6, s7⟩ => [.int .i64 s0, .int .i64 s1, .int .i64 s2, .int .i64 s3, .int .i64 s4, .int .i64 s5, .int .i64 100, .int .i64 0, .int .i64 0, .int .i64 0, .int .i64 0, .int .i64 0, .int .i64 4, .int .i64 2, .int .i64 3, .int .i64 1073741824, .int .i64 0, .int .i64 5, .int .i64 s6, .string ⟨#[115, 116, 111, 99, 107, 62, 48]⟩, .string ⟨#[111, 119, 110]⟩, .int .u64 s7]
  | 2, ⟨s0, s1, s2, s3, s4, s5, s6, s7⟩ => [.int .i64 s0, .int .i64 s1, .int .i64 s2, .int .i64 s3, .int .i64 s4, .int .i64 s5, .int .i64 100, .int .i64 100, .int .i64 0, .int .i64 0, .int .i64 0, .int .i64 0, .int .i64 4, .int .i64 2, .int .i64 3, .int .i64 1073741824, .int .i64 0, .int .i64 5, .int .i64 s6, .string ⟨#[115, 116, 111, 99, 107, 62, 48]⟩, .string ⟨#[111, 119, 110]⟩, .int .u64 s7]
  | 3, ⟨s0, s1, s2, s3, s4, s5, s6, s7⟩ => [.int .i64 s0, .int .i64 s1, .int .i64 s2, .int .i64 s3, .int .i64 s4, .int .i64 s5, .int .i64 100, .int .i64 100, .int .i64 100, .int .i64 0, .int .i64 0, .int .i64 0, .int .i64 4, .int .i64 2, .int .i64 3, .int .i64 1073741824, .int .i64 0, .int .i64 5, .int .i64 s6, .string ⟨#[115, 116, 111, 99, 107, 62, 48]⟩, .string ⟨#[111, 119, 110]⟩, .int .u64 s7]
  | 4, ⟨s0, s1, s2, s3, s4, s5, s6, s7⟩ => [.int .i64 s0, .int .i64 s1, .int .i64 s2, .int .i64 s3, .int .i64 s4, .int .i64 s5, .int .i64 100, .int .i64 100, .int .i64 100, .int .i64 100, .int .i64 0, .int .i64 0, .int .i64 4, .int .i64 2, .int .i64 3, .int .i64 1073741824, .int .i64 0, .int .i64 5, .int .i64 s6, .string ⟨#[115, 116, 111, 99, 107, 62, 48]⟩, .string ⟨#[111, 119, 110]⟩, .int .u64 s7]
  | 5, ⟨s0, s1, s2, s3, s4, s5, s6, s7⟩ => [.int .i64 s0, .int .i64 s1, .int .i64 s2, .int .i64 s3, .int .i64 s4, .int .i64 s5, .int .i64 100, .int .i64 100, .int .i64 100, .int .i64 100, .int .i64 100, .int .i64 0, .int .i64 4, .int .i64 2, .int .i64 3, .int .i64 1073741824, .int .i64 0, .int .i64 5, .int .i64 s6, .string ⟨#[115, 116, 111, 99, 107, 62, 48]⟩, .string ⟨#[111, 119, 110]⟩, .int .u64 s7]
  | _, s => sgC s
theorem sgLen (s : Sg) : (sgC s).length = 22 := by cases s; rfl
theorem wtsAll (s : Sg) (i : Nat) : (wts i s).all (·.oneCell') = true := by
  cases s
  match i with
  | 0 => rfl
  | 1 => rfl
  | 2 => rfl
  | 3 => rfl
  | 4 => rfl
  | 5 => rfl
  | n + 6 => rfl
theorem wtsOne (s : Sg) (i : Nat) : ∀ u ∈ wts i s, u.oneCell' = true := List.all_eq_true.1 (wtsAll s i)
theorem wtsSet (s : Sg) (i : Nat) (hi : i < 6) : (wts i s).set (6 + i) (.int .i64 100) = wts (i + 1) s := by
  cases s
  rcases (by omega : i = 0 ∨ i = 1 ∨ i = 2 ∨ i = 3 ∨ i = 4 ∨ i = 5) with rfl | rfl | rfl | rfl | rfl | rfl <;> rfl
theorem wtsLen (s : Sg) (i : Nat) : (wts i s).length = 22 := by
  cases s
  match i with
  | 0 => rfl
  | 1 => rfl
  | 2 => rfl
  | 3 => rfl
  | 4 => rfl
  | 5 => rfl
  | n + 6 => rfl
def zerS : List Value := [.int .i64 0, .int .i64 0, .int .i64 0, .int .i64 0, .int .i64 0, .int .i64 0, .int .i64 0, .int .i64 0, .int .i64 0, .int .i64 0, .int .i64 0, .int .i64 0, .int .i64 0, .int .i64 0, .int .i64 0, .int .i64 0, .int .i64 0, .int .i64 0, .int .i64 0, .string ⟨#[]⟩, .string ⟨#[]⟩, .int .u64 0]
def SetPost (w : World) (e : Ending) (w' : World) : Prop := ∃ s, e = .returned (.agg (sgC s).toArray) ∧ Below w.heap.size w w'
set_option maxRecDepth 100000 in
set_option maxHeartbeats 8000000 in
theorem settings_any (c0 c1 c2 c3 c4 c5 c6 c7 : Int) (w : World) :
    Calls Tryd.prog 29 #[.agg #[.int .i64 c0, .int .i64 c1, .int .i64 c2, .int .i64 c3, .int .i64 c4, .int .i64 c5, .int .i64 c6, .int .i64 c7]] w (SetPost w) := by
  go_enter Tryd.func29, Tryd.ntmps29
  go_upto_region 2 with fail
  iterate 95 (first | (go_big_may; fail) | go_values | go_skip | go_guarded | go_step | go_upon | go_back)
  have B3 : Bk (((w.alloc (.cells #[.int .i64 c0, .int .i64 c1, .int .i64 c2, .int .i64 c3, .int .i64 c4, .int .i64 c5, .int .i64 c6, .int .i64 c7] 82)).alloc (.cells #[.int .i64 0, .int .i64 0, .int .i64 0, .int .i64 0, .int .i64 0, .int .i64 0, .int .i64 0, .int .i64 0, .int .i64 0, .int .i64 0, .int .i64 0, .int .i64 0, .int .i64 0, .int .i64 0, .int .i64 0, .int .i64 0, .int .i64 0, .int .i64 0, .int .i64 0, .string ⟨#[]⟩, .string ⟨#[]⟩, .int .u64 0] 32)).alloc (.cells #[.int .i64 0, .int .i64 0, .int .i64 0, .int .i64 0, .int .i64 0, .int .i64 0, .int .i64 0, .int .i64 0, .int .i64 0, .int .i64 0, .int .i64 0, .int .i64 0, .int .i64 0, .int .i64 0, .int .i64 0, .int .i64 0, .int .i64 0, .int .i64 0, .int .i64 0, .string ⟨#[]⟩, .string ⟨#[]⟩, .int .u64 0] 32)) (w.heap.size + 1 + 1) zerS 32 := bk_at (n := w.heap.size + 1 + 1) zerS 32 (by simp)
  have B2 : Bk (((w.alloc (.cells #[.int .i64 c0, .int .i64 c1, .int .i64 c2, .int .i64 c3, .int .i64 c4, .int .i64 c5, .int .i64 c6, .int .i64 c7] 82)).alloc (.cells #[.int .i64 0, .int .i64 0, .int .i64 0, .int .i64 0, .int .i64 0, .int .i64 0, .int .i64 0, .int .i64 0, .int .i64 0, .int .i64 0, .int .i64 0, .int .i64 0, .int .i64 0, .int .i64 0, .int .i64 0, .int .i64 0, .int .i64 0, .int .i64 0, .int .i64 0, .string ⟨#[]⟩, .string ⟨#[]⟩, .int .u64 0] 32)).alloc (.cells #[.int .i64 0, .int .i64 0, .int .i64 0, .int .i64 0, .int .i64 0, .int .i64 0, .int .i64 0, .int .i64 0, .int .i64 0, .int .i64 0, .int .i64 0, .int .i64 0, .int .i64 0, .int .i64 0, .int .i64 0, .int .i64 0, .int .i64 0, .int .i64 0, .int .i64 0, .string ⟨#[]⟩, .string ⟨#[]⟩, .int .u64 0] 32)) (w.heap.size + 1) zerS 32 := (bk_at (W := (w.alloc (.cells #[.int .i64 c0, .int .i64 c1, .int .i64 c2, .int .i64 c3, .int .i64 c4, .int .i64 c5, .int .i64 c6, .int .i64 c7] 82))) (n := w.heap.size + 1) zerS 32 (by simp)).old _
  have B0 : Below w.heap.size w (((w.alloc (.cells #[.int .i64 c0, .int .i64 c1, .int .i64 c2, .int .i64 c3, .int .i64 c4, .int .i64 c5, .int .i64 c6, .int .i64 c7] 82)).alloc (.cells #[.int .i64 0, .int .i64 0, .int .i64 0, .int .i64 0, .int .i64 0, .int .i64 0, .int .i64 0, .int .i64 0, .int .i64 0, .int .i64 0, .int .i64 0, .int .i64 0, .int .i64 0, .int .i64 0, .int .i64 0, .int .i64 0, .int .i64 0, .int .i64 0, .int .i64 0, .string ⟨#[]⟩, .string ⟨#[]⟩, .int .u64 0] 32)).alloc (.cells #[.int .i64 0, .int .i64 0, .int .i64 0, .int .i64 0, .int .i64 0, .int .i64 0, .int .i64 0, .int .i64 0, .int .i64 0, .int .i64 0, .int .i64 0, .int .i64 0, .int .i64 0, .int .i64 0, .int .i64 0, .int .i64 0, .int .i64 0, .int .i64 0, .int .i64 0, .string ⟨#[]⟩, .string ⟨#[]⟩, .int .u64 0] 32)) := (((Below.refl w.heap.size w).alloc (Nat.le_refl _) _).alloc (by simp) _).alloc (by simp; omega) _
  obtain ⟨s, hs⟩ : ∃ s : Sg, s = ⟨wrap64 (1 + wrap64 (10 * c0)), wrap64 (1 + c1.tmod 20), wrap64 (1 + c2.tmod 50), wrap64 (wrap64 (1 + c1.tmod 20) * wrap64 (1 + c3.tmod 4)), c4.tmod 3, c5.tmod 3, c6.tmod 4, IntKind.u64.wrap c7⟩ := ⟨_, rfl⟩
  refine wp_store_row 32 _ _ rfl (w.heap.size + 1 + 1) (wts 0 s).toArray rfl (by rw [hs]; rfl) 32 zerS.toArray B3 (by rw [List.size_toArray, wtsLen]; kernel_rfl) (by rw [List.size_toArray, List.size_toArray, wtsLen]; rfl) (all_oneCell_toArray (wtsOne _ _)) ?_
  have B4 := B3.setRow (wts 0 s)
  have B5 := B2.rowOther (w.heap.size + 1 + 1) (wts 0 s).toArray (by omega)
  have B6 := bel_setRow B0 (g := w.heap.size + 1 + 1) (by omega) (wts 0 s).toArray
  generalize World.setRow _ _ _ = V at B4 B5 B6 ⊢
  clear B3 B2 B0 hs
  have H0 := Lib.hid (And.intro B4 (And.intro B5 B6))
  clear B4 B5 B6
  go_upto_region 4 with fail
  go_loopw [40] (fun c wr => ∃ i : Nat, i ≤ 6 ∧ c = .int .i64 i ∧ Hid (Bk wr (w.heap.size + 1 + 1) (wts i s) 32 ∧ Bk wr (w.heap.size + 1) zerS 32 ∧ Below w.heap.size w wr)) (fun c _ => 6 - (intOf c).toNat)
  case atStart => exact ⟨0, by omega, rfl, H0⟩
  case round =>
    obtain ⟨i, hi, rfl, H⟩ := hrel
    by_cases hlt : i < 6
    · have c1 : ∀ j, j < 22 → (wr.cell? ⟨w.heap.size + 1 + 1, j, none⟩).isSome = true := fun j hj => by rw [H.out.1.cell, List.getElem?_eq_getElem (by rw [wtsLen]; exact hj)]; rfl
      have c2 : ∀ j, wr.frozen? ⟨w.heap.size + 1 + 1, j, none⟩ = false := fun j => H.out.1.free j
      obtain ⟨v, c3⟩ := Option.isSome_iff_exists.1 (c1 (6 + i) (by omega))
      clear c1
      go_wp2_with fail
      have hx := H.out.1.set (6 + i) (.int .i64 100)
      rw [wtsSet s i hlt] at hx
      exact ⟨⟨i + 1, by omega, rfl, Lib.hid ⟨hx, H.out.2.1.other _ _ _ (by omega), H.out.2.2.setCell (show w.heap.size ≤ w.heap.size + 1 + 1 by omega) _⟩⟩, show 6 - ((i : Int) + 1).toNat < 6 - ((i : Int)).toNat by omega⟩
    · have e6 : i = 6 := by omega
      subst e6
      go_upto_region 8 with fail
      go_wp2_with (first | (refine wpList_load_row rfl 32 _ rfl (w.heap.size + 1 + 1) rfl 32 (sgC s).toArray (0, 0) _ H.out.1 Tryd.underlying32 rfl (by rw [List.size_toArray, sgLen]; kernel_rfl) ?_) | (refine wpList_store_rowTo rfl 32 _ _ rfl rfl (w.heap.size + 1) (sgC s).toArray rfl rfl 32 zerS.toArray H.out.2.1 (by rw [List.size_toArray, sgLen]; kernel_rfl) (by rw [List.size_toArray, List.size_toArray, sgLen]; rfl) (all_oneCell_toArray (wtsOne s 6)) ?_) | fail)
      refine bodyPost_ret (results_cell_row rfl _ _ (w.heap.size + 1) 32 (sgC s).toArray (0, 0) _ rfl (H.out.2.1.setRow (sgC s)) Tryd.underlying32 rfl (by rw [List.size_toArray, sgLen]; kernel_rfl)) rfl ⟨s, rfl, bel_setRow H.out.2.2 (by omega) _⟩
end Tl
end Go.Proofs.YtbhghelegonbbaaDoor
namespace Go.Proofs.YtbhghelegonbbaaDoor
open Go.RowKit Go.MapKept Go.Maps
set_option linter.unusedVariables false
set_option linter.unusedSimpArgs false
namespace Tl
open Es
/-- bytes that lie there -/
def Bys (w : World) (b : Option Addr) (xs : List Int) : Prop := InW w b 1 (xs.map fun x => [.int .u8 x]) ∧ ∀ x ∈ xs, 0 ≤ x ∧ x ≤ 255
theorem Bys.bel {w w' : World} {b : Option Addr} {xs : List Int} (h : Bys w b xs) (hb : Below w.heap.size w w') : Bys w' b xs := ⟨h.1.bel hb, h.2⟩
set_option maxRecDepth 100000 in
set_option maxHeartbeats 4000000 in
theorem at_any (i : Nat) (B : Nat) (b : Option Addr) (cap : Nat) (xs : List Int) (w : World) (hi : i ≤ 1000) (hB : Bk w B [.slice b xs.length cap] 22) (hX : Bys w b xs) (hn : xs.length ≤ 1000) :
    Calls Tryd.prog 28 #[.int .i64 i, .pointer (some ⟨B, 0, none⟩)] w fun e w' => (∃ c : Nat, c ≤ 255 ∧ e = .returned (.int .i64 c)) ∧ w = w' := by
  have h1 : w.cell? ⟨B, 0, none⟩ = some (.slice b xs.length cap) := hB.cell 0
  by_cases hl : i < xs.length
  · obtain ⟨Bx, off, rfl, hlt, hc⟩ := inw_at (f := Value.int .u8) hX.1 (List.getElem?_eq_getElem hl)
    have hr := hX.2 _ (List.getElem_mem hl)
    generalize xs[i] = z at hc hr
    obtain ⟨c, rfl⟩ : ∃ c : Nat, z = (c : Int) := ⟨z.toNat, by omega⟩
    clear hX
    go_enter Tryd.func28, Tryd.ntmps28
    go_wp2_with fail
    go_ret
    exact ⟨⟨c, by omega, rfl⟩, rfl⟩
  · go_enter Tryd.func28, Tryd.ntmps28
    go_wp2_with fail
    go_ret
    exact ⟨⟨0, by omega, rfl⟩, rfl⟩
end Tl
end Go.Proofs.YtbhghelegonbbaaDoor
namespace Go.Proofs.YtbhghelegonbbaaDoor
open Go.RowKit Go.MapKept Go.Maps
set_option linter.unusedVariables false
set_option linter.unusedSimpArgs false
/-- a row of one type does not lie in a block of another -/
theorem own_apart {w : World} {e t : TypeId} {sz n : Nat} {v : Value} {xs : List Value} {g : Nat} {cs : List Value} (h : w.ownsRow 0 e sz v n xs) (hb : Bk w g cs t) (hne : t ≠ e) : v.ownBlock ≠ some g := by
  rcases h.2 with ⟨rfl, _⟩ | ⟨b, cap, cur, rfl, _, hg, _⟩
  · intro c; cases c
  · intro c
    have : b = g := by simpa [Value.ownBlock] using c
    subst this
    unfold Bk at hb
    rw [hg] at hb
    simp only [Option.some.injEq, Obj.cells.injEq] at hb
    exact hne hb.2.1.symm
theorem own_apart_map {w : World} {e : TypeId} {sz n : Nat} {v : Value} {xs : List Value} {g : Nat} {α : Type} {enc : α → Value} {Ok : α → Prop} {m : List (α × Value)} (h : w.ownsRow 0 e sz v n xs) (hb : Mp enc Ok w g m) : v.ownBlock ≠ some g := by
  rcases h.2 with ⟨rfl, _⟩ | ⟨b, cap, cur, rfl, _, hg, _⟩
  · intro c; cases c
  · intro c
    have : b = g := by simpa [Value.ownBlock] using c
    subst this
    obtain ⟨es, ck, h1, _⟩ := hb.ex
    rw [hg] at h1
    cases h1
theorem bk_apart_map {w : World} {g r : Nat} {cs : List Value} {t : TypeId} {α : Type} {enc : α → Value} {Ok : α → Prop} {m : List (α × Value)} (h : Bk w g cs t) (hb : Mp enc Ok w r m) : g ≠ r := by
  intro c
  subst c
  obtain ⟨es, ck, h1, _⟩ := hb.ex
  unfold Bk at h
  rw [h] at h1
  cases h1
theorem bk_apart {w : World} {g r : Nat} {cs ds : List Value} {t u : TypeId} (h : Bk w g cs t) (hb : Bk w r ds u) (hne : t ≠ u) : g ≠ r := by
  intro c
  subst c
  unfold Bk at h hb
  rw [h] at hb
  simp only [Option.some.injEq, Obj.cells.injEq] at hb
  exact hne hb.2.1
namespace Tl
open Es
structure Stp where
  what : Int
  ev : Ev
  per : ByteArray
  now : Int
  keep : Int
  of : Int
def stC (s : Stp) : List Value := [.int .i64 s.what, .string s.ev.src, .int .i64 s.ev.num, .int .i64 s.ev.at_, .int .i64 s.ev.kind, .string s.ev.per, .string s.ev.item, .int .i64 s.ev.val, .string s.ev.txt, .string s.per, .int .i64 s.now, .int .i64 s.keep, .int .i64 s.of]
theorem stLen (s : Stp) : (stC s).length = 13 := rfl
theorem stOne (s : Stp) : ∀ u ∈ stC s, u.oneCell' = true := List.all_eq_true.1 rfl
def told (l : List Stp) : List Stp := l.filter fun s => decide (s.what = 0)
def evs (l : List Stp) : List Ev := (told l).map Stp.ev
def idE (e : Ev) : ByteArray × Int := (e.src, e.num)
theorem evs_skip {l : List Stp} {s : Stp} (h : s.what ≠ 0) : evs (l ++ [s]) = evs l := by
  unfold evs told
  rw [List.filter_append, List.map_append]
  have : List.filter (fun s => decide (s.what = 0)) [s] = [] := by simp [h]
  rw [this]; simp
theorem evs_tell {l : List Stp} {s : Stp} (h : s.what = 0) : evs (l ++ [s]) = evs l ++ [s.ev] := by
  unfold evs told
  rw [List.filter_append, List.map_append]
  have : List.filter (fun s => decide (s.what = 0)) [s] = [s] := by simp [h]
  rw [this]; rfl
def srcT (k : Nat) : ByteArray := numT ⟨#[115]⟩ k
theorem srcT_inj : ∀ a : Fin 2, ∀ b : Fin 2, srcT a.val = srcT b.val → a = b := by decide +kernel
/-- what is known of the map of counts, and of the steps -/
structure TInv (m : List (ByteArray × Value)) (l : List Stp) : Prop where
  cnt : ∃ c : Nat → Nat, (∀ k, k < 2 → (mget m (srcT k)).getD (.int .i64 0) = .int .i64 (c k : Nat) ∧ c k ≤ l.length) ∧ ∀ e ∈ evs l, ∃ k, k < 2 ∧ e.src = srcT k ∧ 1 ≤ e.num ∧ e.num ≤ (c k : Nat)
  ev : ∀ e ∈ evs l, TaleEv e
  nd : ((evs l).map idE).Nodup
theorem TInv.nil : TInv [] [] := ⟨⟨fun _ => 0, fun k hk => ⟨rfl, Nat.le_refl _⟩, fun e h => (by cases h)⟩, fun e h => (by cases h), List.nodup_nil⟩
theorem TInv.skip {m : List (ByteArray × Value)} {l : List Stp} (h : TInv m l) (s : Stp) (hs : s.what ≠ 0) : TInv m (l ++ [s]) := by
  obtain ⟨c, h1, h2⟩ := h.cnt
  refine ⟨⟨c, fun k hk => ⟨(h1 k hk).1, ?_⟩, ?_⟩, ?_, ?_⟩
  · have := (h1 k hk).2; rw [List.length_append]; omega
  · rw [evs_skip hs]; exact h2
  · rw [evs_skip hs]; exact h.ev
  · rw [evs_skip hs]; exact h.nd
theorem TInv.count {m : List (ByteArray × Value)} {l : List Stp} (h : TInv m l) {k : Nat} (hk : k < 2) :
    ∃ n : Nat, (mget m (srcT k)).getD (.int .i64 0) = .int .i64 (n : Nat) ∧ n ≤ l.length ∧
      ∀ s : Stp, s.what = 0 → TaleEv s.ev → s.ev.num = ((n : Int) + 1) → s.ev.src = srcT k → TInv (mput m (srcT k) (.int .i64 ((n : Int) + 1))) (l ++ [s]) := by
  obtain ⟨c, h1, h2⟩ := h.cnt
  refine ⟨c k, (h1 k hk).1, (h1 k hk).2, fun s hs he hn hr => ⟨⟨fun j => if j = k then c k + 1 else c j, fun j hj => ?_, ?_⟩, ?_, ?_⟩⟩
  · have hl : (l ++ [s]).length = l.length + 1 := by simp
    rw [hl, get_put]
    by_cases e : j = k
    · subst e
      simp only [if_true]
      exact ⟨by rw [Option.getD_some]; congr 1, by have := (h1 j hk).2; omega⟩
    · have hne : srcT k ≠ srcT j := fun c' => e (congrArg Fin.val (srcT_inj ⟨k, hk⟩ ⟨j, hj⟩ c')).symm
      simp only [if_neg e, if_neg hne]
      exact ⟨(h1 j hj).1, by have := (h1 j hj).2; omega⟩
  · rw [evs_tell hs]
    intro e hm
    rcases List.mem_append.1 hm with hm | hm
    · obtain ⟨j, hj, a, b, d⟩ := h2 e hm
      refine ⟨j, hj, a, b, ?_⟩
      by_cases e' : j = k
      · subst e'; simp only [if_true]; omega
      · simp only [if_neg e']; exact d
    · have : e = s.ev := by simpa using hm
      subst this
      refine ⟨k, hk, hr, by omega, ?_⟩
      simp only [if_true]; omega
  · rw [evs_tell hs]
    intro e hm
    rcases List.mem_append.1 hm with hm | hm
    · exact h.ev e hm
    · have : e = s.ev := by simpa using hm
      subst this; exact he
  · rw [evs_tell hs, List.map_append, List.nodup_append]
    refine ⟨h.nd, by simp, fun a ha b hb => ?_⟩
    obtain ⟨e, hm, rfl⟩ := List.mem_map.1 ha
    have : b = idE s.ev := by simpa using hb
    subst this
    obtain ⟨j, hj, a1, a2, a3⟩ := h2 e hm
    intro c'
    have c1 : e.src = s.ev.src := congrArg Prod.fst c'
    have c2 : e.num = s.ev.num := congrArg Prod.snd c'
    rw [a1, hr] at c1
    have := congrArg Fin.val (srcT_inj ⟨j, hj⟩ ⟨k, hk⟩ c1)
    simp only at this
    subst this
    omega
def taC (s : Sg) (sl : Value) (t : Int) : List Value := sgC s ++ [sl, .int .i64 t]
theorem taLen (s : Sg) (sl : Value) (t : Int) : (taC s sl t).length = 24 := by unfold taC; rw [List.length_append, sgLen]; rfl
theorem taOne (s : Sg) (sl : Value) (t : Int) (h : sl.oneCell' = true) : ∀ u ∈ taC s sl t, u.oneCell' = true := by
  intro u hu
  rcases List.mem_append.1 hu with hu | hu
  · exact wtsOne s 6 u hu
  · simp only [List.mem_cons, List.not_mem_nil, or_false] at hu
    rcases hu with rfl | rfl
    · exact h
    · rfl
theorem taAt22 (s : Sg) (sl : Value) (t : Int) : (taC s sl t)[22]? = some sl := by unfold taC; rw [List.getElem?_append_right (by rw [sgLen]; omega), sgLen]; rfl
theorem taAt23 (s : Sg) (sl : Value) (t : Int) : (taC s sl t)[23]? = some (.int .i64 t) := by unfold taC; rw [List.getElem?_append_right (by rw [sgLen]; omega), sgLen]; rfl
theorem taSet22 (s : Sg) (sl sl' : Value) (t : Int) : (taC s sl t).set 22 sl' = taC s sl' t := by unfold taC; rw [List.set_append_right _ _ (by rw [sgLen]; omega), sgLen]; rfl
theorem taSet23 (s : Sg) (sl : Value) (t t' : Int) : (taC s sl t).set 23 (.int .i64 t') = taC s sl (t') := by unfold taC; rw [List.set_append_right _ _ (by rw [sgLen]; omega), sgLen]; rfl
/-- what tale.Parse hands back -/
def TalePost (n : Nat) (w : World) (e : Ending) (w' : World) : Prop :=
  ∃ s sl l t, e = .returned (.agg (taC s sl t).toArray) ∧ MkG 57 13 stC w w' sl l ∧ l.length ≤ 59 ∧ (n = 0 → t = 1000) ∧ (∀ e ∈ evs l, TaleEv e) ∧ ((evs l).map idE).Nodup
end Tl
end Go.Proofs.YtbhghelegonbbaaDoor
namespace Go.Proofs.YtbhghelegonbbaaDoor
open Go.RowKit Go.MapKept Go.Maps
set_option linter.unusedVariables false
set_option linter.unusedSimpArgs false
namespace Tl
open Es
structure LB (w wx : World) (b : Option Addr) (n cap g6 g7 : Nat) (s : Sg) (l : List Stp) (t : Int) (sl : Value) : Prop where
  bb : Bk wx w.heap.size [.slice b n cap] 22
  ta : Bk wx g6 (taC s sl t) 53
  rs : Bk wx (w.heap.size + 1) (zerS ++ [.slice none 0 0, .int .i64 0]) 53
  ne : g6 ≠ w.heap.size + 1 ∧ w.heap.size ≤ g6 ∧ w.heap.size ≤ g7
  mg : MkG 57 13 stC w wx sl l
  tt : 1000 ≤ t ∧ t ≤ 1000 + 15 * l.length ∧ (n = 0 → t = 1000)
theorem LB.fr {S : Nat → Prop} {w wx w' : World} {b : Option Addr} {n cap g6 g7 : Nat} {s : Sg} {l : List Stp} {t : Int} {sl : Value} (h : LB w wx b n cap g6 g7 s l t sl) (hf : Fr S wx w')
    (h0 : ¬ S w.heap.size) (h1 : ¬ S (w.heap.size + 1)) (h6 : ¬ S g6) (ho : ∀ b, sl.ownBlock = some b → ¬ S b) (hS : ∀ b, S b → w.heap.size ≤ b) : LB w w' b n cap g6 g7 s l t sl :=
  ⟨h.bb.fr hf h0, h.ta.fr hf h6, h.rs.fr hf h1, h.ne, ⟨hf.row h.mg.tx ho, h.mg.nw, h.mg.bl.trans (hf.below h.mg.bl.size hS)⟩, h.tt⟩
theorem LB.bel {w wx w' : World} {b : Option Addr} {n cap g6 g7 : Nat} {s : Sg} {l : List Stp} {t : Int} {sl : Value} (h : LB w wx b n cap g6 g7 s l t sl) (hb : Below wx.heap.size wx w') : LB w w' b n cap g6 g7 s l t sl :=
  h.fr (Fr.of_bel (S := none') hb) id id id (fun _ _ => id) (fun _ h => h.elim)
def LInv (w wx : World) (b : Option Addr) (n cap g6 g7 : Nat) (s : Sg) (l li : List Stp) (m : List (ByteArray × Value)) (t : Int) (sl : Value) : Prop :=
  LB w wx b n cap g6 g7 s l t sl ∧ Mp encS okS wx g7 m ∧ TInv m li
theorem LInv.bel {w wx w' : World} {b : Option Addr} {n cap g6 g7 : Nat} {s : Sg} {l li : List Stp} {m : List (ByteArray × Value)} {t : Int} {sl : Value} (h : LInv w wx b n cap g6 g7 s l li m t sl) (hb : Below wx.heap.size wx w') : LInv w w' b n cap g6 g7 s l li m t sl :=
  ⟨h.1.bel hb, h.2.1.bel hb, h.2.2⟩
theorem LInv.push {w wc w8 : World} {b : Option Addr} {n cap g6 g7 : Nat} {s : Sg} {l : List Stp} {m : List (ByteArray × Value)} {t : Int} {sl v8 : Value} (st : Stp) (h : LInv w wc b n cap g6 g7 s l (l ++ [st]) m t sl)
    (o8 : w8.ownsRow 0 57 13 v8 (l ++ [st]).length ((l ++ [st]).flatMap stC)) (f8 : Fr (fun b => sl.ownBlock = some b) (wc.alloc (.cells (stC st).toArray 57)) w8) (h8 : Hence sl v8 (wc.alloc (.cells (stC st).toArray 57))) :
    LInv w (w8.setCell ⟨g6, 22, none⟩ v8) b n cap g6 g7 s (l ++ [st]) (l ++ [st]) m t v8 := by
  obtain ⟨h, hm, hi⟩ := h
  have hb : Below wc.heap.size wc (wc.alloc (.cells (stC st).toArray 57)) := (Below.refl _ _).alloc (Nat.le_refl _) _
  have hg := h.mg.alloc (.cells (stC st).toArray 57)
  have ta8 := (h.ta.old (.cells (stC st).toArray 57)).fr f8 (own_apart hg.tx (h.ta.old _) (by decide))
  have m8 := hg.more o8 f8 h8
  have n1 : w.heap.size ≠ g6 := bk_apart h.bb h.ta (by decide)
  have n7 : g6 ≠ g7 := bk_apart_map h.ta hm
  have hf : Fr (fun b => b = g6) w8 (w8.setCell ⟨g6, 22, none⟩ v8) := (Fr.refl _ _).setCell g6 22 v8 (.inr rfl)
  refine ⟨⟨((h.bb.old _).fr f8 (own_apart hg.tx (h.bb.old _) (by decide))).other g6 22 _ n1, ?_, ((h.rs.old _).fr f8 (own_apart hg.tx (h.rs.old _) (by decide))).other g6 22 _ h.ne.1.symm, h.ne, ?_, ?_⟩, ?_, hi⟩
  · rw [← taSet22 s sl v8 t]; exact ta8.set 22 v8
  · exact ⟨hf.row o8 (fun b hb e => own_apart o8 ta8 (by decide) (by rw [hb]; exact congrArg some e)), m8.nw, m8.bl.setCell h.ne.2.1 _⟩
  · refine ⟨h.tt.1, ?_, h.tt.2.2⟩
    have := h.tt.2.1
    simp only [List.length_append, List.length_cons, List.length_nil]
    omega
  · exact ((hm.bel hb).fr f8 (own_apart_map hg.tx (hm.bel hb))).fr hf (fun e => n7 e.symm)
theorem LInv.nine {w wc w8 : World} {b : Option Addr} {n cap g6 g7 g9 : Nat} {s : Sg} {l : List Stp} {m : List (ByteArray × Value)} {t : Int} {sl v8 : Value} {cs : List Value} (st : Stp) (h : LInv w wc b n cap g6 g7 s l (l ++ [st]) m t sl) (h9 : Bk wc g9 cs 85)
    (f8 : Fr (fun b => sl.ownBlock = some b) (wc.alloc (.cells (stC st).toArray 57)) w8) : Bk (w8.setCell ⟨g6, 22, none⟩ v8) g9 cs 85 := by
  have hg := h.1.mg.alloc (.cells (stC st).toArray 57)
  exact ((h9.old _).fr f8 (own_apart hg.tx (h9.old _) (by decide))).other g6 22 _ (bk_apart h9 h.1.ta (by decide))
theorem LInv.tick {w W : World} {b : Option Addr} {n cap g6 g7 : Nat} {s : Sg} {l : List Stp} {m : List (ByteArray × Value)} {t : Int} {sl : Value} (h : LInv w W b n cap g6 g7 s l l m t sl) (t' : Int) (ht : 1000 ≤ t' ∧ t' ≤ 1000 + 15 * l.length ∧ (n = 0 → t' = 1000)) :
    LInv w (W.setCell ⟨g6, 23, none⟩ (.int .i64 t')) b n cap g6 g7 s l l m t' sl := by
  obtain ⟨h, hm, hi⟩ := h
  have n1 : w.heap.size ≠ g6 := bk_apart h.bb h.ta (by decide)
  have n7 : g6 ≠ g7 := bk_apart_map h.ta hm
  have hf : Fr (fun b => b = g6) W (W.setCell ⟨g6, 23, none⟩ (.int .i64 t')) := (Fr.refl _ _).setCell g6 23 _ (.inr rfl)
  refine ⟨⟨h.bb.other g6 23 _ n1, ?_, h.rs.other g6 23 _ h.ne.1.symm, h.ne, ?_, ht⟩, hm.fr hf (fun e => n7 e.symm), hi⟩
  · rw [← taSet23 s sl t t']; exact h.ta.set 23 _
  · exact ⟨hf.row h.mg.tx (fun b hb e => own_apart h.mg.tx h.ta (by decide) (by rw [hb]; exact congrArg some e)), h.mg.nw, h.mg.bl.setCell h.ne.2.1 _⟩
def natsC (cs : List Nat) : List Value := cs.map fun (c : Nat) => Value.int .i64 (c : Int)
def ev0 : Ev := ⟨⟨#[]⟩, 0, 0, 0, ⟨#[]⟩, ⟨#[]⟩, 0, ⟨#[]⟩⟩
def zerSt : List Value := stC ⟨0, ev0, ⟨#[]⟩, 0, 0, 0⟩
def intsC (cs : List Int) : List Value := cs.map (Value.int .i64)
def zer8 : List Value := intsC [0, 0, 0, 0, 0, 0, 0, 0]
def zerT : List Value := zerS ++ [.slice none 0 0, .int .i64 0]
theorem eight {cs : List Int} (h : cs.length = 8) : ∃ a b c d e f g k, cs = [a, b, c, d, e, f, g, k] := by
  match cs, h with
  | [a, b, c, d, e, f, g, k], _ => exact ⟨a, b, c, d, e, f, g, k, rfl⟩
theorem five {cs : List Nat} (h : cs.length = 5) : ∃ a b c d e, cs = [a, b, c, d, e] := by
  match cs, h with
  | [a, b, c, d, e], _ => exact ⟨a, b, c, d, e, rfl⟩
theorem settings_ex (c0 c1 c2 c3 c4 c5 c6 c7 : Int) (w : World) :
    Calls Tryd.prog 29 #[.agg #[.int .i64 c0, .int .i64 c1, .int .i64 c2, .int .i64 c3, .int .i64 c4, .int .i64 c5, .int .i64 c6, .int .i64 c7]] w fun e w' => ∃ s0 s1 s2 s3 s4 s5 s6 s7, e = .returned (.agg #[.int .i64 s0, .int .i64 s1, .int .i64 s2, .int .i64 s3, .int .i64 s4, .int .i64 s5, .int .i64 100, .int .i64 100, .int .i64 100, .int .i64 100, .int .i64 100, .int .i64 100, .int .i64 4, .int .i64 2, .int .i64 3, .int .i64 1073741824, .int .i64 0, .int .i64 5, .int .i64 s6, .string ⟨#[115, 116, 111, 99, 107, 62, 48]⟩, .string ⟨#[111, 119, 110]⟩, .int .u64 s7]) ∧ Below w.heap.size w w' := by
  refine (settings_any c0 c1 c2 c3 c4 c5 c6 c7 w).mono ?_
  rintro e w' ⟨⟨s0, s1, s2, s3, s4, s5, s6, s7⟩, rfl, h⟩
  exact ⟨s0, s1, s2, s3, s4, s5, s6, s7, rfl, h⟩
theorem infoEv8 : (Tryd.prog.info? 41).map (·.size) = some 8 := by kernel_rfl
theorem infoStep : (Tryd.prog.info? 57).map (fun i => (i.zero, i.size, i.bytes)) = some (some (.agg zerSt.toArray), 13, 144) := by kernel_rfl
set_option maxRecDepth 100000 in
set_option maxHeartbeats 8000000 in
theorem parse_any (b : Option Addr) (cap : Nat) (xs : List Int) (w : World) (hG : Glob w) (hX : Bys w b xs) (hn : xs.length ≤ 300) :
    Calls Tryd.prog 13 #[.slice b xs.length cap] w (TalePost xs.length w) := by
  obtain ⟨n, hnl⟩ : ∃ n, xs.length = n := ⟨_, rfl⟩
  rw [hnl] at hn ⊢
  have HAT : Hid (∀ (i : Nat) (z : Int) W, z = (i : Int) → i ≤ 1000 → Bk W w.heap.size [.slice b n cap] 22 → Below w.heap.size w W → Calls Tryd.prog 28 #[.int .i64 z, .pointer (some ⟨w.heap.size, 0, none⟩)] W fun e w' => (∃ c : Nat, c ≤ 255 ∧ e = .returned (.int .i64 c)) ∧ W = w') :=
    Lib.hid (fun i z W hz hi hB hb => by subst hz; exact at_any i _ b cap xs W hi (by rw [hnl]; exact hB) (hX.bel hb) (by omega))
  have HG := Lib.hid hG
  clear hG
  go_enter Tryd.func13, Tryd.ntmps13
  go_wp2_with fail
  go_loopw [16] (fun c wr => ∃ (i : Nat) (cs : List Int), i ≤ 8 ∧ c = .int .i64 i ∧ Hid (cs.length = 8 ∧ Bk wr w.heap.size [.slice b n cap] 22 ∧ Bk wr (w.heap.size + 1) zerT 53 ∧ Bk wr (w.heap.size + 1 + 1) (intsC cs) 82 ∧ Below w.heap.size w wr)) (fun c _ => 8 - (intOf c).toNat)
  case atStart =>
    exact ⟨0, [0, 0, 0, 0, 0, 0, 0, 0], by omega, rfl, Lib.hid ⟨rfl, ((Bk.new w [.slice b n cap] 22).old _).old _, (bk_at (W := w.alloc (.cells #[.slice b n cap] 22)) (n := w.heap.size + 1) zerT 53 (by simp)).old _, bk_at (n := w.heap.size + 1 + 1) (intsC [0, 0, 0, 0, 0, 0, 0, 0]) 82 (by simp), (((Below.refl w.heap.size w).alloc (Nat.le_refl _) _).alloc (by simp) _).alloc (by simp; omega) _⟩⟩
  case round =>
    obtain ⟨i, cs, hi, rfl, H⟩ := hrel
    by_cases hlt : i < 8
    · have hci : i < (intsC cs).length := by unfold intsC; rw [List.length_map, H.out.1]; exact hlt
      obtain ⟨v, c3⟩ : ∃ v, wr.cell? ⟨w.heap.size + 1 + 1, i, none⟩ = some v := ⟨_, by rw [H.out.2.2.2.1.cell, List.getElem?_eq_getElem hci]⟩
      have c2 : ∀ j, wr.frozen? ⟨w.heap.size + 1 + 1, j, none⟩ = false := fun j => H.out.2.2.2.1.free j
      have i8 : ((i : Int) < 8) := by omega
      go_wp2_with (first | (go_at_call 28; (with_reducible refine (HAT.out i _ _ rfl (by omega) H.out.2.1 H.out.2.2.2.2).mono ?_); rintro e w1 ⟨⟨c, hc, rfl⟩, rfl⟩) | fail)
      have hx := H.out.2.2.2.1.set i (.int .i64 (c : Int))
      have hy : (intsC cs).set i (.int .i64 (c : Int)) = intsC (cs.set i (c : Int)) := by unfold intsC; rw [List.map_set]
      rw [hy] at hx
      exact ⟨⟨i + 1, cs.set i (c : Int), by omega, rfl, Lib.hid ⟨by rw [List.length_set]; exact H.out.1, H.out.2.1.other _ _ _ (by omega), H.out.2.2.1.other _ _ _ (by omega), hx, H.out.2.2.2.2.setCell (show w.heap.size ≤ w.heap.size + 1 + 1 by omega) _⟩⟩, show 8 - ((i : Int) + 1).toNat < 8 - ((i : Int)).toNat by omega⟩
    · have e6 : i = 8 := by omega
      subst e6
      obtain ⟨a0, a1, a2, a3, a4, a5, a6, a7, rfl⟩ := eight H.out.1
      go_upto_region 8 with fail
      go_cut [6] from 25 to 27 (fun s6 wx => ∃ (g : Nat) (s : Sg), s6 = .pointer (some ⟨g, 0, none⟩) ∧ Hid (Bk wx g (taC s (.slice none 0 0) 1000) 53 ∧ w.heap.size ≤ g ∧ g ≠ w.heap.size + 1 ∧ Bk wx w.heap.size [.slice b n cap] 22 ∧ Bk wx (w.heap.size + 1) zerT 53 ∧ Below w.heap.size w wx))
      case first =>
        go_wp2_with (first
          | ((with_reducible show wpList _ _ _ (Oper.mk _ (Op.load _ _) _ _ _ _ :: _) _ _); refine wpList_load_row rfl 82 _ rfl (w.heap.size + 1 + 1) rfl 82 (intsC [a0, a1, a2, a3, a4, a5, a6, a7]).toArray (0, 0) _ H.out.2.2.2.1 Tryd.underlying82 rfl (by kernel_rfl) ?_)
          | (go_at_call 29; refine (settings_ex a0 a1 a2 a3 a4 a5 a6 a7 wr).mono ?_; rintro e wS ⟨s0, s1, s2, s3, s4, s5, s6, s7, rfl, hS⟩)
          | ((with_reducible show wpList _ _ _ (Oper.mk _ (Op.store _ _ _) _ _ _ _ :: _) _ _); refine wpList_store_rowTo rfl 53 _ _ rfl rfl wS.heap.size (taC ⟨s0, s1, s2, s3, s4, s5, s6, s7⟩ (.slice none 0 0) 1000).toArray rfl rfl 53 zerT.toArray (Bk.new wS zerT 53) (by kernel_rfl) rfl (all_oneCell_toArray (taOne _ _ _ rfl)) ?_)
          | fail)
        go_meet
        have hb := Bk.new wS zerT 53
        have hl := H.out.2.2.2.2
        have hz := hS.size
        have h1 := H.out.2.2.1.lt
        refine ⟨wS.heap.size, _, rfl, Lib.hid ⟨hb.setRow _, Nat.le_trans hl.size hz, by omega, ((H.out.2.1.bel hS).old _).rowOther _ _ (by have := H.out.2.1.lt; omega), ((H.out.2.2.1.bel hS).old _).rowOther _ _ (by omega), ?_⟩⟩
        exact bel_setRow ((hl.trans (hS.mono hl.size)).alloc (Nat.le_trans hl.size hz) _) (Nat.le_trans hl.size hz) _
      case rest =>
        obtain ⟨g6, s, rfl, HE⟩ := hcut
        clear H
        have hmm := @run_makeMap Tryd.prog
        go_wp2_with fail
        clear hmm
        obtain ⟨g7, hg7⟩ : ∃ g7, g7 = wc.heap.size := ⟨_, rfl⟩
        rw [← hg7]
        have HG7 := Lib.hid hg7
        clear hg7
        go_loopg [8] 60 (fun g c wx => ∃ l m t sl, c = .int .i64 (8 + 5 * (l.length : Int)) ∧ l.length ≤ 59 ∧ 60 - l.length ≤ g ∧ Hid (LInv w wx b n cap g6 g7 s l l m t sl))
        case atStart =>
          have hk := HE.out
          exact ⟨[], [], 1000, .slice none 0 0, rfl, by decide, by decide, Lib.hid ⟨⟨hk.2.2.2.1.old _, hk.1.old _, hk.2.2.2.2.1.old _, ⟨hk.2.2.1, hk.2.1, HG7.out ▸ hk.2.2.2.2.2.size⟩, (MkG.nil w).bel (hk.2.2.2.2.2.alloc hk.2.2.2.2.2.size _), ⟨by decide, by decide, fun _ => rfl⟩⟩, HG7.out ▸ Mp.made wc, TInv.nil⟩⟩
        case round =>
          obtain ⟨l, m, t, sl, rfl, hl, hg, H⟩ := hrel
          obtain ⟨V, hV⟩ : ∃ V, V = wr := ⟨_, rfl⟩
          subst hV
          have c1 : V.cell? ⟨w.heap.size, 0, none⟩ = some (.slice b n cap) := H.out.1.bb.cell 0
          by_cases hlt : 8 + 5 * l.length < n
          · have hlt' : (8 + 5 * (l.length : Int)) < (n : Int) := by omega
            go_wp2_with fail
            go_loopw [35] (fun c wr => ∃ (j : Nat) (cs : List Nat), j ≤ 5 ∧ c = .int .i64 j ∧ Hid (cs.length = 5 ∧ (∀ c ∈ cs, c ≤ 255) ∧ Bk wr V.heap.size (natsC cs) 85 ∧ Below V.heap.size V wr)) (fun c _ => 5 - (intOf c).toNat)
            case atStart =>
              exact ⟨0, [0, 0, 0, 0, 0], by omega, rfl, Lib.hid ⟨rfl, by decide, Bk.new V (natsC [0, 0, 0, 0, 0]) 85, (Below.refl _ _).alloc (Nat.le_refl _) _⟩⟩
            case round =>
              obtain ⟨j, cs, hj, rfl, HJ⟩ := hrel
              by_cases hlj : j < 5
              · have hcj : j < (natsC cs).length := by unfold natsC; rw [List.length_map, HJ.out.1]; exact hlj
                obtain ⟨v, c3⟩ : ∃ v, wr.cell? ⟨V.heap.size, j, none⟩ = some v := ⟨_, by rw [HJ.out.2.2.1.cell, List.getElem?_eq_getElem hcj]⟩
                have c2 : ∀ j, wr.frozen? ⟨V.heap.size, j, none⟩ = false := fun j => HJ.out.2.2.1.free j
                have j5 : ((j : Int) < 5) := by omega
                have HL := Lib.hid (H.out.1.bel HJ.out.2.2.2)
                go_wp2_with (first | (go_at_call 28; (with_reducible refine (HAT.out (8 + 5 * l.length + j) _ _ (by omega) (by omega) HL.out.bb HL.out.mg.bl).mono ?_); rintro e w1 ⟨⟨c, hc, rfl⟩, rfl⟩) | fail)
                have hx := HJ.out.2.2.1.set j (.int .i64 (c : Int))
                have hy : (natsC cs).set j (.int .i64 (c : Int)) = natsC (cs.set j c) := by unfold natsC; rw [List.map_set]
                rw [hy] at hx
                exact ⟨⟨_, _, _, _, _, _, _, _, _, _, _, _, ⟨j + 1, cs.set j c, by omega, rfl, Lib.hid ⟨by rw [List.length_set]; exact HJ.out.1, fun z hz => (List.mem_or_eq_of_mem_set hz).elim (HJ.out.2.1 z) (fun e => e ▸ hc), hx, HJ.out.2.2.2.setCell (Nat.le_refl _) _⟩⟩, rfl⟩, show 5 - ((j : Int) + 1).toNat < 5 - ((j : Int)).toNat by omega⟩
              · have e5 : j = 5 := by omega
                subst e5
                obtain ⟨x0, x1, x2, x3, x4, rfl⟩ := five HJ.out.1
                have hxs : x0 ≤ 255 ∧ x1 ≤ 255 ∧ x2 ≤ 255 ∧ x3 ≤ 255 ∧ x4 ≤ 255 := by
                  have := HJ.out.2.1
                  simp only [List.forall_mem_cons] at this
                  exact ⟨this.1, this.2.1, this.2.2.1, this.2.2.2.1, this.2.2.2.2.1⟩
                have HL := Lib.hid (H.out.bel HJ.out.2.2.2)
                have d23 : wr.cell? ⟨g6, 23, none⟩ = some (.int .i64 t) := (HL.out.1.ta.cell 23).trans (taAt23 _ _ _)
                go_upto_region 19 with fail
                go_cut [11] from 29 to 114 (fun s11 wx => s11 = .pointer (some ⟨wr.heap.size, 0, none⟩) ∧ Hid (Bk wx wr.heap.size (stC ⟨0, ev0, ⟨#[]⟩, t, 0, 0⟩) 57 ∧ Bk wx V.heap.size (natsC [x0, x1, x2, x3, x4]) 85 ∧ LInv w wx b n cap g6 g7 s l l m t sl))
                case first =>
                  go_wp2_with (first
                    | ((with_reducible show wpList _ _ _ (Oper.mk _ (Op.store _ _ _) _ _ _ _ :: _) _ _); refine wpList_store_rowTo rfl 57 _ _ rfl rfl wr.heap.size (stC ⟨0, ev0, ⟨#[]⟩, t, 0, 0⟩).toArray rfl rfl 57 zerSt.toArray (Bk.new wr zerSt 57) (by kernel_rfl) rfl (all_oneCell_toArray (stOne _)) ?_)
                    | fail)
                  go_meet
                  exact ⟨rfl, Lib.hid ⟨(Bk.new wr zerSt 57).setRow _, (HJ.out.2.2.1.old _).rowOther _ _ (Nat.ne_of_lt HJ.out.2.2.1.lt), HL.out.bel (bel_setRow ((Below.refl _ _).alloc (Nat.le_refl _) _) (Nat.le_refl _) _)⟩⟩
                case rest =>
                  obtain ⟨rfl, HE⟩ := hcut
                  have hlt9 : V.heap.size < wr.heap.size := HJ.out.2.2.1.lt
                  have hlts : w.heap.size < V.heap.size ∧ w.heap.size + 1 < V.heap.size ∧ g6 < V.heap.size ∧ g7 < V.heap.size ∧ ∀ b, sl.ownBlock = some b → b < V.heap.size := ⟨H.out.1.bb.lt, H.out.1.rs.lt, H.out.1.ta.lt, H.out.2.1.lt, fun b hb => own_lt H.out.1.mg.tx hb⟩
                  have HG9 := HG.out.bel (H.out.1.mg.bl.trans ((HJ.out.2.2.2).mono H.out.1.mg.bl.size))
                  clear HL HJ H d23
                  generalize wr.heap.size = g11 at HE hlt9 ⊢
                  generalize V.heap.size = g9 at HE hlt9 hlts ⊢
                  have e0 : wc.cell? ⟨g9, 0, none⟩ = some (.int .i64 x0) := HE.out.2.1.cell 0
                  have e1 : wc.cell? ⟨g9, 1, none⟩ = some (.int .i64 x1) := HE.out.2.1.cell 1
                  have e3 : wc.cell? ⟨g9, 3, none⟩ = some (.int .i64 x3) := HE.out.2.1.cell 3
                  have e4 : wc.cell? ⟨g9, 4, none⟩ = some (.int .i64 x4) := HE.out.2.1.cell 4
                  obtain ⟨kk, hkk⟩ : ∃ kk, x0 % 16 = kk := ⟨_, rfl⟩
                  have f1 : (x0 : Int) % 16 = (kk : Int) := by omega
                  have f1t : (x0 : Int).tmod 16 = (kk : Int) := by rw [Int.tmod_eq_emod_of_nonneg (by omega)]; exact f1
                  have z0 : wc.cell? ⟨g11, 0, none⟩ = some (.int .i64 0) := HE.out.1.cell 0
                  have z9 : wc.cell? ⟨g11, 9, none⟩ = some (.string ⟨#[]⟩) := HE.out.1.cell 9
                  have z11 : wc.cell? ⟨g11, 11, none⟩ = some (.int .i64 0) := HE.out.1.cell 11
                  have z12 : wc.cell? ⟨g11, 12, none⟩ = some (.int .i64 0) := HE.out.1.cell 12
                  have gf : ∀ j, wc.frozen? ⟨g11, j, none⟩ = false := fun j => HE.out.1.free j
                  go_upto_block 6 with fail
                  go_cut [14] from 29 to 114 (fun s14 wx => ∃ st m', Hid (Bk wx g11 (stC st) 57 ∧ Bk wx g9 (natsC [x0, x1, x2, x3, x4]) 85 ∧ LInv w wx b n cap g6 g7 s l (l ++ [st]) m' t sl))
                  case first =>
                    have FIN : ∀ w' st, Fr (fun b => b = g11) wc w' → Bk w' g11 (stC st) 57 → st.what ≠ 0 → ∃ st m', Hid (Bk w' g11 (stC st) 57 ∧ Bk w' g9 (natsC [x0, x1, x2, x3, x4]) 85 ∧ LInv w w' b n cap g6 g7 s l (l ++ [st]) m' t sl) := fun w' st hf hb hw =>
                      ⟨st, m, Lib.hid ⟨hb, HE.out.2.1.fr hf (show ¬ g9 = g11 by omega), HE.out.2.2.1.fr hf (show ¬ w.heap.size = g11 by omega) (show ¬ w.heap.size + 1 = g11 by omega) (show ¬ g6 = g11 by omega) (fun b hb e => by have := hlts.2.2.2.2 b hb; have e' : b = g11 := e; omega) (fun b e => by have e' : b = g11 := e; omega), HE.out.2.2.2.1.fr hf (show ¬ g7 = g11 by omega), HE.out.2.2.2.2.skip st hw⟩⟩
                    have HF := Lib.hid FIN
                    have HR0 : Hid (∀ v, Fr (fun b => b = g11) wc (wc.setCell ⟨g11, 0, none⟩ v)) := Lib.hid (fun v => (Fr.refl _ _).setCell g11 0 _ (.inr rfl))
                    have HR1 : Hid (∀ v i u, Fr (fun b => b = g11) wc ((wc.setCell ⟨g11, 0, none⟩ v).setCell ⟨g11, i, none⟩ u)) := Lib.hid (fun v i u => (HR0.out v).setCell g11 i u (.inr rfl))
                    clear FIN
                    rcases (by omega : kk = 13 ∨ kk = 14 ∨ kk = 15 ∨ kk ≤ 12) with hk | hk | hk | hk
                    · subst hk
                      go_wp2_with fail
                      go_meet
                      exact HF.out _ ⟨1, ev0, ⟨#[]⟩, t, 0, x3⟩ (HR1.out _ _ _) ((HE.out.1.set 0 _).set 12 _) (by show (1 : Int) ≠ 0; decide)
                    · subst hk
                      rcases (by rw [Int.tmod_eq_emod_of_nonneg (by omega)]; omega : (x3 : Int).tmod 2 = 1 ∨ (x3 : Int).tmod 2 = 0) with h2 | h2
                      · go_wp2_with fail
                        go_meet
                        exact HF.out _ ⟨2, ev0, ⟨#[]⟩, t, x3, 0⟩ (HR1.out _ _ _) ((HE.out.1.set 0 _).set 11 _) (by show (2 : Int) ≠ 0; decide)
                      · go_wp2_with fail
                        go_meet
                        exact HF.out _ ⟨3, ev0, ⟨#[]⟩, t, 0, 0⟩ (HR0.out _) (HE.out.1.set 0 _) (by show (3 : Int) ≠ 0; decide)
                    · subst hk
                      obtain ⟨p1, hp1⟩ : ∃ p1, x1 % 4 = p1 := ⟨_, rfl⟩
                      have g1 : (x1 : Int).tmod 4 = (p1 : Int) := by rw [Int.tmod_eq_emod_of_nonneg (by omega)]; omega
                      have hp4 : p1 < 100 := by omega
                      clear hp1
                      go_wp2_with (first | (go_at_call 30; (with_reducible refine (numbered_any _ p1 hp4 (by decide) _).mono ?_); rintro e w1 ⟨rfl, rfl⟩) | fail)
                      go_meet
                      exact HF.out _ ⟨4, ev0, numT ⟨#[112]⟩ p1, t, 0, 0⟩ (HR1.out _ _ _) ((HE.out.1.set 0 _).set 9 _) (by show (4 : Int) ≠ 0; decide)
                    · have k13 : ¬ (kk : Int) = 13 := by omega
                      have k14 : ¬ (kk : Int) = 14 := by omega
                      have k15 : ¬ (kk : Int) = 15 := by omega
                      obtain ⟨ks, hks⟩ : ∃ ks, x0 / 16 % 2 = ks := ⟨_, rfl⟩
                      obtain ⟨qa, hqa⟩ : ∃ qa, x0 / 16 = qa := ⟨_, rfl⟩
                      have f2t : (x0 : Int).tdiv 16 = (qa : Int) := by rw [Int.tdiv_eq_ediv_of_nonneg (by omega)]; omega
                      have f3t : (qa : Int).tmod 2 = (ks : Int) := by rw [Int.tmod_eq_emod_of_nonneg (by omega)]; omega
                      have hks2 : ks < 2 := by omega
                      have hks9 : ks < 100 := by omega
                      have hqa15 : qa ≤ 15 := by omega
                      obtain ⟨cn, hc1, hc2, hc3⟩ := HE.out.2.2.2.2.count hks2
                      have hkok : okS (srcT ks) := Nat.le_trans (numT_size ⟨#[115]⟩ ks hks9) (by decide)
                      have HC3 := Lib.hid hc3
                      have HKS := Lib.hid hks
                      have HC1 := Lib.hid hc1
                      clear hks hqa hc3 hc1
                      go_upto_region 24 with (first
                        | (go_at_call 30; (with_reducible refine (numbered_any _ ks hks9 (by decide) _).mono ?_); rintro e w1 ⟨rfl, rfl⟩)
                        | ((with_reducible show wpList _ _ _ (Oper.mk _ (Op.lookup _ _ _ _) _ _ _ _ :: _) _ _); refine wpList_look rfl _ _ rfl keyS Tryd.underlying84 (z := .int .i64 0) (by kernel_rfl) HE.out.2.2.2.1 rfl (srcT ks) rfl hkok (.int .i64 (cn : Int)) HC1.out ?_)
                        | (at_mapUpdate; refine wpList_store rfl _ _ _ rfl keyS Tryd.underlying84 HE.out.2.2.2.1 rfl (srcT ks) rfl hkok (.int .i64 ((cn : Int) + 1)) rfl ?_; intro w6 m6 f6 z6)
                        | fail)
                      have a1 : ¬ w.heap.size = g7 := bk_apart_map HE.out.2.2.1.bb HE.out.2.2.2.1
                      have a2 : ¬ w.heap.size + 1 = g7 := bk_apart_map HE.out.2.2.1.rs HE.out.2.2.2.1
                      have a3 : ¬ g6 = g7 := bk_apart_map HE.out.2.2.1.ta HE.out.2.2.2.1
                      have hLB := HE.out.2.2.1.fr f6 a1 a2 a3 (fun b hb e => own_apart_map HE.out.2.2.1.mg.tx HE.out.2.2.2.1 (by rw [hb]; exact congrArg some e)) (fun b e => by have e' : b = g7 := e; rw [e']; exact HE.out.2.2.1.ne.2.2)
                      have b9 := HE.out.2.1.fr f6 (show ¬ g9 = g7 by omega)
                      have b11 := HE.out.1.fr f6 (show ¬ g11 = g7 by omega)
                      have HX6 := Lib.hid (And.intro hLB (And.intro b9 (And.intro b11 m6)))
                      have HGW := Lib.hid (HG.out.bel hLB.mg.bl)
                      have htt := hLB.tt
                      have d23 : w6.cell? ⟨g6, 23, none⟩ = some (.int .i64 t) := (hLB.ta.cell 23).trans (taAt23 _ _ _)
                      have hgp : (mget (mput m (srcT ks) (.int .i64 ((cn : Int) + 1))) (srcT ks)).getD (.int .i64 0) = .int .i64 ((cn : Int) + 1) := by rw [get_put, if_pos rfl]; rfl
                      have HGP := Lib.hid hgp
                      clear hLB b9 b11 m6 a1 a2 a3 hgp HR0 HR1
                      go_wp2_with (first
                        | ((with_reducible show wpList _ _ _ (Oper.mk _ (Op.load 85 _) _ _ _ _ :: _) _ _); refine wpList_load_row rfl 85 _ rfl g9 rfl 85 #[.int .i64 x0, .int .i64 x1, .int .i64 x2, .int .i64 x3, .int .i64 x4] (0, 0) _ HX6.out.2.1 Tryd.underlying85 rfl (by kernel_rfl) ?_)
                        | ((with_reducible show wpList _ _ _ (Oper.mk _ (Op.lookup _ _ _ _) _ _ _ _ :: _) _ _); refine wpList_look rfl _ _ rfl keyS Tryd.underlying84 (z := .int .i64 0) (by kernel_rfl) HX6.out.2.2.2 rfl (srcT ks) rfl hkok (.int .i64 ((cn : Int) + 1)) HGP.out ?_)
                        | fail)
                      refine (told_any x0 x1 x2 x3 x4 ((cn : Int) + 1) t w6 HGW.out hxs.1 hxs.2.1 hxs.2.2.1 hxs.2.2.2.1 hxs.2.2.2.2 (by omega) (by omega) (by omega) (by omega) (by omega)).mono ?_
                      rintro e w7 ⟨ev, rfl, ht7, hn7, hs7, hb7⟩
                      have hLB7 := HX6.out.1.bel hb7
                      have b11' := HX6.out.2.2.1.bel hb7
                      have z0' : w7.cell? ⟨g11, 0, none⟩ = some (.int .i64 0) := b11'.cell 0
                      have gf' : ∀ j, w7.frozen? ⟨g11, j, none⟩ = false := fun j => b11'.free j
                      have HX7 := Lib.hid (And.intro hLB7 (And.intro (HX6.out.2.1.bel hb7) (And.intro b11' (HX6.out.2.2.2.bel hb7))))
                      have HEV := Lib.hid (And.intro ht7 (And.intro hn7 hs7))
                      have HT8 : Hid ((w7.setCell ⟨g11, 0, none⟩ (.int .i64 0)).there g11 1 8) := Lib.hid ((HX7.out.2.2.1.set 0 _).there 1 8 (by rw [List.length_set, stLen]; decide))
                      clear hLB7 b11' hb7 ht7 hn7 hs7 d23
                      go_wp2_with (first
                        | ((with_reducible show wpList _ _ _ (Oper.mk _ (Op.store 41 _ _) _ _ _ _ :: _) _ _); refine wpList_store_mid rfl 41 _ _ rfl g11 1 #[.string ev.src, .int .i64 ev.num, .int .i64 ev.at_, .int .i64 ev.kind, .string ev.per, .string ev.item, .int .i64 ev.val, .string ev.txt] rfl rfl HT8.out infoEv8 (all_oneCell_toArray (evOne ev)) ?_)
                        | fail)
                      go_meet
                      have hb11 := (HX7.out.2.2.1.set 0 (.int .i64 0)).lput (evC ev) 1
                      have hne : ¬ w.heap.size = g11 ∧ ¬ w.heap.size + 1 = g11 ∧ ¬ g6 = g11 ∧ ¬ g7 = g11 ∧ ¬ g9 = g11 := by omega
                      have hf7 : Fr (fun b => b = g11) w7 ((w7.setCell ⟨g11, 0, none⟩ (.int .i64 0)).setCells g11 1 (evC ev)) := fr_setCells (S := fun b => b = g11) (.inr rfl) _ _ ((Fr.refl _ _).setCell g11 0 _ (.inr rfl))
                      refine ⟨⟨0, ev, ⟨#[]⟩, t, 0, 0⟩, _, Lib.hid ⟨hb11, HX7.out.2.1.fr hf7 hne.2.2.2.2, HX7.out.1.fr hf7 hne.1 hne.2.1 hne.2.2.1 (fun b hb e => by have := hlts.2.2.2.2 b hb; have e' : b = g11 := e; omega) (fun b e => by have e' : b = g11 := e; omega), HX7.out.2.2.2.fr hf7 hne.2.2.2.1, HC3.out _ rfl HEV.out.1 HEV.out.2.1 (by rw [← HKS.out]; exact HEV.out.2.2)⟩⟩
                  case rest =>
                    obtain ⟨st, m', HC⟩ := hcut
                    clear HE z0 z9 z11 z12 gf e0 e1 e3
                    have d22 : wc.cell? ⟨g6, 22, none⟩ = some sl := (HC.out.2.2.1.ta.cell 22).trans (taAt22 _ _ _)
                    obtain ⟨iS, hiS, hzS, hsS, hbS⟩ := tinfo infoStep
                    have HM := Lib.hid (HC.out.2.2.1.mg.alloc (.cells (stC st).toArray 57))
                    have HIN : Hid (InW (wc.alloc (.cells (stC st).toArray 57)) (some ⟨wc.heap.size, 0, none⟩) 13 ([st].map stC)) := Lib.hid (inw_one (f := stC) (x := st) (Bk.new wc (stC st) 57))
                    have HLN : Hid (l.length + [st].length ≤ 1000000) := Lib.hid (by simp; omega)
                    have q4 : (x4 : Int).tmod 16 = ((x4 % 16 : Nat) : Int) := by rw [Int.tmod_eq_emod_of_nonneg (by omega)]; omega
                    have htt := HC.out.2.2.1.tt
                    obtain ⟨y4, hy4⟩ : ∃ y4, x4 % 16 = y4 := ⟨_, rfl⟩
                    rw [hy4] at q4
                    have hy16 : y4 ≤ 15 := by omega
                    clear hy4 e4
                    go_upto_region 34 with (first
                      | ((with_reducible show wpList _ _ _ (Oper.mk _ (Op.load 57 _) _ _ _ _ :: _) _ _); refine wpList_load_row rfl 57 _ rfl g11 rfl 57 #[.int .i64 st.what, .string st.ev.src, .int .i64 st.ev.num, .int .i64 st.ev.at_, .int .i64 st.ev.kind, .string st.ev.per, .string st.ev.item, .int .i64 st.ev.val, .string st.ev.txt, .string st.per, .int .i64 st.now, .int .i64 st.keep, .int .i64 st.of] (0, 0) _ HC.out.1 Tryd.underlying57 rfl (by kernel_rfl) ?_)
                      | (at_builtin; refine wpList_append_m stLen stOne _ rfl _ _ _ rfl 57 iS _ 144 Tryd.underlying51 hiS hzS hsS hbS rfl (by decide) (by omega) sl l [st] rfl HM.out.tx (some ⟨wc.heap.size, 0, none⟩) 1 1 rfl rfl HIN.out HLN.out ?_
                         intro v8 w8 o8 f8 h8
                         obtain ⟨b8, k8, hv8, _⟩ := inw_of_rowm stLen (by decide) o8
                         obtain ⟨L8, hL8⟩ : ∃ L8, (l ++ [st]).length = L8 := ⟨_, rfl⟩
                         rw [hL8] at hv8
                         subst hv8
                         have HL8 := Lib.hid hL8
                         clear hL8
                         have hTA8 := (HC.out.2.2.1.ta.old (.cells (stC st).toArray 57)).fr f8 (own_apart HM.out.tx (HC.out.2.2.1.ta.old (.cells (stC st).toArray 57)) (by decide))
                         have c22 : w8.cell? ⟨g6, 22, none⟩ = some sl := (hTA8.cell 22).trans (taAt22 _ _ _)
                         have f22 : ∀ j, w8.frozen? ⟨g6, j, none⟩ = false := fun j => hTA8.free j)
                      | fail)
                    have HP9 := Lib.hid (HC.out.2.2.push st o8 f8 h8)
                    have H99 := HC.out.2.2.nine (v8 := .slice b8 L8 k8) st HC.out.2.1 f8
                    have e4 : (w8.setCell ⟨g6, 22, none⟩ (.slice b8 L8 k8)).cell? ⟨g9, 4, none⟩ = some (.int .i64 x4) := H99.cell 4
                    have d23 : (w8.setCell ⟨g6, 22, none⟩ (.slice b8 L8 k8)).cell? ⟨g6, 23, none⟩ = some (.int .i64 t) := (HP9.out.1.ta.cell 23).trans (taAt23 _ _ _)
                    have d6f : ∀ j, (w8.setCell ⟨g6, 22, none⟩ (.slice b8 L8 k8)).frozen? ⟨g6, j, none⟩ = false := fun j => HP9.out.1.ta.free j
                    have ht0 : 0 ≤ t := by omega
                    have ht1 : t ≤ 3000 := by omega
                    have ht2 : 1000 ≤ t + (y4 : Int) ∧ t + (y4 : Int) ≤ 1000 + 15 * ((l ++ [st]).length : Nat) ∧ (n = 0 → t + (y4 : Int) = 1000) := by
                      refine ⟨by omega, ?_, by omega⟩
                      rw [List.length_append]; simp only [List.length_cons, List.length_nil]; omega
                    have HT2 := Lib.hid ht2
                    have HL2 : Hid ((l ++ [st]).length = l.length + 1) := Lib.hid (by simp)
                    have HLL := Lib.hid (And.intro hl (And.intro hg (show l.length ≤ 58 by omega)))
                    clear hTA8 c22 f22 o8 f8 h8 HC HM HIN HLN d22 H99 ht2 htt hl hg
                    generalize w8.setCell ⟨g6, 22, none⟩ (.slice b8 L8 k8) = W9 at *
                    go_wp2_with fail
                    go_roundg (60 - (l.length + 1))
                    case measure => have := HLL.out; omega
                    case rel =>
                      refine ⟨l ++ [st], m', t + y4, _, ?_, ?_, ?_, Lib.hid (HP9.out.tick _ HT2.out)⟩
                      · rw [HL2.out]; congr 1
                      · rw [HL2.out]; have := HLL.out; omega
                      · rw [HL2.out]; omega
          · have hlt' : ¬ (8 + 5 * (l.length : Int)) < (n : Int) := by omega
            obtain ⟨bs, ks, hse, _⟩ := inw_of_rowm stLen (by decide) H.out.1.mg.tx
            have hone : sl.oneCell' = true := by rw [hse]; rfl
            have HONE := Lib.hid hone
            clear hse hone
            go_wp2_with (first
              | ((with_reducible show wpList _ _ _ (Oper.mk _ (Op.load 53 _) _ _ _ _ :: _) _ _); refine wpList_load_row rfl 53 _ rfl g6 rfl 53 (taC s sl t).toArray (0, 0) _ H.out.1.ta Tryd.underlying53 rfl (by rw [List.size_toArray, taLen]; kernel_rfl) ?_)
              | ((with_reducible show wpList _ _ _ (Oper.mk _ (Op.store 53 _ _) _ _ _ _ :: _) _ _); refine wpList_store_rowTo rfl 53 _ _ rfl rfl (w.heap.size + 1) (taC s sl t).toArray rfl rfl 53 zerT.toArray H.out.1.rs (by rw [List.size_toArray, taLen]; kernel_rfl) (by rw [List.size_toArray, List.size_toArray, taLen]; rfl) (all_oneCell_toArray (taOne _ _ _ HONE.out)) ?_)
              | fail)
            refine bodyPost_ret (results_cell_row rfl _ _ (w.heap.size + 1) 53 (taC s sl t).toArray (0, 0) _ rfl (H.out.1.rs.setRow (taC s sl t)) Tryd.underlying53 rfl (by rw [List.size_toArray, taLen]; kernel_rfl)) rfl ⟨s, sl, l, t, rfl, ?_, hl, H.out.1.tt.2.2, H.out.2.2.ev, H.out.2.2.nd⟩
            have hbl := bel_setRow H.out.1.mg.bl (g := w.heap.size + 1) (by omega) (taC s sl t).toArray
            have hf : Fr (fun b => b = w.heap.size + 1) V (V.setRow (w.heap.size + 1) (taC s sl t).toArray) := ⟨rfl, rfl, rfl, by simp, fun k hk hs => setRow_other V (w.heap.size + 1) k _ hs⟩
            exact ⟨hf.row H.out.1.mg.tx (fun b hb e => own_apart H.out.1.mg.tx H.out.1.rs (by decide) (by rw [hb]; exact congrArg some e)), H.out.1.mg.nw, hbl⟩
end Tl
end Go.Proofs.YtbhghelegonbbaaDoor
namespace Go.Proofs.YtbhghelegonbbaaDoor
section
variable {P : Program} {ops : Array Oper} {Q : Exit → Act → World → Prop} {md : Region.Mode} {S : World → Prop}
theorem take_at {i : Nat} {oi : Oper} {v : Value} {fuel : Nat} {listed : Array Bool} {a : Act} {w : World} (d : Option Nat) (hi : ops[i]? = some oi) (hd : oi.dst = d)
    (hs : Region.noSelect ops = true) (hf : Region.free md ops listed i = true) (hr : (Region.ready md ops listed).contains i = true)
    (hQ : ∀ c a w, Q (.panic c) (a.put d v) w → Q (.panic c) a w) (hw : Region.wanted oi (yielded ops a.tmps) = true) (hy : ∀ w, S w → (execOp a.eval oi).run P w = .ok (.value v) w) (hS : S w)
    (h : wpAnyH P md ops Q S fuel (listed.setIfInBounds i true) (a.put d v) w) : wpAnyH P md ops Q S (fuel + 1) listed a w := by
  subst hd
  exact wpAnyH_take hi hs hf hr hQ (Or.inl ⟨hw, hy⟩) hS h
theorem skip_at {i : Nat} {oi : Oper} {fuel : Nat} {listed : Array Bool} {a : Act} {w : World} (d : Option Nat) (hi : ops[i]? = some oi) (hd : oi.dst = d)
    (hs : Region.noSelect ops = true) (hf : Region.free md ops listed i = true) (hr : (Region.ready md ops listed).contains i = true)
    (hQ : ∀ c a w, Q (.panic c) (a.put d undef) w → Q (.panic c) a w) (hw : Region.wanted oi (yielded ops a.tmps) = false) (hS : S w)
    (h : wpAnyH P md ops Q S fuel (listed.setIfInBounds i true) (a.put d undef) w) : wpAnyH P md ops Q S (fuel + 1) listed a w := by
  subst hd
  exact wpAnyH_take hi hs hf hr hQ (Or.inr ⟨hw, rfl⟩) hS h
theorem pass_at {i : Nat} {oi : Oper} {fuel : Nat} {listed : Array Bool} {a : Act} {w : World} (d : Option Nat) (hr : Region.ready md ops listed = [i]) (hi : ops[i]? = some oi) (hd : oi.dst = d)
    (hw : Region.wanted oi (yielded ops a.tmps) = false) (hS : S w)
    (h : wpAnyH P md ops Q S fuel (listed.setIfInBounds i true) (a.put d undef) w) : wpAnyH P md ops Q S (fuel + 1) listed a w := by
  subst hd
  refine wpAnyH_ready hr (by simp) (AllReadyH.cons hi (fun K hK => ?_) AllReadyH.nil)
  rw [if_neg (by rw [hw]; decide)]
  exact hK.out _ _ hS (fun _ => h)
theorem call_at {i : Nat} {oi : Oper} {fuel : Nat} {listed : Array Bool} {a : Act} {w : World} (hr : Region.ready md ops listed = [i]) (hi : ops[i]? = some oi)
    (h : ∀ K' : Act → World → Prop, Shut (∀ a w, S w → (S w → wpAnyH P md ops Q S fuel (listed.setIfInBounds i true) a w) → K' a w) → if Region.wanted oi (yielded ops a.tmps) = true then Oper.wp P oi a w K' Q else K' (a.put oi.dst undef) w) : wpAnyH P md ops Q S (fuel + 1) listed a w :=
  wpAnyH_ready hr (by simp) (AllReadyH.cons hi h AllReadyH.nil)
end
end Go.Proofs.YtbhghelegonbbaaDoor
namespace Go.Proofs.YtbhghelegonbbaaDoor
open Go.RowKit Go.MapKept Go.Maps
set_option linter.unusedVariables false
set_option linter.unusedSimpArgs false
theorem inw_row {α : Type} {f : α → List Value} {W : World} {b : Option Addr} {sz : Nat} {l : List α} (h : InW W b sz (l.map f)) {i : Nat} {x : α} (hx : l[i]? = some x) : ∃ B off, b = some ⟨B, off, none⟩ ∧ B < W.heap.size ∧ (∀ X, Below W.heap.size W X → ∀ j u, (f x)[j]? = some u → X.cell? ⟨B, off + i * sz + j, none⟩ = some u) := by
  rcases h with h | ⟨B, off, hb, hl, hc⟩
  · rw [List.map_eq_nil_iff.1 h] at hx; cases hx
  · exact ⟨B, off, hb, hl, fun X hX j u hj => (hX.cell (p := ⟨B, off + i * sz + j, none⟩) hl).trans (hc i (f x) (by rw [List.getElem?_map, hx]; rfl) j u hj)⟩
theorem exec_load_row {P : Program} {op : Oper} {e : Operand → Value} (ty : TypeId) (x : Operand) (ho : op.op = .load ty x) (b o : Nat) (hx : e x = .pointer (some ⟨b, o, none⟩)) (cs : List Value) (d : TypeDesc) (w : World) (hc : w.rangeAt b o cs)
    (hu : P.underlying ty = some d) (hd : d.isRow = true) (hi : (P.info? ty).map (·.size) = some cs.length) : (execOp e op).run P w = .ok (.value (.agg cs.toArray)) w := by
  unfold execOp
  simp only [ho, hx, Instr.loadAt, Instr.sureAddr, Sem.run_bind, Sem.run_pure, Result.andThen_ok, run_loadVar_mid w b o ty cs d hc hu hd hi]
namespace Tl
open Es
theorem infoEv : (Tryd.prog.info? 41).map (fun i => (i.zero, i.size, i.bytes)) = some (some (.agg (evC ev0).toArray), 8, 96) := by kernel_rfl
set_option maxRecDepth 100000 in
theorem parses_any (w : World) (hG : Glob w) : Calls Tryd.prog 5 #[] w fun e w' => e = .returned (.bool true) ∧ Below w.heap.size w w' := by
  have HP := Lib.hid (parse_any none 0 [] w hG ⟨.inl rfl, by simp⟩ (by decide))
  clear hG
  go_enter Tryd.func5, Tryd.ntmps5
  go_wp2_with fail
  refine HP.out.mono ?_
  rintro e w1 ⟨s, sl, l, t, rfl, mg, _, ht, _, _⟩
  obtain rfl := ht rfl
  have HB := Lib.hid mg.bl
  clear mg ht HP
  have hfd : ∀ W, Sem.run Tryd.prog (Instr.field 53 (.agg (taC s sl 1000).toArray) 2) W = .ok (.int .i64 1000) W := fun W => by kernel_rfl
  go_wp2_with fail
  go_ret
  exact ⟨rfl, HB.out⟩
theorem p_lit : numT ⟨#[112]⟩ 0 = ⟨#[112, 48]⟩ ∧ numT ⟨#[112]⟩ 1 = ⟨#[112, 49]⟩ ∧ numT ⟨#[112]⟩ 2 = ⟨#[112, 50]⟩ ∧ numT ⟨#[112]⟩ 3 = ⟨#[112, 51]⟩ := by decide +kernel
theorem people_any (w : World) : Calls Tryd.prog 6 #[] w fun e w' => e = .returned (.slice (some ⟨w.heap.size, 0, none⟩) 4 4) ∧ Bk w' w.heap.size [.string (numT ⟨#[112]⟩ 0), .string (numT ⟨#[112]⟩ 1), .string (numT ⟨#[112]⟩ 2), .string (numT ⟨#[112]⟩ 3)] 9 ∧ Below w.heap.size w w' := by
  rw [p_lit.1, p_lit.2.1, p_lit.2.2.1, p_lit.2.2.2]
  go_enter Tryd.func6, Tryd.ntmps6
  go_wp2_with fail
  go_ret
  exact ⟨rfl, Bk.new w [.string ⟨#[112, 48]⟩, .string ⟨#[112, 49]⟩, .string ⟨#[112, 50]⟩, .string ⟨#[112, 51]⟩] 9, (Below.refl _ _).alloc (Nat.le_refl _) _⟩
theorem finB {fn : Func} {q p q2 q3 : Tmp} {tmps : Array Value} {w : World} {g : Nat} {s : Sg} (h : fn.results = #[.tmp q, .cell p 32, .tmp q2, .tmp q3]) (hp : tmps.getD p undef = .pointer (some ⟨g, 0, none⟩)) (hb : Bk w g (sgC s) 32) : (results fn tmps).run Tryd.prog w = .ok (.tuple #[tmps.getD q undef, .agg (sgC s).toArray, tmps.getD q2 undef, tmps.getD q3 undef]) w := by
  have := run_loadVar_row (P := Tryd.prog) w g 32 _ _ (0, 0) _ hb Tryd.underlying32 rfl (by rw [List.size_toArray, sgLen]; kernel_rfl)
  have hp' : tmps[p]?.getD undef = .pointer (some ⟨g, 0, none⟩) := by simpa using hp
  simp [results, h, hp', asAddr, this, Result.andThen]
def BegPost (w : World) (e : Ending) (w' : World) : Prop := ∃ b cap s t n, ∃ l : List Ev, e = .returned (.tuple #[.slice b n cap, .agg (sgC s).toArray, .int .i64 t, .bool true]) ∧ n = l.length ∧ n ≤ cap ∧ cap ≤ maxLen ∧ InW w' b 8 (l.map evC) ∧ l.length ≤ 59 ∧ (∀ e ∈ l, TaleEv e) ∧ (l.map idE).Nodup ∧ Below w.heap.size w w'
theorem evs_take {l : List Stp} {i : Nat} {x : Stp} (h : l[i]? = some x) : evs (l.take (i + 1)) = if x.what = 0 then evs (l.take i) ++ [x.ev] else evs (l.take i) := by
  rw [List.take_add_one, h]
  split
  · rename_i c; exact evs_tell c
  · rename_i c; exact evs_skip c
theorem evs_len (l : List Stp) : (evs l).length ≤ l.length := by
  unfold evs told
  rw [List.length_map]; exact List.length_filter_le _ _
set_option maxRecDepth 100000 in
set_option maxHeartbeats 8000000 in
theorem begun_any (b : Option Addr) (cap : Nat) (xs : List Int) (w : World) (hG : Glob w) (hX : Bys w b xs) (hn : xs.length ≤ 300) :
    Calls Tryd.prog 4 #[.slice b xs.length cap] w (BegPost w) := by
  obtain ⟨iE, hiE, hzE, hsE, hbE⟩ := tinfo infoEv
  have HP : Hid (∀ W, Below w.heap.size w W → Calls Tryd.prog 13 #[.slice b xs.length cap] W (TalePost xs.length W)) := Lib.hid (fun W hW => parse_any b cap xs W (hG.bel hW) (hX.bel hW) hn)
  obtain ⟨n, hnl⟩ : ∃ n, xs.length = n := ⟨_, rfl⟩
  rw [hnl] at HP hn ⊢
  have n300 : ¬ (300 : Int) < (n : Int) := by omega
  clear hG hX hnl
  go_enter Tryd.func4, Tryd.ntmps4
  go_wp2_with fail
  refine (HP.out _ ((Below.refl _ _).alloc (Nat.le_refl _) _)).mono ?_
  rintro e w1 ⟨s, sl, l, t, rfl, mg, hl, _, hev, hnd⟩
  obtain ⟨bs, ks, hse, hs1, hs2, hs3, _⟩ := inw_of_rowm stLen (by decide) mg.tx
  obtain ⟨m, hm⟩ : ∃ m, l.length = m := ⟨_, rfl⟩
  rw [hm] at hse hl
  subst hse
  have h3 := (bk_at (W := w) zerS 32 rfl).bel mg.bl
  have HX := Lib.hid (And.intro h3 (And.intro (((Below.refl _ _).alloc (Nat.le_refl _) _).trans (mg.bl.mono (by simp))) (And.intro hs3 (And.intro hev (And.intro hnd hl)))))
  have HM := Lib.hid hm
  clear hev hnd HP mg hs1 hs2 hs3 h3 hm
  go_upto_region 4 with (first
    | ((with_reducible show wpList _ _ _ (Oper.mk _ (Op.store 53 _ _) _ _ _ _ :: _) _ _); refine wpList_store_rowTo rfl 53 _ _ rfl rfl w1.heap.size (taC s (.slice bs m ks) t).toArray rfl rfl 53 zerT.toArray (Bk.new w1 zerT 53) (by rw [List.size_toArray, taLen]; kernel_rfl) (by rw [List.size_toArray, List.size_toArray, taLen]; rfl) (all_oneCell_toArray (taOne _ _ _ rfl)) ?_)
    | fail)
  have g3 := ((HX.out.1.old (.cells zerT.toArray 53)).rowOther w1.heap.size (taC s (.slice bs m ks) t).toArray (by have := HX.out.1.lt; omega))
  have g6 := (Bk.new w1 zerT 53).setRow (taC s (.slice bs m ks) t)
  have hbv : Below w1.heap.size w1 ((w1.alloc (.cells zerT.toArray 53)).setRow w1.heap.size (taC s (.slice bs m ks) t).toArray) := bel_setRow ((Below.refl _ _).alloc (Nat.le_refl _) _) (Nat.le_refl _) _
  have HV := Lib.hid (And.intro g3 (And.intro g6 (And.intro hbv (HX.out.2.2.1.bel hbv))))
  have c22 : ((w1.alloc (.cells zerT.toArray 53)).setRow w1.heap.size (taC s (.slice bs m ks) t).toArray).cell? ⟨w1.heap.size, 22, none⟩ = some (.slice bs m ks) := (g6.cell 22).trans (taAt22 _ _ _)
  unfold zerT zerS at c22 HV g3 g6 hbv
  simp only [List.cons_append, List.nil_append] at c22 HV
  generalize (w1.alloc _).setRow w1.heap.size (taC s (.slice bs m ks) t).toArray = V at c22 HV ⊢
  clear g3 g6 hbv
  go_wp2_with fail
  go_loopw [7, 19] (fun u c wr => ∃ i : Nat, i ≤ m ∧ c = .int .i64 i ∧ Hid (MkG 41 8 evC V wr u (evs (l.take i)))) (fun _ c _ => m - (intOf c).toNat)
  case atStart => exact ⟨0, by omega, rfl, Lib.hid (MkG.nil V)⟩
  case round =>
    obtain ⟨i, him, rfl, HM7⟩ := hrel
    by_cases hlt : i < m
    · obtain ⟨x, hx⟩ : ∃ x, l[i]? = some x := ⟨l[i]'(by have := HM.out; omega), List.getElem?_eq_getElem _⟩
      obtain ⟨B, off, rfl, hB, hc⟩ := inw_row HV.out.2.2.2 hx
      have hc := hc _ HM7.out.bl
      have k0 : wr.cell? ⟨B, off + i * 13, none⟩ = some (.int .i64 x.what) := hc 0 _ rfl
      have k1 : wr.cell? ⟨B, off + i * 13 + 1, none⟩ = some (.string x.ev.src) := hc 1 _ rfl
      have k2 : wr.cell? ⟨B, off + i * 13 + 2, none⟩ = some (.int .i64 x.ev.num) := hc 2 _ rfl
      have k3 : wr.cell? ⟨B, off + i * 13 + 3, none⟩ = some (.int .i64 x.ev.at_) := hc 3 _ rfl
      have k4 : wr.cell? ⟨B, off + i * 13 + 4, none⟩ = some (.int .i64 x.ev.kind) := hc 4 _ rfl
      have k5 : wr.cell? ⟨B, off + i * 13 + 5, none⟩ = some (.string x.ev.per) := hc 5 _ rfl
      have k6 : wr.cell? ⟨B, off + i * 13 + 6, none⟩ = some (.string x.ev.item) := hc 6 _ rfl
      have k7 : wr.cell? ⟨B, off + i * 13 + 7, none⟩ = some (.int .i64 x.ev.val) := hc 7 _ rfl
      have k8 : wr.cell? ⟨B, off + i * 13 + 8, none⟩ = some (.string x.ev.txt) := hc 8 _ rfl
      have k9 : wr.cell? ⟨B, off + i * 13 + 9, none⟩ = some (.string x.per) := hc 9 _ rfl
      have k10 : wr.cell? ⟨B, off + i * 13 + 10, none⟩ = some (.int .i64 x.now) := hc 10 _ rfl
      have k11 : wr.cell? ⟨B, off + i * 13 + 11, none⟩ = some (.int .i64 x.keep) := hc 11 _ rfl
      have k12 : wr.cell? ⟨B, off + i * 13 + 12, none⟩ = some (.int .i64 x.of) := hc 12 _ rfl
      have HT := Lib.hid (evs_take hx)
      have hi0' : (0 : Int) ≤ (i : Int) := by omega
      have hi1 : (i : Int) < (m : Int) := by omega
      clear hc hx
      by_cases hw : x.what = 0
      · have HM2 := Lib.hid ((HM7.out.alloc (.cells (stC x).toArray 57)).alloc (.cells (evC x.ev).toArray 41))
        have HIN : Hid (InW ((wr.alloc (.cells (stC x).toArray 57)).alloc (.cells (evC x.ev).toArray 41)) (some ⟨wr.heap.size + 1, 0, none⟩) 8 ([x.ev].map evC)) := Lib.hid (inw_one (f := evC) (x := x.ev) (bk_at _ _ (by simp)))
        have HLN : Hid ((evs (l.take i)).length + [x.ev].length ≤ 1000000) := Lib.hid (by have := evs_len (l.take i); simp at this ⊢; omega)
        have hwd : (x.what == 0) = true := by simp [hw]
        have HW := Lib.hid hw
        clear hw
        go_wp2_with (at_builtin; refine wpList_append_m evLen evOne _ rfl _ _ _ rfl 41 iE _ 96 Tryd.underlying23 hiE hzE hsE hbE rfl (by decide) (by omega) u7 (evs (l.take i)) [x.ev] rfl HM2.out.tx (some ⟨wr.heap.size + 1, 0, none⟩) 1 1 rfl rfl HIN.out HLN.out ?_; intro v5 w5 o5 f5 h5)
        have HM5 := Lib.hid (HM2.out.more o5 f5 h5)
        clear o5 f5 h5 HM2 HIN HLN
        go_wp2_with fail
        go_roundw
        case rel => exact ⟨i + 1, by omega, by go_num, by rw [HT.out, if_pos HW.out]; exact HM5⟩
        case measure => simp [intOf]; omega
      · have hwd : (x.what == 0) = false := by simp [hw]
        have HW := Lib.hid hw
        clear hw
        go_wp2_with fail
        go_roundw
        case rel => exact ⟨i + 1, by omega, by go_num, Lib.hid (by rw [HT.out, if_neg HW.out]; exact HM7.out.alloc _)⟩
        case measure => simp [intOf]; omega
    · go_upto_region 11 with fail
      have g3 := HV.out.1.bel HM7.out.bl
      have g6 := HV.out.2.1.bel HM7.out.bl
      obtain ⟨S, hS⟩ : ∃ S : World → Prop, S = fun X => Bk X w1.heap.size (taC s (.slice bs m ks) t) 53 ∧ (∃ cs : List Value, cs.length = 22 ∧ Bk X w.heap.size cs 32) := ⟨_, rfl⟩
      have s0 : S wr := by rw [hS]; exact ⟨g6, _, by rfl, g3⟩
      have hlt0 := HX.out.1.lt
      have HS1 : Hid (∀ X, S X → X.rangeAt w1.heap.size 0 (sgC s)) := Lib.hid (fun X h => by
        rw [hS] at h
        exact h.1.range 0 _ (fun j v hj => by rw [Nat.zero_add]; unfold taC; rw [List.getElem?_append_left (List.getElem?_eq_some_iff.1 hj).1]; exact hj))
      have HS2 : Hid (∀ X, S X → X.cell? ⟨w1.heap.size, 23, none⟩ = some (.int .i64 t)) := Lib.hid (fun X h => by rw [hS] at h; exact (h.1.cell 23).trans (taAt23 _ _ _))
      have HS3 : Hid (∀ X, S X → S (X.setRow w.heap.size (sgC s).toArray)) := Lib.hid (fun X h => by rw [hS] at h ⊢; obtain ⟨h1, cs, h2, h3⟩ := h; exact ⟨h1.rowOther _ _ (by omega), sgC s, sgLen s, h3.setRow _⟩)
      have HS4 : Hid (∀ X, S X → S X.drew) := Lib.hid (fun X h => by rw [hS] at h ⊢; exact h)
      have HS6 : Hid (∀ X, S X → (∃ cs : List Value, cs.length = 22 ∧ Bk X w.heap.size cs 32)) := Lib.hid (fun X h => by rw [hS] at h; exact h.2)
      have HG3 := Lib.hid g3
      clear hS g3 g6
      refine wp_region_held_drew (S := S) (by kernel_rfl) (HS4.out _ s0) (fun hHeld => ?_)
      refine take_at (i := 0) (v := ?_) (some 32) rfl rfl (by kernel_rfl) (by kernel_rfl) (by kernel_rfl) (fun _ _ _ h => h) (by rfl) ?_ (by assumption) ?_
      rotate_left
      · intro w hSw
        (try dsimp only at hSw)
        go_simp
        try (with_reducible rfl)
      (try simp only [Act.put, List.setIfInBounds_toArray, List.set_cons_zero, List.set_cons_succ])
      refine take_at (i := 1) (v := ?_) (some 33) rfl rfl (by kernel_rfl) (by kernel_rfl) (by kernel_rfl) (fun _ _ _ h => h) (by rfl) ?_ (by assumption) ?_
      rotate_left
      · intro w hSw
        (try dsimp only at hSw)
        go_simp
        try (with_reducible rfl)
      (try simp only [Act.put, List.setIfInBounds_toArray, List.set_cons_zero, List.set_cons_succ])
      refine take_at (i := 2) (v := .agg (sgC s).toArray) (some 34) rfl rfl (by kernel_rfl) (by kernel_rfl) (by kernel_rfl) (fun _ _ _ h => h) (by rfl) (fun W hW => exec_load_row 32 _ rfl w1.heap.size 0 rfl (sgC s) _ W (HS1.out W hW) Tryd.underlying32 rfl (by rw [sgLen]; kernel_rfl)) (by assumption) ?_
      (try simp only [Act.put, List.setIfInBounds_toArray, List.set_cons_zero, List.set_cons_succ])
      refine take_at (i := 3) (v := ?_) (some 35) rfl rfl (by kernel_rfl) (by kernel_rfl) (by kernel_rfl) (fun _ _ _ h => h) (by rfl) ?_ (by assumption) ?_
      rotate_left
      · intro w hSw
        (try dsimp only at hSw)
        go_simp
        try (with_reducible rfl)
      (try simp only [Act.put, List.setIfInBounds_toArray, List.set_cons_zero, List.set_cons_succ])
      refine take_at (i := 4) (v := ?_) (some 36) rfl rfl (by kernel_rfl) (by kernel_rfl) (by kernel_rfl) (fun _ _ _ h => h) (by rfl) ?_ (by assumption) ?_
      rotate_left
      · intro w hSw
        (try dsimp only at hSw)
        have hq := HS2.out w hSw
        go_simp
        try (with_reducible rfl)
      (try simp only [Act.put, List.setIfInBounds_toArray, List.set_cons_zero, List.set_cons_succ])
      refine take_at (i := 5) (v := ?_) (some 2) rfl rfl (by kernel_rfl) (by kernel_rfl) (by kernel_rfl) (fun _ _ _ h => h) (by rfl) ?_ (by assumption) ?_
      rotate_left
      · intro w hSw
        (try dsimp only at hSw)
        go_simp
        try (with_reducible rfl)
      (try simp only [Act.put, List.setIfInBounds_toArray, List.set_cons_zero, List.set_cons_succ])
      refine call_at (i := 6) (by kernel_rfl) rfl (fun K hK => ?_)
      rw [if_pos (by rfl)]
      obtain ⟨cs, hcs, hb3⟩ := HS6.out _ hHeld
      refine wp_store_row 32 _ _ rfl w.heap.size (sgC s).toArray rfl rfl 32 cs.toArray hb3 (by rw [List.size_toArray, sgLen]; kernel_rfl) (by rw [List.size_toArray, List.size_toArray, sgLen, hcs]) (all_oneCell_toArray (wtsOne s 6)) ?_
      refine hK.out _ _ (HS3.out _ hHeld) (fun hHeld => ?_)
      clear hK K hb3 hcs
      (try simp only [Act.put, List.setIfInBounds_toArray, List.set_cons_zero, List.set_cons_succ])
      refine take_at (i := 7) (v := ?_) (some 4) rfl rfl (by kernel_rfl) (by kernel_rfl) (by kernel_rfl) (fun _ _ _ h => h) (by rfl) ?_ (by assumption) ?_
      rotate_left
      · intro w hSw
        (try dsimp only at hSw)
        go_simp
        try (with_reducible rfl)
      (try simp only [Act.put, List.setIfInBounds_toArray, List.set_cons_zero, List.set_cons_succ])
      refine take_at (i := 8) (v := ?_) (some 5) rfl rfl (by kernel_rfl) (by kernel_rfl) (by kernel_rfl) (fun _ _ _ h => h) (by rfl) ?_ (by assumption) ?_
      rotate_left
      · intro w hSw
        (try dsimp only at hSw)
        go_simp
        try (with_reducible rfl)
      (try simp only [Act.put, List.setIfInBounds_toArray, List.set_cons_zero, List.set_cons_succ])
      refine wpAnyH_done (by kernel_rfl) ?_ _
      go_wp2_with fail
      have e7 : l.take i = l := List.take_of_length_le (by have := HM.out; omega)
      have hmk := HM7.out
      rw [e7] at hmk
      have hf : Fr (fun b => b = w.heap.size) wr (wr.drew.setRow w.heap.size (sgC s).toArray) := ⟨rfl, rfl, rfl, by simp, fun k hk hs => setRow_other wr.drew w.heap.size k _ hs⟩
      have hsz := HV.out.2.2.1.size
      obtain ⟨b7, k7, rfl, h71, h72, h73, _⟩ := inw_of_rowm evLen (by decide) (hf.row hmk.tx (fun b hb e => by have := hmk.nw b hb; have e' : b = w.heap.size := e; omega))
      have hq := HX.out
      have hbl : Below w.heap.size w (wr.drew.setRow w.heap.size (sgC s).toArray) := bel_setRow ((hq.2.1.trans ((HV.out.2.2.1.mono hq.2.1.size).trans (hmk.bl.mono (Nat.le_trans hq.2.1.size hsz)))).drew) (Nat.le_refl _) _
      refine bodyPost_ret (finB (s := s) (g := w.heap.size) rfl rfl ?_) rfl ⟨b7, k7, s, t, (evs l).length, evs l, rfl, rfl, h71, h72, h73, Nat.le_trans (evs_len l) (by have := HM.out; omega), hq.2.2.2.1, hq.2.2.2.2.1, hbl⟩
      exact (show Bk wr.drew w.heap.size _ _ from HG3.out).setRow (sgC s)
end Tl
end Go.Proofs.YtbhghelegonbbaaDoor
namespace Go.Proofs.YtbhghelegonbbaaDoor
open Go.RowKit
set_option linter.unusedVariables false
def signB (c : UInt8) : Bool := (decide (97 ≤ c.toNat) && decide (c.toNat ≤ 122)) || (decide (48 ≤ c.toNat) && decide (c.toNat ≤ 57)) || decide (c.toNat = 45)
def nameB (s : ByteArray) : Bool := decide (1 ≤ s.size) && decide (s.size ≤ 24) && s.data.toList.all signB
theorem byte_at (s : ByteArray) (k : Nat) (h : k < s.size) : s.data.toList[k]? = some s[k] := by
  have h' : k < s.data.toList.length := by simpa using h
  rw [List.getElem?_eq_getElem h']
  rfl
theorem take_snoc (s : ByteArray) (k : Nat) (h : k < s.size) : s.data.toList.take (k + 1) = s.data.toList.take k ++ [s[k]] := by
  rw [List.take_add_one, byte_at s k h]; rfl
theorem mem_byte (s : ByteArray) (k : Nat) (h : k < s.size) : s[k] ∈ s.data.toList := List.mem_of_getElem? (byte_at s k h)
theorem nameB_size {s : ByteArray} (h : nameB s = true) : 1 ≤ s.size ∧ s.size ≤ 24 := by
  simp only [nameB, Bool.and_eq_true, decide_eq_true_eq] at h
  exact h.1
set_option maxHeartbeats 2000000 in
theorem ename_any (s : ByteArray) (w : World) (hs : s.size ≤ maxLen) :
    Calls Tryd.prog 40 #[.string s] w fun e w' => e = .returned (.bool (nameB s)) ∧ w = w' := by
  obtain ⟨r, hr⟩ : ∃ r, nameB s = r := ⟨_, rfl⟩
  rw [hr]
  have HR := Lib.hid hr
  clear hr
  by_cases h1 : s.size < 1
  · have e : r = false := by rw [← HR.out]; unfold nameB; rw [decide_eq_false (show ¬ 1 ≤ s.size by omega)]; rfl
    subst e
    have t1 : decide ((s.size : Int) < 1) = true := decide_eq_true (by omega)
    go_enter Tryd.func40, Tryd.ntmps40
    go_wp2_with fail
    go_ret
    exact ⟨rfl, rfl⟩
  have t1 : decide ((s.size : Int) < 1) = false := decide_eq_false (by omega)
  by_cases h2 : 24 < s.size
  · have e : r = false := by rw [← HR.out]; unfold nameB; rw [decide_eq_false (show ¬ s.size ≤ 24 by omega), Bool.and_false]; rfl
    subst e
    have t2 : decide ((24 : Int) < (s.size : Int)) = true := decide_eq_true (by omega)
    go_enter Tryd.func40, Tryd.ntmps40
    go_wp2_with fail
    go_ret
    exact ⟨rfl, rfl⟩
  have t2 : decide ((24 : Int) < (s.size : Int)) = false := decide_eq_false (by omega)
  have HN : Hid (s.data.toList.all signB = r) := Lib.hid (by rw [← HR.out]; unfold nameB; rw [decide_eq_true (show 1 ≤ s.size by omega), decide_eq_true (show s.size ≤ 24 by omega)]; rfl)
  go_enter Tryd.func40, Tryd.ntmps40
  go_wp2_with fail
  go_loop [15] (fun i => ∃ k : Nat, k ≤ s.size ∧ i = .int .i64 k ∧ Hid ((s.data.toList.take k).all signB = true)) (fun i => s.size - (intOf i).toNat)
  case atStart => exact ⟨0, Nat.zero_le _, rfl, Lib.hid (by simp)⟩
  case round =>
    obtain ⟨k, hk, rfl, HA⟩ := hrel
    by_cases hlt : k < s.size
    · obtain ⟨c, hc⟩ : ∃ c, s[k].toNat = c := ⟨_, rfl⟩
      have hi1 : (k : Int) < (s.size : Int) := by omega
      rcases (show c < 45 ∨ c = 45 ∨ (46 ≤ c ∧ c ≤ 47) ∨ (48 ≤ c ∧ c ≤ 57) ∨ (58 ≤ c ∧ c ≤ 96) ∨ (97 ≤ c ∧ c ≤ 122) ∨ 123 ≤ c by omega) with hr | hr | hr | hr | hr | hr | hr
      · have d0 : decide (97 ≤ (s[k].toNat : Int)) = false := decide_eq_false (by omega)
        have d2 : decide (48 ≤ (s[k].toNat : Int)) = false := decide_eq_false (by omega)
        have d5 : ((s[k].toNat : Int) == 45) = false := by simp; omega
        have hr : r = false := by
          rw [← HR.out]
          have h1 : signB s[k] = false := by unfold signB; simp; omega
          have h2 : s.data.toList.all signB = false := by
            rw [List.all_eq_false]
            exact ⟨s[k], mem_byte s k hlt, by simp [h1]⟩
          unfold nameB
          rw [h2, Bool.and_false]
        subst hr
        clear hc
        go_wp2_with fail
        go_ret
        exact ⟨rfl, rfl⟩
      · have d0 : decide (97 ≤ (s[k].toNat : Int)) = false := decide_eq_false (by omega)
        have d2 : decide (48 ≤ (s[k].toNat : Int)) = false := decide_eq_false (by omega)
        have d5 : ((s[k].toNat : Int) == 45) = true := by simp; omega
        have HS' : Hid ((s.data.toList.take (k + 1)).all signB = true) := Lib.hid (by rw [take_snoc s k hlt, List.all_append, HA.out, Bool.true_and, List.all_cons, List.all_nil, Bool.and_true]; unfold signB; simp; omega)
        clear hc
        go_wp2_with fail
        go_round
        case rel => exact ⟨k + 1, by omega, by go_num, HS'⟩
        case measure => simp [intOf]; omega
      · have d0 : decide (97 ≤ (s[k].toNat : Int)) = false := decide_eq_false (by omega)
        have d2 : decide (48 ≤ (s[k].toNat : Int)) = false := decide_eq_false (by omega)
        have d5 : ((s[k].toNat : Int) == 45) = false := by simp; omega
        have hr : r = false := by
          rw [← HR.out]
          have h1 : signB s[k] = false := by unfold signB; simp; omega
          have h2 : s.data.toList.all signB = false := by
            rw [List.all_eq_false]
            exact ⟨s[k], mem_byte s k hlt, by simp [h1]⟩
          unfold nameB
          rw [h2, Bool.and_false]
        subst hr
        clear hc
        go_wp2_with fail
        go_ret
        exact ⟨rfl, rfl⟩
      · have d0 : decide (97 ≤ (s[k].toNat : Int)) = false := decide_eq_false (by omega)
        have d2 : decide (48 ≤ (s[k].toNat : Int)) = true := decide_eq_true (by omega)
        have d3 : decide ((s[k].toNat : Int) ≤ 57) = true := decide_eq_true (by omega)
        have d5 : ((s[k].toNat : Int) == 45) = false := by simp; omega
        have HS' : Hid ((s.data.toList.take (k + 1)).all signB = true) := Lib.hid (by rw [take_snoc s k hlt, List.all_append, HA.out, Bool.true_and, List.all_cons, List.all_nil, Bool.and_true]; unfold signB; simp; omega)
        clear hc
        go_wp2_with fail
        go_round
        case rel => exact ⟨k + 1, by omega, by go_num, HS'⟩
        case measure => simp [intOf]; omega
      · have d0 : decide (97 ≤ (s[k].toNat : Int)) = false := decide_eq_false (by omega)
        have d2 : decide (48 ≤ (s[k].toNat : Int)) = true := decide_eq_true (by omega)
        have d3 : decide ((s[k].toNat : Int) ≤ 57) = false := decide_eq_false (by omega)
        have d5 : ((s[k].toNat : Int) == 45) = false := by simp; omega
        have hr : r = false := by
          rw [← HR.out]
          have h1 : signB s[k] = false := by unfold signB; simp; omega
          have h2 : s.data.toList.all signB = false := by
            rw [List.all_eq_false]
            exact ⟨s[k], mem_byte s k hlt, by simp [h1]⟩
          unfold nameB
          rw [h2, Bool.and_false]
        subst hr
        clear hc
        go_wp2_with fail
        go_ret
        exact ⟨rfl, rfl⟩
      · have d0 : decide (97 ≤ (s[k].toNat : Int)) = true := decide_eq_true (by omega)
        have d1 : decide ((s[k].toNat : Int) ≤ 122) = true := decide_eq_true (by omega)
        have HS' : Hid ((s.data.toList.take (k + 1)).all signB = true) := Lib.hid (by rw [take_snoc s k hlt, List.all_append, HA.out, Bool.true_and, List.all_cons, List.all_nil, Bool.and_true]; unfold signB; simp; omega)
        clear hc
        go_wp2_with fail
        go_round
        case rel => exact ⟨k + 1, by omega, by go_num, HS'⟩
        case measure => simp [intOf]; omega
      · have d0 : decide (97 ≤ (s[k].toNat : Int)) = true := decide_eq_true (by omega)
        have d1 : decide ((s[k].toNat : Int) ≤ 122) = false := decide_eq_false (by omega)
        have d2 : decide (48 ≤ (s[k].toNat : Int)) = true := decide_eq_true (by omega)
        have d3 : decide ((s[k].toNat : Int) ≤ 57) = false := decide_eq_false (by omega)
        have d5 : ((s[k].toNat : Int) == 45) = false := by simp; omega
        have hr : r = false := by
          rw [← HR.out]
          have h1 : signB s[k] = false := by unfold signB; simp; omega
          have h2 : s.data.toList.all signB = false := by
            rw [List.all_eq_false]
            exact ⟨s[k], mem_byte s k hlt, by simp [h1]⟩
          unfold nameB
          rw [h2, Bool.and_false]
        subst hr
        clear hc
        go_wp2_with fail
        go_ret
        exact ⟨rfl, rfl⟩
    · have hk2 : s.data.toList.take k = s.data.toList := List.take_of_length_le (by simp; omega)
      have e : r = true := by rw [← HN.out]; have h := HA.out; rw [hk2] at h; exact h
      subst e
      clear hk2
      go_wp2_with fail
      go_ret
      exact ⟨rfl, rfl⟩
end Go.Proofs.YtbhghelegonbbaaDoor
namespace Go.Proofs.YtbhghelegonbbaaDoor
open Go.RowKit
set_option linter.unusedVariables false
set_option linter.unusedSimpArgs false
namespace Tl
open Es
theorem index_word {c : UInt8} : ∀ (x : List UInt8) (r : List UInt8), c ∉ x → Lib.index (x ++ c :: r) [c] = x.length
  | [], r, _ => by simp [Lib.index]
  | b :: x, r, h => by
    have hb : b ≠ c := fun e => h (by simp [e])
    have ih := index_word x r (fun k => h (List.mem_cons_of_mem _ k))
    rw [List.cons_append, Lib.index, ih]
    have h1 : ([c] : List UInt8).isPrefixOf (b :: (x ++ c :: r)) = false := by simp [List.isPrefixOf, Ne.symm hb]
    rw [h1]
    have : ((x.length : Int) == -1) = false := by rw [beq_eq_false_iff_ne]; omega
    simp [this]
theorem index_no {c : UInt8} : ∀ (x : List UInt8), c ∉ x → Lib.index x [c] = -1
  | [], _ => by simp [Lib.index]
  | b :: x, h => by
    have hb : b ≠ c := fun e => h (by simp [e])
    have ih := index_no x (fun k => h (List.mem_cons_of_mem _ k))
    rw [Lib.index, ih]
    have h1 : ([c] : List UInt8).isPrefixOf (b :: x) = false := by simp [List.isPrefixOf, Ne.symm hb]
    rw [h1]
    simp
theorem cut_word {c : UInt8} (x r : List UInt8) (h : c ∉ x) : Lib.cut (x ++ c :: r) [c] = (x, r, true) := by
  unfold Lib.cut
  rw [index_word x r h, if_pos (by omega)]
  simp
theorem cut_no {c : UInt8} (x : List UInt8) (h : c ∉ x) : Lib.cut x [c] = (x, [], false) := by
  unfold Lib.cut
  rw [index_no x h, if_neg (by omega)]
theorem split_words {c : UInt8} : ∀ (r : List (List UInt8)) (x : List UInt8), c ∉ x → (∀ y ∈ r, c ∉ y) → Lib.splitK [c] 0 r.length (x ++ Lib.joinTail [c] r) = x :: r
  | [], x, h, _ => by simp [Lib.splitK, Lib.joinTail]
  | y :: r, x, h, hr => by
    have hy := hr y (by simp)
    have ih := split_words r y hy (fun z hz => hr z (by simp [hz]))
    have e : x ++ Lib.joinTail [c] (y :: r) = x ++ c :: (y ++ Lib.joinTail [c] r) := by simp [Lib.joinTail]
    rw [e, List.length_cons, Lib.splitK, index_word x _ h]
    have h1 : ((x.length : Int) == -1) = false := by rw [beq_eq_false_iff_ne]; omega
    rw [h1]
    simp only [Bool.false_eq_true, if_false, Int.toNat_natCast, Nat.add_zero, List.take_left', List.length_cons, List.length_nil, List.drop_append]
    congr 1
    have : List.drop (x.length + (0 + 1)) x = [] := List.drop_of_length_le (by omega)
    rw [this, show x.length + (0 + 1) - x.length = 1 by omega]
    simpa using ih
theorem count_words {c : UInt8} : ∀ (r : List (List UInt8)) (x : List UInt8), c ∉ x → (∀ y ∈ r, c ∉ y) → (x ++ Lib.joinTail [c] r).count c = r.length
  | [], x, h, _ => by simpa [Lib.joinTail] using List.count_eq_zero_of_not_mem h
  | y :: r, x, h, hr => by
    have ih := count_words r y (hr y (by simp)) (fun z hz => hr z (by simp [hz]))
    have e : x ++ Lib.joinTail [c] (y :: r) = x ++ c :: (y ++ Lib.joinTail [c] r) := by simp [Lib.joinTail]
    rw [e, List.count_append, List.count_cons_self, ih, List.count_eq_zero_of_not_mem h, List.length_cons]
    omega
theorem map_data_inj {xs ys : List ByteArray} (h : xs.map (·.data.toList) = ys.map (·.data.toList)) : xs = ys := by
  refine List.map_inj_right (fun a b e => byte_ext e) |>.1 h
/-- a joined text, split -/
theorem split_join {c : UInt8} {x : ByteArray} {r : List ByteArray} (h : ∀ y ∈ x :: r, c ∉ y.data.toList) :
    Lib.countB (joinT (x :: r) ⟨#[c]⟩) ⟨#[c]⟩ = r.length ∧ Lib.splitB ⟨#[c]⟩ 0 r.length (joinT (x :: r) ⟨#[c]⟩) = x :: r := by
  have e : (joinT (x :: r) ⟨#[c]⟩).data.toList = x.data.toList ++ Lib.joinTail [c] (r.map (·.data.toList)) := by
    unfold joinT
    simp only [List.map_cons, Lib.join_cons]
  have hx := h x (by simp)
  have hr : ∀ y ∈ r.map (·.data.toList), c ∉ y := fun y hy => by
    obtain ⟨z, hz, rfl⟩ := List.mem_map.1 hy
    exact h z (by simp [hz])
  refine ⟨?_, ?_⟩
  · unfold Lib.countB
    rw [e, show (⟨#[c]⟩ : ByteArray).data.toList = [c] from rfl, Lib.count_one, count_words _ _ hx hr, List.length_map]
  · refine map_data_inj ?_
    rw [Lib.splitB_data, e, show (⟨#[c]⟩ : ByteArray).data.toList = [c] from rfl]
    have := split_words _ _ hx hr
    rw [List.length_map] at this
    rw [this, List.map_cons]
/-- what a word is made of -/
def okW (s : ByteArray) : Bool := decide (0 < s.size) && decide (s.size ≤ 30) && s.data.toList.all (fun c => decide (33 ≤ c.toNat)) && decide (s.data.toList ≠ [46])
theorem okW.size {s : ByteArray} (h : okW s = true) : 0 < s.size ∧ s.size ≤ 30 := by simp [okW] at h; omega
theorem okW.no {s : ByteArray} (h : okW s = true) {c : UInt8} (hc : c.toNat < 33) : c ∉ s.data.toList := by
  simp only [okW, Bool.and_eq_true, List.all_eq_true, decide_eq_true_eq] at h
  intro k
  have := h.1.2 c k
  omega
theorem okW.dot {s : ByteArray} (h : okW s = true) : s ≠ ⟨#[46]⟩ := by
  simp only [okW, Bool.and_eq_true, decide_eq_true_eq] at h
  intro e
  subst e
  exact h.2 rfl
theorem ok_s : ∀ k : Fin 2, okW (numT ⟨#[115]⟩ k.val) = true ∧ nameB (numT ⟨#[115]⟩ k.val) = true := by decide +kernel
theorem ok_p : ∀ k : Fin 4, okW (numT ⟨#[112]⟩ k.val) = true ∧ nameB (numT ⟨#[112]⟩ k.val) = true := by decide +kernel
theorem ok_i : ∀ k : Fin 6, okW (numT ⟨#[105]⟩ k.val) = true ∧ nameB (numT ⟨#[105]⟩ k.val) = true := by decide +kernel
theorem ok_m : ∀ k : Fin 3, okW (numT ⟨#[109]⟩ k.val) = true ∧ nameB (numT ⟨#[109]⟩ k.val) = true := by decide +kernel
theorem ok_l : ∀ k : Fin 3, ∀ b0 b1 b2, okW (lstT (numT ⟨#[109]⟩ k.val) b0 b1 b2) = true := by decide +kernel
def kindT (k : Int) : ByteArray := (nameB15[k.toNat]?).getD emp
theorem ok_k : ∀ k : Fin 15, okW (kindT k.val) = true := by decide +kernel
def decT (z : Int) : ByteArray := ⟨(Lib.itoa z).toArray⟩
def dotE (s : ByteArray) : ByteArray := if s.size = 0 then ⟨#[46]⟩ else s
def rawE (e : Ev) : List ByteArray := [e.src, decT e.num, decT e.at_, kindT e.kind, e.per, e.item, decT e.val, e.txt]
def wordsE (e : Ev) : List ByteArray := (rawE e).map dotE
def fmtE (e : Ev) : ByteArray := joinT (wordsE e) ⟨#[32]⟩
theorem itoa_nat (n : Nat) : Lib.itoa (n : Int) = Lib.decDigits n := by
  unfold Lib.itoa
  rw [if_neg (by omega)]; rfl
/-- digits -/
theorem dec_all : ∀ n : Nat, ∀ c ∈ Lib.decDigits n, 48 ≤ c.toNat ∧ c.toNat ≤ 57 := by
  intro n
  induction n using Nat.strongRecOn with
  | _ n ih =>
    intro c hc
    rw [Lib.decDigits] at hc
    split at hc
    · have : c = UInt8.ofNat (48 + n) := by simpa using hc
      subst this
      rw [UInt8.toNat_ofNat']; omega
    · rcases List.mem_append.1 hc with hc | hc
      · exact ih _ (by omega) c hc
      · have : c = UInt8.ofNat (48 + n % 10) := by simpa using hc
        subst this
        rw [UInt8.toNat_ofNat']; omega
def valD (l : List UInt8) : Nat := l.foldl (fun n c => n * 10 + (c.toNat - 48)) 0
theorem valD_snoc (l : List UInt8) (c : UInt8) : valD (l ++ [c]) = valD l * 10 + (c.toNat - 48) := by simp [valD, List.foldl_append]
theorem dec_val : ∀ n : Nat, valD (Lib.decDigits n) = n := by
  intro n
  induction n using Nat.strongRecOn with
  | _ n ih =>
    rw [Lib.decDigits]
    split
    · unfold valD
      simp only [List.foldl_cons, List.foldl_nil, UInt8.toNat_ofNat']
      omega
    · rw [valD_snoc, ih _ (by omega), UInt8.toNat_ofNat']
      omega
theorem dec_len : ∀ k n : Nat, n < 10 ^ (k + 1) → (Lib.decDigits n).length ≤ k + 1
  | 0, n, h => by rw [Lib.decDigits, dif_pos (by simpa using h)]; simp
  | k + 1, n, h => by
    rw [Lib.decDigits]
    split
    · simp
    · have := dec_len k (n / 10) (by rw [Nat.pow_succ] at h; omega)
      simp; omega
theorem dec_ne (n : Nat) : Lib.decDigits n ≠ [] := by
  rw [Lib.decDigits]
  split <;> simp
theorem ok_d {z : Int} (h0 : 0 ≤ z) (h1 : z < 10000) : okW (decT z) = true ∧ (decT z).size ≤ 4 := by
  obtain ⟨n, rfl⟩ : ∃ n : Nat, z = (n : Int) := ⟨z.toNat, by omega⟩
  have h2 := dec_len 3 n (by omega)
  have h3 := dec_all n
  have h4 := dec_ne n
  have h5 : (decT (n : Int)).data.toList = Lib.decDigits n := by unfold decT; rw [itoa_nat]
  have h6 : (decT (n : Int)).size = (Lib.decDigits n).length := by rw [← h5]; rfl
  refine ⟨?_, by omega⟩
  simp only [okW, Bool.and_eq_true, List.all_eq_true, decide_eq_true_eq, h5, h6]
  refine ⟨⟨⟨List.length_pos_iff.2 h4, by omega⟩, fun c hc => by have := h3 c hc; omega⟩, fun e => ?_⟩
  have := h3 46 (by rw [e]; simp)
  simp at this
/-- each word is empty or a good one -/
theorem raw_ok {e : Ev} (h : TaleEv e) : ∀ s ∈ rawE e, s = emp ∨ okW s = true := by
  obtain ⟨k, hk, hs⟩ := h.src
  have hks := (ok_s ⟨k, hk⟩).1
  have hn := (ok_d (z := e.num) (by have := h.num; omega) (by have := h.num; omega)).1
  have ha := (ok_d (z := e.at_) (by have := h.at_; omega) (by have := h.at_; omega)).1
  have P : ∀ {s}, PerT s → okW s = true := fun ⟨k, hk, e⟩ => by rw [e]; exact (ok_p ⟨k, hk⟩).1
  have I : ∀ {s}, ItemT s → okW s = true := fun ⟨k, hk, e⟩ => by rw [e]; exact (ok_i ⟨k, hk⟩).1
  have M : ∀ {s}, MakT s → okW s = true := fun ⟨k, hk, e⟩ => by rw [e]; exact (ok_m ⟨k, hk⟩).1
  have K : ∀ k : Nat, k < 15 → e.kind = (k : Int) → okW (kindT e.kind) = true := fun k hk h => by rw [h]; exact ok_k ⟨k, hk⟩
  have all : (okW (kindT e.kind) = true) ∧ (e.per = emp ∨ okW e.per = true) ∧ (e.item = emp ∨ okW e.item = true) ∧ okW (decT e.val) = true ∧ (e.txt = emp ∨ okW e.txt = true) := by
    cases h.shp with
    | plain hk p i v t =>
      refine ⟨?_, .inr (P p), .inr (I i), (ok_d (by omega) (by omega)).1, .inl t⟩
      exact K e.kind.toNat (by omega) (by omega)
    | rated hk p i v t => exact ⟨K e.kind.toNat (by omega) (by omega), .inr (P p), .inr (I i), (ok_d (by omega) (by omega)).1, .inl t⟩
    | follow hk p i v t => exact ⟨K e.kind.toNat (by omega) (by omega), .inr (P p), .inl i, (ok_d (by omega) (by omega)).1, .inr (M t)⟩
    | listed hk p i v t =>
      obtain ⟨m, b0, b1, b2, ⟨k, hk', e1⟩, e2⟩ := t
      refine ⟨K e.kind.toNat (by omega) (by omega), .inl p, .inr (I i), (ok_d (by omega) (by omega)).1, .inr ?_⟩
      rw [e2, e1]; exact ok_l ⟨k, hk'⟩ b0 b1 b2
    | stocked hk p i v t => exact ⟨K e.kind.toNat (by omega) (by omega), .inl p, .inr (I i), (ok_d (by omega) (by omega)).1, .inl t⟩
    | delisted hk p i v t => exact ⟨K e.kind.toNat (by omega) (by omega), .inl p, .inr (I i), (ok_d (by omega) (by omega)).1, .inl t⟩
  intro s hs'
  simp only [rawE, List.mem_cons, List.not_mem_nil, or_false] at hs'
  rcases hs' with rfl | rfl | rfl | rfl | rfl | rfl | rfl | rfl
  · rw [hs]; exact .inr hks
  · exact .inr hn
  · exact .inr ha
  · exact .inr all.1
  · exact all.2.1
  · exact all.2.2.1
  · exact .inr all.2.2.2.1
  · exact all.2.2.2.2
theorem dot_emp : dotE emp = ⟨#[46]⟩ := by decide
theorem dot_ok {s : ByteArray} (h : okW s = true) : dotE s = s := by
  have := okW.size h
  unfold dotE
  rw [if_neg (show ¬ s.size = 0 by omega)]
theorem dotE_no {s : ByteArray} (h : s = emp ∨ okW s = true) {c : UInt8} (hc : c.toNat < 33) : c ∉ (dotE s).data.toList := by
  rcases h with rfl | h
  · rw [dot_emp]
    intro k
    have : c = 46 := by simpa using k
    subst this; simp at hc
  · rw [dot_ok h]
    exact okW.no h hc
theorem words_no {e : Ev} (h : TaleEv e) {c : UInt8} (hc : c.toNat < 33) : ∀ y ∈ wordsE e, c ∉ y.data.toList := fun y hy => by
  obtain ⟨s, hs, rfl⟩ := List.mem_map.1 hy
  exact dotE_no (raw_ok h s hs) hc
theorem fmt_no10 {e : Ev} (h : TaleEv e) : (10 : UInt8) ∉ (fmtE e).data.toList := by
  have h1 := words_no h (c := 10) (by decide)
  unfold fmtE joinT
  simp only [wordsE, rawE, List.map_cons, List.map_nil, Lib.join_cons, Lib.joinTail, List.flatten_cons, List.flatten_nil] at h1 ⊢
  intro k
  simp only [List.mem_append, List.append_nil, List.mem_flatten, List.mem_cons, List.not_mem_nil, or_false, List.cons_append, List.nil_append] at k
  simp only [List.forall_mem_cons] at h1
  obtain ⟨a0, a1, a2, a3, a4, a5, a6, a7, _⟩ := h1
  have d : ¬ ((10 : UInt8) = 32) := by decide
  simp only [a0, a1, a2, a3, a4, a5, a6, a7, d, or_self] at k
theorem undot {s : ByteArray} (h : s = emp ∨ okW s = true) : (if dotE s = ⟨#[46]⟩ then emp else dotE s) = s := by
  rcases h with rfl | h
  · rw [dot_emp, if_pos rfl]
  · rw [dot_ok h, if_neg (okW.dot h)]
theorem dot_len {s : ByteArray} (h : s = emp ∨ okW s = true) : (dotE s).size ≤ 30 ∧ 1 ≤ (dotE s).size := by
  rcases h with rfl | h
  · rw [dot_emp]; decide
  · rw [dot_ok h]
    have := okW.size h
    omega
theorem fmt_len {e : Ev} (h : TaleEv e) : (fmtE e).size ≤ 300 ∧ 0 < (fmtE e).size := by
  have h1 := raw_ok h
  unfold fmtE joinT
  simp only [wordsE, rawE, List.map_cons, List.map_nil] at h1 ⊢
  simp only [List.forall_mem_cons] at h1
  obtain ⟨a0, a1, a2, a3, a4, a5, a6, a7, _⟩ := h1
  have b0 := dot_len a0
  have b1 := dot_len a1
  have b2 := dot_len a2
  have b3 := dot_len a3
  have b4 := dot_len a4
  have b5 := dot_len a5
  have b6 := dot_len a6
  have b7 := dot_len a7
  have z : ∀ s : ByteArray, s.data.toList.length = s.size := fun s => rfl
  rw [ByteArray.size, List.size_toArray, Lib.join_length]
  simp only [Lib.lens, List.length_cons, List.length_nil, List.map_cons, List.map_nil, List.sum_cons, List.sum_nil, z]
  generalize (dotE e.src).size = y0 at *
  generalize (dotE (decT e.num)).size = y1 at *
  generalize (dotE (decT e.at_)).size = y2 at *
  generalize (dotE (kindT e.kind)).size = y3 at *
  generalize (dotE e.per).size = y4 at *
  generalize (dotE e.item).size = y5 at *
  generalize (dotE (decT e.val)).size = y6 at *
  generalize (dotE e.txt).size = y7 at *
  omega
/-- the text of events, line by line -/
def txtT (L : List Ev) : ByteArray := ⟨((L.map fun e => (fmtE e).data.toList ++ [10]).flatten).toArray⟩
theorem txt_nil : txtT [] = ⟨#[]⟩ := rfl
theorem txt_cons (e : Ev) (L : List Ev) : (txtT (e :: L)).data.toList = (fmtE e).data.toList ++ 10 :: (txtT L).data.toList := by simp [txtT]
theorem txt_cut {e : Ev} (h : TaleEv e) (L : List Ev) : Lib.cut (txtT (e :: L)).data.toList [10] = ((fmtE e).data.toList, (txtT L).data.toList, true) := by
  rw [txt_cons]; exact cut_word _ _ (fmt_no10 h)
theorem txt_len : ∀ (L : List Ev), (∀ e ∈ L, TaleEv e) → (txtT L).size ≤ 301 * L.length
  | [], _ => by decide
  | e :: L, h => by
    have ih := txt_len L (fun x hx => h x (by simp [hx]))
    have h1 := (fmt_len (h e (by simp))).1
    have h2 := congrArg List.length (txt_cons e L)
    simp only [List.length_append, List.length_cons, Array.length_toList] at h2
    simp only [ByteArray.size] at h1 ih ⊢
    rw [h2, List.length_cons]; omega
end Tl
end Go.Proofs.YtbhghelegonbbaaDoor
namespace Go.Proofs.YtbhghelegonbbaaDoor
open Go.RowKit Go.MapKept Go.Maps
set_option linter.unusedVariables false
set_option linter.unusedSimpArgs false
namespace Tl
open Es
theorem emptyB (s : ByteArray) : s.toList.isEmpty = decide (s = emp) := by
  rw [Go.ByteArray.toList_eq, Bool.eq_iff_iff, List.isEmpty_iff, decide_eq_true_eq]
  exact ⟨fun h => byte_ext h, fun h => by rw [h]; rfl⟩
theorem cut_any (s sep x r : ByteArray) (w : World) (hG : Glob w) (hs : s.size < 4294967281) (h : Lib.cut s.data.toList sep.data.toList = (x.data.toList, r.data.toList, true)) :
    Calls Tryd.prog 18 #[.string s, .string sep] w fun e w' => e = .returned (.tuple #[.string x, .string r, .bool true]) ∧ Below w.heap.size w w' := by
  obtain ⟨m, hm⟩ := hG.mx
  refine (Tryd.strings_Cut s sep m w hs hm).mono ?_
  rintro e w' ⟨he, n, rfl⟩
  rw [h] at he
  exact ⟨he, bdrewN (Below.refl _ _) n⟩
def restT (b0 b1 b2 : Bool) : ByteArray := if b0 || b1 || b2 then joinT (tagsT b0 b1 b2) ⟨#[44]⟩ else emp
theorem lst_cut : ∀ k : Fin 3, ∀ b0 b1 b2, Lib.cut (lstT (numT ⟨#[109]⟩ k.val) b0 b1 b2).data.toList [59] = ((numT ⟨#[109]⟩ k.val).data.toList, (restT b0 b1 b2).data.toList, true) := by decide +kernel
theorem lst_split : ∀ b0 b1 b2, (b0 || b1 || b2) = true → Lib.countB (restT b0 b1 b2) ⟨#[44]⟩ + 1 = (tagsT b0 b1 b2).length ∧ Lib.splitB ⟨#[44]⟩ 0 (Lib.countB (restT b0 b1 b2) ⟨#[44]⟩) (restT b0 b1 b2) = tagsT b0 b1 b2 ∧ (restT b0 b1 b2).size ≤ 30 ∧ restT b0 b1 b2 ≠ emp := by decide +kernel
theorem tags_ok : ∀ b0 b1 b2, (∀ x ∈ tagsT b0 b1 b2, nameB x = true) ∧ (tagsT b0 b1 b2).length ≤ 3 ∧ ∀ i : Fin 3, ∀ x y, (tagsT b0 b1 b2)[i.val]? = some x → (tagsT b0 b1 b2)[i.val + 1]? = some y → ltB x y := by
  intro b0 b1 b2
  have h : ∀ b0 b1 b2, (tagsT b0 b1 b2).all nameB = true ∧ (tagsT b0 b1 b2).length ≤ 3 := by decide +kernel
  have h2 : ltB (numT ⟨#[116]⟩ 0) (numT ⟨#[116]⟩ 1) ∧ ltB (numT ⟨#[116]⟩ 0) (numT ⟨#[116]⟩ 2) ∧ ltB (numT ⟨#[116]⟩ 1) (numT ⟨#[116]⟩ 2) := by decide +kernel
  refine ⟨fun x hx => List.all_eq_true.1 (h b0 b1 b2).1 x hx, (h b0 b1 b2).2, ?_⟩
  intro i x y hx hy
  obtain ⟨i, hi⟩ := i
  have h3 := h2.1
  have h4 := h2.2.1
  have h5 := h2.2.2
  simp only at hx hy
  rcases (by omega : i = 0 ∨ i = 1 ∨ i = 2) with rfl | rfl | rfl <;> cases b0 <;> cases b1 <;> cases b2 <;> simp [tagsT] at hx hy <;> (try subst hx) <;> (try subst hy) <;> assumption
theorem tags_any (k : Nat) (hk : k < 3) (b0 b1 b2 : Bool) (w : World) (hG : Glob w) :
    Calls Tryd.prog 54 #[.string (lstT (numT ⟨#[109]⟩ k) b0 b1 b2)] w fun e w' => ∃ b n, e = .returned (.slice b n n) ∧ n = (tagsT b0 b1 b2).length ∧ InW w' b 1 ((tagsT b0 b1 b2).map tC) ∧ Below w.heap.size w w' := by
  have HC := Lib.hid (cut_any (lstT (numT ⟨#[109]⟩ k) b0 b1 b2) ⟨#[59]⟩ (numT ⟨#[109]⟩ k) (restT b0 b1 b2) w hG (by have := (okW.size (ok_l ⟨k, hk⟩ b0 b1 b2)).2; simp only at this; omega) (lst_cut ⟨k, hk⟩ b0 b1 b2))
  have HS : Hid ((b0 || b1 || b2) = true → ∀ W, Below w.heap.size w W → Calls Tryd.prog 37 #[.string (restT b0 b1 b2), .string ⟨#[44]⟩] W fun e w' => ∃ b, e = .returned (.slice b (tagsT b0 b1 b2).length (tagsT b0 b1 b2).length) ∧ InW w' b 1 ((tagsT b0 b1 b2).map tC) ∧ Below W.heap.size W w') := Lib.hid (fun hb W hW => by
    obtain ⟨h1, h2, h3, h4⟩ := lst_split b0 b1 b2 hb
    obtain ⟨m, hm⟩ := (hG.bel hW).mx
    refine (Tryd.strings_Split (restT b0 b1 b2) ⟨#[44]⟩ m W (by omega) hm (by decide)).mono ?_
    rintro e w' ⟨he, rfl⟩
    rw [h1] at he
    rw [h2]
    refine ⟨_, he, ?_, (Below.refl _ _).alloc (Nat.le_refl _) _⟩
    have := Bk.new W ((tagsT b0 b1 b2).map Value.string) 9
    refine .inr ⟨_, _, rfl, by simp, fun i c hi j u hj => ?_⟩
    obtain ⟨x, hx, rfl⟩ : ∃ x, (tagsT b0 b1 b2)[i]? = some x ∧ c = tC x := by
      rw [List.getElem?_map] at hi
      obtain ⟨x, h1, h2⟩ := Option.map_eq_some_iff.1 hi
      exact ⟨x, h1, h2.symm⟩
    have hj0 : j = 0 ∧ u = .string x := by
      cases j with
      | zero => exact ⟨rfl, by simpa [tC] using hj.symm⟩
      | succ j => simp [tC] at hj
    obtain ⟨rfl, rfl⟩ := hj0
    have := this.cell i
    simp [hx] at this ⊢)
  have HN : Hid ((b0 || b1 || b2) = true → restT b0 b1 b2 ≠ emp) := Lib.hid (fun h => (lst_split b0 b1 b2 h).2.2.2)
  cases hb : (b0 || b1 || b2) with
  | false =>
    have e1 : restT b0 b1 b2 = ⟨#[]⟩ := by unfold restT; rw [hb]; rfl
    have e2 : tagsT b0 b1 b2 = [] := by cases b0 <;> cases b1 <;> cases b2 <;> first | rfl | (simp at hb)
    rw [e1] at HC
    rw [e2]
    clear hb HS HN e1 e2 hG
    go_enter Tryd.func54, Tryd.ntmps54
    go_wp2_with fail
    refine HC.out.mono ?_
    rintro e w1 ⟨rfl, b1⟩
    have HB := Lib.hid b1
    clear b1 HC
    go_wp2_with fail
    go_ret
    exact ⟨_, _, rfl, rfl, .inl rfl, HB.out⟩
  | true =>
    have HS2 := Lib.hid (HS.out hb)
    have hE : (restT b0 b1 b2).toList.isEmpty = false := by rw [emptyB, decide_eq_false (HN.out hb)]
    generalize restT b0 b1 b2 = r at *
    generalize hT : tagsT b0 b1 b2 = T at *
    clear hb HS HN hT hG
    obtain ⟨n, hn⟩ : ∃ n, T.length = n := ⟨_, rfl⟩
    rw [hn] at HS2
    have HN := Lib.hid hn
    clear hn
    go_enter Tryd.func54, Tryd.ntmps54
    go_wp2_with fail
    refine HC.out.mono ?_
    rintro e w1 ⟨rfl, b1⟩
    have HB := Lib.hid b1
    clear b1 HC
    go_wp2_with fail
    refine (HS2.out w1 HB.out).mono ?_
    rintro e w2 ⟨b2, rfl, hi, b3⟩
    have HI := Lib.hid (And.intro hi (HB.out.trans (b3.mono HB.out.size)))
    clear hi b3 HS2
    go_wp2_with fail
    go_ret
    exact ⟨_, _, rfl, HN.out.symm, HI.out.1, HI.out.2⟩
set_option maxHeartbeats 4000000 in
theorem listing_any (k : Nat) (hk : k < 3) (b0 b1 b2 : Bool) (w : World) (hG : Glob w) :
    Calls Tryd.prog 41 #[.string (lstT (numT ⟨#[109]⟩ k) b0 b1 b2)] w fun e w' => e = .returned (.bool true) ∧ Below w.heap.size w w' := by
  have HC := Lib.hid (cut_any (lstT (numT ⟨#[109]⟩ k) b0 b1 b2) ⟨#[59]⟩ (numT ⟨#[109]⟩ k) (restT b0 b1 b2) w hG (by have := (okW.size (ok_l ⟨k, hk⟩ b0 b1 b2)).2; simp only at this; omega) (lst_cut ⟨k, hk⟩ b0 b1 b2))
  have HT : Hid (∀ W, Below w.heap.size w W → Calls Tryd.prog 54 #[.string (lstT (numT ⟨#[109]⟩ k) b0 b1 b2)] W fun e w' => ∃ b n, e = .returned (.slice b n n) ∧ n = (tagsT b0 b1 b2).length ∧ InW w' b 1 ((tagsT b0 b1 b2).map tC) ∧ Below W.heap.size W w') := Lib.hid (fun W hW => tags_any k hk b0 b1 b2 W (hG.bel hW))
  have HM : Hid (∀ W, Calls Tryd.prog 40 #[.string (numT ⟨#[109]⟩ k)] W fun e w' => e = .returned (.bool true) ∧ W = w') := Lib.hid (fun W => by
    have h := ename_any (numT ⟨#[109]⟩ k) W (by have := (okW.size (ok_m ⟨k, hk⟩).1).2; simp only at this; unfold maxLen; omega)
    rw [(ok_m ⟨k, hk⟩).2] at h
    exact h.mono fun e w' h => ⟨h.1, h.2⟩)
  have HN : Hid (∀ x ∈ tagsT b0 b1 b2, ∀ W, Calls Tryd.prog 40 #[.string x] W fun e w' => e = .returned (.bool true) ∧ W = w') := Lib.hid (fun x hx W => by
    have h1 := (tags_ok b0 b1 b2).1 x hx
    have h := ename_any x W (by have := nameB_size h1; unfold maxLen; omega)
    rw [h1] at h
    exact h)
  have HO := Lib.hid (tags_ok b0 b1 b2).2
  generalize numT ⟨#[109]⟩ k = m at *
  generalize restT b0 b1 b2 = r at *
  generalize lstT m b0 b1 b2 = s at *
  generalize tagsT b0 b1 b2 = T at *
  clear hG
  go_enter Tryd.func41, Tryd.ntmps41
  go_wp2_with fail
  refine HC.out.mono ?_
  rintro e w1 ⟨rfl, b1⟩
  have HB := Lib.hid b1
  clear b1 HC
  go_wp2_with fail
  refine (HM.out _).mono ?_
  rintro e w1' ⟨rfl, rfl⟩
  go_wp2_with fail
  refine (HT.out w1 HB.out).mono ?_
  rintro e w2 ⟨b, n, rfl, hn, hi, b3⟩
  have hn3 : n ≤ 3 := by rw [hn]; exact HO.out.1
  have HI := Lib.hid (And.intro hn (And.intro hi (HB.out.trans (b3.mono HB.out.size))))
  clear hn hi b3 HT HM
  go_wp2_with fail
  go_loopw [29] (fun c wr => ∃ i : Nat, i ≤ n ∧ c = .int .i64 i ∧ w2 = wr) (fun c _ => n - (intOf c).toNat)
  case atStart => exact ⟨0, by omega, rfl, rfl⟩
  case round =>
    obtain ⟨i, him, rfl, rfl⟩ := hrel
    by_cases hlt : i < n
    · obtain ⟨x, hx⟩ : ∃ x, T[i]? = some x := ⟨T[i]'(by have := HI.out.1; omega), List.getElem?_eq_getElem _⟩
      obtain ⟨B, off, rfl, hB, hc⟩ := inw_row HI.out.2.1 hx
      have k0 : w2.cell? ⟨B, off + i, none⟩ = some (.string x) := by
        have := hc w2 (Below.refl _ _) 0 _ rfl
        simpa using this
      have HNX := Lib.hid (HN.out x (List.mem_of_getElem? hx))
      have hi0' : (0 : Int) ≤ (i : Int) := by omega
      have hi1 : (i : Int) < (n : Int) := by omega
      cases i with
      | zero =>
        rw [Nat.add_zero] at k0
        clear hc hx
        go_wp2_with fail
        refine (HNX.out _).mono ?_
        rintro e w3 ⟨rfl, rfl⟩
        go_wp2_with fail
        go_roundw
        case rel => exact ⟨1, by omega, rfl, trivial⟩
        case measure => simp [intOf]; omega
      | succ j =>
        obtain ⟨y, hy⟩ : ∃ y, T[j]? = some y := ⟨T[j]'(by have := HI.out.1; omega), List.getElem?_eq_getElem _⟩
        have k1 : w2.cell? ⟨B, off + j, none⟩ = some (.string y) := by
          obtain ⟨B', off', hBB, _, hc'⟩ := inw_row HI.out.2.1 hy
          cases hBB
          have := hc' w2 (Below.refl _ _) 0 _ rfl
          simpa using this
        have hlt2 : ltB y x := HO.out.2 ⟨j, by omega⟩ y x hy hx
        have hj0 : (0 : Int) ≤ (j : Int) := by omega
        have hj1 : (j : Int) < (n : Int) := by omega
        have hbl : Op.bytesLess y.toList x.toList = true := by rw [bytesLess_lt, decide_eq_true hlt2]
        clear hc hx hy hlt2
        go_wp2_with fail
        refine (HNX.out _).mono ?_
        rintro e w3 ⟨rfl, rfl⟩
        go_wp2_with fail
        go_roundw
        case rel => exact ⟨j + 2, by omega, by go_num, trivial⟩
        case measure => simp [intOf]; omega
    · go_wp2_with fail
      go_ret
      exact ⟨rfl, HI.out.2.2⟩
end Tl
end Go.Proofs.YtbhghelegonbbaaDoor
namespace Go.Proofs.YtbhghelegonbbaaDoor
open Go.RowKit Go.MapKept Go.Maps
set_option linter.unusedVariables false
set_option linter.unusedSimpArgs false
namespace Tl
open Es
theorem name_true (s : ByteArray) (W : World) (h : nameB s = true) : Calls Tryd.prog 40 #[.string s] W fun e w' => e = .returned (.bool true) ∧ w' = W := by
  have k := ename_any s W (by have := nameB_size h; unfold maxLen; omega)
  rw [h] at k
  exact k.mono fun e w' h => ⟨h.1, h.2.symm⟩
theorem name_emp (W : World) : Calls Tryd.prog 40 #[.string ⟨#[]⟩] W fun e w' => e = .returned (.bool false) ∧ w' = W := by
  have k := ename_any ⟨#[]⟩ W (by decide)
  rw [show nameB ⟨#[]⟩ = false by decide] at k
  exact k.mono fun e w' h => ⟨h.1, h.2.symm⟩
set_option maxRecDepth 100000 in
set_option maxHeartbeats 4000000 in
theorem may_plain0 (s : ByteArray) (n a : Int) (p : ByteArray) (i : ByteArray) (w : World) (hs : nameB s = true) (hn : 1 ≤ n ∧ n ≤ 60) (ha : 0 ≤ a ∧ a ≤ 3000) (hp : nameB p = true) (hi : nameB i = true) :
    Calls Tryd.prog 21 #[.agg #[.string s, .int .i64 n, .int .i64 a, .int .i64 (0), .string p, .string i, .int .i64 0, .string ⟨#[]⟩]] w fun e w' => e = .returned (.bool true) ∧ Below w.heap.size w w' := by
  have HS := Lib.hid (fun W => name_true s W hs)
  have NZ : Hid (∀ W z r, ((z = p ∧ r = true) ∨ (z = i ∧ r = true)) → Calls Tryd.prog 40 #[.string z] W fun e w' => e = .returned (.bool r) ∧ w' = W) := Lib.hid (fun W z r hz => by
    rcases hz with ⟨rfl, rfl⟩ | ⟨rfl, rfl⟩
    · exact name_true _ _ hp
    · exact name_true _ _ hi)
  obtain ⟨hn1, hn2⟩ := hn
  obtain ⟨ha1, ha2⟩ := ha
  have n1 : ¬ n < 1 := by omega
  have n2 : ¬ 1099511627776 < n := by omega
  have a1 : ¬ a < 0 := by omega
  have a2 : ¬ 1099511627776 < a := by omega
  clear hs hp hi
  have HB := Lib.hid ((Below.refl w.heap.size w).alloc (Nat.le_refl _) (.cells #[.string s, .int .i64 n, .int .i64 a, .int .i64 (0), .string p, .string i, .int .i64 0, .string ⟨#[]⟩] 41))
  go_enter Tryd.func21, Tryd.ntmps21
  go_wp2_with fail
  refine (HS.out _).mono ?_
  rintro e w1 ⟨rfl, rfl⟩
  go_wp2_with fail
  go_quiet ((go_at_call 40; refine Calls.quiet_of_same (NZ.out _ _ _ (by first | exact .inl ⟨rfl, rfl⟩ | exact .inr ⟨rfl, rfl⟩))))
  go_wp2_with fail
  go_ret
  exact ⟨rfl, bdrewN HB.out _⟩
set_option maxRecDepth 100000 in
set_option maxHeartbeats 4000000 in
theorem may_plain1 (s : ByteArray) (n a : Int) (p : ByteArray) (i : ByteArray) (w : World) (hs : nameB s = true) (hn : 1 ≤ n ∧ n ≤ 60) (ha : 0 ≤ a ∧ a ≤ 3000) (hp : nameB p = true) (hi : nameB i = true) :
    Calls Tryd.prog 21 #[.agg #[.string s, .int .i64 n, .int .i64 a, .int .i64 (1), .string p, .string i, .int .i64 0, .string ⟨#[]⟩]] w fun e w' => e = .returned (.bool true) ∧ Below w.heap.size w w' := by
  have HS := Lib.hid (fun W => name_true s W hs)
  have NZ : Hid (∀ W z r, ((z = p ∧ r = true) ∨ (z = i ∧ r = true)) → Calls Tryd.prog 40 #[.string z] W fun e w' => e = .returned (.bool r) ∧ w' = W) := Lib.hid (fun W z r hz => by
    rcases hz with ⟨rfl, rfl⟩ | ⟨rfl, rfl⟩
    · exact name_true _ _ hp
    · exact name_true _ _ hi)
  obtain ⟨hn1, hn2⟩ := hn
  obtain ⟨ha1, ha2⟩ := ha
  have n1 : ¬ n < 1 := by omega
  have n2 : ¬ 1099511627776 < n := by omega
  have a1 : ¬ a < 0 := by omega
  have a2 : ¬ 1099511627776 < a := by omega
  clear hs hp hi
  have HB := Lib.hid ((Below.refl w.heap.size w).alloc (Nat.le_refl _) (.cells #[.string s, .int .i64 n, .int .i64 a, .int .i64 (1), .string p, .string i, .int .i64 0, .string ⟨#[]⟩] 41))
  go_enter Tryd.func21, Tryd.ntmps21
  go_wp2_with fail
  refine (HS.out _).mono ?_
  rintro e w1 ⟨rfl, rfl⟩
  go_wp2_with fail
  go_quiet ((go_at_call 40; refine Calls.quiet_of_same (NZ.out _ _ _ (by first | exact .inl ⟨rfl, rfl⟩ | exact .inr ⟨rfl, rfl⟩))))
  go_wp2_with fail
  go_ret
  exact ⟨rfl, bdrewN HB.out _⟩
set_option maxRecDepth 100000 in
set_option maxHeartbeats 4000000 in
theorem may_plain2 (s : ByteArray) (n a : Int) (p : ByteArray) (i : ByteArray) (w : World) (hs : nameB s = true) (hn : 1 ≤ n ∧ n ≤ 60) (ha : 0 ≤ a ∧ a ≤ 3000) (hp : nameB p = true) (hi : nameB i = true) :
    Calls Tryd.prog 21 #[.agg #[.string s, .int .i64 n, .int .i64 a, .int .i64 (2), .string p, .string i, .int .i64 0, .string ⟨#[]⟩]] w fun e w' => e = .returned (.bool true) ∧ Below w.heap.size w w' := by
  have HS := Lib.hid (fun W => name_true s W hs)
  have NZ : Hid (∀ W z r, ((z = p ∧ r = true) ∨ (z = i ∧ r = true)) → Calls Tryd.prog 40 #[.string z] W fun e w' => e = .returned (.bool r) ∧ w' = W) := Lib.hid (fun W z r hz => by
    rcases hz with ⟨rfl, rfl⟩ | ⟨rfl, rfl⟩
    · exact name_true _ _ hp
    · exact name_true _ _ hi)
  obtain ⟨hn1, hn2⟩ := hn
  obtain ⟨ha1, ha2⟩ := ha
  have n1 : ¬ n < 1 := by omega
  have n2 : ¬ 1099511627776 < n := by omega
  have a1 : ¬ a < 0 := by omega
  have a2 : ¬ 1099511627776 < a := by omega
  clear hs hp hi
  have HB := Lib.hid ((Below.refl w.heap.size w).alloc (Nat.le_refl _) (.cells #[.string s, .int .i64 n, .int .i64 a, .int .i64 (2), .string p, .string i, .int .i64 0, .string ⟨#[]⟩] 41))
  go_enter Tryd.func21, Tryd.ntmps21
  go_wp2_with fail
  refine (HS.out _).mono ?_
  rintro e w1 ⟨rfl, rfl⟩
  go_wp2_with fail
  go_quiet ((go_at_call 40; refine Calls.quiet_of_same (NZ.out _ _ _ (by first | exact .inl ⟨rfl, rfl⟩ | exact .inr ⟨rfl, rfl⟩))))
  go_wp2_with fail
  go_ret
  exact ⟨rfl, bdrewN HB.out _⟩
set_option maxRecDepth 100000 in
set_option maxHeartbeats 4000000 in
theorem may_plain3 (s : ByteArray) (n a : Int) (p : ByteArray) (i : ByteArray) (w : World) (hs : nameB s = true) (hn : 1 ≤ n ∧ n ≤ 60) (ha : 0 ≤ a ∧ a ≤ 3000) (hp : nameB p = true) (hi : nameB i = true) :
    Calls Tryd.prog 21 #[.agg #[.string s, .int .i64 n, .int .i64 a, .int .i64 (3), .string p, .string i, .int .i64 0, .string ⟨#[]⟩]] w fun e w' => e = .returned (.bool true) ∧ Below w.heap.size w w' := by
  have HS := Lib.hid (fun W => name_true s W hs)
  have NZ : Hid (∀ W z r, ((z = p ∧ r = true) ∨ (z = i ∧ r = true)) → Calls Tryd.prog 40 #[.string z] W fun e w' => e = .returned (.bool r) ∧ w' = W) := Lib.hid (fun W z r hz => by
    rcases hz with ⟨rfl, rfl⟩ | ⟨rfl, rfl⟩
    · exact name_true _ _ hp
    · exact name_true _ _ hi)
  obtain ⟨hn1, hn2⟩ := hn
  obtain ⟨ha1, ha2⟩ := ha
  have n1 : ¬ n < 1 := by omega
  have n2 : ¬ 1099511627776 < n := by omega
  have a1 : ¬ a < 0 := by omega
  have a2 : ¬ 1099511627776 < a := by omega
  clear hs hp hi
  have HB := Lib.hid ((Below.refl w.heap.size w).alloc (Nat.le_refl _) (.cells #[.string s, .int .i64 n, .int .i64 a, .int .i64 (3), .string p, .string i, .int .i64 0, .string ⟨#[]⟩] 41))
  go_enter Tryd.func21, Tryd.ntmps21
  go_wp2_with fail
  refine (HS.out _).mono ?_
  rintro e w1 ⟨rfl, rfl⟩
  go_wp2_with fail
  go_quiet ((go_at_call 40; refine Calls.quiet_of_same (NZ.out _ _ _ (by first | exact .inl ⟨rfl, rfl⟩ | exact .inr ⟨rfl, rfl⟩))))
  go_wp2_with fail
  go_ret
  exact ⟨rfl, bdrewN HB.out _⟩
set_option maxRecDepth 100000 in
set_option maxHeartbeats 4000000 in
theorem may_plain5 (s : ByteArray) (n a : Int) (p : ByteArray) (i : ByteArray) (w : World) (hs : nameB s = true) (hn : 1 ≤ n ∧ n ≤ 60) (ha : 0 ≤ a ∧ a ≤ 3000) (hp : nameB p = true) (hi : nameB i = true) :
    Calls Tryd.prog 21 #[.agg #[.string s, .int .i64 n, .int .i64 a, .int .i64 (5), .string p, .string i, .int .i64 0, .string ⟨#[]⟩]] w fun e w' => e = .returned (.bool true) ∧ Below w.heap.size w w' := by
  have HS := Lib.hid (fun W => name_true s W hs)
  have NZ : Hid (∀ W z r, ((z = p ∧ r = true) ∨ (z = i ∧ r = true)) → Calls Tryd.prog 40 #[.string z] W fun e w' => e = .returned (.bool r) ∧ w' = W) := Lib.hid (fun W z r hz => by
    rcases hz with ⟨rfl, rfl⟩ | ⟨rfl, rfl⟩
    · exact name_true _ _ hp
    · exact name_true _ _ hi)
  obtain ⟨hn1, hn2⟩ := hn
  obtain ⟨ha1, ha2⟩ := ha
  have n1 : ¬ n < 1 := by omega
  have n2 : ¬ 1099511627776 < n := by omega
  have a1 : ¬ a < 0 := by omega
  have a2 : ¬ 1099511627776 < a := by omega
  clear hs hp hi
  have HB := Lib.hid ((Below.refl w.heap.size w).alloc (Nat.le_refl _) (.cells #[.string s, .int .i64 n, .int .i64 a, .int .i64 (5), .string p, .string i, .int .i64 0, .string ⟨#[]⟩] 41))
  go_enter Tryd.func21, Tryd.ntmps21
  go_wp2_with fail
  refine (HS.out _).mono ?_
  rintro e w1 ⟨rfl, rfl⟩
  go_wp2_with fail
  go_quiet ((go_at_call 40; refine Calls.quiet_of_same (NZ.out _ _ _ (by first | exact .inl ⟨rfl, rfl⟩ | exact .inr ⟨rfl, rfl⟩))))
  go_wp2_with fail
  go_ret
  exact ⟨rfl, bdrewN HB.out _⟩
set_option maxRecDepth 100000 in
set_option maxHeartbeats 4000000 in
theorem may_plain6 (s : ByteArray) (n a : Int) (p : ByteArray) (i : ByteArray) (w : World) (hs : nameB s = true) (hn : 1 ≤ n ∧ n ≤ 60) (ha : 0 ≤ a ∧ a ≤ 3000) (hp : nameB p = true) (hi : nameB i = true) :
    Calls Tryd.prog 21 #[.agg #[.string s, .int .i64 n, .int .i64 a, .int .i64 (6), .string p, .string i, .int .i64 0, .string ⟨#[]⟩]] w fun e w' => e = .returned (.bool true) ∧ Below w.heap.size w w' := by
  have HS := Lib.hid (fun W => name_true s W hs)
  have NZ : Hid (∀ W z r, ((z = p ∧ r = true) ∨ (z = i ∧ r = true)) → Calls Tryd.prog 40 #[.string z] W fun e w' => e = .returned (.bool r) ∧ w' = W) := Lib.hid (fun W z r hz => by
    rcases hz with ⟨rfl, rfl⟩ | ⟨rfl, rfl⟩
    · exact name_true _ _ hp
    · exact name_true _ _ hi)
  obtain ⟨hn1, hn2⟩ := hn
  obtain ⟨ha1, ha2⟩ := ha
  have n1 : ¬ n < 1 := by omega
  have n2 : ¬ 1099511627776 < n := by omega
  have a1 : ¬ a < 0 := by omega
  have a2 : ¬ 1099511627776 < a := by omega
  clear hs hp hi
  have HB := Lib.hid ((Below.refl w.heap.size w).alloc (Nat.le_refl _) (.cells #[.string s, .int .i64 n, .int .i64 a, .int .i64 (6), .string p, .string i, .int .i64 0, .string ⟨#[]⟩] 41))
  go_enter Tryd.func21, Tryd.ntmps21
  go_wp2_with fail
  refine (HS.out _).mono ?_
  rintro e w1 ⟨rfl, rfl⟩
  go_wp2_with fail
  go_quiet ((go_at_call 40; refine Calls.quiet_of_same (NZ.out _ _ _ (by first | exact .inl ⟨rfl, rfl⟩ | exact .inr ⟨rfl, rfl⟩))))
  go_wp2_with fail
  go_ret
  exact ⟨rfl, bdrewN HB.out _⟩
set_option maxRecDepth 100000 in
set_option maxHeartbeats 4000000 in
theorem may_rated (s : ByteArray) (n a : Int) (p : ByteArray) (i : ByteArray) (v : Int) (w : World) (hs : nameB s = true) (hn : 1 ≤ n ∧ n ≤ 60) (ha : 0 ≤ a ∧ a ≤ 3000) (hp : nameB p = true) (hi : nameB i = true) (hv : 1 ≤ v ∧ v ≤ 5) :
    Calls Tryd.prog 21 #[.agg #[.string s, .int .i64 n, .int .i64 a, .int .i64 (4), .string p, .string i, .int .i64 v, .string ⟨#[]⟩]] w fun e w' => e = .returned (.bool true) ∧ Below w.heap.size w w' := by
  have HS := Lib.hid (fun W => name_true s W hs)
  have NZ : Hid (∀ W z r, ((z = p ∧ r = true) ∨ (z = i ∧ r = true)) → Calls Tryd.prog 40 #[.string z] W fun e w' => e = .returned (.bool r) ∧ w' = W) := Lib.hid (fun W z r hz => by
    rcases hz with ⟨rfl, rfl⟩ | ⟨rfl, rfl⟩
    · exact name_true _ _ hp
    · exact name_true _ _ hi)
  obtain ⟨hn1, hn2⟩ := hn
  obtain ⟨ha1, ha2⟩ := ha
  have n1 : ¬ n < 1 := by omega
  have n2 : ¬ 1099511627776 < n := by omega
  have a1 : ¬ a < 0 := by omega
  have a2 : ¬ 1099511627776 < a := by omega
  obtain ⟨hv1, hv2⟩ := hv
  have v1 : ¬ 1048576 < v := by omega
  clear hs hp hi
  have HB := Lib.hid ((Below.refl w.heap.size w).alloc (Nat.le_refl _) (.cells #[.string s, .int .i64 n, .int .i64 a, .int .i64 (4), .string p, .string i, .int .i64 v, .string ⟨#[]⟩] 41))
  go_enter Tryd.func21, Tryd.ntmps21
  go_wp2_with fail
  refine (HS.out _).mono ?_
  rintro e w1 ⟨rfl, rfl⟩
  go_wp2_with fail
  go_quiet ((go_at_call 40; refine Calls.quiet_of_same (NZ.out _ _ _ (by first | exact .inl ⟨rfl, rfl⟩ | exact .inr ⟨rfl, rfl⟩))))
  go_wp2_with fail
  go_ret
  exact ⟨rfl, bdrewN HB.out _⟩
set_option maxRecDepth 100000 in
set_option maxHeartbeats 4000000 in
theorem may_follow7 (s : ByteArray) (n a : Int) (p : ByteArray) (x : ByteArray) (w : World) (hs : nameB s = true) (hn : 1 ≤ n ∧ n ≤ 60) (ha : 0 ≤ a ∧ a ≤ 3000) (hp : nameB p = true) (hx : nameB x = true) :
    Calls Tryd.prog 21 #[.agg #[.string s, .int .i64 n, .int .i64 a, .int .i64 (7), .string p, .string ⟨#[]⟩, .int .i64 0, .string x]] w fun e w' => e = .returned (.bool true) ∧ Below w.heap.size w w' := by
  have HS := Lib.hid (fun W => name_true s W hs)
  have NZ : Hid (∀ W z r, ((z = p ∧ r = true) ∨ (z = ⟨#[]⟩ ∧ r = false)) → Calls Tryd.prog 40 #[.string z] W fun e w' => e = .returned (.bool r) ∧ w' = W) := Lib.hid (fun W z r hz => by
    rcases hz with ⟨rfl, rfl⟩ | ⟨rfl, rfl⟩
    · exact name_true _ _ hp
    · exact name_emp _)
  have HXN := Lib.hid (fun W => name_true x W hx)
  have hE : x.toList.isEmpty = false := by rw [emptyB, decide_eq_false (by have := nameB_size hx; intro e; subst e; exact absurd this.1 (by decide))]
  obtain ⟨hn1, hn2⟩ := hn
  obtain ⟨ha1, ha2⟩ := ha
  have n1 : ¬ n < 1 := by omega
  have n2 : ¬ 1099511627776 < n := by omega
  have a1 : ¬ a < 0 := by omega
  have a2 : ¬ 1099511627776 < a := by omega
  clear hs hp hx
  have HB := Lib.hid ((Below.refl w.heap.size w).alloc (Nat.le_refl _) (.cells #[.string s, .int .i64 n, .int .i64 a, .int .i64 (7), .string p, .string ⟨#[]⟩, .int .i64 0, .string x] 41))
  go_enter Tryd.func21, Tryd.ntmps21
  go_wp2_with fail
  refine (HS.out _).mono ?_
  rintro e w1 ⟨rfl, rfl⟩
  go_wp2_with fail
  go_quiet ((go_at_call 40; refine Calls.quiet_of_same (NZ.out _ _ _ (by first | exact .inl ⟨rfl, rfl⟩ | exact .inr ⟨rfl, rfl⟩))))
  go_wp2_with fail
  refine (HXN.out _).mono ?_
  rintro e w2 ⟨rfl, rfl⟩
  go_wp2_with fail
  go_ret
  exact ⟨rfl, bdrewN HB.out _⟩
set_option maxRecDepth 100000 in
set_option maxHeartbeats 4000000 in
theorem may_follow9 (s : ByteArray) (n a : Int) (p : ByteArray) (x : ByteArray) (w : World) (hs : nameB s = true) (hn : 1 ≤ n ∧ n ≤ 60) (ha : 0 ≤ a ∧ a ≤ 3000) (hp : nameB p = true) (hx : nameB x = true) :
    Calls Tryd.prog 21 #[.agg #[.string s, .int .i64 n, .int .i64 a, .int .i64 (9), .string p, .string ⟨#[]⟩, .int .i64 0, .string x]] w fun e w' => e = .returned (.bool true) ∧ Below w.heap.size w w' := by
  have HS := Lib.hid (fun W => name_true s W hs)
  have NZ : Hid (∀ W z r, ((z = p ∧ r = true) ∨ (z = ⟨#[]⟩ ∧ r = false)) → Calls Tryd.prog 40 #[.string z] W fun e w' => e = .returned (.bool r) ∧ w' = W) := Lib.hid (fun W z r hz => by
    rcases hz with ⟨rfl, rfl⟩ | ⟨rfl, rfl⟩
    · exact name_true _ _ hp
    · exact name_emp _)
  have HXN := Lib.hid (fun W => name_true x W hx)
  have hE : x.toList.isEmpty = false := by rw [emptyB, decide_eq_false (by have := nameB_size hx; intro e; subst e; exact absurd this.1 (by decide))]
  obtain ⟨hn1, hn2⟩ := hn
  obtain ⟨ha1, ha2⟩ := ha
  have n1 : ¬ n < 1 := by omega
  have n2 : ¬ 1099511627776 < n := by omega
  have a1 : ¬ a < 0 := by omega
  have a2 : ¬ 1099511627776 < a := by omega
  clear hs hp hx
  have HB := Lib.hid ((Below.refl w.heap.size w).alloc (Nat.le_refl _) (.cells #[.string s, .int .i64 n, .int .i64 a, .int .i64 (9), .string p, .string ⟨#[]⟩, .int .i64 0, .string x] 41))
  go_enter Tryd.func21, Tryd.ntmps21
  go_wp2_with fail
  refine (HS.out _).mono ?_
  rintro e w1 ⟨rfl, rfl⟩
  go_wp2_with fail
  go_quiet ((go_at_call 40; refine Calls.quiet_of_same (NZ.out _ _ _ (by first | exact .inl ⟨rfl, rfl⟩ | exact .inr ⟨rfl, rfl⟩))))
  go_wp2_with fail
  refine (HXN.out _).mono ?_
  rintro e w2 ⟨rfl, rfl⟩
  go_wp2_with fail
  go_ret
  exact ⟨rfl, bdrewN HB.out _⟩
set_option maxRecDepth 100000 in
set_option maxHeartbeats 4000000 in
theorem may_listed (s : ByteArray) (n a : Int) (i : ByteArray) (x : ByteArray) (v : Int) (w : World) (hs : nameB s = true) (hn : 1 ≤ n ∧ n ≤ 60) (ha : 0 ≤ a ∧ a ≤ 3000) (hi : nameB i = true) (hx : ∀ W, Below w.heap.size w W → Calls Tryd.prog 41 #[.string x] W fun e w' => e = .returned (.bool true) ∧ Below W.heap.size W w') (hv : 0 ≤ v ∧ v ≤ 255) :
    Calls Tryd.prog 21 #[.agg #[.string s, .int .i64 n, .int .i64 a, .int .i64 (11), .string ⟨#[]⟩, .string i, .int .i64 v, .string x]] w fun e w' => e = .returned (.bool true) ∧ Below w.heap.size w w' := by
  have HS := Lib.hid (fun W => name_true s W hs)
  have NZ : Hid (∀ W z r, ((z = ⟨#[]⟩ ∧ r = false) ∨ (z = i ∧ r = true)) → Calls Tryd.prog 40 #[.string z] W fun e w' => e = .returned (.bool r) ∧ w' = W) := Lib.hid (fun W z r hz => by
    rcases hz with ⟨rfl, rfl⟩ | ⟨rfl, rfl⟩
    · exact name_emp _
    · exact name_true _ _ hi)
  have HXL := Lib.hid hx
  obtain ⟨eb, hE⟩ : ∃ eb, x.toList.isEmpty = eb := ⟨_, rfl⟩
  obtain ⟨hn1, hn2⟩ := hn
  obtain ⟨ha1, ha2⟩ := ha
  have n1 : ¬ n < 1 := by omega
  have n2 : ¬ 1099511627776 < n := by omega
  have a1 : ¬ a < 0 := by omega
  have a2 : ¬ 1099511627776 < a := by omega
  obtain ⟨hv1, hv2⟩ := hv
  have v1 : ¬ 1048576 < v := by omega
  clear hs hi hx
  have HB := Lib.hid ((Below.refl w.heap.size w).alloc (Nat.le_refl _) (.cells #[.string s, .int .i64 n, .int .i64 a, .int .i64 (11), .string ⟨#[]⟩, .string i, .int .i64 v, .string x] 41))
  go_enter Tryd.func21, Tryd.ntmps21
  go_wp2_with fail
  refine (HS.out _).mono ?_
  rintro e w1 ⟨rfl, rfl⟩
  go_wp2_with fail
  go_quiet ((go_at_call 40; refine Calls.quiet_of_same (NZ.out _ _ _ (by first | exact .inl ⟨rfl, rfl⟩ | exact .inr ⟨rfl, rfl⟩))))
  go_wp2_with fail
  refine (HXL.out _ (bdrewN HB.out _)).mono ?_
  rintro e w2 ⟨rfl, b2⟩
  have HB2 := Lib.hid b2
  clear b2
  go_wp2_with fail
  go_ret
  exact ⟨rfl, (bdrewN HB.out _).trans (HB2.out.mono (bdrewN HB.out _).size)⟩
set_option maxRecDepth 100000 in
set_option maxHeartbeats 4000000 in
theorem may_stocked (s : ByteArray) (n a : Int) (i : ByteArray) (v : Int) (w : World) (hs : nameB s = true) (hn : 1 ≤ n ∧ n ≤ 60) (ha : 0 ≤ a ∧ a ≤ 3000) (hi : nameB i = true) (hv : 0 ≤ v ∧ v ≤ 2) :
    Calls Tryd.prog 21 #[.agg #[.string s, .int .i64 n, .int .i64 a, .int .i64 (12), .string ⟨#[]⟩, .string i, .int .i64 v, .string ⟨#[]⟩]] w fun e w' => e = .returned (.bool true) ∧ Below w.heap.size w w' := by
  have HS := Lib.hid (fun W => name_true s W hs)
  have NZ : Hid (∀ W z r, ((z = ⟨#[]⟩ ∧ r = false) ∨ (z = i ∧ r = true)) → Calls Tryd.prog 40 #[.string z] W fun e w' => e = .returned (.bool r) ∧ w' = W) := Lib.hid (fun W z r hz => by
    rcases hz with ⟨rfl, rfl⟩ | ⟨rfl, rfl⟩
    · exact name_emp _
    · exact name_true _ _ hi)
  obtain ⟨hn1, hn2⟩ := hn
  obtain ⟨ha1, ha2⟩ := ha
  have n1 : ¬ n < 1 := by omega
  have n2 : ¬ 1099511627776 < n := by omega
  have a1 : ¬ a < 0 := by omega
  have a2 : ¬ 1099511627776 < a := by omega
  obtain ⟨hv1, hv2⟩ := hv
  have v1 : ¬ 1048576 < v := by omega
  clear hs hi
  have HB := Lib.hid ((Below.refl w.heap.size w).alloc (Nat.le_refl _) (.cells #[.string s, .int .i64 n, .int .i64 a, .int .i64 (12), .string ⟨#[]⟩, .string i, .int .i64 v, .string ⟨#[]⟩] 41))
  go_enter Tryd.func21, Tryd.ntmps21
  go_wp2_with fail
  refine (HS.out _).mono ?_
  rintro e w1 ⟨rfl, rfl⟩
  go_wp2_with fail
  go_quiet ((go_at_call 40; refine Calls.quiet_of_same (NZ.out _ _ _ (by first | exact .inl ⟨rfl, rfl⟩ | exact .inr ⟨rfl, rfl⟩))))
  go_wp2_with fail
  go_ret
  exact ⟨rfl, bdrewN HB.out _⟩
set_option maxRecDepth 100000 in
set_option maxHeartbeats 4000000 in
theorem may_delisted (s : ByteArray) (n a : Int) (i : ByteArray) (w : World) (hs : nameB s = true) (hn : 1 ≤ n ∧ n ≤ 60) (ha : 0 ≤ a ∧ a ≤ 3000) (hi : nameB i = true) :
    Calls Tryd.prog 21 #[.agg #[.string s, .int .i64 n, .int .i64 a, .int .i64 (13), .string ⟨#[]⟩, .string i, .int .i64 0, .string ⟨#[]⟩]] w fun e w' => e = .returned (.bool true) ∧ Below w.heap.size w w' := by
  have HS := Lib.hid (fun W => name_true s W hs)
  have NZ : Hid (∀ W z r, ((z = ⟨#[]⟩ ∧ r = false) ∨ (z = i ∧ r = true)) → Calls Tryd.prog 40 #[.string z] W fun e w' => e = .returned (.bool r) ∧ w' = W) := Lib.hid (fun W z r hz => by
    rcases hz with ⟨rfl, rfl⟩ | ⟨rfl, rfl⟩
    · exact name_emp _
    · exact name_true _ _ hi)
  obtain ⟨hn1, hn2⟩ := hn
  obtain ⟨ha1, ha2⟩ := ha
  have n1 : ¬ n < 1 := by omega
  have n2 : ¬ 1099511627776 < n := by omega
  have a1 : ¬ a < 0 := by omega
  have a2 : ¬ 1099511627776 < a := by omega
  clear hs hi
  have HB := Lib.hid ((Below.refl w.heap.size w).alloc (Nat.le_refl _) (.cells #[.string s, .int .i64 n, .int .i64 a, .int .i64 (13), .string ⟨#[]⟩, .string i, .int .i64 0, .string ⟨#[]⟩] 41))
  go_enter Tryd.func21, Tryd.ntmps21
  go_wp2_with fail
  refine (HS.out _).mono ?_
  rintro e w1 ⟨rfl, rfl⟩
  go_wp2_with fail
  go_quiet ((go_at_call 40; refine Calls.quiet_of_same (NZ.out _ _ _ (by first | exact .inl ⟨rfl, rfl⟩ | exact .inr ⟨rfl, rfl⟩))))
  go_wp2_with fail
  go_ret
  exact ⟨rfl, bdrewN HB.out _⟩
theorem per_name {s : ByteArray} (h : PerT s) : nameB s = true := by obtain ⟨k, hk, e⟩ := h; rw [e]; exact (ok_p ⟨k, hk⟩).2
theorem item_name {s : ByteArray} (h : ItemT s) : nameB s = true := by obtain ⟨k, hk, e⟩ := h; rw [e]; exact (ok_i ⟨k, hk⟩).2
theorem mak_name {s : ByteArray} (h : MakT s) : nameB s = true := by obtain ⟨k, hk, e⟩ := h; rw [e]; exact (ok_m ⟨k, hk⟩).2
theorem src_name {e : Ev} (h : TaleEv e) : nameB e.src = true := by obtain ⟨k, hk, e'⟩ := h.src; rw [e']; exact (ok_s ⟨k, hk⟩).2
/-- any event of a tale may be -/
theorem may_any {e : Ev} (h : TaleEv e) (w : World) (hG : Glob w) : Calls Tryd.prog 21 #[evV e] w fun r w' => r = .returned (.bool true) ∧ Below w.heap.size w w' := by
  have hs := src_name h
  have hn := h.num
  have ha := h.at_
  obtain ⟨s, n, a, k, p, i, v, x⟩ := e
  cases h.shp with
  | plain hk hp hi hv hx =>
    simp only at hs hn ha hk hp hi hv hx
    subst hv hx
    rcases hk with rfl | rfl | rfl | rfl | rfl | rfl
    · exact may_plain0 s n a p i w hs hn ha (per_name hp) (item_name hi)
    · exact may_plain1 s n a p i w hs hn ha (per_name hp) (item_name hi)
    · exact may_plain2 s n a p i w hs hn ha (per_name hp) (item_name hi)
    · exact may_plain3 s n a p i w hs hn ha (per_name hp) (item_name hi)
    · exact may_plain5 s n a p i w hs hn ha (per_name hp) (item_name hi)
    · exact may_plain6 s n a p i w hs hn ha (per_name hp) (item_name hi)
  | rated hk hp hi hv hx =>
    simp only at hs hn ha hk hp hi hv hx
    subst hx hk
    exact may_rated s n a p i v w hs hn ha (per_name hp) (item_name hi) hv
  | follow hk hp hi hv hx =>
    simp only at hs hn ha hk hp hi hv hx
    subst hv hi
    rcases hk with rfl | rfl
    · exact may_follow7 s n a p x w hs hn ha (per_name hp) (mak_name hx)
    · exact may_follow9 s n a p x w hs hn ha (per_name hp) (mak_name hx)
  | listed hk hp hi hv hx =>
    simp only at hs hn ha hk hp hi hv hx
    subst hk hp
    obtain ⟨m, b0, b1, b2, ⟨j, hj, rfl⟩, rfl⟩ := hx
    exact may_listed s n a i _ v w hs hn ha (item_name hi) (fun W hW => listing_any j hj b0 b1 b2 W (hG.bel hW)) hv
  | stocked hk hp hi hv hx =>
    simp only at hs hn ha hk hp hi hv hx
    subst hk hp hx
    exact may_stocked s n a i v w hs hn ha (item_name hi) hv
  | delisted hk hp hi hv hx =>
    simp only at hs hn ha hk hp hi hv hx
    subst hk hp hx hv
    exact may_delisted s n a i w hs hn ha (item_name hi)
end Tl
end Go.Proofs.YtbhghelegonbbaaDoor

/- Trial.Arm. -/
import Derived.Test.YtkjcgeaoiabkjaaTMay
import Derived.BigQuiet
import Derived.Test.YtkjcgeaoiabkjaaHeld
import Derived.Deep.RegionWith
namespace Go.Proofs.Ytkjcgeaoiabkjaa
open Go.RowKit Go.ChangeShapes Go.WideShapes
set_option linter.unusedVariables false
set_option linter.unusedSimpArgs false
/-- a person's arm -/
def armIn (ly : ByteArray) (f t : Int) (pn : ByteArray) : Bool := decide (f ≤ (bucketF ly pn : Int)) && decide ((bucketF ly pn : Int) < t)
def armOf (nm : ByteArray) (arms : List ByteArray) (pn : ByteArray) : ByteArray := arms.getD (belowF (dhash 2 [nm, pn]).toNat arms.length) ByteArray.empty
def armV (nm ly : ByteArray) (f t : Int) (arms : List ByteArray) (pn : ByteArray) : Value := if armIn ly f t pn then .tuple #[.string (armOf nm arms pn), .bool true] else .tuple #[.string ⟨#[]⟩, .bool false]
set_option maxHeartbeats 3000000 in
theorem tarm_any (nm ly : ByteArray) (f t : Int) (b : Option Addr) (cap : Nat) (arms : List ByteArray) (pn : ByteArray) (w : World) (hi : InW w b 1 (arms.map fun s => [.string s])) (hl : arms.length ≤ cap) (hm : cap ≤ maxLen) (ok : TrOk nm ly f t arms) (hp : pn.size ≤ maxLen) :
    Calls Try.prog 14 #[.agg #[.string nm, .string ly, .int .i64 f, .int .i64 t, .slice b arms.length cap], .string pn] w fun e w' => e = .returned (armV nm ly f t arms pn) ∧ Below w.heap.size w w' := by
  have HB : Hid (Below w.heap.size w (w.alloc (.cells #[.string nm, .string ly, .int .i64 f, .int .i64 t, .slice b arms.length cap] 41))) := Lib.hid ((Below.refl _ _).alloc (Nat.le_refl _) _)
  obtain ⟨B, off, rfl, hB, hc⟩ := txts_of hi ok.a1
  have HC := Lib.hid hc
  have HLB := Lib.hid hB
  have HMY := Lib.hid (tmay_any nm ly f t (some ⟨B, off, none⟩) cap arms _ (hi.bel HB.out) hl hm ok)
  have HBX := Lib.hid (Bk.new w [.string nm, .string ly, .int .i64 f, .int .i64 t, .slice (some ⟨B, off, none⟩) arms.length cap] 41)
  have HBU : Hid (∀ W, Calls Try.prog 15 #[.string ly, .string pn] W fun e w' => e = .returned (.int .i64 (bucketF ly pn : Nat)) ∧ Below W.heap.size W w') := Lib.hid (fun W => bucket_any ly pn W (nameB_max ok.l) hp)
  have hbl := bucketF_lt ly pn
  obtain ⟨g, hg⟩ : ∃ g, (dhash 2 [nm, pn]).toNat = g := ⟨_, rfl⟩
  have hgl := dhash_lt 2 [nm, pn]
  rw [hg] at hgl
  have HH : Hid (∀ W k T, Bk W k [.string nm, .string pn] T → Calls Try.prog 27 #[.int .u64 2, .slice (some ⟨k, 0, none⟩) 2 2] W fun e w' => e = .returned (.int .u64 (g : Int)) ∧ W = w') := Lib.hid (fun W k T hk => by
    have h := dhash_any 2 (some ⟨k, 0, none⟩) 2 [nm, pn] W (by omega) (by omega) (bk_inw (xs := [nm, pn]) hk) (by simp) (by unfold maxLen; omega) (by intro s hs; simp at hs; rcases hs with rfl | rfl; exact nameB_max ok.n; exact hp)
    rw [hgl.2] at h
    exact h)
  have HLO : Hid (∀ W, Calls Try.prog 26 #[.int .u64 (g : Int), .int .i64 (arms.length : Nat)] W fun e w' => e = .returned (.int .i64 (belowF g arms.length : Nat)) ∧ W = w') := Lib.hid (fun W => below_any g arms.length W hgl.1 ok.a1 (by have := ok.a2; omega))
  have hr := belowF_lt hgl.1 ok.a1
  obtain ⟨a, hA⟩ : ∃ a, armOf nm arms pn = a := ⟨_, rfl⟩
  have ca := HC.out _ hr
  have hA2 : arms.getD (belowF g arms.length) ByteArray.empty = a := by rw [← hA, armOf, hg]
  rw [hA2] at ca
  unfold armV armIn
  rw [hA]
  generalize hbk : bucketF ly pn = bk at *
  clear hA hA2 hg hgl hbk hi HC
  obtain ⟨_, _, p1, p2, p3, p4, p5, _, _⟩ := ok
  unfold maxLen at hm
  generalize belowF g arms.length = r at *
  generalize arms.length = n at *
  have HCA : Hid (w.cell? ⟨B, off + r, none⟩ = some (.string a)) := Lib.hid ca
  clear ca
  by_cases c1 : (bk : Int) < f
  · have t1 : decide ((bk : Int) < f) = true := decide_eq_true c1
    rw [decide_eq_false (by omega : ¬ f ≤ (bk : Int)), Bool.false_and, if_neg (by simp)]
    clear c1
    go_enter Try.func14, Try.ntmps14
    go_wp2_with fail
    refine HMY.out.mono ?_
    rintro e w1 ⟨rfl, b1⟩
    have HB1 := Lib.hid (HB.out.trans (b1.mono HB.out.size))
    have HX1 := Lib.hid (HBX.out.bel b1)
    have x1 : w1.cell? ⟨w.heap.size, 1, none⟩ = some (.string ly) := HX1.out.cell 1
    clear b1 HMY HBX HB
    go_wp2_with fail
    refine (HBU.out w1).mono ?_
    rintro e w2 ⟨rfl, b2⟩
    have HB2 := Lib.hid (HB1.out.trans (b2.mono HB1.out.size))
    have HX2 := Lib.hid (HX1.out.bel b2)
    have x2 : w2.cell? ⟨w.heap.size, 2, none⟩ = some (.int .i64 f) := HX2.out.cell 2
    have x3 : w2.cell? ⟨w.heap.size, 3, none⟩ = some (.int .i64 t) := HX2.out.cell 3
    clear b2 x1 HX1 HB1 HBU
    go_wp2_with fail
    go_ret2
    exact ⟨rfl, HB2.out⟩
  · have t1 : decide ((bk : Int) < f) = false := decide_eq_false c1
    by_cases c2 : t ≤ (bk : Int)
    · have t2 : decide (t ≤ (bk : Int)) = true := decide_eq_true c2
      rw [decide_eq_false (by omega : ¬ (bk : Int) < t), Bool.and_false, if_neg (by simp)]
      clear c1 c2
      go_enter Try.func14, Try.ntmps14
      go_wp2_with fail
      refine HMY.out.mono ?_
      rintro e w1 ⟨rfl, b1⟩
      have HB1 := Lib.hid (HB.out.trans (b1.mono HB.out.size))
      have HX1 := Lib.hid (HBX.out.bel b1)
      have x1 : w1.cell? ⟨w.heap.size, 1, none⟩ = some (.string ly) := HX1.out.cell 1
      clear b1 HMY HBX HB
      go_wp2_with fail
      refine (HBU.out w1).mono ?_
      rintro e w2 ⟨rfl, b2⟩
      have HB2 := Lib.hid (HB1.out.trans (b2.mono HB1.out.size))
      have HX2 := Lib.hid (HX1.out.bel b2)
      have x2 : w2.cell? ⟨w.heap.size, 2, none⟩ = some (.int .i64 f) := HX2.out.cell 2
      have x3 : w2.cell? ⟨w.heap.size, 3, none⟩ = some (.int .i64 t) := HX2.out.cell 3
      clear b2 x1 HX1 HB1 HBU
      go_wp2_with fail
      go_ret2
      exact ⟨rfl, HB2.out⟩
    · have t2 : decide (t ≤ (bk : Int)) = false := decide_eq_false c2
      rw [decide_eq_true (by omega : (bk : Int) < t), decide_eq_true (by omega : f ≤ (bk : Int)), Bool.and_true, if_pos rfl]
      clear c1 c2
      have hr0 : (0 : Int) ≤ (r : Int) := by omega
      have hr1 : (r : Int) < (n : Int) := by omega
      go_enter Try.func14, Try.ntmps14
      go_wp2_with fail
      refine HMY.out.mono ?_
      rintro e w1 ⟨rfl, b1⟩
      have HB1 := Lib.hid (HB.out.trans (b1.mono HB.out.size))
      have HX1 := Lib.hid (HBX.out.bel b1)
      have x1 : w1.cell? ⟨w.heap.size, 1, none⟩ = some (.string ly) := HX1.out.cell 1
      clear b1 HMY HBX HB
      go_wp2_with fail
      refine (HBU.out w1).mono ?_
      rintro e w2 ⟨rfl, b2⟩
      have HB2 := Lib.hid (HB1.out.trans (b2.mono HB1.out.size))
      have HX2 := Lib.hid (HX1.out.bel b2)
      have x2 : w2.cell? ⟨w.heap.size, 2, none⟩ = some (.int .i64 f) := HX2.out.cell 2
      have x3 : w2.cell? ⟨w.heap.size, 3, none⟩ = some (.int .i64 t) := HX2.out.cell 3
      clear b2 x1 HX1 HB1 HBU
      go_wp2_with fail
      have kk : w2.drew.cell? ⟨w.heap.size, 4, none⟩ = some (.slice (some ⟨B, off, none⟩) n cap) ∧ w2.drew.cell? ⟨w.heap.size, 0, none⟩ = some (.string nm) ∧ w2.drew.cell? ⟨B, off + r, none⟩ = some (.string a) := ⟨HX2.out.cell 4, HX2.out.cell 0, (HB2.out.cell (p := ⟨B, off + r, none⟩) HLB.out).trans HCA.out⟩
      have kk2 : (w2.alloc (.cells #[.string nm, .string pn] 9)).drew.cell? ⟨w.heap.size, 4, none⟩ = some (.slice (some ⟨B, off, none⟩) n cap) ∧ (w2.alloc (.cells #[.string nm, .string pn] 9)).drew.cell? ⟨w.heap.size, 0, none⟩ = some (.string nm) ∧ (w2.alloc (.cells #[.string nm, .string pn] 9)).drew.cell? ⟨B, off + r, none⟩ = some (.string a) := ⟨(HX2.out.old _).cell 4, (HX2.out.old _).cell 0, ((HB2.out.alloc HB2.out.size _).cell (p := ⟨B, off + r, none⟩) HLB.out).trans HCA.out⟩
      have hbk2 : Bk (w2.alloc (.cells #[.string nm, .string pn] 9)).drew w2.heap.size [.string nm, .string pn] 9 := Bk.new w2 [.string nm, .string pn] 9
      have HHq := Lib.hid (HH.out _ _ _ hbk2)
      clear x2 x3 hbk2
      go_region_held3 (fun X => X.cell? ⟨w.heap.size, 4, none⟩ = some (.slice (some ⟨B, off, none⟩) n cap) ∧ X.cell? ⟨w.heap.size, 0, none⟩ = some (.string nm) ∧ X.cell? ⟨B, off + r, none⟩ = some (.string a)) (first | exact kk | exact kk2 | assumption | go_keep)
        (first
          | (go_at_call 27
             refine HHq.out.mono ?_
             rintro e w6 ⟨rfl, rfl⟩)
          | (go_at_call 26
             refine (HLO.out _).mono ?_
             rintro e w6 ⟨rfl, rfl⟩)
          | fail)
      go_wp2_with fail
      go_ret2
      exact ⟨rfl, HB2.out.trans (((Below.refl _ _).drew.alloc (Nat.le_refl _) _).mono HB2.out.size)⟩
end Go.Proofs.Ytkjcgeaoiabkjaa

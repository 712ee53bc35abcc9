/- The document's Add. -/
import Derived.Test.YtcnddbcdkpdkbaaEql
import Derived.Test.YtcnddbcdkpdkbaaLastOp
namespace Go.Proofs.Ytcnddbcdkpdkbaa
open Go.RowKit Go.MapKept Go.Maps Go.ChangeShapes Go.WideShapes
set_option linter.unusedVariables false
set_option linter.unusedSimpArgs false
theorem infoAdd : (Try.prog.info? 31).map (fun i => (i.zero, i.size, i.bytes)) = some (some (.agg #[.string ⟨#[]⟩, .int .i64 0, .string ⟨#[]⟩]), 3, 40) := by kernel_rfl
theorem sizeAdd : ∃ i, Try.prog.info? 31 = some i ∧ i.size = 3 := by
  obtain ⟨i0, hi0, hz0, hz1, hz2⟩ := info_parts infoAdd
  exact ⟨i0, hi0, hz1⟩
/-- what Add has in hand -/
structure DaW (w wr : World) (p g : Nat) (gap : Int) (vb : Option Addr) (n vc : Nat) (L : List Tri) (a : Tri) : Prop where
  bl : Below w.heap.size w wr
  bx : Bk wr g [.string a.1, .int .i64 a.2.1, .string a.2.2] 31
  dc : Bk wr p [.int .i64 gap, .slice vb n vc] 62
  rw : InW wr vb 3 (L.map aC)
theorem DaW.bel {w wr w' : World} {p g : Nat} {gap : Int} {vb : Option Addr} {n vc : Nat} {L : List Tri} {a : Tri} (h : DaW w wr p g gap vb n vc L a) (hb : Below wr.heap.size wr w') : DaW w w' p g gap vb n vc L a :=
  ⟨h.bl.trans (hb.mono h.bl.size), h.bx.bel hb, h.dc.bel hb, h.rw.bel hb⟩
theorem dadd_fin {w V w7 : World} {p : Nat} {gap : Int} {vb b7 : Option Addr} {ln n vc l7 c7 : Nat} {L zs : List Tri} {a : Tri} (HD : DocAt w p (p :: (Value.slice vb ln vc).ownBlock.toList) gap L) (bl : Below w.heap.size w V) (dc : Bk V p [.int .i64 gap, .slice vb n vc] 62) (hok : okT a = true) (hn : L.length + 1 ≤ 100000) (hz : insT L a = zs) (hl : zs.length = l7)
    (o7 : w7.ownsRow 0 31 3 (.slice b7 l7 c7) zs.length (zs.flatMap aC)) (fr : Fr (fun b => V.heap.size ≤ b) V w7) (nn : ∀ b, (Value.slice b7 l7 c7).ownBlock = some b → V.heap.size ≤ b) :
    (∃ B', DocAt (w7.setCell ⟨p, 1, none⟩ (.slice b7 l7 c7)) p B' gap (insT L a) ∧ Sprd w (p :: (Value.slice vb ln vc).ownBlock.toList) B') ∧ Fr (fun b => b ∈ p :: (Value.slice vb ln vc).ownBlock.toList) w (w7.setCell ⟨p, 1, none⟩ (.slice b7 l7 c7)) := by
  subst hz
  have hp := dc.lt
  have e : addT L a = insT L a := by unfold addT; rw [if_pos hok]
  have f8 : Fr (fun b => b = p) w7 (w7.setCell ⟨p, 1, none⟩ (.slice b7 l7 c7)) := (Fr.refl _ w7).setCell p 1 _ (.inr rfl)
  refine ⟨⟨p :: (Value.slice b7 l7 c7).ownBlock.toList, ⟨by rw [← e]; exact HD.ok.add a, HD.g, by rw [← e]; have := add_len L a; omega, .slice b7 l7 c7, ?_, ?_, rfl, ?_⟩, ?_⟩, ?_⟩
  · exact (dc.fr fr (by omega)).set 1 (.slice b7 l7 c7)
  · exact f8.row o7 (fun b hb hbp => by have := nn b hb; omega)
  · intro hb
    have := nn p hb; omega
  · intro b hb
    rcases List.mem_cons.1 hb with rfl | hb
    · exact .inl (by simp)
    · have := nn b (Option.mem_toList.1 hb)
      have := bl.size
      exact .inr (by omega)
  · have f1 : Fr (fun b => b ∈ p :: (Value.slice vb ln vc).ownBlock.toList) w w7 := (Fr.of_bel bl).bel (fr.below (Nat.le_refl _) (fun _ h => h))
    exact f1.setCell p 1 _ (.inr (by simp))
set_option maxRecDepth 20000 in
set_option maxHeartbeats 8000000 in
theorem dadd_same {w : World} {p : Nat} {B : List Nat} {gap : Int} {L : List Tri} (h : DocAt w p B gap L) (a : Tri) (hok : okT a = true) (hn : L.length + 1 ≤ 100000) (hk : L[belowG aheadP L a]? = some a) :
    Calls Try.prog 16 #[.pointer (some ⟨p, 0, none⟩), .agg #[.string a.1, .int .i64 a.2.1, .string a.2.2]] w fun e w' => e = .returned (.bool true) ∧ Below w.heap.size w w' := by
  obtain ⟨v, hd, hrow, rfl, hne⟩ := h.ex
  obtain ⟨vb, vc, rfl, hlc, hmc, hin, _⟩ := inw_of_rowm aLen (by omega) hrow
  obtain ⟨i0, hi0T, hz0, hz1, hz2⟩ := info_parts infoAdd
  have hokk := (okT_iff a).1 hok
  have q0 : decide ((a.1.size : Int) < 1) = false := decide_eq_false (by omega)
  have q1 : decide ((24 : Int) < (a.1.size : Int)) = false := decide_eq_false (by omega)
  have q2 : decide ((a.2.2.size : Int) < 1) = false := decide_eq_false (by omega)
  have q3 : decide ((24 : Int) < (a.2.2.size : Int)) = false := decide_eq_false (by omega)
  have q4 : decide (a.2.1 < 0) = false := decide_eq_false (by omega)
  have q5 : decide (1099511627776 < a.2.1) = false := decide_eq_false (by omega)
  have hbl := belowG_le (lt := aheadP) L a
  obtain ⟨g, hg⟩ : ∃ g, w.heap.size = g := ⟨_, rfl⟩
  have hb1 := (Below.refl w.heap.size w).alloc (Nat.le_refl _) (.cells #[.string a.1, .int .i64 a.2.1, .string a.2.2] 31)
  have hbx := Bk.new w [.string a.1, .int .i64 a.2.1, .string a.2.2] 31
  rw [hg] at hbx
  have HW0 : Hid (DaW w (w.alloc (.cells #[.string a.1, .int .i64 a.2.1, .string a.2.2] 31)) p g gap vb L.length vc L a) := Lib.hid ⟨hb1, hbx, hd.bel hb1, hin.bel hb1⟩
  have HROW0 := Lib.hid hrow
  have HD := Lib.hid h
  have HNE := Lib.hid hne
  have HG := Lib.hid hg
  obtain ⟨n, hln⟩ : ∃ n, L.length = n := ⟨_, rfl⟩
  have Hn := Lib.hid hln
  obtain ⟨be, hbe⟩ : ∃ be, belowG aheadP L a = be := ⟨_, rfl⟩
  have HBE := Lib.hid hbe
  have HK := Lib.hid hk
  rw [hln] at HW0 hn hbl hlc
  rw [hbe] at hbl
  have HAH : Hid (∀ (x : Tri) (r : Bool), decide (aheadP x a) = r → ∀ W, Calls Try.prog 31 #[.agg #[.string x.1, .int .i64 x.2.1, .string x.2.2], .agg #[.string a.1, .int .i64 a.2.1, .string a.2.2]] W fun e w' => e = .returned (.bool r) ∧ Below W.heap.size W w') := Lib.hid (fun x r hr W => by have := ahead_any x a W; rwa [hr] at this)
  clear h hd hrow hin hb1 hbx hok hokk hk hln hbe hne
  have hbn : be < n := by
    have h1 := HK.out
    rw [HBE.out] at h1
    have := (List.getElem?_eq_some_iff.1 h1).1
    rwa [Hn.out] at this
  go_enter Try.func16, Try.ntmps16
  go_wp2_with fail
  clear hg
  go_loopw [5] (fun c wr => ∃ i : Nat, i ≤ be ∧ c = .int .i64 i ∧ Hid (DaW w wr p g gap vb n vc L a)) (fun c _ => be - (intOf c).toNat)
  case atStart => exact ⟨0, Nat.zero_le _, rfl, HW0⟩
  case round =>
    obtain ⟨i, hi, rfl, HW⟩ := hrel
    clear HW0
    by_cases hlt : i < be
    · obtain ⟨x, hx⟩ : ∃ x, L[i]? = some x := ⟨L[i]'(by rw [Hn.out]; omega), List.getElem?_eq_getElem _⟩
      have HXA : Hid (decide (aheadP x a) = true) := Lib.hid (decide_eq_true (belowG_lt (lt := aheadP) (by rw [HBE.out]; exact hlt) hx))
      obtain ⟨Bx, ox, rfl, hBx, d0, d1, d2⟩ := aAt HW.out.rw hx
      have HC : Hid (∀ W, Below wr.heap.size wr W → (W.cell? ⟨p, 1, none⟩ = some (.slice (some ⟨Bx, ox, none⟩) n vc) ∧ W.cell? ⟨Bx, ox + i * 3, none⟩ = some (.string x.1) ∧ W.cell? ⟨Bx, ox + i * 3 + 1, none⟩ = some (.int .i64 x.2.1) ∧ W.cell? ⟨Bx, ox + i * 3 + 2, none⟩ = some (.string x.2.2) ∧ W.cell? ⟨g, 0, none⟩ = some (.string a.1) ∧ W.cell? ⟨g, 1, none⟩ = some (.int .i64 a.2.1) ∧ W.cell? ⟨g, 2, none⟩ = some (.string a.2.2))) := Lib.hid (fun W hW => ⟨(HW.out.dc.bel hW).cell 1, (hW.cell (p := ⟨Bx, _, none⟩) hBx).trans d0, (hW.cell (p := ⟨Bx, _, none⟩) hBx).trans d1, (hW.cell (p := ⟨Bx, _, none⟩) hBx).trans d2, (HW.out.bx.bel hW).cell 0, (HW.out.bx.bel hW).cell 1, (HW.out.bx.bel hW).cell 2⟩)
      have HA1 := Lib.hid (HAH.out x true HXA.out)
      have hi0 : (0 : Int) ≤ (i : Int) := by omega
      have hi1 : (i : Int) < (n : Int) := by omega
      have cS := HC.out wr (Below.refl _ _)
      have HX := Lib.hid hx
      clear hx d0 d1 d2
      go_wp2_with fail
      go_region_held3 (fun X => X.cell? ⟨p, 1, none⟩ = some (.slice (some ⟨Bx, ox, none⟩) n vc) ∧ X.cell? ⟨Bx, ox + i * 3, none⟩ = some (.string x.1) ∧ X.cell? ⟨Bx, ox + i * 3 + 1, none⟩ = some (.int .i64 x.2.1) ∧ X.cell? ⟨Bx, ox + i * 3 + 2, none⟩ = some (.string x.2.2) ∧ X.cell? ⟨g, 0, none⟩ = some (.string a.1) ∧ X.cell? ⟨g, 1, none⟩ = some (.int .i64 a.2.1) ∧ X.cell? ⟨g, 2, none⟩ = some (.string a.2.2)) (first | assumption | go_keep | fail)
        (first
          | (go_at_call 31
             (with_reducible refine (HA1.out _).mono ?_)
             rintro e w2 ⟨rfl, b2⟩
             have hb2 : Below wr.heap.size wr w2 := (Below.refl wr.heap.size wr).drew.trans b2
             have hS2 := HC.out w2 hb2
             have HW2 := Lib.hid (HW.out.bel hb2)
             clear b2 hb2)
          | fail)
      go_wp2_with fail
      go_roundw
      case rel => exact ⟨i + 1, by omega, by go_num, HW2⟩
      case measure => simp [intOf]; omega
    · obtain rfl : i = be := by omega
      obtain ⟨x, hx⟩ : ∃ x, L[i]? = some x := ⟨L[i]'(by rw [Hn.out]; omega), List.getElem?_eq_getElem _⟩
      have HXA : Hid (decide (aheadP x a) = false) := Lib.hid (decide_eq_false (belowG_at (lt := aheadP) (by rw [HBE.out]; exact hx)))
      obtain ⟨Bx, ox, rfl, hBx, d0, d1, d2⟩ := aAt HW.out.rw hx
      have HC : Hid (∀ W, Below wr.heap.size wr W → (W.cell? ⟨p, 1, none⟩ = some (.slice (some ⟨Bx, ox, none⟩) n vc) ∧ W.cell? ⟨Bx, ox + i * 3, none⟩ = some (.string x.1) ∧ W.cell? ⟨Bx, ox + i * 3 + 1, none⟩ = some (.int .i64 x.2.1) ∧ W.cell? ⟨Bx, ox + i * 3 + 2, none⟩ = some (.string x.2.2) ∧ W.cell? ⟨g, 0, none⟩ = some (.string a.1) ∧ W.cell? ⟨g, 1, none⟩ = some (.int .i64 a.2.1) ∧ W.cell? ⟨g, 2, none⟩ = some (.string a.2.2))) := Lib.hid (fun W hW => ⟨(HW.out.dc.bel hW).cell 1, (hW.cell (p := ⟨Bx, _, none⟩) hBx).trans d0, (hW.cell (p := ⟨Bx, _, none⟩) hBx).trans d1, (hW.cell (p := ⟨Bx, _, none⟩) hBx).trans d2, (HW.out.bx.bel hW).cell 0, (HW.out.bx.bel hW).cell 1, (HW.out.bx.bel hW).cell 2⟩)
      have HA1 := Lib.hid (HAH.out x false HXA.out)
      have hi0 : (0 : Int) ≤ (i : Int) := by omega
      have hi1 : (i : Int) < (n : Int) := by omega
      have cS := HC.out wr (Below.refl _ _)
      have HX := Lib.hid hx
      clear hx d0 d1 d2
      go_wp2_with fail
      go_region_held3 (fun X => X.cell? ⟨p, 1, none⟩ = some (.slice (some ⟨Bx, ox, none⟩) n vc) ∧ X.cell? ⟨Bx, ox + i * 3, none⟩ = some (.string x.1) ∧ X.cell? ⟨Bx, ox + i * 3 + 1, none⟩ = some (.int .i64 x.2.1) ∧ X.cell? ⟨Bx, ox + i * 3 + 2, none⟩ = some (.string x.2.2) ∧ X.cell? ⟨g, 0, none⟩ = some (.string a.1) ∧ X.cell? ⟨g, 1, none⟩ = some (.int .i64 a.2.1) ∧ X.cell? ⟨g, 2, none⟩ = some (.string a.2.2)) (first | assumption | go_keep | fail)
        (first
          | (go_at_call 31
             (with_reducible refine (HA1.out _).mono ?_)
             rintro e w2 ⟨rfl, b2⟩
             have hb2 : Below wr.heap.size wr w2 := (Below.refl wr.heap.size wr).drew.trans b2
             have hS2 := HC.out w2 hb2
             have HW2 := Lib.hid (HW.out.bel hb2)
             clear b2 hb2)
          | fail)
      have hxa : x = a := by
        have h1 := HK.out
        rw [HBE.out, HX.out] at h1
        exact Option.some.inj h1
      subst hxa
      obtain ⟨y0, y1, y2, y3, y4, y5, y6⟩ := hS2
      go_wp2_with fail
      go_quiet (fail)
      go_wp2_with fail
      go_ret
      exact ⟨rfl, bdrewN HW2.out.bl nq⟩
set_option maxRecDepth 20000 in
set_option maxHeartbeats 8000000 in
theorem dadd_new {w : World} {p : Nat} {B : List Nat} {gap : Int} {L : List Tri} (h : DocAt w p B gap L) (a : Tri) (hok : okT a = true) (hn : L.length + 1 ≤ 100000) (hk : ¬ L[belowG aheadP L a]? = some a) :
    Calls Try.prog 16 #[.pointer (some ⟨p, 0, none⟩), .agg #[.string a.1, .int .i64 a.2.1, .string a.2.2]] w fun e w' => e = .returned (.bool true) ∧ (∃ B', DocAt w' p B' gap (insT L a) ∧ Sprd w B B') ∧ Fr (fun b => b ∈ B) w w' := by
  obtain ⟨v, hd, hrow, rfl, hne⟩ := h.ex
  obtain ⟨vb, vc, rfl, hlc, hmc, hin, _⟩ := inw_of_rowm aLen (by omega) hrow
  obtain ⟨i0, hi0T, hz0, hz1, hz2⟩ := info_parts infoAdd
  have HP : Hid (insT L a = (([] ++ L.take (belowG aheadP L a)) ++ [a]) ++ L.drop (belowG aheadP L a)) := Lib.hid (by unfold insT putG; rw [if_neg hk]; simp)
  have HOKT := Lib.hid hok
  have hokk := (okT_iff a).1 hok
  have q0 : decide ((a.1.size : Int) < 1) = false := decide_eq_false (by omega)
  have q1 : decide ((24 : Int) < (a.1.size : Int)) = false := decide_eq_false (by omega)
  have q2 : decide ((a.2.2.size : Int) < 1) = false := decide_eq_false (by omega)
  have q3 : decide ((24 : Int) < (a.2.2.size : Int)) = false := decide_eq_false (by omega)
  have q4 : decide (a.2.1 < 0) = false := decide_eq_false (by omega)
  have q5 : decide (1099511627776 < a.2.1) = false := decide_eq_false (by omega)
  have hbl := belowG_le (lt := aheadP) L a
  obtain ⟨g, hg⟩ : ∃ g, w.heap.size = g := ⟨_, rfl⟩
  have hb1 := (Below.refl w.heap.size w).alloc (Nat.le_refl _) (.cells #[.string a.1, .int .i64 a.2.1, .string a.2.2] 31)
  have hbx := Bk.new w [.string a.1, .int .i64 a.2.1, .string a.2.2] 31
  rw [hg] at hbx
  have HW0 : Hid (DaW w (w.alloc (.cells #[.string a.1, .int .i64 a.2.1, .string a.2.2] 31)) p g gap vb L.length vc L a) := Lib.hid ⟨hb1, hbx, hd.bel hb1, hin.bel hb1⟩
  have HROW0 := Lib.hid hrow
  have HD := Lib.hid h
  have HNE := Lib.hid hne
  have HG := Lib.hid hg
  obtain ⟨n, hln⟩ : ∃ n, L.length = n := ⟨_, rfl⟩
  have Hn := Lib.hid hln
  obtain ⟨be, hbe⟩ : ∃ be, belowG aheadP L a = be := ⟨_, rfl⟩
  have HBE := Lib.hid hbe
  have HK := Lib.hid hk
  rw [hln] at HW0 hn hbl hlc
  rw [hbe] at hbl HP
  have HAH : Hid (∀ (x : Tri) (r : Bool), decide (aheadP x a) = r → ∀ W, Calls Try.prog 31 #[.agg #[.string x.1, .int .i64 x.2.1, .string x.2.2], .agg #[.string a.1, .int .i64 a.2.1, .string a.2.2]] W fun e w' => e = .returned (.bool r) ∧ Below W.heap.size W w') := Lib.hid (fun x r hr W => by have := ahead_any x a W; rwa [hr] at this)
  clear h hd hrow hin hb1 hbx hok hokk hk hln hbe hne
  go_enter Try.func16, Try.ntmps16
  go_wp2_with fail
  clear hg
  go_loopw [5] (fun c wr => ∃ i : Nat, i ≤ be ∧ c = .int .i64 i ∧ Hid (DaW w wr p g gap vb n vc L a)) (fun c _ => be - (intOf c).toNat)
  case atStart => exact ⟨0, Nat.zero_le _, rfl, HW0⟩
  case round =>
    obtain ⟨i, hi, rfl, HW⟩ := hrel
    clear HW0
    by_cases hlt : i < be
    · obtain ⟨x, hx⟩ : ∃ x, L[i]? = some x := ⟨L[i]'(by rw [Hn.out]; omega), List.getElem?_eq_getElem _⟩
      have HXA : Hid (decide (aheadP x a) = true) := Lib.hid (decide_eq_true (belowG_lt (lt := aheadP) (by rw [HBE.out]; exact hlt) hx))
      obtain ⟨Bx, ox, rfl, hBx, d0, d1, d2⟩ := aAt HW.out.rw hx
      have HC : Hid (∀ W, Below wr.heap.size wr W → (W.cell? ⟨p, 1, none⟩ = some (.slice (some ⟨Bx, ox, none⟩) n vc) ∧ W.cell? ⟨Bx, ox + i * 3, none⟩ = some (.string x.1) ∧ W.cell? ⟨Bx, ox + i * 3 + 1, none⟩ = some (.int .i64 x.2.1) ∧ W.cell? ⟨Bx, ox + i * 3 + 2, none⟩ = some (.string x.2.2) ∧ W.cell? ⟨g, 0, none⟩ = some (.string a.1) ∧ W.cell? ⟨g, 1, none⟩ = some (.int .i64 a.2.1) ∧ W.cell? ⟨g, 2, none⟩ = some (.string a.2.2))) := Lib.hid (fun W hW => ⟨(HW.out.dc.bel hW).cell 1, (hW.cell (p := ⟨Bx, _, none⟩) hBx).trans d0, (hW.cell (p := ⟨Bx, _, none⟩) hBx).trans d1, (hW.cell (p := ⟨Bx, _, none⟩) hBx).trans d2, (HW.out.bx.bel hW).cell 0, (HW.out.bx.bel hW).cell 1, (HW.out.bx.bel hW).cell 2⟩)
      have HA1 := Lib.hid (HAH.out x true HXA.out)
      have hi0 : (0 : Int) ≤ (i : Int) := by omega
      have hi1 : (i : Int) < (n : Int) := by omega
      have cS := HC.out wr (Below.refl _ _)
      have HX := Lib.hid hx
      clear hx d0 d1 d2
      go_wp2_with fail
      go_region_held3 (fun X => X.cell? ⟨p, 1, none⟩ = some (.slice (some ⟨Bx, ox, none⟩) n vc) ∧ X.cell? ⟨Bx, ox + i * 3, none⟩ = some (.string x.1) ∧ X.cell? ⟨Bx, ox + i * 3 + 1, none⟩ = some (.int .i64 x.2.1) ∧ X.cell? ⟨Bx, ox + i * 3 + 2, none⟩ = some (.string x.2.2) ∧ X.cell? ⟨g, 0, none⟩ = some (.string a.1) ∧ X.cell? ⟨g, 1, none⟩ = some (.int .i64 a.2.1) ∧ X.cell? ⟨g, 2, none⟩ = some (.string a.2.2)) (first | assumption | go_keep | fail)
        (first
          | (go_at_call 31
             (with_reducible refine (HA1.out _).mono ?_)
             rintro e w2 ⟨rfl, b2⟩
             have hb2 : Below wr.heap.size wr w2 := (Below.refl wr.heap.size wr).drew.trans b2
             have hS2 := HC.out w2 hb2
             have HW2 := Lib.hid (HW.out.bel hb2)
             clear b2 hb2)
          | fail)
      go_wp2_with fail
      go_roundw
      case rel => exact ⟨i + 1, by omega, by go_num, HW2⟩
      case measure => simp [intOf]; omega
    · obtain rfl : i = be := by omega
      by_cases hin : i < n
      · obtain ⟨x, hx⟩ : ∃ x, L[i]? = some x := ⟨L[i]'(by rw [Hn.out]; omega), List.getElem?_eq_getElem _⟩
        have HXA : Hid (decide (aheadP x a) = false) := Lib.hid (decide_eq_false (belowG_at (lt := aheadP) (by rw [HBE.out]; exact hx)))
        obtain ⟨Bx, ox, rfl, hBx, d0, d1, d2⟩ := aAt HW.out.rw hx
        have HC : Hid (∀ W, Below wr.heap.size wr W → (W.cell? ⟨p, 1, none⟩ = some (.slice (some ⟨Bx, ox, none⟩) n vc) ∧ W.cell? ⟨Bx, ox + i * 3, none⟩ = some (.string x.1) ∧ W.cell? ⟨Bx, ox + i * 3 + 1, none⟩ = some (.int .i64 x.2.1) ∧ W.cell? ⟨Bx, ox + i * 3 + 2, none⟩ = some (.string x.2.2) ∧ W.cell? ⟨g, 0, none⟩ = some (.string a.1) ∧ W.cell? ⟨g, 1, none⟩ = some (.int .i64 a.2.1) ∧ W.cell? ⟨g, 2, none⟩ = some (.string a.2.2))) := Lib.hid (fun W hW => ⟨(HW.out.dc.bel hW).cell 1, (hW.cell (p := ⟨Bx, _, none⟩) hBx).trans d0, (hW.cell (p := ⟨Bx, _, none⟩) hBx).trans d1, (hW.cell (p := ⟨Bx, _, none⟩) hBx).trans d2, (HW.out.bx.bel hW).cell 0, (HW.out.bx.bel hW).cell 1, (HW.out.bx.bel hW).cell 2⟩)
        have HA1 := Lib.hid (HAH.out x false HXA.out)
        have hi0 : (0 : Int) ≤ (i : Int) := by omega
        have hi1 : (i : Int) < (n : Int) := by omega
        have cS := HC.out wr (Below.refl _ _)
        have HX := Lib.hid hx
        clear hx d0 d1 d2
        go_wp2_with fail
        go_region_held3 (fun X => X.cell? ⟨p, 1, none⟩ = some (.slice (some ⟨Bx, ox, none⟩) n vc) ∧ X.cell? ⟨Bx, ox + i * 3, none⟩ = some (.string x.1) ∧ X.cell? ⟨Bx, ox + i * 3 + 1, none⟩ = some (.int .i64 x.2.1) ∧ X.cell? ⟨Bx, ox + i * 3 + 2, none⟩ = some (.string x.2.2) ∧ X.cell? ⟨g, 0, none⟩ = some (.string a.1) ∧ X.cell? ⟨g, 1, none⟩ = some (.int .i64 a.2.1) ∧ X.cell? ⟨g, 2, none⟩ = some (.string a.2.2)) (first | assumption | go_keep | fail)
          (first
            | (go_at_call 31
               (with_reducible refine (HA1.out _).mono ?_)
               rintro e w2 ⟨rfl, b2⟩
               have hb2 : Below wr.heap.size wr w2 := (Below.refl wr.heap.size wr).drew.trans b2
               have hS2 := HC.out w2 hb2
               have HW2 := Lib.hid (HW.out.bel hb2)
               clear b2 hb2)
            | fail)
        have hxa : x ≠ a := fun e => HK.out (by rw [HBE.out, HX.out, e])
        have hql : ∀ W, (binOp BinOp.eql 31 (.agg #[.string x.1, .int .i64 x.2.1, .string x.2.2]) (.agg #[.string a.1, .int .i64 a.2.1, .string a.2.2])).run Try.prog W = .ok (.bool false) W := fun W => by have := eql_add x a W; rwa [decide_eq_false hxa] at this
        obtain ⟨y0, y1, y2, y3, y4, y5, y6⟩ := hS2
        clear hxa
        go_wp2_with fail
        go_quiet (fail)
        have HWV : Hid (DaW w (w2.drewN nq) p g gap (some ⟨Bx, ox, none⟩) n vc L a) := Lib.hid (HW2.out.bel (bdrewN (Below.refl _ _) nq))
        clear y0 y1 y2 y3 y4 y5 y6 hql HW2 HC HA1 cS
        generalize w2.drewN nq = V at *
        have hsl1 := fun W => run_slice_to (P := Try.prog) W 22 31 ((some ⟨Bx, ox, none⟩)) n vc i 3 Try.underlying22 sizeAdd (by omega)
        have hsl2 := fun W => run_slice_from (P := Try.prog) W 22 31 ((some ⟨Bx, ox, none⟩)) n vc i 3 Try.underlying22 sizeAdd (by omega)
        have HS0 : Hid (InW V ((some ⟨Bx, ox, none⟩)) 3 (L.map aC)) := Lib.hid HWV.out.rw
        have HTK : Hid ((L.take i).length = i) := Lib.hid (by rw [List.length_take, Hn.out]; omega)
        have HDR : Hid ((L.drop i).length = n - i) := Lib.hid (by rw [List.length_drop, Hn.out])
        have HLN : Hid (L.length ≤ 900000) := Lib.hid (by rw [Hn.out]; omega)
        have HNL : Hid (L.length + 1 ≤ 100000) := Lib.hid (by rw [Hn.out]; omega)
        have HSD : Hid (∀ W, Fr (fun b => V.heap.size ≤ b) V W → InW W (subB ((some ⟨Bx, ox, none⟩)) vc i 3) 3 ((L.drop i).map aC)) := Lib.hid (fun W hF => by
          rw [List.map_drop]
          exact subB_inw (inw_fr HS0.out hF) (by rw [List.length_map, Hn.out]; omega))
        have HSF : Hid (∀ X, Fr (fun b => V.heap.size ≤ b) V X → (X.cell? ⟨p, 1, none⟩ = some (.slice (some ⟨Bx, ox, none⟩) n vc) ∧ X.cell? ⟨g, 0, none⟩ = some (.string a.1) ∧ X.cell? ⟨g, 1, none⟩ = some (.int .i64 a.2.1) ∧ X.cell? ⟨g, 2, none⟩ = some (.string a.2.2))) := Lib.hid (fun X hF => by
          have k1 := HWV.out.dc.fr hF (by have := HWV.out.dc.lt; omega)
          have k2 := HWV.out.bx.fr hF (by have := HWV.out.bx.lt; omega)
          exact ⟨k1.cell 1, k2.cell 0, k2.cell 1, k2.cell 2⟩)
        have HFZ : Hid (∀ X, Fr (fun b => V.heap.size ≤ b) V X → X.frozen? ⟨p, 1, none⟩ = false) := Lib.hid (fun X hF => (HWV.out.dc.fr hF (by have := HWV.out.dc.lt; omega)).free 1)
        generalize subB ((some ⟨Bx, ox, none⟩)) vc i 3 = sb at *
        go_wp2_with fail
        refine region_last (S := fun X => X.cell? ⟨p, 1, none⟩ = some (.slice (some ⟨Bx, ox, none⟩) n vc) ∧ X.cell? ⟨g, 0, none⟩ = some (.string a.1) ∧ X.cell? ⟨g, 1, none⟩ = some (.int .i64 a.2.1) ∧ X.cell? ⟨g, 2, none⟩ = some (.string a.2.2)) 21 _ (by kernel_rfl) (by rfl) rfl rfl (by kernel_rfl) (HSF.out _ (fr_new V).drew) (fun hHeld => ?_)
        simp only [List.dropLast]
        refine take_at (i := 0) (v := ?_) (some 76) rfl rfl (by kernel_rfl) (by kernel_rfl) (by kernel_rfl) (fun _ _ _ h => h) (by rfl) ?_ (by assumption) ?_
        rotate_left
        · intro w hSw
          (try dsimp only at hSw)
          go_simp
          try (with_reducible rfl)
        (try simp only [Act.put, List.setIfInBounds_toArray, List.set_cons_zero, List.set_cons_succ])
        refine take_at (i := 2) (v := ?_) (some 78) rfl rfl (by kernel_rfl) (by kernel_rfl) (by kernel_rfl) (fun _ _ _ h => h) (by rfl) ?_ (by assumption) ?_
        rotate_left
        · intro w hSw
          (try dsimp only at hSw)
          go_simp
          try (with_reducible rfl)
        (try simp only [Act.put, List.setIfInBounds_toArray, List.set_cons_zero, List.set_cons_succ])
        refine take_at (i := 3) (v := ?_) (some 79) rfl rfl (by kernel_rfl) (by kernel_rfl) (by kernel_rfl) (fun _ _ _ h => h) (by rfl) ?_ (by assumption) ?_
        rotate_left
        · intro w hSw
          (try dsimp only at hSw)
          go_simp
          try (with_reducible rfl)
        (try simp only [Act.put, List.setIfInBounds_toArray, List.set_cons_zero, List.set_cons_succ])
        refine take_at (i := 4) (v := ?_) (some 80) rfl rfl (by kernel_rfl) (by kernel_rfl) (by kernel_rfl) (fun _ _ _ h => h) (by rfl) ?_ (by assumption) ?_
        rotate_left
        · intro w hSw
          (try dsimp only at hSw)
          go_simp
          try (with_reducible rfl)
        (try simp only [Act.put, List.setIfInBounds_toArray, List.set_cons_zero, List.set_cons_succ])
        refine take_at (i := 5) (v := ?_) (some 81) rfl rfl (by kernel_rfl) (by kernel_rfl) (by kernel_rfl) (fun _ _ _ h => h) (by rfl) ?_ (by assumption) ?_
        rotate_left
        · intro w hSw
          (try dsimp only at hSw)
          go_simp
          try (with_reducible rfl)
        (try simp only [Act.put, List.setIfInBounds_toArray, List.set_cons_zero, List.set_cons_succ])
        refine take_at (i := 6) (v := ?_) (some 82) rfl rfl (by kernel_rfl) (by kernel_rfl) (by kernel_rfl) (fun _ _ _ h => h) (by rfl) ?_ (by assumption) ?_
        rotate_left
        · intro w hSw
          (try dsimp only at hSw)
          go_simp
          try (with_reducible rfl)
        (try simp only [Act.put, List.setIfInBounds_toArray, List.set_cons_zero, List.set_cons_succ])
        refine take_at (i := 7) (v := ?_) (some 83) rfl rfl (by kernel_rfl) (by kernel_rfl) (by kernel_rfl) (fun _ _ _ h => h) (by rfl) ?_ (by assumption) ?_
        rotate_left
        · intro w hSw
          (try dsimp only at hSw)
          go_simp
          try (with_reducible rfl)
        (try simp only [Act.put, List.setIfInBounds_toArray, List.set_cons_zero, List.set_cons_succ])
        refine take_at (i := 9) (v := ?_) (some 85) rfl rfl (by kernel_rfl) (by kernel_rfl) (by kernel_rfl) (fun _ _ _ h => h) (by rfl) ?_ (by assumption) ?_
        rotate_left
        · intro w hSw
          (try dsimp only at hSw)
          go_simp
          try (with_reducible rfl)
        (try simp only [Act.put, List.setIfInBounds_toArray, List.set_cons_zero, List.set_cons_succ])
        refine take_at (i := 12) (v := ?_) (some 88) rfl rfl (by kernel_rfl) (by kernel_rfl) (by kernel_rfl) (fun _ _ _ h => h) (by rfl) ?_ (by assumption) ?_
        rotate_left
        · intro w hSw
          (try dsimp only at hSw)
          go_simp
          try (with_reducible rfl)
        (try simp only [Act.put, List.setIfInBounds_toArray, List.set_cons_zero, List.set_cons_succ])
        refine take_at (i := 13) (v := ?_) (some 89) rfl rfl (by kernel_rfl) (by kernel_rfl) (by kernel_rfl) (fun _ _ _ h => h) (by rfl) ?_ (by assumption) ?_
        rotate_left
        · intro w hSw
          (try dsimp only at hSw)
          go_simp
          try (with_reducible rfl)
        (try simp only [Act.put, List.setIfInBounds_toArray, List.set_cons_zero, List.set_cons_succ])
        refine take_at (i := 14) (v := ?_) (some 90) rfl rfl (by kernel_rfl) (by kernel_rfl) (by kernel_rfl) (fun _ _ _ h => h) (by rfl) ?_ (by assumption) ?_
        rotate_left
        · intro w hSw
          (try dsimp only at hSw)
          go_simp
          try (with_reducible rfl)
        (try simp only [Act.put, List.setIfInBounds_toArray, List.set_cons_zero, List.set_cons_succ])
        refine take_at (i := 15) (v := ?_) (some 91) rfl rfl (by kernel_rfl) (by kernel_rfl) (by kernel_rfl) (fun _ _ _ h => h) (by rfl) ?_ (by assumption) ?_
        rotate_left
        · intro w hSw
          (try dsimp only at hSw)
          go_simp
          try (with_reducible rfl)
        (try simp only [Act.put, List.setIfInBounds_toArray, List.set_cons_zero, List.set_cons_succ])
        refine take_at (i := 16) (v := ?_) (some 92) rfl rfl (by kernel_rfl) (by kernel_rfl) (by kernel_rfl) (fun _ _ _ h => h) (by rfl) ?_ (by assumption) ?_
        rotate_left
        · intro w hSw
          (try dsimp only at hSw)
          go_simp
          try (with_reducible rfl)
        (try simp only [Act.put, List.setIfInBounds_toArray, List.set_cons_zero, List.set_cons_succ])
        refine take_at (i := 17) (v := ?_) (some 93) rfl rfl (by kernel_rfl) (by kernel_rfl) (by kernel_rfl) (fun _ _ _ h => h) (by rfl) ?_ (by assumption) ?_
        rotate_left
        · intro w hSw
          (try dsimp only at hSw)
          go_simp
          try (with_reducible rfl)
        (try simp only [Act.put, List.setIfInBounds_toArray, List.set_cons_zero, List.set_cons_succ])
        refine wpAnyH_ready (rs := [1, 10]) (by kernel_rfl) (by simp) ?_
        refine AllReadyH.cons rfl (fun K hK => ?_) (AllReadyH.cons rfl (fun K hK => ?_) AllReadyH.nil)
        · go_simp
          refine hK.out _ _ (HSF.out _ ((fr_new V).alloc (.cells #[] 31)).drew) (fun hHeld => ?_)
          clear hK K
          (try simp only [Act.put, List.setIfInBounds_toArray, List.set_cons_zero, List.set_cons_succ])
          refine wpAnyH_ready (rs := [8, 10]) (by kernel_rfl) (by simp) ?_
          refine AllReadyH.cons rfl (fun K hK => ?_) (AllReadyH.cons rfl (fun K hK => ?_) AllReadyH.nil)
          · refine step_append_m aLen aOne (by rfl) (.tmp 77) (.tmp 83) _ (by rfl) 31 i0 _ 40 Try.underlying22 hi0T hz0 hz1 hz2 rfl (by decide) (by omega) (.slice (some ⟨V.heap.size, 0, none⟩) 0 0) [] (L.take i) (by rfl) (row_empty ((Bk.new V [] 31).fr (Fr.refl none' _).drew id)) (some ⟨Bx, ox, none⟩) i vc (by rfl) HTK.out.symm (InW.take' (inw_fr HS0.out (((fr_new V).alloc (.cells #[] 31)).drew)) i) (ins_len1 HLN.out) ?_
            intro v5 w5 o5 f5 h5
            have O5 := Lib.hid o5
            have hfa := fr_append (((fr_new V).alloc (.cells #[] 31)).drew) (own_at (by omega)) f5 h5
            have FR5 := Lib.hid hfa.1
            have N5 := Lib.hid hfa.2
            clear o5 f5 h5 hfa
            refine hK.out _ _ (HSF.out _ FR5.out) (fun hHeld => ?_)
            clear hK K
            (try simp only [Act.put, List.setIfInBounds_toArray, List.set_cons_zero, List.set_cons_succ])
            refine wpAnyH_ready (rs := [10]) (by kernel_rfl) (by simp) ?_
            refine AllReadyH.cons rfl (fun K hK => ?_) AllReadyH.nil
            go_simp
            refine hK.out _ _ (HSF.out _ (FR5.out.alloc (.cells #[.string a.1, .int .i64 a.2.1, .string a.2.2] 31))) (fun hHeld => ?_)
            clear hK K
            (try simp only [Act.put, List.setIfInBounds_toArray, List.set_cons_zero, List.set_cons_succ])
            refine wpAnyH_ready (rs := [11]) (by kernel_rfl) (by simp) ?_
            refine AllReadyH.cons rfl (fun K hK => ?_) AllReadyH.nil
            refine step_append_m aLen aOne (by rfl) (.tmp 84) (.tmp 86) _ (by rfl) 31 i0 _ 40 Try.underlying22 hi0T hz0 hz1 hz2 rfl (by decide) (by omega) v5 ([] ++ L.take i) [a] (by rfl) (((Fr.refl none' w5).alloc (.cells #[.string a.1, .int .i64 a.2.1, .string a.2.2] 31)).row O5.out (fun _ _ => id)) (some ⟨w5.heap.size, 0, none⟩) 1 1 (by rfl) rfl (inw_one (f := aC) (sz := 3) (x := a) (Bk.new w5 (aC a) 31)) (ins_len2 HLN.out) ?_
            intro v6 w6 o6 f6 h6
            have O6 := Lib.hid o6
            have hfa := fr_append (FR5.out.alloc (.cells #[.string a.1, .int .i64 a.2.1, .string a.2.2] 31)) N5.out f6 h6
            have FR6 := Lib.hid hfa.1
            have N6 := Lib.hid hfa.2
            clear o6 f6 h6 hfa
            refine hK.out _ _ (HSF.out _ FR6.out) (fun hHeld => ?_)
            clear hK K
            (try simp only [Act.put, List.setIfInBounds_toArray, List.set_cons_zero, List.set_cons_succ])
            refine wpAnyH_ready (rs := [18]) (by kernel_rfl) (by simp) ?_
            refine AllReadyH.cons rfl (fun K hK => ?_) AllReadyH.nil
            refine step_append_m aLen aOne (by rfl) (.tmp 87) (.tmp 93) _ (by rfl) 31 i0 _ 40 Try.underlying22 hi0T hz0 hz1 hz2 rfl (by decide) (by omega) v6 (([] ++ L.take i) ++ [a]) (L.drop i) (by rfl) O6.out sb (n - i) (vc - i) (by rfl) HDR.out.symm (HSD.out _ FR6.out) (ins_len3 HLN.out) ?_
            intro v7 w7 o7 f7 h7
            have O7 := Lib.hid o7
            have hfa := fr_append FR6.out N6.out f7 h7
            have FR7 := Lib.hid hfa.1
            have N7 := Lib.hid hfa.2
            have hv7 := inw_of_rowm aLen (by omega) o7
            obtain ⟨b7, c7, hv7, _, _, _, hn7⟩ := hv7
            generalize hl7 : ((([] ++ L.take i) ++ [a]) ++ L.drop i).length = l7 at hv7
            have HL7 := Lib.hid hl7
            subst hv7
            clear o7 f7 h7 hfa hl7 hn7
            refine hK.out _ _ (HSF.out _ FR7.out) (fun hHeld => ?_)
            clear hK K
            (try simp only [Act.put, List.setIfInBounds_toArray, List.set_cons_zero, List.set_cons_succ])
            refine take_at (i := 19) (v := ?_) (some 95) rfl rfl (by kernel_rfl) (by kernel_rfl) (by kernel_rfl) (fun _ _ _ h => h) (by rfl) ?_ (by assumption) ?_
            rotate_left
            · intro w hSw
              (try dsimp only at hSw)
              go_simp
              try (with_reducible rfl)
            (try simp only [Act.put, List.setIfInBounds_toArray, List.set_cons_zero, List.set_cons_succ])
            refine take_at (i := 20) (v := ?_) (some 96) rfl rfl (by kernel_rfl) (by kernel_rfl) (by kernel_rfl) (fun _ _ _ h => h) (by rfl) ?_ (by assumption) ?_
            rotate_left
            · intro w hSw
              (try dsimp only at hSw)
              go_simp
              try (with_reducible rfl)
            (try simp only [Act.put, List.setIfInBounds_toArray, List.set_cons_zero, List.set_cons_succ])
            refine wpAnyH_done (by kernel_rfl) ?_ _
            have p7 : w7.cell? ⟨p, 1, none⟩ = some (.slice (some ⟨Bx, ox, none⟩) n vc) := hHeld.1
            have p7f : w7.frozen? ⟨p, 1, none⟩ = false := HFZ.out _ FR7.out
            simp only [LastQ]
            go_simp
            go_wp2_with fail
            go_ret
            exact ⟨rfl, dadd_fin HD.out HWV.out.bl HWV.out.dc HOKT.out HNL.out HP.out HL7.out O7.out FR7.out N7.out⟩
          · go_simp
            refine hK.out _ _ (HSF.out _ (((fr_new V).alloc (.cells #[] 31)).alloc (.cells #[.string a.1, .int .i64 a.2.1, .string a.2.2] 31)).drew) (fun hHeld => ?_)
            clear hK K
            (try simp only [Act.put, List.setIfInBounds_toArray, List.set_cons_zero, List.set_cons_succ])
            refine wpAnyH_ready (rs := [8]) (by kernel_rfl) (by simp) ?_
            refine AllReadyH.cons rfl (fun K hK => ?_) AllReadyH.nil
            refine step_append_m aLen aOne (by rfl) (.tmp 77) (.tmp 83) _ (by rfl) 31 i0 _ 40 Try.underlying22 hi0T hz0 hz1 hz2 rfl (by decide) (by omega) (.slice (some ⟨V.heap.size, 0, none⟩) 0 0) [] (L.take i) (by rfl) (row_empty (((Bk.new V [] 31).old (.cells #[.string a.1, .int .i64 a.2.1, .string a.2.2] 31)).fr (Fr.refl none' _).drew id)) (some ⟨Bx, ox, none⟩) i vc (by rfl) HTK.out.symm (InW.take' (inw_fr HS0.out ((((fr_new V).alloc (.cells #[] 31)).alloc (.cells #[.string a.1, .int .i64 a.2.1, .string a.2.2] 31)).drew)) i) (ins_len1 HLN.out) ?_
            intro v5 w5 o5 f5 h5
            have O5 := Lib.hid o5
            have hfa := fr_append ((((fr_new V).alloc (.cells #[] 31)).alloc (.cells #[.string a.1, .int .i64 a.2.1, .string a.2.2] 31)).drew) (own_at (by omega)) f5 h5
            have FR5 := Lib.hid hfa.1
            have N5 := Lib.hid hfa.2
            have HC5 := Lib.hid (inw_one (f := aC) (sz := 3) (x := a) (Bk.fr ((Bk.new' V (.cells #[] 31) (aC a) 31).fr (Fr.refl none' _).drew id) f5 (by simp [Value.ownBlock])))
            clear o5 f5 h5 hfa
            refine hK.out _ _ (HSF.out _ FR5.out) (fun hHeld => ?_)
            clear hK K
            (try simp only [Act.put, List.setIfInBounds_toArray, List.set_cons_zero, List.set_cons_succ])
            refine wpAnyH_ready (rs := [11]) (by kernel_rfl) (by simp) ?_
            refine AllReadyH.cons rfl (fun K hK => ?_) AllReadyH.nil
            refine step_append_m aLen aOne (by rfl) (.tmp 84) (.tmp 86) _ (by rfl) 31 i0 _ 40 Try.underlying22 hi0T hz0 hz1 hz2 rfl (by decide) (by omega) v5 ([] ++ L.take i) [a] (by rfl) O5.out (some ⟨V.heap.size + 1, 0, none⟩) 1 1 (by rfl) rfl HC5.out (ins_len2 HLN.out) ?_
            intro v6 w6 o6 f6 h6
            have O6 := Lib.hid o6
            have hfa := fr_append FR5.out N5.out f6 h6
            have FR6 := Lib.hid hfa.1
            have N6 := Lib.hid hfa.2
            clear o6 f6 h6 hfa
            refine hK.out _ _ (HSF.out _ FR6.out) (fun hHeld => ?_)
            clear hK K
            (try simp only [Act.put, List.setIfInBounds_toArray, List.set_cons_zero, List.set_cons_succ])
            refine wpAnyH_ready (rs := [18]) (by kernel_rfl) (by simp) ?_
            refine AllReadyH.cons rfl (fun K hK => ?_) AllReadyH.nil
            refine step_append_m aLen aOne (by rfl) (.tmp 87) (.tmp 93) _ (by rfl) 31 i0 _ 40 Try.underlying22 hi0T hz0 hz1 hz2 rfl (by decide) (by omega) v6 (([] ++ L.take i) ++ [a]) (L.drop i) (by rfl) O6.out sb (n - i) (vc - i) (by rfl) HDR.out.symm (HSD.out _ FR6.out) (ins_len3 HLN.out) ?_
            intro v7 w7 o7 f7 h7
            have O7 := Lib.hid o7
            have hfa := fr_append FR6.out N6.out f7 h7
            have FR7 := Lib.hid hfa.1
            have N7 := Lib.hid hfa.2
            have hv7 := inw_of_rowm aLen (by omega) o7
            obtain ⟨b7, c7, hv7, _, _, _, hn7⟩ := hv7
            generalize hl7 : ((([] ++ L.take i) ++ [a]) ++ L.drop i).length = l7 at hv7
            have HL7 := Lib.hid hl7
            subst hv7
            clear o7 f7 h7 hfa hl7 hn7
            refine hK.out _ _ (HSF.out _ FR7.out) (fun hHeld => ?_)
            clear hK K
            (try simp only [Act.put, List.setIfInBounds_toArray, List.set_cons_zero, List.set_cons_succ])
            refine take_at (i := 19) (v := ?_) (some 95) rfl rfl (by kernel_rfl) (by kernel_rfl) (by kernel_rfl) (fun _ _ _ h => h) (by rfl) ?_ (by assumption) ?_
            rotate_left
            · intro w hSw
              (try dsimp only at hSw)
              go_simp
              try (with_reducible rfl)
            (try simp only [Act.put, List.setIfInBounds_toArray, List.set_cons_zero, List.set_cons_succ])
            refine take_at (i := 20) (v := ?_) (some 96) rfl rfl (by kernel_rfl) (by kernel_rfl) (by kernel_rfl) (fun _ _ _ h => h) (by rfl) ?_ (by assumption) ?_
            rotate_left
            · intro w hSw
              (try dsimp only at hSw)
              go_simp
              try (with_reducible rfl)
            (try simp only [Act.put, List.setIfInBounds_toArray, List.set_cons_zero, List.set_cons_succ])
            refine wpAnyH_done (by kernel_rfl) ?_ _
            have p7 : w7.cell? ⟨p, 1, none⟩ = some (.slice (some ⟨Bx, ox, none⟩) n vc) := hHeld.1
            have p7f : w7.frozen? ⟨p, 1, none⟩ = false := HFZ.out _ FR7.out
            simp only [LastQ]
            go_simp
            go_wp2_with fail
            go_ret
            exact ⟨rfl, dadd_fin HD.out HWV.out.bl HWV.out.dc HOKT.out HNL.out HP.out HL7.out O7.out FR7.out N7.out⟩
        · go_simp
          refine hK.out _ _ (HSF.out _ ((fr_new V).alloc (.cells #[.string a.1, .int .i64 a.2.1, .string a.2.2] 31)).drew) (fun hHeld => ?_)
          clear hK K
          (try simp only [Act.put, List.setIfInBounds_toArray, List.set_cons_zero, List.set_cons_succ])
          refine wpAnyH_ready (rs := [1]) (by kernel_rfl) (by simp) ?_
          refine AllReadyH.cons rfl (fun K hK => ?_) AllReadyH.nil
          go_simp
          refine hK.out _ _ (HSF.out _ (((fr_new V).alloc (.cells #[.string a.1, .int .i64 a.2.1, .string a.2.2] 31)).alloc (.cells #[] 31)).drew) (fun hHeld => ?_)
          clear hK K
          (try simp only [Act.put, List.setIfInBounds_toArray, List.set_cons_zero, List.set_cons_succ])
          refine wpAnyH_ready (rs := [8]) (by kernel_rfl) (by simp) ?_
          refine AllReadyH.cons rfl (fun K hK => ?_) AllReadyH.nil
          refine step_append_m aLen aOne (by rfl) (.tmp 77) (.tmp 83) _ (by rfl) 31 i0 _ 40 Try.underlying22 hi0T hz0 hz1 hz2 rfl (by decide) (by omega) (.slice (some ⟨V.heap.size + 1, 0, none⟩) 0 0) [] (L.take i) (by rfl) (row_empty ((Bk.new' V (.cells #[.string a.1, .int .i64 a.2.1, .string a.2.2] 31) [] 31).fr (Fr.refl none' _).drew id)) (some ⟨Bx, ox, none⟩) i vc (by rfl) HTK.out.symm (InW.take' (inw_fr HS0.out ((((fr_new V).alloc (.cells #[.string a.1, .int .i64 a.2.1, .string a.2.2] 31)).alloc (.cells #[] 31)).drew)) i) (ins_len1 HLN.out) ?_
          intro v5 w5 o5 f5 h5
          have O5 := Lib.hid o5
          have hfa := fr_append ((((fr_new V).alloc (.cells #[.string a.1, .int .i64 a.2.1, .string a.2.2] 31)).alloc (.cells #[] 31)).drew) (own_at (by omega)) f5 h5
          have FR5 := Lib.hid hfa.1
          have N5 := Lib.hid hfa.2
          have HC5 := Lib.hid (inw_one (f := aC) (sz := 3) (x := a) (Bk.fr (((Bk.new V (aC a) 31).old (.cells #[] 31)).fr (Fr.refl none' _).drew id) f5 (by simp [Value.ownBlock])))
          clear o5 f5 h5 hfa
          refine hK.out _ _ (HSF.out _ FR5.out) (fun hHeld => ?_)
          clear hK K
          (try simp only [Act.put, List.setIfInBounds_toArray, List.set_cons_zero, List.set_cons_succ])
          refine wpAnyH_ready (rs := [11]) (by kernel_rfl) (by simp) ?_
          refine AllReadyH.cons rfl (fun K hK => ?_) AllReadyH.nil
          refine step_append_m aLen aOne (by rfl) (.tmp 84) (.tmp 86) _ (by rfl) 31 i0 _ 40 Try.underlying22 hi0T hz0 hz1 hz2 rfl (by decide) (by omega) v5 ([] ++ L.take i) [a] (by rfl) O5.out (some ⟨V.heap.size, 0, none⟩) 1 1 (by rfl) rfl HC5.out (ins_len2 HLN.out) ?_
          intro v6 w6 o6 f6 h6
          have O6 := Lib.hid o6
          have hfa := fr_append FR5.out N5.out f6 h6
          have FR6 := Lib.hid hfa.1
          have N6 := Lib.hid hfa.2
          clear o6 f6 h6 hfa
          refine hK.out _ _ (HSF.out _ FR6.out) (fun hHeld => ?_)
          clear hK K
          (try simp only [Act.put, List.setIfInBounds_toArray, List.set_cons_zero, List.set_cons_succ])
          refine wpAnyH_ready (rs := [18]) (by kernel_rfl) (by simp) ?_
          refine AllReadyH.cons rfl (fun K hK => ?_) AllReadyH.nil
          refine step_append_m aLen aOne (by rfl) (.tmp 87) (.tmp 93) _ (by rfl) 31 i0 _ 40 Try.underlying22 hi0T hz0 hz1 hz2 rfl (by decide) (by omega) v6 (([] ++ L.take i) ++ [a]) (L.drop i) (by rfl) O6.out sb (n - i) (vc - i) (by rfl) HDR.out.symm (HSD.out _ FR6.out) (ins_len3 HLN.out) ?_
          intro v7 w7 o7 f7 h7
          have O7 := Lib.hid o7
          have hfa := fr_append FR6.out N6.out f7 h7
          have FR7 := Lib.hid hfa.1
          have N7 := Lib.hid hfa.2
          have hv7 := inw_of_rowm aLen (by omega) o7
          obtain ⟨b7, c7, hv7, _, _, _, hn7⟩ := hv7
          generalize hl7 : ((([] ++ L.take i) ++ [a]) ++ L.drop i).length = l7 at hv7
          have HL7 := Lib.hid hl7
          subst hv7
          clear o7 f7 h7 hfa hl7 hn7
          refine hK.out _ _ (HSF.out _ FR7.out) (fun hHeld => ?_)
          clear hK K
          (try simp only [Act.put, List.setIfInBounds_toArray, List.set_cons_zero, List.set_cons_succ])
          refine take_at (i := 19) (v := ?_) (some 95) rfl rfl (by kernel_rfl) (by kernel_rfl) (by kernel_rfl) (fun _ _ _ h => h) (by rfl) ?_ (by assumption) ?_
          rotate_left
          · intro w hSw
            (try dsimp only at hSw)
            go_simp
            try (with_reducible rfl)
          (try simp only [Act.put, List.setIfInBounds_toArray, List.set_cons_zero, List.set_cons_succ])
          refine take_at (i := 20) (v := ?_) (some 96) rfl rfl (by kernel_rfl) (by kernel_rfl) (by kernel_rfl) (fun _ _ _ h => h) (by rfl) ?_ (by assumption) ?_
          rotate_left
          · intro w hSw
            (try dsimp only at hSw)
            go_simp
            try (with_reducible rfl)
          (try simp only [Act.put, List.setIfInBounds_toArray, List.set_cons_zero, List.set_cons_succ])
          refine wpAnyH_done (by kernel_rfl) ?_ _
          have p7 : w7.cell? ⟨p, 1, none⟩ = some (.slice (some ⟨Bx, ox, none⟩) n vc) := hHeld.1
          have p7f : w7.frozen? ⟨p, 1, none⟩ = false := HFZ.out _ FR7.out
          simp only [LastQ]
          go_simp
          go_wp2_with fail
          go_ret
          exact ⟨rfl, dadd_fin HD.out HWV.out.bl HWV.out.dc HOKT.out HNL.out HP.out HL7.out O7.out FR7.out N7.out⟩
      · have t0 : decide ((i : Int) < (n : Int)) = false := decide_eq_false (by omega)
        have t0n : decide (i < n) = false := decide_eq_false (by omega)
        have hi0 : (0 : Int) ≤ (i : Int) := by omega
        have y0 : wr.cell? ⟨p, 1, none⟩ = some (.slice vb n vc) := HW.out.dc.cell 1
        go_wp2_with fail
        go_quiet (fail)
        have HW1 : Hid (DaW w (wr.drewN nq) p g gap vb n vc L a) := Lib.hid (HW.out.bel (bdrewN (Below.refl _ _) nq))
        clear y0
        generalize wr.drewN nq = V1 at *
        have y0 : V1.cell? ⟨p, 1, none⟩ = some (.slice vb n vc) := HW1.out.dc.cell 1
        go_wp2_with fail
        go_quiet (fail)
        have HWV : Hid (DaW w (V1.drewN nq) p g gap vb n vc L a) := Lib.hid (HW1.out.bel (bdrewN (Below.refl _ _) nq))
        clear y0
        generalize V1.drewN nq = V at *
        have hsl1 := fun W => run_slice_to (P := Try.prog) W 22 31 (vb) n vc i 3 Try.underlying22 sizeAdd (by omega)
        have hsl2 := fun W => run_slice_from (P := Try.prog) W 22 31 (vb) n vc i 3 Try.underlying22 sizeAdd (by omega)
        have HS0 : Hid (InW V (vb) 3 (L.map aC)) := Lib.hid HWV.out.rw
        have HTK : Hid ((L.take i).length = i) := Lib.hid (by rw [List.length_take, Hn.out]; omega)
        have HDR : Hid ((L.drop i).length = n - i) := Lib.hid (by rw [List.length_drop, Hn.out])
        have HLN : Hid (L.length ≤ 900000) := Lib.hid (by rw [Hn.out]; omega)
        have HNL : Hid (L.length + 1 ≤ 100000) := Lib.hid (by rw [Hn.out]; omega)
        have HSD : Hid (∀ W, Fr (fun b => V.heap.size ≤ b) V W → InW W (subB (vb) vc i 3) 3 ((L.drop i).map aC)) := Lib.hid (fun W hF => by
          rw [List.map_drop]
          exact subB_inw (inw_fr HS0.out hF) (by rw [List.length_map, Hn.out]; omega))
        have HSF : Hid (∀ X, Fr (fun b => V.heap.size ≤ b) V X → (X.cell? ⟨p, 1, none⟩ = some (.slice vb n vc) ∧ X.cell? ⟨g, 0, none⟩ = some (.string a.1) ∧ X.cell? ⟨g, 1, none⟩ = some (.int .i64 a.2.1) ∧ X.cell? ⟨g, 2, none⟩ = some (.string a.2.2))) := Lib.hid (fun X hF => by
          have k1 := HWV.out.dc.fr hF (by have := HWV.out.dc.lt; omega)
          have k2 := HWV.out.bx.fr hF (by have := HWV.out.bx.lt; omega)
          exact ⟨k1.cell 1, k2.cell 0, k2.cell 1, k2.cell 2⟩)
        have HFZ : Hid (∀ X, Fr (fun b => V.heap.size ≤ b) V X → X.frozen? ⟨p, 1, none⟩ = false) := Lib.hid (fun X hF => (HWV.out.dc.fr hF (by have := HWV.out.dc.lt; omega)).free 1)
        generalize subB (vb) vc i 3 = sb at *
        go_wp2_with fail
        refine region_last (S := fun X => X.cell? ⟨p, 1, none⟩ = some (.slice vb n vc) ∧ X.cell? ⟨g, 0, none⟩ = some (.string a.1) ∧ X.cell? ⟨g, 1, none⟩ = some (.int .i64 a.2.1) ∧ X.cell? ⟨g, 2, none⟩ = some (.string a.2.2)) 21 _ (by kernel_rfl) (by rfl) rfl rfl (by kernel_rfl) (HSF.out _ (fr_new V).drew) (fun hHeld => ?_)
        simp only [List.dropLast]
        refine take_at (i := 0) (v := ?_) (some 76) rfl rfl (by kernel_rfl) (by kernel_rfl) (by kernel_rfl) (fun _ _ _ h => h) (by rfl) ?_ (by assumption) ?_
        rotate_left
        · intro w hSw
          (try dsimp only at hSw)
          go_simp
          try (with_reducible rfl)
        (try simp only [Act.put, List.setIfInBounds_toArray, List.set_cons_zero, List.set_cons_succ])
        refine take_at (i := 2) (v := ?_) (some 78) rfl rfl (by kernel_rfl) (by kernel_rfl) (by kernel_rfl) (fun _ _ _ h => h) (by rfl) ?_ (by assumption) ?_
        rotate_left
        · intro w hSw
          (try dsimp only at hSw)
          go_simp
          try (with_reducible rfl)
        (try simp only [Act.put, List.setIfInBounds_toArray, List.set_cons_zero, List.set_cons_succ])
        refine take_at (i := 3) (v := ?_) (some 79) rfl rfl (by kernel_rfl) (by kernel_rfl) (by kernel_rfl) (fun _ _ _ h => h) (by rfl) ?_ (by assumption) ?_
        rotate_left
        · intro w hSw
          (try dsimp only at hSw)
          go_simp
          try (with_reducible rfl)
        (try simp only [Act.put, List.setIfInBounds_toArray, List.set_cons_zero, List.set_cons_succ])
        refine take_at (i := 4) (v := ?_) (some 80) rfl rfl (by kernel_rfl) (by kernel_rfl) (by kernel_rfl) (fun _ _ _ h => h) (by rfl) ?_ (by assumption) ?_
        rotate_left
        · intro w hSw
          (try dsimp only at hSw)
          go_simp
          try (with_reducible rfl)
        (try simp only [Act.put, List.setIfInBounds_toArray, List.set_cons_zero, List.set_cons_succ])
        refine take_at (i := 5) (v := ?_) (some 81) rfl rfl (by kernel_rfl) (by kernel_rfl) (by kernel_rfl) (fun _ _ _ h => h) (by rfl) ?_ (by assumption) ?_
        rotate_left
        · intro w hSw
          (try dsimp only at hSw)
          go_simp
          try (with_reducible rfl)
        (try simp only [Act.put, List.setIfInBounds_toArray, List.set_cons_zero, List.set_cons_succ])
        refine take_at (i := 6) (v := ?_) (some 82) rfl rfl (by kernel_rfl) (by kernel_rfl) (by kernel_rfl) (fun _ _ _ h => h) (by rfl) ?_ (by assumption) ?_
        rotate_left
        · intro w hSw
          (try dsimp only at hSw)
          go_simp
          try (with_reducible rfl)
        (try simp only [Act.put, List.setIfInBounds_toArray, List.set_cons_zero, List.set_cons_succ])
        refine take_at (i := 7) (v := ?_) (some 83) rfl rfl (by kernel_rfl) (by kernel_rfl) (by kernel_rfl) (fun _ _ _ h => h) (by rfl) ?_ (by assumption) ?_
        rotate_left
        · intro w hSw
          (try dsimp only at hSw)
          go_simp
          try (with_reducible rfl)
        (try simp only [Act.put, List.setIfInBounds_toArray, List.set_cons_zero, List.set_cons_succ])
        refine take_at (i := 9) (v := ?_) (some 85) rfl rfl (by kernel_rfl) (by kernel_rfl) (by kernel_rfl) (fun _ _ _ h => h) (by rfl) ?_ (by assumption) ?_
        rotate_left
        · intro w hSw
          (try dsimp only at hSw)
          go_simp
          try (with_reducible rfl)
        (try simp only [Act.put, List.setIfInBounds_toArray, List.set_cons_zero, List.set_cons_succ])
        refine take_at (i := 12) (v := ?_) (some 88) rfl rfl (by kernel_rfl) (by kernel_rfl) (by kernel_rfl) (fun _ _ _ h => h) (by rfl) ?_ (by assumption) ?_
        rotate_left
        · intro w hSw
          (try dsimp only at hSw)
          go_simp
          try (with_reducible rfl)
        (try simp only [Act.put, List.setIfInBounds_toArray, List.set_cons_zero, List.set_cons_succ])
        refine take_at (i := 13) (v := ?_) (some 89) rfl rfl (by kernel_rfl) (by kernel_rfl) (by kernel_rfl) (fun _ _ _ h => h) (by rfl) ?_ (by assumption) ?_
        rotate_left
        · intro w hSw
          (try dsimp only at hSw)
          go_simp
          try (with_reducible rfl)
        (try simp only [Act.put, List.setIfInBounds_toArray, List.set_cons_zero, List.set_cons_succ])
        refine take_at (i := 14) (v := ?_) (some 90) rfl rfl (by kernel_rfl) (by kernel_rfl) (by kernel_rfl) (fun _ _ _ h => h) (by rfl) ?_ (by assumption) ?_
        rotate_left
        · intro w hSw
          (try dsimp only at hSw)
          go_simp
          try (with_reducible rfl)
        (try simp only [Act.put, List.setIfInBounds_toArray, List.set_cons_zero, List.set_cons_succ])
        refine take_at (i := 15) (v := ?_) (some 91) rfl rfl (by kernel_rfl) (by kernel_rfl) (by kernel_rfl) (fun _ _ _ h => h) (by rfl) ?_ (by assumption) ?_
        rotate_left
        · intro w hSw
          (try dsimp only at hSw)
          go_simp
          try (with_reducible rfl)
        (try simp only [Act.put, List.setIfInBounds_toArray, List.set_cons_zero, List.set_cons_succ])
        refine take_at (i := 16) (v := ?_) (some 92) rfl rfl (by kernel_rfl) (by kernel_rfl) (by kernel_rfl) (fun _ _ _ h => h) (by rfl) ?_ (by assumption) ?_
        rotate_left
        · intro w hSw
          (try dsimp only at hSw)
          go_simp
          try (with_reducible rfl)
        (try simp only [Act.put, List.setIfInBounds_toArray, List.set_cons_zero, List.set_cons_succ])
        refine take_at (i := 17) (v := ?_) (some 93) rfl rfl (by kernel_rfl) (by kernel_rfl) (by kernel_rfl) (fun _ _ _ h => h) (by rfl) ?_ (by assumption) ?_
        rotate_left
        · intro w hSw
          (try dsimp only at hSw)
          go_simp
          try (with_reducible rfl)
        (try simp only [Act.put, List.setIfInBounds_toArray, List.set_cons_zero, List.set_cons_succ])
        refine wpAnyH_ready (rs := [1, 10]) (by kernel_rfl) (by simp) ?_
        refine AllReadyH.cons rfl (fun K hK => ?_) (AllReadyH.cons rfl (fun K hK => ?_) AllReadyH.nil)
        · go_simp
          refine hK.out _ _ (HSF.out _ ((fr_new V).alloc (.cells #[] 31)).drew) (fun hHeld => ?_)
          clear hK K
          (try simp only [Act.put, List.setIfInBounds_toArray, List.set_cons_zero, List.set_cons_succ])
          refine wpAnyH_ready (rs := [8, 10]) (by kernel_rfl) (by simp) ?_
          refine AllReadyH.cons rfl (fun K hK => ?_) (AllReadyH.cons rfl (fun K hK => ?_) AllReadyH.nil)
          · refine step_append_m aLen aOne (by rfl) (.tmp 77) (.tmp 83) _ (by rfl) 31 i0 _ 40 Try.underlying22 hi0T hz0 hz1 hz2 rfl (by decide) (by omega) (.slice (some ⟨V.heap.size, 0, none⟩) 0 0) [] (L.take i) (by rfl) (row_empty ((Bk.new V [] 31).fr (Fr.refl none' _).drew id)) vb i vc (by rfl) HTK.out.symm (InW.take' (inw_fr HS0.out (((fr_new V).alloc (.cells #[] 31)).drew)) i) (ins_len1 HLN.out) ?_
            intro v5 w5 o5 f5 h5
            have O5 := Lib.hid o5
            have hfa := fr_append (((fr_new V).alloc (.cells #[] 31)).drew) (own_at (by omega)) f5 h5
            have FR5 := Lib.hid hfa.1
            have N5 := Lib.hid hfa.2
            clear o5 f5 h5 hfa
            refine hK.out _ _ (HSF.out _ FR5.out) (fun hHeld => ?_)
            clear hK K
            (try simp only [Act.put, List.setIfInBounds_toArray, List.set_cons_zero, List.set_cons_succ])
            refine wpAnyH_ready (rs := [10]) (by kernel_rfl) (by simp) ?_
            refine AllReadyH.cons rfl (fun K hK => ?_) AllReadyH.nil
            go_simp
            refine hK.out _ _ (HSF.out _ (FR5.out.alloc (.cells #[.string a.1, .int .i64 a.2.1, .string a.2.2] 31))) (fun hHeld => ?_)
            clear hK K
            (try simp only [Act.put, List.setIfInBounds_toArray, List.set_cons_zero, List.set_cons_succ])
            refine wpAnyH_ready (rs := [11]) (by kernel_rfl) (by simp) ?_
            refine AllReadyH.cons rfl (fun K hK => ?_) AllReadyH.nil
            refine step_append_m aLen aOne (by rfl) (.tmp 84) (.tmp 86) _ (by rfl) 31 i0 _ 40 Try.underlying22 hi0T hz0 hz1 hz2 rfl (by decide) (by omega) v5 ([] ++ L.take i) [a] (by rfl) (((Fr.refl none' w5).alloc (.cells #[.string a.1, .int .i64 a.2.1, .string a.2.2] 31)).row O5.out (fun _ _ => id)) (some ⟨w5.heap.size, 0, none⟩) 1 1 (by rfl) rfl (inw_one (f := aC) (sz := 3) (x := a) (Bk.new w5 (aC a) 31)) (ins_len2 HLN.out) ?_
            intro v6 w6 o6 f6 h6
            have O6 := Lib.hid o6
            have hfa := fr_append (FR5.out.alloc (.cells #[.string a.1, .int .i64 a.2.1, .string a.2.2] 31)) N5.out f6 h6
            have FR6 := Lib.hid hfa.1
            have N6 := Lib.hid hfa.2
            clear o6 f6 h6 hfa
            refine hK.out _ _ (HSF.out _ FR6.out) (fun hHeld => ?_)
            clear hK K
            (try simp only [Act.put, List.setIfInBounds_toArray, List.set_cons_zero, List.set_cons_succ])
            refine wpAnyH_ready (rs := [18]) (by kernel_rfl) (by simp) ?_
            refine AllReadyH.cons rfl (fun K hK => ?_) AllReadyH.nil
            refine step_append_m aLen aOne (by rfl) (.tmp 87) (.tmp 93) _ (by rfl) 31 i0 _ 40 Try.underlying22 hi0T hz0 hz1 hz2 rfl (by decide) (by omega) v6 (([] ++ L.take i) ++ [a]) (L.drop i) (by rfl) O6.out sb (n - i) (vc - i) (by rfl) HDR.out.symm (HSD.out _ FR6.out) (ins_len3 HLN.out) ?_
            intro v7 w7 o7 f7 h7
            have O7 := Lib.hid o7
            have hfa := fr_append FR6.out N6.out f7 h7
            have FR7 := Lib.hid hfa.1
            have N7 := Lib.hid hfa.2
            have hv7 := inw_of_rowm aLen (by omega) o7
            obtain ⟨b7, c7, hv7, _, _, _, hn7⟩ := hv7
            generalize hl7 : ((([] ++ L.take i) ++ [a]) ++ L.drop i).length = l7 at hv7
            have HL7 := Lib.hid hl7
            subst hv7
            clear o7 f7 h7 hfa hl7 hn7
            refine hK.out _ _ (HSF.out _ FR7.out) (fun hHeld => ?_)
            clear hK K
            (try simp only [Act.put, List.setIfInBounds_toArray, List.set_cons_zero, List.set_cons_succ])
            refine take_at (i := 19) (v := ?_) (some 95) rfl rfl (by kernel_rfl) (by kernel_rfl) (by kernel_rfl) (fun _ _ _ h => h) (by rfl) ?_ (by assumption) ?_
            rotate_left
            · intro w hSw
              (try dsimp only at hSw)
              go_simp
              try (with_reducible rfl)
            (try simp only [Act.put, List.setIfInBounds_toArray, List.set_cons_zero, List.set_cons_succ])
            refine take_at (i := 20) (v := ?_) (some 96) rfl rfl (by kernel_rfl) (by kernel_rfl) (by kernel_rfl) (fun _ _ _ h => h) (by rfl) ?_ (by assumption) ?_
            rotate_left
            · intro w hSw
              (try dsimp only at hSw)
              go_simp
              try (with_reducible rfl)
            (try simp only [Act.put, List.setIfInBounds_toArray, List.set_cons_zero, List.set_cons_succ])
            refine wpAnyH_done (by kernel_rfl) ?_ _
            have p7 : w7.cell? ⟨p, 1, none⟩ = some (.slice vb n vc) := hHeld.1
            have p7f : w7.frozen? ⟨p, 1, none⟩ = false := HFZ.out _ FR7.out
            simp only [LastQ]
            go_simp
            go_wp2_with fail
            go_ret
            exact ⟨rfl, dadd_fin HD.out HWV.out.bl HWV.out.dc HOKT.out HNL.out HP.out HL7.out O7.out FR7.out N7.out⟩
          · go_simp
            refine hK.out _ _ (HSF.out _ (((fr_new V).alloc (.cells #[] 31)).alloc (.cells #[.string a.1, .int .i64 a.2.1, .string a.2.2] 31)).drew) (fun hHeld => ?_)
            clear hK K
            (try simp only [Act.put, List.setIfInBounds_toArray, List.set_cons_zero, List.set_cons_succ])
            refine wpAnyH_ready (rs := [8]) (by kernel_rfl) (by simp) ?_
            refine AllReadyH.cons rfl (fun K hK => ?_) AllReadyH.nil
            refine step_append_m aLen aOne (by rfl) (.tmp 77) (.tmp 83) _ (by rfl) 31 i0 _ 40 Try.underlying22 hi0T hz0 hz1 hz2 rfl (by decide) (by omega) (.slice (some ⟨V.heap.size, 0, none⟩) 0 0) [] (L.take i) (by rfl) (row_empty (((Bk.new V [] 31).old (.cells #[.string a.1, .int .i64 a.2.1, .string a.2.2] 31)).fr (Fr.refl none' _).drew id)) vb i vc (by rfl) HTK.out.symm (InW.take' (inw_fr HS0.out ((((fr_new V).alloc (.cells #[] 31)).alloc (.cells #[.string a.1, .int .i64 a.2.1, .string a.2.2] 31)).drew)) i) (ins_len1 HLN.out) ?_
            intro v5 w5 o5 f5 h5
            have O5 := Lib.hid o5
            have hfa := fr_append ((((fr_new V).alloc (.cells #[] 31)).alloc (.cells #[.string a.1, .int .i64 a.2.1, .string a.2.2] 31)).drew) (own_at (by omega)) f5 h5
            have FR5 := Lib.hid hfa.1
            have N5 := Lib.hid hfa.2
            have HC5 := Lib.hid (inw_one (f := aC) (sz := 3) (x := a) (Bk.fr ((Bk.new' V (.cells #[] 31) (aC a) 31).fr (Fr.refl none' _).drew id) f5 (by simp [Value.ownBlock])))
            clear o5 f5 h5 hfa
            refine hK.out _ _ (HSF.out _ FR5.out) (fun hHeld => ?_)
            clear hK K
            (try simp only [Act.put, List.setIfInBounds_toArray, List.set_cons_zero, List.set_cons_succ])
            refine wpAnyH_ready (rs := [11]) (by kernel_rfl) (by simp) ?_
            refine AllReadyH.cons rfl (fun K hK => ?_) AllReadyH.nil
            refine step_append_m aLen aOne (by rfl) (.tmp 84) (.tmp 86) _ (by rfl) 31 i0 _ 40 Try.underlying22 hi0T hz0 hz1 hz2 rfl (by decide) (by omega) v5 ([] ++ L.take i) [a] (by rfl) O5.out (some ⟨V.heap.size + 1, 0, none⟩) 1 1 (by rfl) rfl HC5.out (ins_len2 HLN.out) ?_
            intro v6 w6 o6 f6 h6
            have O6 := Lib.hid o6
            have hfa := fr_append FR5.out N5.out f6 h6
            have FR6 := Lib.hid hfa.1
            have N6 := Lib.hid hfa.2
            clear o6 f6 h6 hfa
            refine hK.out _ _ (HSF.out _ FR6.out) (fun hHeld => ?_)
            clear hK K
            (try simp only [Act.put, List.setIfInBounds_toArray, List.set_cons_zero, List.set_cons_succ])
            refine wpAnyH_ready (rs := [18]) (by kernel_rfl) (by simp) ?_
            refine AllReadyH.cons rfl (fun K hK => ?_) AllReadyH.nil
            refine step_append_m aLen aOne (by rfl) (.tmp 87) (.tmp 93) _ (by rfl) 31 i0 _ 40 Try.underlying22 hi0T hz0 hz1 hz2 rfl (by decide) (by omega) v6 (([] ++ L.take i) ++ [a]) (L.drop i) (by rfl) O6.out sb (n - i) (vc - i) (by rfl) HDR.out.symm (HSD.out _ FR6.out) (ins_len3 HLN.out) ?_
            intro v7 w7 o7 f7 h7
            have O7 := Lib.hid o7
            have hfa := fr_append FR6.out N6.out f7 h7
            have FR7 := Lib.hid hfa.1
            have N7 := Lib.hid hfa.2
            have hv7 := inw_of_rowm aLen (by omega) o7
            obtain ⟨b7, c7, hv7, _, _, _, hn7⟩ := hv7
            generalize hl7 : ((([] ++ L.take i) ++ [a]) ++ L.drop i).length = l7 at hv7
            have HL7 := Lib.hid hl7
            subst hv7
            clear o7 f7 h7 hfa hl7 hn7
            refine hK.out _ _ (HSF.out _ FR7.out) (fun hHeld => ?_)
            clear hK K
            (try simp only [Act.put, List.setIfInBounds_toArray, List.set_cons_zero, List.set_cons_succ])
            refine take_at (i := 19) (v := ?_) (some 95) rfl rfl (by kernel_rfl) (by kernel_rfl) (by kernel_rfl) (fun _ _ _ h => h) (by rfl) ?_ (by assumption) ?_
            rotate_left
            · intro w hSw
              (try dsimp only at hSw)
              go_simp
              try (with_reducible rfl)
            (try simp only [Act.put, List.setIfInBounds_toArray, List.set_cons_zero, List.set_cons_succ])
            refine take_at (i := 20) (v := ?_) (some 96) rfl rfl (by kernel_rfl) (by kernel_rfl) (by kernel_rfl) (fun _ _ _ h => h) (by rfl) ?_ (by assumption) ?_
            rotate_left
            · intro w hSw
              (try dsimp only at hSw)
              go_simp
              try (with_reducible rfl)
            (try simp only [Act.put, List.setIfInBounds_toArray, List.set_cons_zero, List.set_cons_succ])
            refine wpAnyH_done (by kernel_rfl) ?_ _
            have p7 : w7.cell? ⟨p, 1, none⟩ = some (.slice vb n vc) := hHeld.1
            have p7f : w7.frozen? ⟨p, 1, none⟩ = false := HFZ.out _ FR7.out
            simp only [LastQ]
            go_simp
            go_wp2_with fail
            go_ret
            exact ⟨rfl, dadd_fin HD.out HWV.out.bl HWV.out.dc HOKT.out HNL.out HP.out HL7.out O7.out FR7.out N7.out⟩
        · go_simp
          refine hK.out _ _ (HSF.out _ ((fr_new V).alloc (.cells #[.string a.1, .int .i64 a.2.1, .string a.2.2] 31)).drew) (fun hHeld => ?_)
          clear hK K
          (try simp only [Act.put, List.setIfInBounds_toArray, List.set_cons_zero, List.set_cons_succ])
          refine wpAnyH_ready (rs := [1]) (by kernel_rfl) (by simp) ?_
          refine AllReadyH.cons rfl (fun K hK => ?_) AllReadyH.nil
          go_simp
          refine hK.out _ _ (HSF.out _ (((fr_new V).alloc (.cells #[.string a.1, .int .i64 a.2.1, .string a.2.2] 31)).alloc (.cells #[] 31)).drew) (fun hHeld => ?_)
          clear hK K
          (try simp only [Act.put, List.setIfInBounds_toArray, List.set_cons_zero, List.set_cons_succ])
          refine wpAnyH_ready (rs := [8]) (by kernel_rfl) (by simp) ?_
          refine AllReadyH.cons rfl (fun K hK => ?_) AllReadyH.nil
          refine step_append_m aLen aOne (by rfl) (.tmp 77) (.tmp 83) _ (by rfl) 31 i0 _ 40 Try.underlying22 hi0T hz0 hz1 hz2 rfl (by decide) (by omega) (.slice (some ⟨V.heap.size + 1, 0, none⟩) 0 0) [] (L.take i) (by rfl) (row_empty ((Bk.new' V (.cells #[.string a.1, .int .i64 a.2.1, .string a.2.2] 31) [] 31).fr (Fr.refl none' _).drew id)) vb i vc (by rfl) HTK.out.symm (InW.take' (inw_fr HS0.out ((((fr_new V).alloc (.cells #[.string a.1, .int .i64 a.2.1, .string a.2.2] 31)).alloc (.cells #[] 31)).drew)) i) (ins_len1 HLN.out) ?_
          intro v5 w5 o5 f5 h5
          have O5 := Lib.hid o5
          have hfa := fr_append ((((fr_new V).alloc (.cells #[.string a.1, .int .i64 a.2.1, .string a.2.2] 31)).alloc (.cells #[] 31)).drew) (own_at (by omega)) f5 h5
          have FR5 := Lib.hid hfa.1
          have N5 := Lib.hid hfa.2
          have HC5 := Lib.hid (inw_one (f := aC) (sz := 3) (x := a) (Bk.fr (((Bk.new V (aC a) 31).old (.cells #[] 31)).fr (Fr.refl none' _).drew id) f5 (by simp [Value.ownBlock])))
          clear o5 f5 h5 hfa
          refine hK.out _ _ (HSF.out _ FR5.out) (fun hHeld => ?_)
          clear hK K
          (try simp only [Act.put, List.setIfInBounds_toArray, List.set_cons_zero, List.set_cons_succ])
          refine wpAnyH_ready (rs := [11]) (by kernel_rfl) (by simp) ?_
          refine AllReadyH.cons rfl (fun K hK => ?_) AllReadyH.nil
          refine step_append_m aLen aOne (by rfl) (.tmp 84) (.tmp 86) _ (by rfl) 31 i0 _ 40 Try.underlying22 hi0T hz0 hz1 hz2 rfl (by decide) (by omega) v5 ([] ++ L.take i) [a] (by rfl) O5.out (some ⟨V.heap.size, 0, none⟩) 1 1 (by rfl) rfl HC5.out (ins_len2 HLN.out) ?_
          intro v6 w6 o6 f6 h6
          have O6 := Lib.hid o6
          have hfa := fr_append FR5.out N5.out f6 h6
          have FR6 := Lib.hid hfa.1
          have N6 := Lib.hid hfa.2
          clear o6 f6 h6 hfa
          refine hK.out _ _ (HSF.out _ FR6.out) (fun hHeld => ?_)
          clear hK K
          (try simp only [Act.put, List.setIfInBounds_toArray, List.set_cons_zero, List.set_cons_succ])
          refine wpAnyH_ready (rs := [18]) (by kernel_rfl) (by simp) ?_
          refine AllReadyH.cons rfl (fun K hK => ?_) AllReadyH.nil
          refine step_append_m aLen aOne (by rfl) (.tmp 87) (.tmp 93) _ (by rfl) 31 i0 _ 40 Try.underlying22 hi0T hz0 hz1 hz2 rfl (by decide) (by omega) v6 (([] ++ L.take i) ++ [a]) (L.drop i) (by rfl) O6.out sb (n - i) (vc - i) (by rfl) HDR.out.symm (HSD.out _ FR6.out) (ins_len3 HLN.out) ?_
          intro v7 w7 o7 f7 h7
          have O7 := Lib.hid o7
          have hfa := fr_append FR6.out N6.out f7 h7
          have FR7 := Lib.hid hfa.1
          have N7 := Lib.hid hfa.2
          have hv7 := inw_of_rowm aLen (by omega) o7
          obtain ⟨b7, c7, hv7, _, _, _, hn7⟩ := hv7
          generalize hl7 : ((([] ++ L.take i) ++ [a]) ++ L.drop i).length = l7 at hv7
          have HL7 := Lib.hid hl7
          subst hv7
          clear o7 f7 h7 hfa hl7 hn7
          refine hK.out _ _ (HSF.out _ FR7.out) (fun hHeld => ?_)
          clear hK K
          (try simp only [Act.put, List.setIfInBounds_toArray, List.set_cons_zero, List.set_cons_succ])
          refine take_at (i := 19) (v := ?_) (some 95) rfl rfl (by kernel_rfl) (by kernel_rfl) (by kernel_rfl) (fun _ _ _ h => h) (by rfl) ?_ (by assumption) ?_
          rotate_left
          · intro w hSw
            (try dsimp only at hSw)
            go_simp
            try (with_reducible rfl)
          (try simp only [Act.put, List.setIfInBounds_toArray, List.set_cons_zero, List.set_cons_succ])
          refine take_at (i := 20) (v := ?_) (some 96) rfl rfl (by kernel_rfl) (by kernel_rfl) (by kernel_rfl) (fun _ _ _ h => h) (by rfl) ?_ (by assumption) ?_
          rotate_left
          · intro w hSw
            (try dsimp only at hSw)
            go_simp
            try (with_reducible rfl)
          (try simp only [Act.put, List.setIfInBounds_toArray, List.set_cons_zero, List.set_cons_succ])
          refine wpAnyH_done (by kernel_rfl) ?_ _
          have p7 : w7.cell? ⟨p, 1, none⟩ = some (.slice vb n vc) := hHeld.1
          have p7f : w7.frozen? ⟨p, 1, none⟩ = false := HFZ.out _ FR7.out
          simp only [LastQ]
          go_simp
          go_wp2_with fail
          go_ret
          exact ⟨rfl, dadd_fin HD.out HWV.out.bl HWV.out.dc HOKT.out HNL.out HP.out HL7.out O7.out FR7.out N7.out⟩
end Go.Proofs.Ytcnddbcdkpdkbaa

/- For every input ciceronetop.TopSessions returns true, and its arguments read behind the call as before. No conditions. -/
import Derived.Test.YtbmjddmejmeknaaTSes2
import Derived.Test.YtbmjddmejmeknaaRows
import Derived.ProofKit
import Derived.OpenShut
import Derived.ShutString
import Derived.ChangeOld
import Derived.Below
import Derived.Lib.SmallJoins
namespace Go.Proofs.Ytbmjddmejmeknaa.topSessions
open Go.ChangeShapes Go.WideShapes Go.ChangeAt Go.RowKit Go.Joins
open Go.ChangeMaps (open_string shut_string)
set_option linter.unusedVariables false

open Go.MapKept Go.Maps
open Pn (AddT atC atOk ats_at fewT open_ats)
theorem u8_wf {q : Int} (h : (Lit.int .u8 q).wf = true) : 0 ≤ q ∧ q ≤ 255 := by
  simp only [Lit.wf, Bool.and_eq_true, decide_eq_true_eq] at h
  exact h
/-- what stands behind Of -/
structure St (w wr : World) (bA : Option Addr) (l : List AddT) (g : Int) (A : List SV) (p : Nat) : Prop where
  se : SeIn wr bA l g A
  pr : Pr.PrAt wr p (Pr.cntF (A.map toPr))
  bl : Below w.heap.size w wr
theorem St.bel {w wr w' : World} {bA : Option Addr} {l : List AddT} {g : Int} {A : List SV} {p : Nat} (h : St w wr bA l g A p) (hb : Below wr.heap.size wr w') : St w w' bA l g A p :=
  ⟨h.se.bel hb, h.pr.bel hb, h.bl.trans (hb.mono h.bl.size)⟩
/-- and the box of one add -/
structure Sb (w wr : World) (bA : Option Addr) (l : List AddT) (g : Int) (A : List SV) (p bx : Nat) (a : AddT) : Prop where
  st : St w wr bA l g A p
  bk : Bk wr bx [.string a.1, .int .u16 (a.2.1 : Int), .int .u16 (a.2.2 : Int)] 36
theorem Sb.bel {w wr w' : World} {bA : Option Addr} {l : List AddT} {g : Int} {A : List SV} {p bx : Nat} {a : AddT} (h : Sb w wr bA l g A p bx a) (hb : Below wr.heap.size wr w') : Sb w w' bA l g A p bx a :=
  ⟨h.st.bel hb, h.bk.bel hb⟩
theorem St.one {w wr : World} {bA : Option Addr} {l : List AddT} {g : Int} {A : List SV} {p : Nat} (h : St w wr bA l g A p) (a : AddT) :
    Sb w (wr.alloc (.cells #[.string a.1, .int .u16 (a.2.1 : Int), .int .u16 (a.2.2 : Int)] 36)) bA l g A p wr.heap.size a :=
  ⟨h.bel ((Below.refl _ _).alloc (Nat.le_refl _) _), Bk.new wr [.string a.1, .int .u16 (a.2.1 : Int), .int .u16 (a.2.2 : Int)] 36⟩
theorem str_in {w : World} {b : Option Addr} {xs : List ByteArray} (h : InW w b 1 (xs.map fun s => [.string s])) {i : Nat} {a : ByteArray} (hi : xs[i]? = some a) :
    ∃ B off, b = some ⟨B, off, none⟩ ∧ B < w.heap.size ∧ w.cell? ⟨B, off + i, none⟩ = some (.string a) := by
  have hm : (xs.map fun s => [Value.string s])[i]? = some [.string a] := by rw [List.getElem?_map, hi]; rfl
  rcases h with h | ⟨B, off, hb, hl, hc⟩
  · rw [h] at hm; simp at hm
  · have := hc i _ hm 0 _ rfl
    rw [Nat.mul_one] at this
    exact ⟨B, off, hb, hl, this⟩
theorem of_se (bA : Option Addr) (cA : Nat) (A : List SV) (l : List AddT) (g : Int) (w W : World) (h : SeIn W bA l g A) (hc : cA ≤ maxLen) (hl : A.length ≤ cA) (hb : Below w.heap.size w W) :
    Calls Try.prog 10 #[.slice bA A.length cA] W fun e w' => ∃ p, e = .returned (.pointer (some ⟨p, 0, none⟩)) ∧ St w w' bA l g A p := by
  have hp := pr_in h.si (fun x hx => (h.ok hx).2.2.2)
  have hq := Pr.of_any bA cA (A.map toPr) W hp h.light hc (by rw [List.length_map]; exact hl)
  rw [List.length_map] at hq
  refine hq.mono ?_
  rintro e w' ⟨p, t, rfl, h1⟩
  exact ⟨p, rfl, h.bel h1.bel, Pr.pr_here h1 (i := 1) (j := 0) rfl rfl, hb.trans (h1.bel.mono hb.size)⟩
theorem bd (w : World) (n : Nat) : Below w.heap.size w (w.drewN n) := bdrewN (Below.refl _ _) n
set_option maxRecDepth 100000 in
set_option maxHeartbeats 600000 in
theorem walk (w : World) (b : Option Addr) (cap : Nat) (l : List AddT) (hlc : l.length ≤ cap) (hm : cap ≤ maxLen) (hi : InW w b 3 (l.map atC)) (ho : ∀ a ∈ l, atOk a)
    (gp : Int) (w1 : (Lit.int .u8 gp).wf = true) :
    Calls Try.prog 3 #[.slice b l.length cap, .int .u8 gp] w fun e w' => e = .returned (.bool true) ∧ Below w.heap.size w w' := by
  have CN := Lib.hid (fun W => Pn.counts_any W)
  have HF : Hid (∀ W, Below w.heap.size w W → Calls Try.prog 6 #[.slice b l.length cap] W fun e w' => e = .returned (.bool (fewT l)) ∧ Below W.heap.size W w') := Lib.hid (fun W hb => Pn.few_any b cap l W (InW.bel hi hb) hm hlc ho)
  have HNM : Hid (∀ W, Below w.heap.size w W → Calls Try.prog 7 #[.slice b l.length cap] W fun e w' => e = .returned (.bool (namedB l)) ∧ Below W.heap.size W w') := Lib.hid (fun W hb => named_any b cap l W (InW.bel hi hb) hm hlc ho)
  have b1 := u8_wf w1
  have HIW := Lib.hid hi
  have HO := Lib.hid ho
  clear hi ho w1
  cases hfw : fewT l with
  | false =>
    rw [hfw] at HF
    unfold maxLen at hm
    generalize hln : l.length = n at *
    clear hln HNM
    go_enter Try.func3, Try.ntmps3
    go_wp2_with fail
    refine (CN.out _).mono ?_
    rintro e w1 ⟨rfl, c1⟩
    have HF1 := Lib.hid (HF.out w1 c1)
    have B1 := Lib.hid c1
    clear c1 HF
    go_wp2_with fail
    refine HF1.out.mono ?_
    rintro e w2 ⟨rfl, c2⟩
    have B2 := Lib.hid (B1.out.trans (c2.mono B1.out.size))
    clear c2 HF1
    go_wp2_with fail
    refine (CN.out _).mono ?_
    rintro e w3 ⟨rfl, c3⟩
    have B3 := Lib.hid (B2.out.trans (c3.mono B2.out.size))
    clear c3
    go_wp2_with fail
    go_ret
    exact ⟨rfl, B3.out⟩
  | true =>
    rw [hfw] at HF
    obtain ⟨hn60, -⟩ := Pn.few_of hfw
    cases hnm : namedB l with
    | false =>
      rw [hnm] at HNM
      unfold maxLen at hm
      generalize hln : l.length = n at *
      clear hln
      go_enter Try.func3, Try.ntmps3
      go_wp2_with fail
      refine (CN.out _).mono ?_
      rintro e w1 ⟨rfl, c1⟩
      have HF1 := Lib.hid (HF.out w1 c1)
      have B1 := Lib.hid c1
      clear c1 HF
      go_wp2_with fail
      refine HF1.out.mono ?_
      rintro e w2 ⟨rfl, c2⟩
      have B2 := Lib.hid (B1.out.trans (c2.mono B1.out.size))
      clear c2 HF1
      have HN1 := Lib.hid (HNM.out w2 B2.out)
      go_wp2_with fail
      refine HN1.out.mono ?_
      rintro e w3 ⟨rfl, c3⟩
      have B3 := Lib.hid (B2.out.trans (c3.mono B2.out.size))
      clear c3
      go_wp2_with fail
      go_ret
      exact ⟨rfl, B3.out⟩
    | true =>
      rw [hnm] at HNM
      have hg1 : 1 ≤ 1 + gp := by omega
      have hg2 : 1 + gp ≤ 256 := by omega
      have hgI : I64 (1 + gp) := by unfold I64; omega
      have hgg := gap_of hg1 hg2
      have HVI : Hid (∀ a ∈ l, okT (vis a) = true) := Lib.hid (named_vis hnm HO.out)
      have HVF := Lib.hid (fun W (hb : Below w.heap.size w W) => visits_fwd b cap l (1 + gp) W (InW.bel HIW.out hb) hm hlc HO.out hn60 hgI hgg)
      have HVB := Lib.hid (fun W (hb : Below w.heap.size w W) => visits_back b cap l (1 + gp) W (InW.bel HIW.out hb) hm hlc HO.out hn60 hgI hgg)
      have HAL := Lib.hid (fun W0 W s (h : VisI W0 W s (1 + gp) (Lp l)) => all_vis h (by omega) hn60 HVI.out HO.out)
      have HMX : Hid (cap ≤ maxLen) := Lib.hid hm
      unfold maxLen at hm
      generalize hln : l.length = n at *
      have Hn := Lib.hid hln
      clear hln hgI hgg
      go_enter Try.func3, Try.ntmps3
      go_wp2_with fail
      refine (CN.out _).mono ?_
      rintro e w1 ⟨rfl, c1⟩
      have HF1 := Lib.hid (HF.out w1 c1)
      have B1 := Lib.hid c1
      clear c1 HF
      go_wp2_with fail
      refine HF1.out.mono ?_
      rintro e w2 ⟨rfl, c2⟩
      have B2 := Lib.hid (B1.out.trans (c2.mono B1.out.size))
      clear c2 HF1
      have HN1 := Lib.hid (HNM.out w2 B2.out)
      go_wp2_with fail
      refine HN1.out.mono ?_
      rintro e w3 ⟨rfl, c3⟩
      have B3 := Lib.hid (B2.out.trans (c3.mono B2.out.size))
      clear c3 HN1 HNM CN B1 B2
      go_wp2_with fail
      generalize 1 + gp = g at *
      refine (HVF.out w3 B3.out).mono ?_
      rintro e w4 ⟨s4, rfl, v4⟩
      have HA4 := Lib.hid (HAL.out w3 w4 s4 v4)
      have B4 := Lib.hid (B3.out.trans (v4.bl.mono B3.out.size))
      clear v4 HVF
      go_wp2_with fail
      refine HA4.out.mono ?_
      rintro e w5 ⟨bA, cA, A, rfl, hA1, hA2, hA3, hA4, hA5⟩
      have B5 := Lib.hid (B4.out.trans (hA5.mono B4.out.size))
      have SA5 := Lib.hid hA3
      have EA := Lib.hid hA4
      have HcA := Lib.hid (show A.length ≤ cA ∧ cA ≤ maxLen from ⟨hA1, hA2⟩)
      clear hA1 hA2 hA3 hA4 hA5 HA4 B3 B4
      have HV5 := Lib.hid (HVB.out w5 B5.out)
      clear HVB
      generalize hNN : A.length = N at *
      have HNA := Lib.hid hNN
      clear hNN
      go_wp2_with fail
      refine HV5.out.mono ?_
      rintro e w6 ⟨s6, rfl, v6⟩
      have HA6 := Lib.hid (HAL.out w5 w6 s6 v6)
      have B6 := Lib.hid (B5.out.trans (v6.bl.mono B5.out.size))
      have SA6 := Lib.hid (SA5.out.bel v6.bl)
      clear v6 HV5 SA5 B5
      go_wp2_with fail
      refine HA6.out.mono ?_
      rintro e w7 ⟨bB, cB, A2, rfl, hA1, hA2, hA3, hA4, hA5⟩
      have B7 := Lib.hid (B6.out.trans (hA5.mono B6.out.size))
      have SA7 := Lib.hid (SA6.out.bel hA5)
      have SB7 := Lib.hid hA3
      have EAB : Hid (A2.map seOf = A.map seOf) := Lib.hid (hA4.trans EA.out.symm)
      have hlen : A2.length = N := by have h1 := congrArg List.length EAB.out; rw [List.length_map, List.length_map, HNA.out] at h1; exact h1
      have HNB := Lib.hid hlen
      rw [hlen] at hA1 ⊢
      have HN60 : Hid (N ≤ 1000) := Lib.hid (by have h1 := SA7.out.fi.ln; rw [List.length_map, HNA.out] at h1; omega)
      have hcB : cB ≤ maxLen := hA2
      have hcA := HcA.out
      unfold maxLen at hcA hcB
      obtain ⟨hcA1, hcA2⟩ := hcA
      clear hA2 hA3 hA4 hA5 HA6 B6 SA6 hlen EA HAL
      have kne : ((N : Int) != (N : Int)) = false := by simp
      go_wp2_with fail
      have HIJ : Hid (SeIn w7 bA l g A ∧ SeIn w7 bB l g A2 ∧ Below w.heap.size w w7) := Lib.hid ⟨SA7.out, SB7.out, B7.out⟩
      clear SA7 SB7 B7 kne
      go_loopw [50] (fun c wr => ∃ k : Nat, k ≤ N ∧ c = .int .i64 k ∧ Hid (SeIn wr bA l g A ∧ SeIn wr bB l g A2 ∧ Below w.heap.size w wr)) (fun c _ => N - (intOf c).toNat)
      case atStart => exact ⟨0, by omega, rfl, HIJ⟩
      case round =>
        obtain ⟨k, hk, rfl, HW⟩ := hrel
        clear HIJ
        by_cases hlt : k < N
        · obtain ⟨x, hx⟩ : ∃ x, A[k]? = some x := ⟨A[k]'(by rw [HNA.out]; exact hlt), List.getElem?_eq_getElem _⟩
          obtain ⟨y, hy⟩ : ∃ y, A2[k]? = some y := ⟨A2[k]'(by rw [HNB.out]; exact hlt), List.getElem?_eq_getElem _⟩
          have hxy : seOf y = seOf x := by
            have h1 := congrArg (fun L => L[k]?) EAB.out
            simp only [List.getElem?_map, hx, hy, Option.map_some] at h1
            exact Option.some.inj h1
          have e1 : y.f = x.f := congrArg Se.f hxy
          have e2 : y.t = x.t := congrArg Se.t hxy
          have e3 : y.its.length = x.its.length := congrArg (fun z => z.its.length) hxy
          have HX := Lib.hid hx
          have HW1 : Hid (SeIn (wr.alloc (.cells #[.string x.p, .int .i64 x.f, .int .i64 x.t, .slice x.ib x.its.length x.ic] 31)) bA l g A ∧ SeIn (wr.alloc (.cells #[.string x.p, .int .i64 x.f, .int .i64 x.t, .slice x.ib x.its.length x.ic] 31)) bB l g A2 ∧ Below w.heap.size w (wr.alloc (.cells #[.string x.p, .int .i64 x.f, .int .i64 x.t, .slice x.ib x.its.length x.ic] 31))) := by
            have h1 := (Below.refl wr.heap.size wr).alloc (Nat.le_refl _) (.cells #[.string x.p, .int .i64 x.f, .int .i64 x.t, .slice x.ib x.its.length x.ic] 31)
            exact Lib.hid ⟨HW.out.1.bel h1, HW.out.2.1.bel h1, HW.out.2.2.trans (h1.mono HW.out.2.2.size)⟩
          obtain ⟨Ba, oa, rfl, hBa, a0, a1, a2, a3⟩ := svAt HW.out.1.si.i hx
          obtain ⟨Bb, ob, rfl, hBb, -, d1, d2, d3⟩ := svAt HW1.out.2.1.si.i hy
          rw [e1] at d1
          rw [e2] at d2
          rw [e3] at d3
          have hrg := (HW.out.1.ok (List.mem_of_getElem? hx)).2.1
          have hft : x.f ≤ x.t := (HW.out.1.ok (List.mem_of_getElem? hx)).1.ft
          have hi0 : (0 : Int) ≤ (k : Int) := by omega
          have hi1 : (k : Int) < (N : Int) := by omega
          have u1 : (x.f != x.f) = false := by simp
          have u2 : (x.t != x.t) = false := by simp
          have u3 : ((x.its.length : Int) != (x.its.length : Int)) = false := by simp
          have u4 : decide (x.t < x.f) = false := decide_eq_false (by omega)
          have hbk := Bk.new wr [.string x.p, .int .i64 x.f, .int .i64 x.t, .slice x.ib x.its.length x.ic] 31
          have x1 := hbk.cell 1
          have x2 := hbk.cell 2
          have x3 := hbk.cell 3
          simp only [List.getElem?_cons_succ, List.getElem?_cons_zero] at x1 x2 x3
          clear hx hy hbk hxy e1 e2 e3 HW hBa hBb
          go_wp2_with fail
          generalize wr.alloc (.cells #[.string x.p, .int .i64 x.f, .int .i64 x.t, .slice x.ib x.its.length x.ic] 31) = W1 at *
          generalize wr.heap.size = bx at *
          cases hkc : k with
          | zero =>
            subst hkc
            have u5 : decide ((0 : Int) < ((0 : Nat) : Int)) = false := rfl
            go_quiet (fail)
            have HW2 : Hid (SeIn (W1.drewN nq) (some ⟨Ba, oa, none⟩) l g A ∧ SeIn (W1.drewN nq) (some ⟨Bb, ob, none⟩) l g A2 ∧ Below w.heap.size w (W1.drewN nq)) := Lib.hid ⟨HW1.out.1.bel (bd _ _), HW1.out.2.1.bel (bd _ _), bdrewN HW1.out.2.2 nq⟩
            go_wp2_with fail
            go_roundw
            case rel => exact ⟨0 + 1, by omega, by go_num, HW2⟩
            case measure => simp [intOf]; omega
          | succ j =>
            subst hkc
            have u5 : decide ((0 : Int) < ((j + 1 : Nat) : Int)) = true := decide_eq_true (by omega)
            obtain ⟨z, hz⟩ : ∃ z, A[j]? = some z := ⟨A[j]'(by rw [HNA.out]; omega), List.getElem?_eq_getElem _⟩
            have hzg := HW1.out.1.gap hz HX.out
            have hzr := (HW1.out.1.ok (List.mem_of_getElem? hz)).2.1
            obtain ⟨Bz, oz, hbz, -, -, -, z2, -⟩ := svAt HW1.out.1.si.i hz
            cases hbz
            have v1 : RowKit.wrap64 (((j + 1 : Nat) : Int) - 1) = (j : Int) := by rw [show ((j + 1 : Nat) : Int) - 1 = (j : Int) by omega]; exact IntWalk.wrap64_in _ (by have := HN60.out; omega)
            have v2 : IntKind.i64.wrap (((j + 1 : Nat) : Int) - 1) = (j : Int) := by rw [show ((j + 1 : Nat) : Int) - 1 = (j : Int) by omega]; exact IntWalk.i64_in _ (by have := HN60.out; omega)
            have v3 : RowKit.wrap64 (z.t + g) = z.t + g := IntWalk.wrap64_in _ (by omega)
            have v4 : IntKind.i64.wrap (z.t + g) = z.t + g := IntWalk.i64_in _ (by omega)
            have v5 : decide (x.f ≤ z.t + g) = false := decide_eq_false (by omega)
            have j0 : (0 : Int) ≤ (j : Int) := by omega
            have j1 : (j : Int) < (N : Int) := by omega
            have j2 : (j : Int).toNat = j := by omega
            clear hz hzg hzr
            go_quiet (fail)
            have HW2 : Hid (SeIn (W1.drewN nq) (some ⟨Ba, oa, none⟩) l g A ∧ SeIn (W1.drewN nq) (some ⟨Bb, ob, none⟩) l g A2 ∧ Below w.heap.size w (W1.drewN nq)) := Lib.hid ⟨HW1.out.1.bel (bd _ _), HW1.out.2.1.bel (bd _ _), bdrewN HW1.out.2.2 nq⟩
            go_wp2_with fail
            go_roundw
            case rel => exact ⟨j + 1 + 1, by omega, by go_num, HW2⟩
            case measure => simp [intOf]; omega
        · have HOF : Hid (Calls Try.prog 10 #[.slice bA N cA] wr fun e w' => ∃ p, e = .returned (.pointer (some ⟨p, 0, none⟩)) ∧ St w w' bA l g A p) := Lib.hid (by
            have h1 := of_se bA cA A l g w wr HW.out.1 hcA2 (by rw [HNA.out]; exact hcA1) HW.out.2.2
            rw [HNA.out] at h1
            exact h1)
          clear HW EAB HNB HcA
          go_wp2_with fail
          refine HOF.out.mono ?_
          rintro e w8 ⟨p, rfl, h8⟩
          have H8 := Lib.hid h8
          clear h8 HOF
          go_wp2_with fail
          go_loopw [114] (fun c wr => ∃ k : Nat, k ≤ n ∧ c = .int .i64 k ∧ Hid (St w wr bA l g A p)) (fun c _ => n - (intOf c).toNat)
          case atStart => exact ⟨0, by omega, rfl, H8⟩
          case round =>
            obtain ⟨k, hk, rfl, HS⟩ := hrel
            clear H8
            by_cases hkn : k < n
            · obtain ⟨a, ha⟩ : ∃ a, l[k]? = some a := ⟨l[k]'(by rw [Hn.out]; exact hkn), List.getElem?_eq_getElem _⟩
              obtain ⟨Bl, ol, rfl, hBl, r0, r1, r2⟩ := ats_at HIW.out ha
              have c0 := (HS.out.bl.cell (p := ⟨Bl, ol + k * 3, none⟩) hBl).trans r0
              have c1 := (HS.out.bl.cell (p := ⟨Bl, ol + k * 3 + 1, none⟩) hBl).trans r1
              have c2 := (HS.out.bl.cell (p := ⟨Bl, ol + k * 3 + 2, none⟩) hBl).trans r2
              have hok := HO.out a (List.mem_of_getElem? ha)
              have hat : ((a.2.1 : Nat) : Int) ≤ 65535 := by have := hok.2.1; omega
              have hsz : a.1.size ≤ maxLen := hok.1
              have HSZ := Lib.hid hsz
              have HONE := Lib.hid (HS.out.se.one (List.mem_of_getElem? ha))
              have HB0 := Lib.hid (HS.out.one a)
              have hi0 : (0 : Int) ≤ (k : Int) := by omega
              have hi1 : (k : Int) < (n : Int) := by omega
              clear ha r0 r1 r2 hok hsz hBl HS
              go_wp2_with fail
              generalize wr.alloc (.cells #[.string a.1, .int .u16 (a.2.1 : Int), .int .u16 (a.2.2 : Int)] 36) = W2 at *
              generalize wr.heap.size = bx at *
              clear c0 c1 c2
              obtain ⟨q, hq⟩ : ∃ q, ((a.2.1 : Nat) : Int) = q := ⟨_, rfl⟩
              go_loopw [13, 120] (fun cc c wr => ∃ i m : Nat, i ≤ N ∧ m ≤ i ∧ c = .int .i64 i ∧ cc = .int .i64 m ∧ Hid ((A.take i).countP (covB ((a.2.1 : Nat) : Int)) = m) ∧ Hid (Sb w wr bA l g A p bx a)) (fun _ c _ => N - (intOf c).toNat)
              case atStart => exact ⟨0, 0, by omega, by omega, rfl, rfl, Lib.hid rfl, HB0⟩
              case round =>
                obtain ⟨i, m, hiN, hmi, rfl, rfl, HC, HS⟩ := hrel
                clear HB0
                by_cases hin : i < N
                · obtain ⟨x, hx⟩ : ∃ x, A[i]? = some x := ⟨A[i]'(by rw [HNA.out]; exact hin), List.getElem?_eq_getElem _⟩
                  have hrg := (HS.out.st.se.ok (List.mem_of_getElem? hx)).2.1
                  have HS3 := Lib.hid (HS.out.bel ((Below.refl wr.heap.size wr).alloc (Nat.le_refl _) (.cells #[.string x.p, .int .i64 x.f, .int .i64 x.t, .slice x.ib x.its.length x.ic] 31)))
                  obtain ⟨Ba, oa, rfl, -, a0, a1, a2, a3⟩ := svAt HS.out.st.se.si.i hx
                  have hbk := Bk.new wr [.string x.p, .int .i64 x.f, .int .i64 x.t, .slice x.ib x.its.length x.ic] 31
                  have x1 := hbk.cell 1
                  have x2 := hbk.cell 2
                  have y1 := HS3.out.bk.cell 1
                  simp only [List.getElem?_cons_succ, List.getElem?_cons_zero] at x1 x2 y1
                  have HCS := Lib.hid (cov_snoc hx ((a.2.1 : Nat) : Int))
                  have hi2 : (0 : Int) ≤ (i : Int) := by omega
                  have hi3 : (i : Int) < (N : Int) := by omega
                  have q16 : IntKind.i64.wrap (a.2.1 : Int) = (a.2.1 : Int) := IntWalk.i64_in _ (by omega)
                  have q17 : RowKit.wrap64 (a.2.1 : Int) = (a.2.1 : Int) := IntWalk.wrap64_in _ (by omega)
                  clear hx hbk HS hq
                  cases t1 : decide (x.f ≤ ((a.2.1 : Nat) : Int)) with
                  | false =>
                    have HC2 : Hid ((A.take (i + 1)).countP (covB ((a.2.1 : Nat) : Int)) = m) := Lib.hid (by
                      rw [HCS.out, HC.out, covB, t1]; simp)
                    go_wp2_with fail
                    go_roundw
                    case rel => exact ⟨i + 1, m, by omega, by omega, by go_num, by first | rfl | go_num, HC2, HS3⟩
                    case measure => simp [intOf]; omega
                  | true =>
                    cases t2 : decide (((a.2.1 : Nat) : Int) ≤ x.t) with
                    | false =>
                      have HC2 : Hid ((A.take (i + 1)).countP (covB ((a.2.1 : Nat) : Int)) = m) := Lib.hid (by
                        rw [HCS.out, HC.out, covB, t1, t2]; simp)
                      go_wp2_with fail
                      go_roundw
                      case rel => exact ⟨i + 1, m, by omega, by omega, by go_num, by first | rfl | go_num, HC2, HS3⟩
                      case measure => simp [intOf]; omega
                    | true =>
                      have HC2 : Hid ((A.take (i + 1)).countP (covB ((a.2.1 : Nat) : Int)) = m + 1) := Lib.hid (by
                        rw [HCS.out, HC.out, covB, t1, t2]; simp)
                      have hm1 := HN60.out
                      go_wp2_with fail
                      go_roundw
                      case rel => exact ⟨i + 1, m + 1, by omega, by omega, by go_num, by first | rfl | go_num, HC2, HS3⟩
                      case measure => simp [intOf]; omega
                · have h1 := HC.out
                  rw [List.take_of_length_le (by rw [HNA.out]; omega), HONE.out] at h1
                  obtain rfl : m = 1 := h1.symm
                  clear h1 HC HONE
                  have H9 := Lib.hid HS.out
                  clear HS hq
                  go_wp2_with fail
                  go_loopw [16, 143] (fun cc c wr => ∃ i m : Nat, i ≤ N ∧ m ≤ i * 100 ∧ c = .int .i64 i ∧ cc = .int .i64 m ∧ Hid (((A.take i).map (itN a.1)).sum = m) ∧ Hid (Sb w wr bA l g A p bx a)) (fun _ c _ => N - (intOf c).toNat)
                  case atStart => exact ⟨0, 0, by omega, by omega, rfl, rfl, Lib.hid rfl, H9⟩
                  case round =>
                    obtain ⟨i, m, hiN, hmi, rfl, rfl, HC, HS⟩ := hrel
                    clear H9
                    by_cases hin : i < N
                    · obtain ⟨x, hx⟩ : ∃ x, A[i]? = some x := ⟨A[i]'(by rw [HNA.out]; exact hin), List.getElem?_eq_getElem _⟩
                      have HX := Lib.hid hx
                      have hok := HS.out.st.se.ok (List.mem_of_getElem? hx)
                      have hM100 : x.its.length ≤ 100 := hok.2.2.1
                      obtain ⟨-, hM1, hM2⟩ := HS.out.st.se.si.it x (List.mem_of_getElem? hx)
                      unfold maxLen at hM2
                      have HS3 := Lib.hid (HS.out.bel ((Below.refl wr.heap.size wr).alloc (Nat.le_refl _) (.cells #[.string x.p, .int .i64 x.f, .int .i64 x.t, .slice x.ib x.its.length x.ic] 31)))
                      obtain ⟨Ba, oa, rfl, -, a0, a1, a2, a3⟩ := svAt HS.out.st.se.si.i hx
                      have hbk := Bk.new wr [.string x.p, .int .i64 x.f, .int .i64 x.t, .slice x.ib x.its.length x.ic] 31
                      have x3 := hbk.cell 3
                      simp only [List.getElem?_cons_succ, List.getElem?_cons_zero] at x3
                      have hi2 : (0 : Int) ≤ (i : Int) := by omega
                      have hi3 : (i : Int) < (N : Int) := by omega
                      clear hx hbk HS hok
                      go_wp2_with fail
                      generalize wr.alloc (.cells #[.string x.p, .int .i64 x.f, .int .i64 x.t, .slice x.ib x.its.length x.ic] 31) = W3 at *
                      generalize wr.heap.size = bs at *
                      clear a0 a1 a2 a3
                      generalize hMM : x.its.length = M at *
                      have HM := Lib.hid hMM
                      have HC0 : Hid (((A.take i).map (itN a.1)).sum + Pr.c1 (x.its.take 0) a.1 = m) := Lib.hid (by rw [HC.out]; rfl)
                      clear hMM
                      go_loopw [16, 150] (fun cc c wr => ∃ j m : Nat, j ≤ M ∧ m ≤ i * 100 + j ∧ c = .int .i64 j ∧ cc = .int .i64 m ∧ Hid (((A.take i).map (itN a.1)).sum + Pr.c1 (x.its.take j) a.1 = m) ∧ Hid (Sb w wr (some ⟨Ba, oa, none⟩) l g A p bx a)) (fun _ c _ => M - (intOf c).toNat)
                      case atStart => exact ⟨0, m, by omega, by omega, rfl, rfl, HC0, HS3⟩
                      case round =>
                        clear HC hmi
                        obtain ⟨j, m2, hjM, hmi, rfl, rfl, HC, HS⟩ := hrel
                        clear HS3 HC0 x3
                        by_cases hjm : j < M
                        · obtain ⟨t, ht⟩ : ∃ t, x.its[j]? = some t := ⟨x.its[j]'(by rw [HM.out]; exact hjm), List.getElem?_eq_getElem _⟩
                          obtain ⟨Bi, oi, hib, -, t0⟩ := str_in (HS.out.st.se.si.it x (List.mem_of_getElem? HX.out)).1 ht
                          have y0 := HS.out.bk.cell 0
                          simp only [List.getElem?_cons_zero] at y0
                          have HCS := Lib.hid (c1_snoc ht a.1)
                          have hj0 : (0 : Int) ≤ (j : Int) := by omega
                          have hj1 : (j : Int) < (M : Int) := by omega
                          have hn1 := HN60.out
                          rw [hib]
                          clear ht
                          by_cases ht2 : t = a.1
                          · have u1 : (t.toList == a.1.toList) = true := by rw [bytesEq]; exact decide_eq_true ht2
                            have HC2 : Hid (((A.take i).map (itN a.1)).sum + Pr.c1 (x.its.take (j + 1)) a.1 = m2 + 1) := Lib.hid (by
                              rw [HCS.out, if_pos ht2]; have := HC.out; omega)
                            clear ht2
                            go_wp2_with fail
                            go_roundw
                            case rel => exact ⟨j + 1, m2 + 1, by omega, by omega, by go_num, by first | rfl | go_num, HC2, HS⟩
                            case measure => simp [intOf]; omega
                          · have u1 : (t.toList == a.1.toList) = false := by rw [bytesEq]; exact decide_eq_false ht2
                            have HC2 : Hid (((A.take i).map (itN a.1)).sum + Pr.c1 (x.its.take (j + 1)) a.1 = m2) := Lib.hid (by
                              rw [HCS.out, if_neg ht2]; have := HC.out; omega)
                            clear ht2
                            go_wp2_with fail
                            go_roundw
                            case rel => exact ⟨j + 1, m2, by omega, by omega, by go_num, rfl, HC2, HS⟩
                            case measure => simp [intOf]; omega
                        · have HC2 : Hid (((A.take (i + 1)).map (itN a.1)).sum = m2) := Lib.hid (by
                            have h1 := HC.out
                            rw [show x.its.take j = x.its from List.take_of_length_le (by rw [HM.out]; omega)] at h1
                            rw [sum_snoc HX.out]; exact h1)
                          clear HC
                          go_wp2_with fail
                          go_roundw
                          case rel => exact ⟨i + 1, m2, by omega, by omega, by go_num, rfl, HC2, HS⟩
                          case measure => simp [intOf]; omega
                    · have HCM : Hid (Pr.cntF (A.map toPr) a.1 a.1 = (m : Int)) := Lib.hid (by
                        have h1 := HC.out
                        rw [List.take_of_length_le (by rw [HNA.out]; omega), its_cnt a.1 A (fun x hx => (HS.out.st.se.ok hx).1.ri)] at h1
                        rw [Pr.cntF_is, h1])
                      have HSG := Lib.hid (Pr.psingle_any HS.out.st.pr a.1 HSZ.out)
                      rw [HCM.out] at HSG
                      have y0 := HS.out.bk.cell 0
                      simp only [List.getElem?_cons_zero] at y0
                      have u1 : ((((1 : Nat) : Int)) != 1) = false := rfl
                      have u2 : ((m : Int) != (m : Int)) = false := by simp
                      clear HC HCM
                      go_wp2_with fail
                      refine HSG.out.mono ?_
                      rintro e w9 ⟨rfl, rfl⟩
                      have HT := Lib.hid HS.out.st
                      clear HSG HS y0
                      go_wp2_with fail
                      go_roundw
                      case rel => exact ⟨k + 1, by omega, by go_num, HT⟩
                      case measure => simp [intOf]; omega
            · clear HIW
              go_wp2_with fail
              go_ret
              exact ⟨rfl, HS.out.bl⟩

theorem own : ownKnob Try.prog.godebug = none := by kernel_rfl
theorem laidOut : laidOutB Try.prog = true := by kernel_rfl

set_option maxRecDepth 100000 in
theorem lifted (os : Os) (started : os.Started) (H : Type) (enc : TypeId × Value → H) :
    ReturnsInHanded {} Try.checked os 3 .any (Rows.topSessionsSpec.pre6 enc Try.prog Try.f3 Rows.topSessionsRow.domain false) (Rows.topSessionsSpec.post enc Try.prog Try.f3 false true false false) := by
  refine returnsInHanded_of_change (C := Try.checked) own started (by kernel_rfl) Try.func3
    (ChangeSpec.witness6 (enc := enc) (C := Try.checked) false ⟨#[], #[.slice none 0 0, .int .u8 0], []⟩ 8 (by kernel_rfl) (by kernel_rfl) (by kernel_rfl) (by kernel_rfl)) ?_
  intro W base args ds gs before hval0 hW hcnd _
  have hval : ∀ (j : Nat) t v, Try.f3.params[j]? = some t → args[j]? = some v → Value.okWide Try.prog W .any base t v := hval0
  have hW' := hW
  obtain ⟨p, q, hA0, hV, rfl, hfz, hnd⟩ := hW
  have hA : DataW.TrodAll enc Try.prog W 0 (fun _ => true) true Try.f3.params.toList args.toList ds p := hA0
  rw [Try.params3] at hA hval
  obtain ⟨v0, vs0, d0, ds0, p0, q0, hargs, rfl, rfl, h0, r0⟩ := trodAll_cons hA
  obtain ⟨v1, vs1, d1, ds1, p1, q1, rfl, rfl, rfl, h1, r1⟩ := trodAll_cons r0
  obtain ⟨rfl, rfl, rfl⟩ := trodAll_nil r1
  obtain rfl : args = #[v0, v1] := by cases args; simp_all
  obtain ⟨rfl, rfl⟩ := trodVars_none hV
  have k0 := h0
  have lt0 : ∀ x ∈ p0, x.block < W.heap.size := by obtain ⟨m, hm⟩ := k0; exact DataW.trod_lt m _ _ _ hm
  obtain ⟨b0, c0, x0, rfl, l0, m0, i0, o0⟩ := Pn.open_ats (hval 0 22 v0 rfl rfl) h0
  have k1 := h1
  have lt1 : ∀ x ∈ p1, x.block < W.heap.size := by obtain ⟨m, hm⟩ := k1; exact DataW.trod_lt m _ _ _ hm
  obtain ⟨a1, rfl, rfl, rfl, w1⟩ := open_int Try.underlying5 (hval 1 5 v1 rfl rfl) h1
  clear hA0 hval0
  refine (walk W b0 c0 x0 l0 m0 i0 o0 a1 w1).mono fun e W' ⟨he, bel⟩ => ?_
  subst he
  exact ⟨_, rfl, _, _, _, [], _, [], hW', trodAll_mk1 (shut_bool Try.underlying4 _), (trodAll_cons_mk (Below.trod laidOut (by kernel_rfl) (of_decide_eq_true (by kernel_rfl)) k0 bel lt0) (trodAll_cons_mk (Below.trod laidOut (by kernel_rfl) (of_decide_eq_true (by kernel_rfl)) k1 bel lt1) trodAll_mk0)), rfl, bel.frame _, fun h => by cases h⟩

theorem over : Rows.topSessionsRow.holds Try.pinned (OpenSpec.ofChange Rows.topSessionsSpec) :=
  OpenClaim.holds_of_wide 3 Try.f3 rfl rfl rfl rfl rfl rfl rfl ⟨rfl, rfl, rfl, rfl, rfl⟩ rfl rfl rfl rfl rfl (by kernel_rfl) Try.func3 (by kernel_rfl)
    (of_decide_eq_true (by kernel_rfl)) (by unfold Func.isWrapper; first | (rw [if_pos (by decide +kernel)]; kernel_rfl) | (rw [if_neg (by decide +kernel)]; exact ⟨rfl, rfl⟩))
    (fun os started H enc _ => lifted os started H enc)

theorem proved : Rows.TopSessionsSaid := over
#print axioms proved
end Go.Proofs.Ytbmjddmejmeknaa.topSessions

/- For every input ciceronetop.TopKin returns true, and its arguments read behind the call as before. No conditions. -/
import Derived.Test.YtbmjddmejmeknaaTKinM
import Derived.Test.YtbmjddmejmeknaaRows
import Derived.ProofKit
import Derived.OpenShut
import Derived.ShutString
import Derived.ChangeOld
import Derived.Below
import Derived.Lib.SmallJoins
namespace Go.Proofs.Ytbmjddmejmeknaa.topKin
open Go.ChangeShapes Go.WideShapes Go.ChangeAt Go.RowKit Go.Joins
open Go.ChangeMaps (open_string shut_string)
set_option linter.unusedVariables false

open Go.MapKept Go.Maps
open Pn (AddT atC atOk ats_at fewT open_ats)
theorem u8_wf {q : Int} (h : (Lit.int .u8 q).wf = true) : 0 ≤ q ∧ q ≤ 255 := by
  simp only [Lit.wf, Bool.and_eq_true, decide_eq_true_eq] at h
  exact h
/-- what stands behind Of -/
structure St (w wr : World) (bA : Option Addr) (l : List AddT) (g : Int) (A : List SV) (p : Nat) : Prop where
  se : SeIn wr bA l g A
  pr : Pr.PrAt wr p (Pr.cntF (A.map toPr))
  bl : Below w.heap.size w wr
theorem St.bel {w wr w' : World} {bA : Option Addr} {l : List AddT} {g : Int} {A : List SV} {p : Nat} (h : St w wr bA l g A p) (hb : Below wr.heap.size wr w') : St w w' bA l g A p :=
  ⟨h.se.bel hb, h.pr.bel hb, h.bl.trans (hb.mono h.bl.size)⟩
structure Sx (w wr : World) (bA : Option Addr) (l : List AddT) (g : Int) (A : List SV) (p bx : Nat) (n1 d1 n2 d2 : Int) : Prop where
  st : St w wr bA l g A p
  kx : Bk wr bx [.int .i64 n1, .int .i64 d1] 40
  ky : Bk wr (bx + 1) [.int .i64 n2, .int .i64 d2] 40
theorem Sx.bel {w wr w' : World} {bA : Option Addr} {l : List AddT} {g : Int} {A : List SV} {p bx : Nat} {n1 d1 n2 d2 : Int} (h : Sx w wr bA l g A p bx n1 d1 n2 d2) (hb : Below wr.heap.size wr w') : Sx w w' bA l g A p bx n1 d1 n2 d2 :=
  ⟨h.st.bel hb, h.kx.bel hb, h.ky.bel hb⟩
theorem Sx.new {w wr : World} {bA : Option Addr} {l : List AddT} {g : Int} {A : List SV} {p : Nat} (n1 d1 n2 d2 : Int) (h : St w wr bA l g A p) :
    Sx w ((wr.alloc (.cells #[.int .i64 n1, .int .i64 d1] 40)).alloc (.cells #[.int .i64 n2, .int .i64 d2] 40)) bA l g A p wr.heap.size n1 d1 n2 d2 :=
  ⟨h.bel (((Below.refl _ _).alloc (Nat.le_refl _) _).alloc ((Below.refl _ _).alloc (Nat.le_refl _) _).size _), (Bk.new wr [.int .i64 n1, .int .i64 d1] 40).bel ((Below.refl _ _).alloc (Nat.le_refl _) _), Bk.new' wr _ [.int .i64 n2, .int .i64 d2] 40⟩
structure Fx (w W : World) (bx bo : Nat) (n1 d1 : Int) : Prop where
  bl : Below w.heap.size w W
  kx : Bk W bx [.int .i64 n1, .int .i64 d1] 40
  ky : Bk W (bx + 1) [.int .i64 n1, .int .i64 d1] 40
  ko : Bk W bo [.int .i64 1, .int .i64 1] 40
theorem Fx.bel {w W W' : World} {bx bo : Nat} {n1 d1 : Int} (h : Fx w W bx bo n1 d1) (hb : Below W.heap.size W W') : Fx w W' bx bo n1 d1 :=
  ⟨h.bl.trans (hb.mono h.bl.size), h.kx.bel hb, h.ky.bel hb, h.ko.bel hb⟩
theorem Fx.cells {w W : World} {bx bo : Nat} {n1 d1 : Int} (h : Fx w W bx bo n1 d1) : W.cell? ⟨bx, 0, none⟩ = some (.int .i64 n1) ∧ W.cell? ⟨bx, 1, none⟩ = some (.int .i64 d1) ∧ W.cell? ⟨bx + 1, 0, none⟩ = some (.int .i64 n1) ∧ W.cell? ⟨bx + 1, 1, none⟩ = some (.int .i64 d1) ∧ W.cell? ⟨bo, 0, none⟩ = some (.int .i64 1) ∧ W.cell? ⟨bo, 1, none⟩ = some (.int .i64 1) :=
  ⟨h.kx.cell 0, h.kx.cell 1, h.ky.cell 0, h.ky.cell 1, h.ko.cell 0, h.ko.cell 1⟩
theorem str_in {w : World} {b : Option Addr} {xs : List ByteArray} (h : InW w b 1 (xs.map fun s => [.string s])) {i : Nat} {a : ByteArray} (hi : xs[i]? = some a) :
    ∃ B off, b = some ⟨B, off, none⟩ ∧ B < w.heap.size ∧ w.cell? ⟨B, off + i, none⟩ = some (.string a) := by
  have hm : (xs.map fun s => [Value.string s])[i]? = some [.string a] := by rw [List.getElem?_map, hi]; rfl
  rcases h with h | ⟨B, off, hb, hl, hc⟩
  · rw [h] at hm; simp at hm
  · have := hc i _ hm 0 _ rfl
    rw [Nat.mul_one] at this
    exact ⟨B, off, hb, hl, this⟩
theorem of_se (bA : Option Addr) (cA : Nat) (A : List SV) (l : List AddT) (g : Int) (w W : World) (h : SeIn W bA l g A) (hc : cA ≤ maxLen) (hl : A.length ≤ cA) (hb : Below w.heap.size w W) :
    Calls Try.prog 10 #[.slice bA A.length cA] W fun e w' => ∃ p, e = .returned (.pointer (some ⟨p, 0, none⟩)) ∧ St w w' bA l g A p := by
  have hp := pr_in h.si (fun x hx => (h.ok hx).2.2.2)
  have hq := Pr.of_any bA cA (A.map toPr) W hp h.light hc (by rw [List.length_map]; exact hl)
  rw [List.length_map] at hq
  refine hq.mono ?_
  rintro e w' ⟨p, t, rfl, h1⟩
  exact ⟨p, rfl, h.bel h1.bel, Pr.pr_here h1 (i := 1) (j := 0) rfl rfl, hb.trans (h1.bel.mono hb.size)⟩
theorem bd (w : World) (n : Nat) : Below w.heap.size w (w.drewN n) := bdrewN (Below.refl _ _) n
theorem kin_st {w wr : World} {bA : Option Addr} {l : List AddT} {g : Int} {A : List SV} {p : Nat} (h : St w wr bA l g A p) (hg : 0 ≤ g) (hv : ∀ a ∈ l, okT (vis a) = true) (ho : ∀ a ∈ l, atOk a) (hA : A.map seOf = allS g (Lp l)) :
    (∀ a ∈ l, ∀ b ∈ l, KinOk A a.1 b.1 (kinN (Pr.cntF (A.map toPr)) a.1 b.1) (kinD (Pr.cntF (A.map toPr)) a.1 b.1) (kinN (Pr.cntF (A.map toPr)) b.1 a.1) (kinD (Pr.cntF (A.map toPr)) b.1 a.1)) ∧
    ∀ wr', Below wr.heap.size wr wr' → ∀ a ∈ l, ∀ b ∈ l, Calls Try.prog 12 #[.pointer (some ⟨p, 0, none⟩), .string a.1, .string b.1] wr' fun e w' => e = .returned (.agg #[.int .i64 (kinN (Pr.cntF (A.map toPr)) a.1 b.1), .int .i64 (kinD (Pr.cntF (A.map toPr)) a.1 b.1)]) ∧ Below wr'.heap.size wr' w' := by
  have hl1 := h.se.light.1
  have hlen : A.length ≤ 1000 := by rw [List.length_map] at hl1; omega
  have hpos : ∀ a ∈ l, 1 ≤ Pr.cntB (A.map toPr) a.1 a.1 := fun a ha => by
    obtain ⟨z, hz, hi⟩ := item_in hg hv ha
    rw [← hA] at hz
    obtain ⟨x, hx, rfl⟩ := List.mem_map.1 hz
    exact cnt_pos hx hi
  have hle : ∀ a b, Pr.cntB (A.map toPr) a b ≤ 1000 := fun a b => Nat.le_trans (Pr.cntB_le _ _ _) (by omega)
  refine ⟨fun a ha b hb => kin_ok hlen (hpos a ha) (hpos b hb), fun wr' hbl a ha b hb => ?_⟩
  have p1 := hpos a ha
  have p2 := hpos b hb
  have l1 := hle a.1 a.1
  have l2 := hle b.1 b.1
  have l3 := hle a.1 b.1
  exact kin_any (h.pr.bel hbl) a.1 b.1 (ho a ha).1 (ho b hb).1 (by rw [Pr.cntF_is]; omega) (by rw [Pr.cntF_is]; omega) (by rw [Pr.cntF_is]; omega)
set_option maxRecDepth 100000 in
set_option maxHeartbeats 600000 in
theorem walk (w : World) (b : Option Addr) (cap : Nat) (l : List AddT) (hlc : l.length ≤ cap) (hm : cap ≤ maxLen) (hi : InW w b 3 (l.map atC)) (ho : ∀ a ∈ l, atOk a)
    (gp : Int) (w1 : (Lit.int .u8 gp).wf = true) (iq : Int) (wi : (Lit.int .u8 iq).wf = true) (kq : Int) (wk : (Lit.int .u8 kq).wf = true) :
    Calls Try.prog 4 #[.slice b l.length cap, .int .u8 gp, .int .u8 iq, .int .u8 kq] w fun e w' => e = .returned (.bool true) ∧ Below w.heap.size w w' := by
  have CN := Lib.hid (fun W => Pn.counts_any W)
  have HF : Hid (∀ W, Below w.heap.size w W → Calls Try.prog 6 #[.slice b l.length cap] W fun e w' => e = .returned (.bool (fewT l)) ∧ Below W.heap.size W w') := Lib.hid (fun W hb => Pn.few_any b cap l W (InW.bel hi hb) hm hlc ho)
  have HNM : Hid (∀ W, Below w.heap.size w W → Calls Try.prog 7 #[.slice b l.length cap] W fun e w' => e = .returned (.bool (namedB l)) ∧ Below W.heap.size W w') := Lib.hid (fun W hb => named_any b cap l W (InW.bel hi hb) hm hlc ho)
  have b1 := u8_wf w1
  have b2 := u8_wf wi
  have b3 := u8_wf wk
  have HIW := Lib.hid hi
  have HO := Lib.hid ho
  clear hi ho w1 wi wk
  cases hfw : fewT l with
  | false =>
    rw [hfw] at HF
    unfold maxLen at hm
    generalize hln : l.length = n at *
    clear hln HNM
    go_enter Try.func4, Try.ntmps4
    go_wp2_with fail
    refine (CN.out _).mono ?_
    rintro e w1 ⟨rfl, c1⟩
    have HF1 := Lib.hid (HF.out w1 c1)
    have B1 := Lib.hid c1
    clear c1 HF
    go_wp2_with fail
    refine HF1.out.mono ?_
    rintro e w2 ⟨rfl, c2⟩
    have B2 := Lib.hid (B1.out.trans (c2.mono B1.out.size))
    clear c2 HF1
    go_wp2_with fail
    refine (CN.out _).mono ?_
    rintro e w3 ⟨rfl, c3⟩
    have B3 := Lib.hid (B2.out.trans (c3.mono B2.out.size))
    clear c3
    go_wp2_with fail
    go_ret
    exact ⟨rfl, B3.out⟩
  | true =>
    rw [hfw] at HF
    obtain ⟨hn60, -⟩ := Pn.few_of hfw
    by_cases hn0 : l.length = 0
    · unfold maxLen at hm
      have u0 : (((l.length : Nat) : Int) == 0) = true := by rw [hn0]; rfl
      clear hn0
      generalize hln : l.length = n at *
      clear hln HNM
      go_enter Try.func4, Try.ntmps4
      go_wp2_with fail
      refine (CN.out _).mono ?_
      rintro e w1 ⟨rfl, c1⟩
      have HF1 := Lib.hid (HF.out w1 c1)
      have B1 := Lib.hid c1
      clear c1 HF
      go_wp2_with fail
      refine HF1.out.mono ?_
      rintro e w2 ⟨rfl, c2⟩
      have B2 := Lib.hid (B1.out.trans (c2.mono B1.out.size))
      clear c2 HF1
      go_wp2_with fail
      refine (CN.out _).mono ?_
      rintro e w3 ⟨rfl, c3⟩
      have B3 := Lib.hid (B2.out.trans (c3.mono B2.out.size))
      clear c3
      go_wp2_with fail
      go_ret
      exact ⟨rfl, B3.out⟩
    have u0 : (((l.length : Nat) : Int) == 0) = false := by simp; exact fun c => hn0 (by simp [c])
    cases hnm : namedB l with
    | false =>
      rw [hnm] at HNM
      unfold maxLen at hm
      generalize hln : l.length = n at *
      clear hln
      go_enter Try.func4, Try.ntmps4
      go_wp2_with fail
      refine (CN.out _).mono ?_
      rintro e w1 ⟨rfl, c1⟩
      have HF1 := Lib.hid (HF.out w1 c1)
      have B1 := Lib.hid c1
      clear c1 HF
      go_wp2_with fail
      refine HF1.out.mono ?_
      rintro e w2 ⟨rfl, c2⟩
      have B2 := Lib.hid (B1.out.trans (c2.mono B1.out.size))
      clear c2 HF1
      have HN1 := Lib.hid (HNM.out w2 B2.out)
      go_wp2_with fail
      refine HN1.out.mono ?_
      rintro e w3 ⟨rfl, c3⟩
      have B3 := Lib.hid (B2.out.trans (c3.mono B2.out.size))
      clear c3
      go_wp2_with fail
      go_ret
      exact ⟨rfl, B3.out⟩
    | true =>
      rw [hnm] at HNM
      have hg1 : 1 ≤ 1 + gp := by omega
      have hg2 : 1 + gp ≤ 256 := by omega
      have hgI : I64 (1 + gp) := by unfold I64; omega
      have hgg := gap_of hg1 hg2
      have HVI : Hid (∀ a ∈ l, okT (vis a) = true) := Lib.hid (named_vis hnm HO.out)
      have HVF := Lib.hid (fun W (hb : Below w.heap.size w W) => visits_fwd b cap l (1 + gp) W (InW.bel HIW.out hb) hm hlc HO.out hn60 hgI hgg)
      have HAL := Lib.hid (fun W0 W s (h : VisI W0 W s (1 + gp) (Lp l)) => all_vis h (by omega) hn60 HVI.out HO.out)
      have HMX : Hid (cap ≤ maxLen) := Lib.hid hm
      unfold maxLen at hm
      generalize hln : l.length = n at *
      have Hn := Lib.hid hln
      clear hln hgI hgg
      go_enter Try.func4, Try.ntmps4
      go_wp2_with fail
      refine (CN.out _).mono ?_
      rintro e w1 ⟨rfl, c1⟩
      have HF1 := Lib.hid (HF.out w1 c1)
      have B1 := Lib.hid c1
      clear c1 HF
      go_wp2_with fail
      refine HF1.out.mono ?_
      rintro e w2 ⟨rfl, c2⟩
      have B2 := Lib.hid (B1.out.trans (c2.mono B1.out.size))
      clear c2 HF1
      have HN1 := Lib.hid (HNM.out w2 B2.out)
      go_wp2_with fail
      refine HN1.out.mono ?_
      rintro e w3 ⟨rfl, c3⟩
      have B3 := Lib.hid (B2.out.trans (c3.mono B2.out.size))
      clear c3 HN1 HNM CN B1 B2
      go_wp2_with fail
      generalize 1 + gp = g at *
      refine (HVF.out w3 B3.out).mono ?_
      rintro e w4 ⟨s4, rfl, v4⟩
      have HA4 := Lib.hid (HAL.out w3 w4 s4 v4)
      have B4 := Lib.hid (B3.out.trans (v4.bl.mono B3.out.size))
      clear v4 HVF
      go_wp2_with fail
      refine HA4.out.mono ?_
      rintro e w5 ⟨bA, cA, A, rfl, hA1, hA2, hA3, hA4, hA5⟩
      have B5 := Lib.hid (B4.out.trans (hA5.mono B4.out.size))
      have SA5 := Lib.hid hA3
      have EA := Lib.hid hA4
      have HcA := Lib.hid (show A.length ≤ cA ∧ cA ≤ maxLen from ⟨hA1, hA2⟩)
      have HOF : Hid (Calls Try.prog 10 #[.slice bA A.length cA] w5 fun e w' => ∃ p, e = .returned (.pointer (some ⟨p, 0, none⟩)) ∧ St w w' bA l g A p) := Lib.hid (of_se bA cA A l g w w5 hA3 hA2 hA1 B5.out)
      have hcA2 : cA ≤ maxLen := hA2
      have hlcA : A.length ≤ cA := hA1
      have HN60 : Hid (A.length ≤ 1000) := Lib.hid (by have h1 := hA3.fi.ln; rw [List.length_map] at h1; omega)
      clear hA1 hA2 hA3 hA4 hA5 HA4 B3 B4 SA5 HcA HAL
      unfold maxLen at hcA2
      obtain ⟨I, hI⟩ : ∃ I : Nat, iq.tmod (n : Int) = (I : Int) := ⟨(iq.tmod (n : Int)).toNat, by have := Int.tmod_nonneg (n : Int) b2.1; omega⟩
      obtain ⟨K, hK⟩ : ∃ K : Nat, kq.tmod (n : Int) = (K : Int) := ⟨(kq.tmod (n : Int)).toNat, by have := Int.tmod_nonneg (n : Int) b3.1; omega⟩
      have hn1 : n ≠ 0 := hn0
      have hIn : I < n := by have := Int.tmod_lt_of_pos iq (show (0 : Int) < (n : Int) by omega); omega
      have hKn : K < n := by have := Int.tmod_lt_of_pos kq (show (0 : Int) < (n : Int) by omega); omega
      go_wp2_with fail
      refine HOF.out.mono ?_
      rintro e w6 ⟨p, rfl, h6⟩
      have H6 := Lib.hid h6
      obtain ⟨a, ha⟩ : ∃ a, l[I]? = some a := ⟨l[I]'(by rw [Hn.out]; exact hIn), List.getElem?_eq_getElem _⟩
      obtain ⟨b', hb'⟩ : ∃ b', l[K]? = some b' := ⟨l[K]'(by rw [Hn.out]; exact hKn), List.getElem?_eq_getElem _⟩
      have hKS := kin_st h6 (by omega) HVI.out HO.out EA.out
      have KOK := Lib.hid (hKS.1 a (List.mem_of_getElem? ha) b' (List.mem_of_getElem? hb'))
      have KN := Lib.hid (fun W hW => hKS.2 W hW a (List.mem_of_getElem? ha) b' (List.mem_of_getElem? hb'))
      have KN2 := Lib.hid (fun W hW => hKS.2 W hW b' (List.mem_of_getElem? hb') a (List.mem_of_getElem? ha))
      clear hKS
      obtain ⟨Bl, ol, hbl, hBl, r0, -, -⟩ := ats_at HIW.out ha
      obtain ⟨Bl', ol', hbl', -, s0, -, -⟩ := ats_at HIW.out hb'
      rw [hbl] at hbl'
      cases hbl'
      subst hbl
      have c0 := (h6.bl.cell (p := ⟨Bl, ol + I * 3, none⟩) hBl).trans r0
      have d0 := (h6.bl.cell (p := ⟨Bl, ol + K * 3, none⟩) hBl).trans s0
      have i0 : (0 : Int) ≤ (I : Int) := by omega
      have i1 : (I : Int) < (n : Int) := by omega
      have k0 : (0 : Int) ≤ (K : Int) := by omega
      have k1 : (K : Int) < (n : Int) := by omega
      have i2 : IntKind.i64.wrap (I : Int) = (I : Int) := IntWalk.i64_in _ (by omega)
      have i3 : RowKit.wrap64 (I : Int) = (I : Int) := IntWalk.wrap64_in _ (by omega)
      have k2 : IntKind.i64.wrap (K : Int) = (K : Int) := IntWalk.i64_in _ (by omega)
      have k3 : RowKit.wrap64 (K : Int) = (K : Int) := IntWalk.wrap64_in _ (by omega)
      have p2 : IntKind.i64.wrap iq = iq := IntWalk.i64_in _ (by omega)
      have p3 : RowKit.wrap64 iq = iq := IntWalk.wrap64_in _ (by omega)
      have p4 : IntKind.i64.wrap kq = kq := IntWalk.i64_in _ (by omega)
      have p5 : RowKit.wrap64 kq = kq := IntWalk.wrap64_in _ (by omega)
      clear h6 HOF ha hb' r0 s0 HIW hBl
      go_wp2_with fail
      go_quiet (fail)
      have H7 := Lib.hid (H6.out.bel (bd w6 nq))
      have KN1 := Lib.hid (KN.out _ (bd w6 nq))
      clear i2 i3 k2 k3 p2 p3 p4 p5 c0 d0 i0 i1 k0 k1 hI hK hIn hKn
      generalize hw7 : w6.drewN nq = w7 at *
      have B67 : Hid (Below w6.heap.size w6 w7) := Lib.hid (by rw [← hw7]; exact bd w6 nq)
      clear hw7 H6 KN
      have hlN : A.length ≤ 1000 := HN60.out
      generalize hNN : A.length = N at *
      have HNA := Lib.hid hNN
      clear hNN
      generalize kinN (Pr.cntF (A.map toPr)) a.1 b'.1 = n1 at *
      generalize kinD (Pr.cntF (A.map toPr)) a.1 b'.1 = d1 at *
      generalize kinN (Pr.cntF (A.map toPr)) b'.1 a.1 = n2 at *
      generalize kinD (Pr.cntF (A.map toPr)) b'.1 a.1 = d2 at *
      go_wp2_with fail
      refine KN1.out.mono ?_
      rintro e w8 ⟨rfl, h8⟩
      have KN3 := Lib.hid (KN2.out w8 (B67.out.trans (h8.mono B67.out.size)))
      have H8 := Lib.hid (H7.out.bel h8)
      clear h8 KN1 KN2 H7 B67
      go_wp2_with fail
      refine KN3.out.mono ?_
      rintro e w9 ⟨rfl, h9⟩
      have H9 := Lib.hid (H8.out.bel h9)
      clear h9 KN3 H8
      have HT0 : Hid (togB (A.take 0) a.1 b'.1 = true) := Lib.hid rfl
      have HX9 := Lib.hid (Sx.new n1 d1 n2 d2 H9.out)
      clear H9
      go_wp2_with fail
      generalize (w9.alloc (.cells #[.int .i64 n1, .int .i64 d1] 40)).alloc (.cells #[.int .i64 n2, .int .i64 d2] 40) = W9 at *
      generalize w9.heap.size = bx at *
      go_loopw [15, 75] (fun t c wr => ∃ (i : Nat) (r : Bool), i ≤ N ∧ c = .int .i64 i ∧ t = .bool r ∧ Hid (togB (A.take i) a.1 b'.1 = r) ∧ Hid (Sx w wr bA l g A p bx n1 d1 n2 d2)) (fun _ c _ => N - (intOf c).toNat)
      case atStart => exact ⟨0, true, by omega, rfl, rfl, HT0, HX9⟩
      case round =>
        obtain ⟨i, r, hiN, rfl, rfl, HT, HS⟩ := hrel
        clear HT0 HX9
        by_cases hin : i < N
        · obtain ⟨x, hx⟩ : ∃ x, A[i]? = some x := ⟨A[i]'(by rw [HNA.out]; exact hin), List.getElem?_eq_getElem _⟩
          have HX := Lib.hid hx
          have hM100 : x.its.length ≤ 100 := (HS.out.st.se.ok (List.mem_of_getElem? hx)).2.2.1
          obtain ⟨-, hM1, hM2⟩ := HS.out.st.se.si.it x (List.mem_of_getElem? hx)
          unfold maxLen at hM2
          have HS3 := Lib.hid (HS.out.bel ((Below.refl wr.heap.size wr).alloc (Nat.le_refl _) (.cells #[.string x.p, .int .i64 x.f, .int .i64 x.t, .slice x.ib x.its.length x.ic] 31)))
          obtain ⟨Ba, oa, rfl, -, a0, a1, a2, a3⟩ := svAt HS.out.st.se.si.i hx
          have hbk := Bk.new wr [.string x.p, .int .i64 x.f, .int .i64 x.t, .slice x.ib x.its.length x.ic] 31
          have x3 := hbk.cell 3
          simp only [List.getElem?_cons_succ, List.getElem?_cons_zero] at x3
          have hi2 : (0 : Int) ≤ (i : Int) := by omega
          have hi3 : (i : Int) < (N : Int) := by omega
          have HI0 : Hid (inB (x.its.take 0) a.1 = false ∧ inB (x.its.take 0) b'.1 = false) := Lib.hid ⟨rfl, rfl⟩
          clear hx hbk HS
          go_wp2_with fail
          generalize wr.alloc (.cells #[.string x.p, .int .i64 x.f, .int .i64 x.t, .slice x.ib x.its.length x.ic] 31) = W3 at *
          generalize wr.heap.size = bs at *
          clear a0 a1 a2 a3
          generalize hMM : x.its.length = M at *
          have HM := Lib.hid hMM
          clear hMM
          go_loopw [18, 19, 82] (fun ta tb c wr => ∃ (j : Nat) (r1 r2 : Bool), j ≤ M ∧ c = .int .i64 j ∧ ta = .bool r1 ∧ tb = .bool r2 ∧ Hid (inB (x.its.take j) a.1 = r1 ∧ inB (x.its.take j) b'.1 = r2) ∧ Hid (Sx w wr (some ⟨Ba, oa, none⟩) l g A p bx n1 d1 n2 d2)) (fun _ _ c _ => M - (intOf c).toNat)
          case atStart => exact ⟨0, false, false, by omega, rfl, rfl, rfl, HI0, HS3⟩
          case round =>
            obtain ⟨j, r1, r2, hjM, rfl, rfl, rfl, HI, HS⟩ := hrel
            clear HS3 HI0 x3
            by_cases hjm : j < M
            · obtain ⟨t, ht⟩ : ∃ t, x.its[j]? = some t := ⟨x.its[j]'(by rw [HM.out]; exact hjm), List.getElem?_eq_getElem _⟩
              obtain ⟨Bi, oi, hib, -, t0⟩ := str_in (HS.out.st.se.si.it x (List.mem_of_getElem? HX.out)).1 ht
              have hj0 : (0 : Int) ≤ (j : Int) := by omega
              have hj1 : (j : Int) < (M : Int) := by omega
              have u1 : (t.toList == a.1.toList) = decide (t = a.1) := bytesEq _ _
              have u2 : (t.toList == b'.1.toList) = decide (t = b'.1) := bytesEq _ _
              have HI2 : Hid (inB (x.its.take (j + 1)) a.1 = (r1 || decide (t = a.1)) ∧ inB (x.its.take (j + 1)) b'.1 = (r2 || decide (t = b'.1))) := Lib.hid (by
                rw [inB_snoc ht, inB_snoc ht, HI.out.1, HI.out.2]; exact ⟨rfl, rfl⟩)
              generalize decide (t = a.1) = qa at *
              generalize decide (t = b'.1) = qb at *
              rw [hib]
              clear ht HI
              cases r1 <;> cases r2 <;> cases qa <;> cases qb
              all_goals
                go_wp2_with fail
                go_roundw
                case rel => exact ⟨j + 1, _, _, by omega, by go_num, rfl, rfl, HI2, HS⟩
                case measure => simp [intOf]; omega
            · have HT2 : Hid (togB (A.take (i + 1)) a.1 b'.1 = (r && (r1 == r2))) := Lib.hid (by
                have h1 := HI.out
                rw [show x.its.take j = x.its from List.take_of_length_le (by rw [HM.out]; omega)] at h1
                rw [tog_snoc HX.out, HT.out, h1.1, h1.2])
              clear HI HT
              cases r <;> cases r1 <;> cases r2
              all_goals
                go_wp2_with fail
                go_roundw
                case rel => exact ⟨i + 1, _, by omega, by go_num, rfl, HT2, HS⟩
                case measure => simp [intOf]; omega
        · have HTR : togB A a.1 b'.1 = r := by
            have h1 := HT.out
            rw [List.take_of_length_le (by rw [HNA.out]; omega)] at h1
            exact h1
          obtain ⟨km, kr1, kr2, ⟨rfl, rfl⟩, kle, kon⟩ := KOK.out
          rw [HTR] at kon
          have HMY : Hid (∀ W, Calls Try.prog 13 #[.agg #[.int .i64 n2, .int .i64 d2]] W fun e w' => e = .returned (.bool true) ∧ Below W.heap.size W w') := Lib.hid (fun W => (may_any n2 d2 W).mono (by
            rintro e w' ⟨rfl, rfl⟩
            rw [km]
            exact ⟨rfl, (Below.refl _ _).alloc (Nat.le_refl _) _⟩))
          have HC1 : Hid (∀ W, Calls Try.prog 14 #[.agg #[.int .i64 n2, .int .i64 d2], .agg #[.int .i64 n2, .int .i64 d2]] W fun e w' => e = .returned (.int .i64 0) ∧ Below W.heap.size W w') := Lib.hid (fun W => by
            have h1 := compare_any n2 d2 n2 d2 W (by omega) (by omega) (by omega) (by omega)
            rw [cmpR_refl] at h1
            exact h1)
          have HC2 : Hid (∀ W, Calls Try.prog 14 #[.agg #[.int .i64 n2, .int .i64 d2], .agg #[.int .i64 1, .int .i64 1]] W fun e w' => e = .returned (.int .i64 (cmpR n2 d2 1 1)) ∧ Below W.heap.size W w') := Lib.hid (fun W => compare_any n2 d2 1 1 W (by omega) (by omega) (by omega) (by omega))
          generalize cmpR n2 d2 1 1 = z at *
          have v0 : ((0 : Int) == 0) = true := rfl
          have F0 : Hid (Fx w (wr.alloc (.cells #[.int .i64 1, .int .i64 1] 40)) bx wr.heap.size n2 d2) := Lib.hid (by
            have hb := (Below.refl wr.heap.size wr).alloc (Nat.le_refl _) (.cells #[.int .i64 1, .int .i64 1] 40)
            exact ⟨HS.out.st.bl.trans (hb.mono HS.out.st.bl.size), HS.out.kx.bel hb, HS.out.ky.bel hb, Bk.new wr [.int .i64 1, .int .i64 1] 40⟩)
          obtain ⟨x0, x1, y0, y1, o0, o1⟩ := F0.out.cells
          clear HT HTR KOK km kr1 kr2 HS
          go_wp2_with fail
          refine (HMY.out _).mono ?_
          rintro e v1 ⟨rfl, f1⟩
          have F1 := Lib.hid (F0.out.bel f1)
          clear x0 x1 y0 y1 o0 o1 f1 F0
          obtain ⟨x0, x1, y0, y1, o0, o1⟩ := F1.out.cells
          go_wp2_with fail
          refine (HC1.out _).mono ?_
          rintro e v2 ⟨rfl, f1⟩
          have F2 := Lib.hid (F1.out.bel f1)
          clear x0 x1 y0 y1 o0 o1 f1 F1
          obtain ⟨x0, x1, y0, y1, o0, o1⟩ := F2.out.cells
          go_wp2_with fail
          refine (HC2.out _).mono ?_
          rintro e v3 ⟨rfl, f1⟩
          have F3 := Lib.hid (F2.out.bel f1)
          clear x0 x1 y0 y1 o0 o1 f1 F2
          obtain ⟨x0, x1, y0, y1, o0, o1⟩ := F3.out.cells
          go_wp2_with fail
          refine (HC2.out _).mono ?_
          rintro e v4 ⟨rfl, f1⟩
          have F4 := Lib.hid (F3.out.bel f1)
          clear x0 x1 y0 y1 o0 o1 f1 F3
          have v5 : (r == r) = true := by simp
          go_wp2_with fail
          go_ret
          first
            | exact ⟨rfl, F4.out.bl⟩
            | exact ⟨by rw [kon]; simp, F4.out.bl⟩
            | exact ⟨by rw [kon, v5], F4.out.bl⟩

theorem own : ownKnob Try.prog.godebug = none := by kernel_rfl
theorem laidOut : laidOutB Try.prog = true := by kernel_rfl

set_option maxRecDepth 100000 in
theorem lifted (os : Os) (started : os.Started) (H : Type) (enc : TypeId × Value → H) :
    ReturnsInHanded {} Try.checked os 4 .any (Rows.topKinSpec.pre6 enc Try.prog Try.f4 Rows.topKinRow.domain false) (Rows.topKinSpec.post enc Try.prog Try.f4 false true false false) := by
  refine returnsInHanded_of_change (C := Try.checked) own started (by kernel_rfl) Try.func4
    (ChangeSpec.witness6 (enc := enc) (C := Try.checked) false ⟨#[], #[.slice none 0 0, .int .u8 0, .int .u8 0, .int .u8 0], []⟩ 8 (by kernel_rfl) (by kernel_rfl) (by kernel_rfl) (by kernel_rfl)) ?_
  intro W base args ds gs before hval0 hW hcnd _
  have hval : ∀ (j : Nat) t v, Try.f4.params[j]? = some t → args[j]? = some v → Value.okWide Try.prog W .any base t v := hval0
  have hW' := hW
  obtain ⟨p, q, hA0, hV, rfl, hfz, hnd⟩ := hW
  have hA : DataW.TrodAll enc Try.prog W 0 (fun _ => true) true Try.f4.params.toList args.toList ds p := hA0
  rw [Try.params4] at hA hval
  obtain ⟨v0, vs0, d0, ds0, p0, q0, hargs, rfl, rfl, h0, r0⟩ := trodAll_cons hA
  obtain ⟨v1, vs1, d1, ds1, p1, q1, rfl, rfl, rfl, h1, r1⟩ := trodAll_cons r0
  obtain ⟨v2, vs2, d2, ds2, p2, q2, rfl, rfl, rfl, h2, r2⟩ := trodAll_cons r1
  obtain ⟨v3, vs3, d3, ds3, p3, q3, rfl, rfl, rfl, h3, r3⟩ := trodAll_cons r2
  obtain ⟨rfl, rfl, rfl⟩ := trodAll_nil r3
  obtain rfl : args = #[v0, v1, v2, v3] := by cases args; simp_all
  obtain ⟨rfl, rfl⟩ := trodVars_none hV
  have k0 := h0
  have lt0 : ∀ x ∈ p0, x.block < W.heap.size := by obtain ⟨m, hm⟩ := k0; exact DataW.trod_lt m _ _ _ hm
  obtain ⟨b0, c0, x0, rfl, l0, m0, i0, o0⟩ := Pn.open_ats (hval 0 22 v0 rfl rfl) h0
  have k1 := h1
  have lt1 : ∀ x ∈ p1, x.block < W.heap.size := by obtain ⟨m, hm⟩ := k1; exact DataW.trod_lt m _ _ _ hm
  obtain ⟨a1, rfl, rfl, rfl, w1⟩ := open_int Try.underlying5 (hval 1 5 v1 rfl rfl) h1
  have k2 := h2
  have lt2 : ∀ x ∈ p2, x.block < W.heap.size := by obtain ⟨m, hm⟩ := k2; exact DataW.trod_lt m _ _ _ hm
  obtain ⟨a2, rfl, rfl, rfl, w2⟩ := open_int Try.underlying5 (hval 2 5 v2 rfl rfl) h2
  have k3 := h3
  have lt3 : ∀ x ∈ p3, x.block < W.heap.size := by obtain ⟨m, hm⟩ := k3; exact DataW.trod_lt m _ _ _ hm
  obtain ⟨a3, rfl, rfl, rfl, w3⟩ := open_int Try.underlying5 (hval 3 5 v3 rfl rfl) h3
  clear hA0 hval0
  refine (walk W b0 c0 x0 l0 m0 i0 o0 a1 w1 a2 w2 a3 w3).mono fun e W' ⟨he, bel⟩ => ?_
  subst he
  exact ⟨_, rfl, _, _, _, [], _, [], hW', trodAll_mk1 (shut_bool Try.underlying4 _), (trodAll_cons_mk (Below.trod laidOut (by kernel_rfl) (of_decide_eq_true (by kernel_rfl)) k0 bel lt0) (trodAll_cons_mk (Below.trod laidOut (by kernel_rfl) (of_decide_eq_true (by kernel_rfl)) k1 bel lt1) (trodAll_cons_mk (Below.trod laidOut (by kernel_rfl) (of_decide_eq_true (by kernel_rfl)) k2 bel lt2) (trodAll_cons_mk (Below.trod laidOut (by kernel_rfl) (of_decide_eq_true (by kernel_rfl)) k3 bel lt3) trodAll_mk0)))), rfl, bel.frame _, fun h => by cases h⟩

theorem over : Rows.topKinRow.holds Try.pinned (OpenSpec.ofChange Rows.topKinSpec) :=
  OpenClaim.holds_of_wide 4 Try.f4 rfl rfl rfl rfl rfl rfl rfl ⟨rfl, rfl, rfl, rfl, rfl⟩ rfl rfl rfl rfl rfl (by kernel_rfl) Try.func4 (by kernel_rfl)
    (of_decide_eq_true (by kernel_rfl)) (by unfold Func.isWrapper; first | (rw [if_pos (by decide +kernel)]; kernel_rfl) | (rw [if_neg (by decide +kernel)]; exact ⟨rfl, rfl⟩))
    (fun os started H enc _ => lifted os started H enc)

theorem proved : Rows.TopKinSaid := over
#print axioms proved
end Go.Proofs.Ytbmjddmejmeknaa.topKin

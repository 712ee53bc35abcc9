/- The document's Near, Things, Heavy; sessions that came in, opened. -/
import Derived.Test.YtnpjihbaebbbcaaQDoc
import Derived.Lib.SmallJoins
import Derived.Deep.Strs
namespace Go.Proofs.Ytnpjihbaebbbcaa
open Go.RowKit Go.MapKept Go.Maps Go.ChangeShapes Go.WideShapes Go.Shelf Go.Sort
set_option linter.unusedVariables false
set_option linter.unusedSimpArgs false
set_option maxRecDepth 20000 in
set_option maxHeartbeats 4000000 in
theorem dthings_any (b : Option Addr) (cap : Nat) (xs : List ByteArray) (w : World) (h : Strs w b xs) (hl : xs.length ≤ 1000) :
    Calls Try.prog 16 #[.slice b xs.length cap] w fun e w' => ∃ v ks, e = .returned v ∧ Rise ks ∧ (∀ x, x ∈ ks ↔ x ∈ xs) ∧ ks.length ≤ xs.length ∧ MkT w w' v ks := by
  have H := Lib.hid h
  have M0 := Lib.hid (MkT.empty w)
  have HI0 : Hid (Rise ([] : List ByteArray) ∧ (∀ x, x ∈ ([] : List ByteArray) ↔ x ∈ xs.take 0) ∧ ([] : List ByteArray).length ≤ 0) := Lib.hid ⟨List.Pairwise.nil, fun x => by simp, by simp⟩
  generalize hn : xs.length = n at *
  have HN := Lib.hid hn
  clear h hn
  go_enter Try.func16, Try.ntmps16
  go_wp2_with fail
  go_loopw [3, 4] (fun u c wr => ∃ (j : Nat) (ks : List ByteArray), j ≤ n ∧ c = .int .i64 j ∧ Hid (MkT w wr u ks) ∧ Hid (Rise ks ∧ (∀ z, z ∈ ks ↔ z ∈ xs.take j) ∧ ks.length ≤ j)) (fun _ c _ => n - (intOf c).toNat)
  case atStart => exact ⟨0, [], by omega, rfl, M0, HI0⟩
  case round =>
    obtain ⟨j, ks, hj, rfl, HM, HJ⟩ := hrel
    clear HI0 M0
    by_cases hjt : j < n
    · obtain ⟨z, hz⟩ : ∃ z, xs[j]? = some z := ⟨xs[j]'(by have := HN.out; omega), List.getElem?_eq_getElem _⟩
      obtain ⟨Bz, offz, rfl, hBz, cz⟩ := (H.out.bel HM.out.bl).at hz
      have hj0 : (0 : Int) ≤ (j : Int) := by omega
      have hj1 : (j : Int) < (n : Int) := by omega
      have PU := Lib.hid (put08_any _ ks z w _ HM.out (by have := HJ.out.2.2; omega) HJ.out.1)
      have HJ1 : Hid (Rise (putB ks z) ∧ (∀ y, y ∈ putB ks z ↔ y ∈ xs.take (j + 1)) ∧ (putB ks z).length ≤ j + 1) := Lib.hid ⟨putB_rise HJ.out.1 z, fun y => by
        rw [putB_mem, HJ.out.2.1, List.take_add_one, hz, List.mem_append]
        simp only [Option.toList_some, List.mem_cons, List.not_mem_nil, or_false]
        exact or_comm, by have := putB_len ks z; have := HJ.out.2.2; omega⟩
      clear hz hBz HJ
      go_wp2_with fail
      refine PU.out.mono ?_
      rintro e w2 ⟨v, rfl, m2, b2⟩
      have HM2 := Lib.hid m2
      clear m2 b2 PU HM cz
      go_wp2_with fail
      go_roundw
      case rel => exact ⟨j + 1, _, by omega, by go_num, HM2, HJ1⟩
      case measure => simp [intOf]; omega
    · have HE : Hid (Rise ks ∧ (∀ z, z ∈ ks ↔ z ∈ xs) ∧ ks.length ≤ n) := Lib.hid (by
        have h := HJ.out
        rw [List.take_of_length_le (by have := HN.out; omega)] at h
        exact ⟨h.1, h.2.1, by have := h.2.2; omega⟩)
      clear HJ
      obtain ⟨b', cap', rfl, _⟩ := HM.out.tx.strs
      generalize hk : ks.length = nk at HM ⊢
      have HK := Lib.hid hk
      clear hk
      go_wp2_with fail
      go_ret
      exact ⟨_, ks, rfl, HE.out.1, HE.out.2.1, by have h := HE.out.2.2; have := HK.out; omega, HM.out⟩
/-- who is near -/
def NearOf (l : List Sv) (a : ByteArray) (ks : List ByteArray) : Prop := Rise ks ∧ ∀ x, x ∈ ks ↔ (x ≠ a ∧ 0 < cntB l a x)
set_option maxRecDepth 20000 in
set_option maxHeartbeats 4000000 in
theorem dnear_any (b : Option Addr) (cap : Nat) (l : List Sv) (a : ByteArray) (w : World) (h : SvIn w b l) (hl : Light l) (hc : cap ≤ maxLen) (hlc : l.length ≤ cap) :
    Calls Try.prog 29 #[.slice b l.length cap, .string a] w fun e w' => ∃ v ks, e = .returned v ∧ NearOf l a ks ∧ ks.length ≤ 10000 ∧ MkT w w' v ks := by
  obtain ⟨i0, hi0T, hz0, hz1, hz2⟩ := info_parts infoText
  have HI := Lib.hid (ditems_any b cap l w h hl hc hlc)
  have HC : Hid (∀ w', Below w.heap.size w w' → ∀ x, Calls Try.prog 18 #[.slice b l.length cap, .string a, .string x] w' fun e w'' => e = .returned (.int .i64 (cntB l a x : Nat)) ∧ w'' = w') := Lib.hid (fun w' hb x => dcount_any b cap l a x w' (h.bel hb) hl hc hlc)
  clear h hl hc hlc
  generalize l.length = n at *
  go_enter Try.func29, Try.ntmps29
  go_wp2_with fail
  refine HI.out.mono ?_
  rintro e W ⟨v, ks, rfl, hks, hlen, mW⟩
  obtain ⟨bk, ck, rfl, hk1, hk2, hst⟩ := mW.tx.strs
  have HKS := Lib.hid hks
  have HST := Lib.hid hst
  have HMW := Lib.hid mW
  have M0 := Lib.hid (MkT.empty W)
  generalize hN : ks.length = N at *
  have HN := Lib.hid hN
  have HF0 : Hid (([] : List ByteArray) = (ks.take 0).filter fun x => decide (x ≠ a) && decide (0 < cntB l a x)) := Lib.hid rfl
  clear hks mW hst HI hN hk1 hk2
  go_wp2_with fail
  go_loopw [6, 7] (fun u c wr => ∃ (j : Nat) (acc : List ByteArray), j ≤ N ∧ c = .int .i64 j ∧ Hid (MkT W wr u acc) ∧ Hid (acc = (ks.take j).filter fun x => decide (x ≠ a) && decide (0 < cntB l a x))) (fun _ c _ => N - (intOf c).toNat)
  case atStart => exact ⟨0, [], by omega, rfl, M0, HF0⟩
  case round =>
    obtain ⟨j, acc, hj, rfl, HM, HF⟩ := hrel
    clear HF0 M0
    by_cases hjt : j < N
    · obtain ⟨z, hz⟩ : ∃ z, ks[j]? = some z := ⟨ks[j]'(by have := HN.out; omega), List.getElem?_eq_getElem _⟩
      obtain ⟨Bz, offz, rfl, hBz, cz⟩ := (HST.out.bel HM.out.bl).at hz
      have hj0 : (0 : Int) ≤ (j : Int) := by omega
      have hj1 : (j : Int) < (N : Int) := by omega
      have HS : Hid ((ks.take (j + 1)).filter (fun x => decide (x ≠ a) && decide (0 < cntB l a x)) = acc ++ if decide (z ≠ a) && decide (0 < cntB l a z) then [z] else []) := Lib.hid (by
        rw [List.take_add_one, hz, List.filter_append, ← HF.out]
        simp [List.filter_cons])
      have hal : acc.length ≤ 10000 := by
        have h1 := List.length_filter_le (fun x => decide (x ≠ a) && decide (0 < cntB l a x)) (ks.take j)
        rw [← HF.out, List.length_take] at h1
        omega
      clear hz hBz
      by_cases hza : z = a
      · have t9 : (z.toList == a.toList) = true := by rw [bytesEq]; exact decide_eq_true hza
        have t9' : (z.toList != a.toList) = false := by rw [bne, t9]; rfl
        have HF1 : Hid (acc = (ks.take (j + 1)).filter fun x => decide (x ≠ a) && decide (0 < cntB l a x)) := Lib.hid (by rw [HS.out, if_neg (by simp [hza])]; simp)
        clear hza HF hal
        go_wp2_with fail
        go_roundw
        case rel => exact ⟨j + 1, acc, by omega, by go_num, HM, HF1⟩
        case measure => simp [intOf]; omega
      · have t9 : (z.toList == a.toList) = false := by rw [bytesEq]; exact decide_eq_false hza
        have t9' : (z.toList != a.toList) = true := by rw [bne, t9]; rfl
        have CC := Lib.hid (HC.out _ (HMW.out.bl.trans (HM.out.bl.mono HMW.out.bl.size)) z)
        by_cases h0 : 0 < cntB l a z
        · have t0 : decide ((0 : Int) < ((cntB l a z : Nat) : Int)) = true := decide_eq_true (by omega)
          have HF1 : Hid (acc ++ [z] = (ks.take (j + 1)).filter fun x => decide (x ≠ a) && decide (0 < cntB l a x)) := Lib.hid (by rw [HS.out, if_pos (by simp [hza, h0])])
          have hp1 : (cntB l a z : Int) > 0 := by omega
          generalize cntB l a z = cz0 at *
          have HLN : Hid (acc.length + [z].length ≤ 1000000) := Lib.hid (by rw [List.length_singleton]; omega)
          have HM2 := Lib.hid (HM.out.alloc (.cells #[.string z] 9))
          clear hza HF hal
          go_wp2_with fail
          refine CC.out.mono ?_
          rintro e w' ⟨rfl, rfl⟩
          go_wp2_with (at_builtin; refine wpList_append_m tLen tOne _ rfl _ _ _ rfl 9 i0 _ 16 Try.underlying28 hi0T hz0 hz1 hz2 rfl (by decide) (by omega) _ acc [z] rfl HM2.out.tx.flat (some ⟨w'.heap.size, 0, none⟩) 1 1 rfl rfl (inw_one (f := tC) (sz := 1) (x := z) (Bk.new w' (tC z) 9)) HLN.out ?_; intro v5 w5 o5 f5 h5; have HM5 := Lib.hid (HM2.out.more o5 f5 h5); clear o5 f5 h5)
          go_roundw
          case rel => exact ⟨j + 1, acc ++ [z], by omega, by go_num, HM5, HF1⟩
          case measure => simp [intOf]; omega
        · have h00 : cntB l a z = 0 := by omega
          have HF1 : Hid (acc = (ks.take (j + 1)).filter fun x => decide (x ≠ a) && decide (0 < cntB l a x)) := Lib.hid (by rw [HS.out, if_neg (by simp [h00])]; simp)
          rw [h00] at CC
          clear hza HF hal h0 h00
          go_wp2_with fail
          refine CC.out.mono ?_
          rintro e w' ⟨rfl, rfl⟩
          go_wp2_with fail
          go_roundw
          case rel => exact ⟨j + 1, acc, by omega, by go_num, HM, HF1⟩
          case measure => simp [intOf]; omega
    · have HE : Hid (NearOf l a acc ∧ acc.length ≤ 10000) := Lib.hid (by
        have h := HF.out
        rw [List.take_of_length_le (by have := HN.out; omega)] at h
        refine ⟨⟨by rw [h]; exact HKS.out.1.filter _, fun x => ?_⟩, ?_⟩
        · rw [h, List.mem_filter, HKS.out.2]
          simp only [Bool.and_eq_true, decide_eq_true_eq]
          refine ⟨fun q => q.2, fun q => ⟨?_, q⟩⟩
          have := List.countP_pos_iff.1 q.2
          obtain ⟨s, hs, h2⟩ := this
          unfold hasB at h2
          rw [Bool.and_eq_true] at h2
          exact ⟨s, hs, (memB_iff _ _).1 h2.2⟩
        · have := List.length_filter_le (fun x => decide (x ≠ a) && decide (0 < cntB l a x)) ks
          rw [← h] at this
          have := HN.out
          omega)
      have HB := Lib.hid HMW.out.bl
      clear HF HKS HMW HST
      obtain ⟨b', cap', rfl, _⟩ := HM.out.tx.strs
      have HM9 : Hid (MkT w wr (.slice b' acc.length cap') acc) := Lib.hid ⟨HM.out.tx, fun x hx => Nat.le_trans HB.out.size (HM.out.nw x hx), HB.out.trans (HM.out.bl.mono HB.out.size)⟩
      clear HM
      generalize acc.length = nk at HM9 ⊢
      go_wp2_with fail
      go_ret
      exact ⟨_, acc, rfl, HE.out.1, HE.out.2, HM9.out⟩
def heavyS (x : Sv) : Bool := decide (12 < x.its.length) || x.its.any fun s => decide (100 < s.size)
def heavyB (l : List Sv) (most : Nat) : Bool := decide (most < l.length) || l.any heavyS
theorem heavy_no {l : List Sv} {most : Nat} (h : heavyB l most = false) : l.length ≤ most ∧ ∀ x ∈ l, x.its.length ≤ 12 ∧ ∀ s ∈ x.its, s.size ≤ 100 := by
  unfold heavyB at h
  rw [Bool.or_eq_false_iff] at h
  refine ⟨by simpa using h.1, fun x hx => ?_⟩
  have h2 := List.any_eq_false.1 h.2 x hx
  rw [Bool.not_eq_true] at h2
  unfold heavyS at h2
  rw [Bool.or_eq_false_iff] at h2
  exact ⟨by simpa using h2.1, fun s hs => by have := List.any_eq_false.1 h2.2 s hs; simpa using this⟩
set_option maxRecDepth 20000 in
set_option maxHeartbeats 4000000 in
theorem heavy_any (b : Option Addr) (cap : Nat) (l : List Sv) (most : Nat) (w : World) (h : SvIn w b l) (hc : cap ≤ maxLen) (hlc : l.length ≤ cap) (hm0 : most ≤ 1000) :
    Calls Try.prog 9 #[.slice b l.length cap, .int .i64 most] w fun e w' => e = .returned (.bool (heavyB l most)) ∧ w' = w := by
  obtain ⟨r, hr⟩ : ∃ r, heavyB l most = r := ⟨_, rfl⟩
  rw [hr]
  have HR := Lib.hid hr
  have H := Lib.hid h
  unfold maxLen at hc
  generalize hn : l.length = n at *
  have HN := Lib.hid hn
  clear h hn hr
  by_cases hbig : most < n
  · have e : r = true := by rw [← HR.out]; unfold heavyB; rw [HN.out, decide_eq_true hbig]; rfl
    subst e
    have t0 : decide ((most : Int) < (n : Int)) = true := decide_eq_true (by omega)
    go_enter Try.func9, Try.ntmps9
    go_wp2_with fail
    go_ret
    exact ⟨rfl, rfl⟩
  · have t0 : decide ((most : Int) < (n : Int)) = false := decide_eq_false (by omega)
    have HA0 : Hid ((l.take 0).any heavyS = false) := Lib.hid rfl
    go_enter Try.func9, Try.ntmps9
    go_wp2_with fail
    go_loop [5] (fun c => ∃ k : Nat, k ≤ n ∧ c = .int .i64 k ∧ Hid ((l.take k).any heavyS = false)) (fun c => n - (intOf c).toNat)
    case atStart => exact ⟨0, by omega, rfl, HA0⟩
    case round =>
      obtain ⟨k, hk, rfl, HA⟩ := hrel
      clear HA0
      by_cases hlt : k < n
      · obtain ⟨x, hx⟩ : ∃ x, l[k]? = some x := ⟨l[k]'(by have := HN.out; omega), List.getElem?_eq_getElem _⟩
        obtain ⟨B, off, rfl, hB, d0, d1, d2, d3⟩ := svAt H.out hx
        have hxm := List.mem_of_getElem? hx
        have HX := Lib.hid hxm
        have HS : Hid (Strs w x.ib x.its) := Lib.hid (H.out.o x hxm).st
        have hle := (H.out.o x hxm).le
        have hmx := (H.out.o x hxm).mx
        unfold maxLen at hmx
        have HT : Hid ((l.take (k + 1)).any heavyS = heavyS x) := Lib.hid (by
          rw [List.take_add_one, hx, List.any_append, HA.out]; simp)
        have hk0 : (0 : Int) ≤ (k : Int) := by omega
        have hk1 : (k : Int) < (n : Int) := by omega
        obtain ⟨m, hm⟩ : ∃ m, x.its.length = m := ⟨_, rfl⟩
        have HMm := Lib.hid hm
        rw [hm] at d3 hle
        clear hx hxm hB d0 d1 d2 hm HA
        by_cases h12 : 12 < m
        · have e : r = true := by
            rw [← HR.out]; unfold heavyB
            rw [Bool.or_eq_true]; right
            rw [List.any_eq_true]
            exact ⟨x, HX.out, by unfold heavyS; rw [HMm.out, decide_eq_true h12]; rfl⟩
          subst e
          have t1 : decide ((12 : Int) < (m : Int)) = true := decide_eq_true (by omega)
          go_wp2_with fail
          go_ret
          exact ⟨rfl, rfl⟩
        · have t1 : decide ((12 : Int) < (m : Int)) = false := decide_eq_false (by omega)
          have HB0 : Hid ((x.its.take 0).any (fun s => decide (100 < s.size)) = false) := Lib.hid rfl
          go_wp2_with fail
          go_loop [6] (fun c => ∃ j : Nat, j ≤ m ∧ c = .int .i64 j ∧ Hid ((x.its.take j).any (fun s => decide (100 < s.size)) = false)) (fun c => m - (intOf c).toNat)
          case atStart => exact ⟨0, by omega, rfl, HB0⟩
          case round =>
            obtain ⟨j, hj, rfl, HB⟩ := hrel
            clear HB0
            by_cases hjt : j < m
            · obtain ⟨z, hz⟩ : ∃ z, x.its[j]? = some z := ⟨x.its[j]'(by have := HMm.out; omega), List.getElem?_eq_getElem _⟩
              obtain ⟨Bz, offz, hbz, hBz, cz⟩ := HS.out.at hz
              rw [hbz] at d3
              have hj0 : (0 : Int) ≤ (j : Int) := by omega
              have hj1 : (j : Int) < (m : Int) := by omega
              have HZ := Lib.hid (List.mem_of_getElem? hz)
              have HZs := Lib.hid hz
              have hzs := (H.out.o x HX.out).sz z HZ.out
              unfold maxLen at hzs
              clear hz hbz hBz
              by_cases h100 : 100 < z.size
              · have e : r = true := by
                  rw [← HR.out]; unfold heavyB
                  rw [Bool.or_eq_true]; right
                  rw [List.any_eq_true]
                  exact ⟨x, HX.out, by unfold heavyS; rw [Bool.or_eq_true]; right; rw [List.any_eq_true]; exact ⟨z, HZ.out, decide_eq_true h100⟩⟩
                subst e
                have t2 : decide ((100 : Int) < (z.size : Int)) = true := decide_eq_true (by omega)
                go_wp2_with fail
                go_ret
                exact ⟨rfl, rfl⟩
              · have t2 : decide ((100 : Int) < (z.size : Int)) = false := decide_eq_false (by omega)
                have HB1 : Hid ((x.its.take (j + 1)).any (fun s => decide (100 < s.size)) = false) := Lib.hid (by
                  rw [List.take_add_one, HZs.out, List.any_append, HB.out]; simp; omega)
                clear HB
                go_wp2_with fail
                go_round
                case rel => exact ⟨j + 1, by omega, by go_num, HB1⟩
                case measure => simp [intOf]; omega
            · have HA1 : Hid ((l.take (k + 1)).any heavyS = false) := Lib.hid (by
                rw [HT.out]; unfold heavyS
                have h := HB.out
                rw [List.take_of_length_le (by have := HMm.out; omega)] at h
                rw [h, HMm.out, decide_eq_false h12]; rfl)
              clear HB
              go_wp2_with fail
              go_round
              case rel => exact ⟨k + 1, by omega, by go_num, HA1⟩
              case measure => simp [intOf]; omega
      · have e : r = false := by
          rw [← HR.out]; unfold heavyB
          have h := HA.out
          rw [List.take_of_length_le (by have := HN.out; omega)] at h
          rw [h, HN.out, decide_eq_false hbig]; rfl
        subst e
        clear HA
        go_wp2_with fail
        go_ret
        exact ⟨rfl, rfl⟩
end Go.Proofs.Ytnpjihbaebbbcaa

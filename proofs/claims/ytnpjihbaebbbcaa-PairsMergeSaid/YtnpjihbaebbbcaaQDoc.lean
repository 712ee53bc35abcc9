/- The document's functions of chapter 17: Count, Items, Near, Things, Heavy; sessions that came in. -/
import Derived.Test.YtnpjihbaebbbcaaQAdd
import Derived.Test.YtnpjihbaebbbcaaRef08
namespace Go.Proofs.Ytnpjihbaebbbcaa
open Go.RowKit Go.MapKept Go.Maps Go.ChangeShapes Go.WideShapes Go.Shelf Go.Sort
set_option linter.unusedVariables false
set_option linter.unusedSimpArgs false
structure SvIn (w : World) (b : Option Addr) (l : List Sv) : Prop where
  i : InW w b 4 (l.map svC)
  o : ∀ x ∈ l, SvOk w x
theorem SvIn.bel {w w' : World} {b : Option Addr} {l : List Sv} (h : SvIn w b l) (hb : Below w.heap.size w w') : SvIn w' b l := ⟨h.i.bel hb, fun x hx => (h.o x hx).bel hb⟩
theorem svAt {w : World} {b : Option Addr} {l : List Sv} (h : SvIn w b l) {i : Nat} {a : Sv} (ha : l[i]? = some a) : ∃ B off, b = some ⟨B, off, none⟩ ∧ B < w.heap.size ∧ w.cell? ⟨B, off + i * 4, none⟩ = some (.string a.p) ∧ w.cell? ⟨B, off + i * 4 + 1, none⟩ = some (.int .i64 a.f) ∧ w.cell? ⟨B, off + i * 4 + 2, none⟩ = some (.int .i64 a.t) ∧ w.cell? ⟨B, off + i * 4 + 3, none⟩ = some (.slice a.ib a.its.length a.ic) := by
  have hm : (l.map svC)[i]? = some (svC a) := by rw [List.getElem?_map, ha]; rfl
  rcases h.i with h | ⟨B, off, hb, hl, hc⟩
  · rw [h] at hm; simp at hm
  · exact ⟨B, off, hb, hl, hc i _ hm 0 _ rfl, hc i _ hm 1 _ rfl, hc i _ hm 2 _ rfl, hc i _ hm 3 _ rfl⟩
def hasB (x : Sv) (a b : ByteArray) : Bool := memB x.its a && memB x.its b
def cntB (l : List Sv) (a b : ByteArray) : Nat := l.countP fun x => hasB x a b
theorem cntB_snoc {l : List Sv} {k : Nat} {x : Sv} (h : l[k]? = some x) (a b : ByteArray) : cntB (l.take (k + 1)) a b = cntB (l.take k) a b + if hasB x a b then 1 else 0 := by
  unfold cntB
  rw [List.take_add_one, h, Option.toList_some, List.countP_append]
  simp [List.countP_cons]
theorem cntB_le (l : List Sv) (a b : ByteArray) : cntB l a b ≤ l.length := List.countP_le_length
/-- few sessions of few things -/
def Light (l : List Sv) : Prop := l.length ≤ 100 ∧ ∀ x ∈ l, x.its.length ≤ 100
set_option maxRecDepth 20000 in
set_option maxHeartbeats 2000000 in
theorem dcount_any (b : Option Addr) (cap : Nat) (l : List Sv) (a c : ByteArray) (w : World) (h : SvIn w b l) (hl : Light l) (hc : cap ≤ maxLen) (hlc : l.length ≤ cap) :
    Calls Try.prog 18 #[.slice b l.length cap, .string a, .string c] w fun e w' => e = .returned (.int .i64 (cntB l a c : Nat)) ∧ w' = w := by
  have H := Lib.hid h
  have HL := Lib.hid hl
  have hl1 := hl.1
  have HR : Hid (cntB (l.take 0) a c = 0) := Lib.hid rfl
  obtain ⟨r, hr⟩ : ∃ r, cntB l a c = r := ⟨_, rfl⟩
  rw [hr]
  have HE := Lib.hid hr
  unfold maxLen at hc
  generalize hn : l.length = n at *
  have HN := Lib.hid hn
  clear h hl hn hr
  go_enter Try.func18, Try.ntmps18
  go_wp2_with fail
  go_loop [7, 8] (fun s c' => ∃ k m : Nat, k ≤ n ∧ m ≤ k ∧ s = .int .i64 m ∧ c' = .int .i64 k ∧ Hid (cntB (l.take k) a c = m)) (fun _ c' => n - (intOf c').toNat)
  case atStart => exact ⟨0, 0, by omega, by omega, rfl, rfl, HR⟩
  case round =>
    obtain ⟨k, m, hk, hm, rfl, rfl, HM⟩ := hrel
    clear HR
    by_cases hlt : k < n
    · obtain ⟨x, hx⟩ : ∃ x, l[k]? = some x := ⟨l[k]'(by have := HN.out; omega), List.getElem?_eq_getElem _⟩
      obtain ⟨B, off, rfl, hB, d0, d1, d2, d3⟩ := svAt H.out hx
      have hxm := List.mem_of_getElem? hx
      have hst := H.out.o x hxm
      have hil := HL.out.2 x hxm
      have HS := Lib.hid (cntB_snoc hx a c)
      have C1 := Lib.hid (in08_any x.ib x.ic x.its a w hst.st (by omega))
      have C2 := Lib.hid (in08_any x.ib x.ic x.its c w hst.st (by omega))
      have hk0 : (0 : Int) ≤ (k : Int) := by omega
      have hk1 : (k : Int) < (n : Int) := by omega
      have HH : Hid (hasB x a c = (memB x.its a && memB x.its c)) := Lib.hid rfl
      obtain ⟨xl, hxl⟩ : ∃ xl, x.its.length = xl := ⟨_, rfl⟩
      rw [hxl] at d3 C1 C2
      clear hx hxm hst hil hB d0 d1 d2 hxl
      cases h1 : memB x.its a with
      | false =>
        rw [h1] at C1
        have HH2 : Hid (hasB x a c = false) := Lib.hid (by rw [HH.out, h1]; rfl)
        have HM2 : Hid (cntB (l.take (k + 1)) a c = m) := Lib.hid (by rw [HS.out, HM.out, HH2.out]; rfl)
        clear HH h1 HM
        go_wp2_with fail
        refine C1.out.mono ?_
        rintro e w' ⟨rfl, rfl⟩
        go_wp2_with fail
        go_round
        case rel => exact ⟨k + 1, m, by omega, by omega, rfl, by go_num, HM2⟩
        case measure => simp [intOf]; omega
      | true =>
        rw [h1] at C1
        cases h2 : memB x.its c with
        | false =>
          rw [h2] at C2
          have HH2 : Hid (hasB x a c = false) := Lib.hid (by rw [HH.out, h1, h2]; rfl)
          have HM2 : Hid (cntB (l.take (k + 1)) a c = m) := Lib.hid (by rw [HS.out, HM.out, HH2.out]; rfl)
          clear HH h1 h2 HM
          go_wp2_with fail
          refine C1.out.mono ?_
          rintro e w' ⟨rfl, rfl⟩
          go_wp2_with fail
          refine C2.out.mono ?_
          rintro e w' ⟨rfl, rfl⟩
          go_wp2_with fail
          go_round
          case rel => exact ⟨k + 1, m, by omega, by omega, rfl, by go_num, HM2⟩
          case measure => simp [intOf]; omega
        | true =>
          rw [h2] at C2
          have HH2 : Hid (hasB x a c = true) := Lib.hid (by rw [HH.out, h1, h2]; rfl)
          have HM2 : Hid (cntB (l.take (k + 1)) a c = m + 1) := Lib.hid (by rw [HS.out, HM.out, HH2.out]; rfl)
          clear HH h1 h2 HM
          go_wp2_with fail
          refine C1.out.mono ?_
          rintro e w' ⟨rfl, rfl⟩
          go_wp2_with fail
          refine C2.out.mono ?_
          rintro e w' ⟨rfl, rfl⟩
          go_wp2_with fail
          go_round
          case rel => exact ⟨k + 1, m + 1, by omega, by omega, by go_num, by go_num, HM2⟩
          case measure => simp [intOf]; omega
    · have e : m = r := by
        have h := HM.out
        rw [List.take_of_length_le (by have := HN.out; omega)] at h
        rw [← HE.out, ← h]
      subst e
      clear HM
      go_wp2_with fail
      go_ret
      exact ⟨rfl, rfl⟩
/-- of all sessions -/
def ItemsOf (l : List Sv) (ks : List ByteArray) : Prop := Rise ks ∧ ∀ x, x ∈ ks ↔ ∃ s ∈ l, x ∈ s.its
set_option maxRecDepth 20000 in
set_option maxHeartbeats 4000000 in
theorem ditems_any (b : Option Addr) (cap : Nat) (l : List Sv) (w : World) (h : SvIn w b l) (hl : Light l) (hc : cap ≤ maxLen) (hlc : l.length ≤ cap) :
    Calls Try.prog 23 #[.slice b l.length cap] w fun e w' => ∃ v ks, e = .returned v ∧ ItemsOf l ks ∧ ks.length ≤ 10000 ∧ MkT w w' v ks := by
  have H := Lib.hid h
  have HL := Lib.hid hl
  have hl1 := hl.1
  have M0 := Lib.hid (MkT.empty w)
  have HI0 : Hid (Rise ([] : List ByteArray) ∧ (∀ x, x ∈ ([] : List ByteArray) ↔ ∃ s ∈ l.take 0, x ∈ s.its) ∧ ([] : List ByteArray).length ≤ 100 * 0) := Lib.hid ⟨List.Pairwise.nil, fun x => by simp, by simp⟩
  unfold maxLen at hc
  generalize hn : l.length = n at *
  have HN := Lib.hid hn
  clear h hl hn
  go_enter Try.func23, Try.ntmps23
  go_wp2_with fail
  go_loopw [3, 4] (fun u c wr => ∃ (k : Nat) (ks : List ByteArray), k ≤ n ∧ c = .int .i64 k ∧ Hid (MkT w wr u ks) ∧ Hid (Rise ks ∧ (∀ x, x ∈ ks ↔ ∃ s ∈ l.take k, x ∈ s.its) ∧ ks.length ≤ 100 * k)) (fun _ c _ => n - (intOf c).toNat)
  case atStart => exact ⟨0, [], by omega, rfl, M0, HI0⟩
  case round =>
    obtain ⟨k, ks, hk, rfl, HM, HI⟩ := hrel
    clear M0 HI0
    by_cases hlt : k < n
    · obtain ⟨x, hx⟩ : ∃ x, l[k]? = some x := ⟨l[k]'(by have := HN.out; omega), List.getElem?_eq_getElem _⟩
      have HX := Lib.hid hx
      have hxm := List.mem_of_getElem? hx
      have hil := HL.out.2 x hxm
      have HJ0 : Hid (Rise ks ∧ (∀ z, z ∈ ks ↔ (∃ s ∈ l.take k, z ∈ s.its) ∨ z ∈ x.its.take 0) ∧ ks.length ≤ 100 * k + 0) := Lib.hid ⟨HI.out.1, fun z => by rw [HI.out.2.1]; simp, HI.out.2.2⟩
      have hk0 : (0 : Int) ≤ (k : Int) := by omega
      have hk1 : (k : Int) < (n : Int) := by omega
      obtain ⟨m, hm⟩ : ∃ m, x.its.length = m := ⟨_, rfl⟩
      have HMm := Lib.hid hm
      rw [hm] at hil
      clear hx hxm hm HI
      go_wp2_with fail
      go_loopw [3, 5] (fun u c wr => ∃ (j : Nat) (ks : List ByteArray), j ≤ m ∧ c = .int .i64 j ∧ Hid (MkT w wr u ks) ∧ Hid (Rise ks ∧ (∀ z, z ∈ ks ↔ (∃ s ∈ l.take k, z ∈ s.its) ∨ z ∈ x.its.take j) ∧ ks.length ≤ 100 * k + j)) (fun _ c _ => m - (intOf c).toNat)
      case atStart => exact ⟨0, ks, by omega, rfl, HM, HJ0⟩
      case round =>
        obtain ⟨j, ks, hj, rfl, HM, HJ⟩ := hrel
        clear HJ0
        obtain ⟨B, off, rfl, hB, d0, d1, d2, d3⟩ := svAt (H.out.bel HM.out.bl) HX.out
        rw [HMm.out] at d3
        by_cases hjt : j < m
        · obtain ⟨z, hz⟩ : ∃ z, x.its[j]? = some z := ⟨x.its[j]'(by have := HMm.out; omega), List.getElem?_eq_getElem _⟩
          obtain ⟨Bz, offz, hbz, hBz, cz⟩ := ((H.out.o x (List.mem_of_getElem? HX.out)).bel HM.out.bl).st.at hz
          rw [hbz] at d3
          have hj0 : (0 : Int) ≤ (j : Int) := by omega
          have hj1 : (j : Int) < (m : Int) := by omega
          have PU := Lib.hid (put08_any _ ks z w _ HM.out (by have := HJ.out.2.2; omega) HJ.out.1)
          have HJ1 : Hid (Rise (putB ks z) ∧ (∀ y, y ∈ putB ks z ↔ (∃ s ∈ l.take k, y ∈ s.its) ∨ y ∈ x.its.take (j + 1)) ∧ (putB ks z).length ≤ 100 * k + (j + 1)) := Lib.hid ⟨putB_rise HJ.out.1 z, fun y => by
            rw [putB_mem, HJ.out.2.1, List.take_add_one, hz, List.mem_append]
            simp only [Option.toList_some, List.mem_cons, List.not_mem_nil, or_false]
            constructor
            · rintro (h | h | h)
              · exact .inr (.inr h)
              · exact .inl h
              · exact .inr (.inl h)
            · rintro (h | h | h)
              · exact .inr (.inl h)
              · exact .inr (.inr h)
              · exact .inl h, by have := putB_len ks z; have := HJ.out.2.2; omega⟩
          clear hz hbz hBz hB d0 d1 d2 HJ
          go_wp2_with fail
          refine PU.out.mono ?_
          rintro e w2 ⟨v, rfl, m2, b2⟩
          have HM2 := Lib.hid m2
          clear m2 b2 PU HM d3 cz
          go_wp2_with fail
          go_roundw
          case rel => exact ⟨j + 1, _, by omega, by go_num, HM2, HJ1⟩
          case measure => simp [intOf]; omega
        · have HI1 : Hid (Rise ks ∧ (∀ z, z ∈ ks ↔ ∃ s ∈ l.take (k + 1), z ∈ s.its) ∧ ks.length ≤ 100 * (k + 1)) := Lib.hid ⟨HJ.out.1, fun z => by
            have ht : x.its.take j = x.its := List.take_of_length_le (by have := HMm.out; omega)
            rw [HJ.out.2.1, ht, List.take_add_one, HX.out]
            simp only [Option.toList_some, List.mem_append, List.mem_cons, List.not_mem_nil, or_false]
            constructor
            · rintro (⟨s, h1, h2⟩ | h)
              · exact ⟨s, .inl h1, h2⟩
              · exact ⟨x, .inr rfl, h⟩
            · rintro ⟨s, h1 | rfl, h2⟩
              · exact .inl ⟨s, h1, h2⟩
              · exact .inr h2, by have := HJ.out.2.2; omega⟩
          clear HJ hB d0 d1 d2
          go_wp2_with fail
          go_roundw
          case rel => exact ⟨k + 1, ks, by omega, by go_num, HM, HI1⟩
          case measure => simp [intOf]; omega
    · have HE : Hid (ItemsOf l ks ∧ ks.length ≤ 10000) := Lib.hid (by
        have h := HI.out
        rw [List.take_of_length_le (by have := HN.out; omega)] at h
        exact ⟨⟨h.1, h.2.1⟩, by have := h.2.2; omega⟩)
      clear HI
      obtain ⟨b', cap', rfl, _⟩ := HM.out.tx.strs
      generalize ks.length = nk at HM ⊢
      go_wp2_with fail
      go_ret
      exact ⟨_, ks, rfl, HE.out.1, HE.out.2, HM.out⟩
end Go.Proofs.Ytnpjihbaebbbcaa

/- Contracts of the document's Group, as a whole, Name, Count and Heavy of aliases (layer 45). -/
import Derived.Test.YtgflfjmlhapplaaARef
namespace Go.Proofs.Ytgflfjmlhapplaa
open Go.RowKit Go.MapKept Go.Maps
set_option linter.unusedVariables false
set_option maxHeartbeats 1000000 in
theorem rgroup_no (V : Value) (x : ByteArray) (w : World) (hs : x.size ≤ 1000) (hx : nameB x = false) :
    Calls Try.prog 13 #[V, .string x] w fun e w' => ∃ v, e = .returned v ∧ MkT w w' v [] := by
  have hex := rname_any x w (by omega)
  rw [hx] at hex
  have EX := Lib.hid hex
  have HM := Lib.hid (MkT.empty w)
  clear hex hx
  go_enter Try.func13, Try.ntmps13
  go_wp2_with fail
  refine EX.out.mono ?_
  rintro e wx ⟨rfl, rfl⟩
  go_wp2_with fail
  go_ret
  exact ⟨_, rfl, HM.out⟩
theorem rgroup_any (b : Option Addr) (cap : Nat) (l : List Two) (x : ByteArray) (w : World) (h : InW w b 2 (l.map twoC)) (hl : l.length ≤ 1000) (ho : ∀ p ∈ l, okTwo p) (hs : x.size ≤ 1000) :
    Calls Try.prog 13 #[.slice b l.length cap, .string x] w fun e w' => ∃ v, e = .returned v ∧ MkT w w' v (groupR l x) := by
  unfold groupR
  cases hx : nameB x with
  | true => exact rgroup_yes b cap l x w h hl ho hx
  | false => exact rgroup_no _ x w hs hx
set_option maxHeartbeats 1000000 in
theorem rnm_any (b : Option Addr) (cap : Nat) (l : List Two) (x : ByteArray) (w : World) (h : InW w b 2 (l.map twoC)) (hl : l.length ≤ 1000) (ho : ∀ p ∈ l, okTwo p) (hs : x.size ≤ 1000) :
    Calls Try.prog 30 #[.slice b l.length cap, .string x] w fun e w' => e = .returned (.string (nameR l x)) ∧ Below w.heap.size w w' := by
  have GR := Lib.hid (rgroup_any b cap l x w h hl ho hs)
  obtain ⟨r, hr⟩ : ∃ r, nameR l x = r := ⟨_, rfl⟩
  rw [hr]
  have HR := Lib.hid hr
  have hgl := group_len l x
  unfold nameR at HR
  clear hr h ho
  generalize groupR l x = g at *
  generalize l.length = n at *
  go_enter Try.func30, Try.ntmps30
  go_wp2_with fail
  refine GR.out.mono ?_
  rintro e w1 ⟨v, rfl, m1⟩
  obtain ⟨gb, gc, rfl, g1, g2, gs⟩ := m1.tx.strs
  have HB := Lib.hid m1.bl
  clear GR m1
  cases g with
  | nil =>
    have e : r = x := by rw [← HR.out]; rfl
    subst e
    have t1 : (((([] : List ByteArray).length : Nat) : Int) == 0) = true := rfl
    clear gs g1
    simp only [List.length_nil] at *
    go_wp2_with fail
    go_ret
    exact ⟨rfl, HB.out⟩
  | cons a g =>
    have e : r = a := by rw [← HR.out]; rfl
    subst e
    obtain ⟨B, off, rfl, _, c0⟩ := gs.at (i := 0) (s := r) rfl
    have hng : (0 : Int) < (((r :: g).length : Nat) : Int) := by rw [List.length_cons]; omega
    have t1 : ((((r :: g).length : Nat) : Int) == 0) = false := by rw [List.length_cons]; simp; omega
    rw [Nat.add_zero] at c0
    clear gs HR
    generalize (r :: g).length = ng at *
    go_wp2_with fail
    go_ret
    exact ⟨rfl, HB.out⟩
theorem nameR_size {l : List Two} {x : ByteArray} (ho : ∀ p ∈ l, okTwo p) (hs : x.size ≤ 1000) : (nameR l x).size ≤ 1000 := by
  unfold nameR
  cases hg : (groupR l x)[0]? with
  | none => exact hs
  | some a =>
    have hm := List.mem_of_getElem? hg
    unfold groupR at hm
    split at hm
    · have := growN_ends l x _ a hm
      rcases List.mem_cons.1 this with rfl | h
      · exact hs
      · rcases List.mem_append.1 h with h | h
        · obtain ⟨p, hp, rfl⟩ := List.mem_map.1 h; exact (ho p hp).1
        · obtain ⟨p, hp, rfl⟩ := List.mem_map.1 h; exact (ho p hp).2
    · cases hm
theorem countS_len (l : List Two) (o : List ByteArray) (x : ByteArray) : (countS l o x).length ≤ o.length + 1 := by
  unfold countS; split
  · exact putB_len _ _
  · omega
theorem countN_len (l m : List Two) : ∀ (o : List ByteArray), (m.foldl (fun o p => countS l (countS l o p.1) p.2) o).length ≤ o.length + 2 * m.length := by
  induction m with
  | nil => intro o; simp
  | cons p m ih =>
    intro o
    rw [List.foldl_cons]
    have h1 := ih (countS l (countS l o p.1) p.2)
    have h2 := countS_len l (countS l o p.1) p.2
    have h3 := countS_len l o p.1
    rw [List.length_cons]
    omega
theorem MkT.on {w0 wr w' : World} {u : Value} {ks ks' : List ByteArray} {v : Value} (h : MkT w0 wr u ks) (h' : MkT wr w' v ks') : MkT w0 w' u ks := h.bel h'.bl
set_option maxRecDepth 100000 in
set_option maxHeartbeats 8000000 in
theorem rcount_any (b : Option Addr) (cap : Nat) (l : List Two) (w : World) (h : InW w b 2 (l.map twoC)) (hl : l.length ≤ 1000) (ho : ∀ p ∈ l, okTwo p) :
    Calls Try.prog 31 #[.slice b l.length cap] w fun e w' => e = .returned (.int .i64 (countN l l).length) ∧ Below w.heap.size w w' := by
  have HIW := Lib.hid h
  have HO := Lib.hid ho
  have GR : Hid (∀ W x, Below w.heap.size w W → x.size ≤ 1000 → Calls Try.prog 13 #[.slice b l.length cap, .string x] W fun e w' => ∃ v, e = .returned v ∧ MkT W w' v (groupR l x)) := Lib.hid (fun W x hb hx => rgroup_any b cap l x W (InW.bel h hb) hl ho hx)
  have NR : Hid (∀ W x, Below w.heap.size w W → x.size ≤ 1000 → Calls Try.prog 30 #[.slice b l.length cap, .string x] W fun e w' => e = .returned (.string (nameR l x)) ∧ Below W.heap.size W w') := Lib.hid (fun W x hb hx => rnm_any b cap l x W (InW.bel h hb) hl ho hx)
  have PU : Hid (∀ (u' : Value) (W : World) (ks : List ByteArray) (z : ByteArray), MkT w W u' ks → ks.length ≤ 100000 → Rise ks → Calls Try.prog 27 #[u', .string z] W fun e w' => ∃ v, e = .returned v ∧ MkT w w' v (putB ks z) ∧ Below W.heap.size W w') := Lib.hid (fun u' W ks z hm hl hr => put08_any u' ks z w W hm hl hr)
  have HRI : Hid (∀ i, Rise (countN l (l.take i))) := Lib.hid (fun i => countN_rise l _ (by unfold Rise; simp))
  have HLN : Hid (∀ i, (countN l (l.take i)).length ≤ 2000) := Lib.hid (fun i => by
    have h1 := countN_len l (l.take i) []
    have h2 : (l.take i).length ≤ 1000 := by rw [List.length_take]; omega
    unfold countN
    simp at h1; omega)
  have HME : Hid (MkT w (w.alloc (.cells #[] 9)) (.slice (some ⟨w.heap.size, 0, none⟩) 0 0) (countN l (l.take 0))) := Lib.hid (MkT.empty w)
  have HEND : Hid (countN l (l.take l.length) = countN l l) := Lib.hid (by rw [List.take_length])
  clear h ho
  generalize hn : l.length = n at *
  have Hn := Lib.hid hn
  clear hn
  go_enter Try.func31, Try.ntmps31
  go_wp2_with fail
  go_loopw [3, 4] (fun u c wr => ∃ i : Nat, i ≤ n ∧ c = .int .i64 i ∧ MkT w wr u (countN l (l.take i))) (fun _ c _ => n - (intOf c).toNat)
  case atStart => exact ⟨0, by omega, rfl, HME.out⟩
  case round =>
    obtain ⟨i, hi, rfl, hmi⟩ := hrel
    have HMI := Lib.hid hmi
    clear hmi
    by_cases hlt : i < n
    · obtain ⟨p, hp⟩ : ∃ p, l[i]? = some p := ⟨l[i]'(by rw [Hn.out]; exact hlt), List.getElem?_eq_getElem _⟩
      have hop := HO.out p (List.mem_of_getElem? hp)
      unfold okTwo at hop
      obtain ⟨B, off, rfl, hB, d0, d1⟩ := twos_at HIW.out hp
      have HCW : Hid (∀ W, Below w.heap.size w W → W.cell? ⟨B, off + i * 2, none⟩ = some (.string p.1) ∧ W.cell? ⟨B, off + i * 2 + 1, none⟩ = some (.string p.2)) := Lib.hid (fun W hb => ⟨(hb.cell (p := ⟨B, off + i * 2, none⟩) hB).trans d0, (hb.cell (p := ⟨B, off + i * 2 + 1, none⟩) hB).trans d1⟩)
      obtain ⟨c0, c1⟩ := HCW.out wr HMI.out.bl
      have hi0 : (0 : Int) ≤ (i : Int) := by omega
      have hi1 : (i : Int) < (n : Int) := by omega
      have HSN : Hid (countN l (l.take (i + 1)) = countS l (countS l (countN l (l.take i)) p.1) p.2) := Lib.hid (by
        rw [List.take_add_one, hp]
        exact countN_snoc _ _ _)
      have hln := HLN.out i
      have HR := Lib.hid (HRI.out i)
      have hg1 := group_len l p.1
      have hg2 := group_len l p.2
      rw [Hn.out] at hg1 hg2
      clear hp d0 d1 HLN HRI
      generalize countN l (l.take i) = o at *
      by_cases h1 : 1 < (groupR l p.1).length
      · by_cases h2 : 1 < (groupR l p.2).length
        · have t1 : decide ((1 : Int) < ((groupR l p.1).length : Int)) = true := decide_eq_true (by omega)
          have t2 : decide ((1 : Int) < ((groupR l p.2).length : Int)) = true := decide_eq_true (by omega)
          have e1 : countS l o p.1 = putB o (nameR l p.1) := by unfold countS; exact if_pos h1
          have e2 : countS l (putB o (nameR l p.1)) p.2 = putB (putB o (nameR l p.1)) (nameR l p.2) := by unfold countS; exact if_pos h2
          rw [e1, e2] at HSN
          have G1 := Lib.hid (GR.out wr p.1 HMI.out.bl hop.1)
          clear e1 e2 h1 h2
          obtain ⟨n1, hn1⟩ : ∃ n1, (groupR l p.1).length = n1 := ⟨_, rfl⟩
          obtain ⟨n2, hn2⟩ : ∃ n2, (groupR l p.2).length = n2 := ⟨_, rfl⟩
          rw [hn1] at t1 hg1
          rw [hn2] at t2 hg2
          have HN1 := Lib.hid hn1
          have HN2 := Lib.hid hn2
          clear hn1 hn2
          go_wp2_with fail
          refine G1.out.mono ?_
          rintro e w1 ⟨v1, rfl, m1⟩
          obtain ⟨gb1, gc1, hv1, _, _, _⟩ := m1.tx.strs
          rw [HN1.out] at hv1
          subst hv1
          have HM1 := Lib.hid (HMI.out.on m1)
          obtain ⟨f0, f1⟩ := HCW.out w1 HM1.out.bl
          clear m1 G1 c0 c1 HMI
          have N1 := Lib.hid (NR.out w1 p.1 HM1.out.bl hop.1)
          go_wp2_with fail
          refine N1.out.mono ?_
          rintro e w2 ⟨rfl, b2⟩
          have M2 := Lib.hid (HM1.out.bel b2)
          have P2 := Lib.hid (PU.out _ w2 o (nameR l p.1) M2.out (by omega) HR.out)
          have hL3 : (putB o (nameR l p.1)).length ≤ 3000 := by have := putB_len o (nameR l p.1); omega
          have HR3 := Lib.hid (putB_rise HR.out (nameR l p.1))
          clear b2 N1 HM1 f0 f1
          go_wp2_with fail
          refine P2.out.mono ?_
          rintro e w3 ⟨v3, rfl, m3, b3⟩
          have M3 := Lib.hid m3
          obtain ⟨g0, g1⟩ := HCW.out w3 M3.out.bl
          clear m3 b3 P2 M2
          have G4 := Lib.hid (GR.out w3 p.2 M3.out.bl hop.2)
          go_wp2_with fail
          refine G4.out.mono ?_
          rintro e w4 ⟨v4, rfl, m4⟩
          obtain ⟨gb4, gc4, hv4, _, _, _⟩ := m4.tx.strs
          rw [HN2.out] at hv4
          subst hv4
          have M4 := Lib.hid (M3.out.on m4)
          obtain ⟨k0, k1⟩ := HCW.out w4 M4.out.bl
          clear m4 G4 M3 g0 g1
          have N4 := Lib.hid (NR.out w4 p.2 M4.out.bl hop.2)
          go_wp2_with fail
          refine N4.out.mono ?_
          rintro e w5 ⟨rfl, b5⟩
          have M5 := Lib.hid (M4.out.bel b5)
          have P5 := Lib.hid (PU.out _ w5 (putB o (nameR l p.1)) (nameR l p.2) M5.out (by omega) HR3.out)
          clear b5 N4 M4 k0 k1
          go_wp2_with fail
          refine P5.out.mono ?_
          rintro e w6 ⟨v6, rfl, m6, b6⟩
          have M6 := Lib.hid m6
          clear m6 b6 P5 M5
          go_wp2_with fail
          go_roundw
          case rel => exact ⟨i + 1, by omega, by go_num, by rw [HSN.out]; exact M6.out⟩
          case measure => simp [intOf]; omega
        · have t1 : decide ((1 : Int) < ((groupR l p.1).length : Int)) = true := decide_eq_true (by omega)
          have t2 : decide ((1 : Int) < ((groupR l p.2).length : Int)) = false := decide_eq_false (by omega)
          have e1 : countS l o p.1 = putB o (nameR l p.1) := by unfold countS; exact if_pos h1
          have e2 : countS l (putB o (nameR l p.1)) p.2 = putB o (nameR l p.1) := by unfold countS; exact if_neg h2
          rw [e1, e2] at HSN
          have G1 := Lib.hid (GR.out wr p.1 HMI.out.bl hop.1)
          clear e1 e2 h1 h2
          obtain ⟨n1, hn1⟩ : ∃ n1, (groupR l p.1).length = n1 := ⟨_, rfl⟩
          obtain ⟨n2, hn2⟩ : ∃ n2, (groupR l p.2).length = n2 := ⟨_, rfl⟩
          rw [hn1] at t1 hg1
          rw [hn2] at t2 hg2
          have HN1 := Lib.hid hn1
          have HN2 := Lib.hid hn2
          clear hn1 hn2
          go_wp2_with fail
          refine G1.out.mono ?_
          rintro e w1 ⟨v1, rfl, m1⟩
          obtain ⟨gb1, gc1, hv1, _, _, _⟩ := m1.tx.strs
          rw [HN1.out] at hv1
          subst hv1
          have HM1 := Lib.hid (HMI.out.on m1)
          obtain ⟨f0, f1⟩ := HCW.out w1 HM1.out.bl
          clear m1 G1 c0 c1 HMI
          have N1 := Lib.hid (NR.out w1 p.1 HM1.out.bl hop.1)
          go_wp2_with fail
          refine N1.out.mono ?_
          rintro e w2 ⟨rfl, b2⟩
          have M2 := Lib.hid (HM1.out.bel b2)
          have P2 := Lib.hid (PU.out _ w2 o (nameR l p.1) M2.out (by omega) HR.out)
          have hL3 : (putB o (nameR l p.1)).length ≤ 3000 := by have := putB_len o (nameR l p.1); omega
          have HR3 := Lib.hid (putB_rise HR.out (nameR l p.1))
          clear b2 N1 HM1 f0 f1
          go_wp2_with fail
          refine P2.out.mono ?_
          rintro e w3 ⟨v3, rfl, m3, b3⟩
          have M3 := Lib.hid m3
          obtain ⟨g0, g1⟩ := HCW.out w3 M3.out.bl
          clear m3 b3 P2 M2
          have G4 := Lib.hid (GR.out w3 p.2 M3.out.bl hop.2)
          go_wp2_with fail
          refine G4.out.mono ?_
          rintro e w4 ⟨v4, rfl, m4⟩
          obtain ⟨gb4, gc4, hv4, _, _, _⟩ := m4.tx.strs
          rw [HN2.out] at hv4
          subst hv4
          have M4 := Lib.hid (M3.out.on m4)
          obtain ⟨k0, k1⟩ := HCW.out w4 M4.out.bl
          clear m4 G4 M3 g0 g1
          go_wp2_with fail
          go_roundw
          case rel => exact ⟨i + 1, by omega, by go_num, by rw [HSN.out]; exact M4.out⟩
          case measure => simp [intOf]; omega
      · by_cases h2 : 1 < (groupR l p.2).length
        · have t1 : decide ((1 : Int) < ((groupR l p.1).length : Int)) = false := decide_eq_false (by omega)
          have t2 : decide ((1 : Int) < ((groupR l p.2).length : Int)) = true := decide_eq_true (by omega)
          have e1 : countS l o p.1 = o := by unfold countS; exact if_neg h1
          have e2 : countS l (o) p.2 = putB (o) (nameR l p.2) := by unfold countS; exact if_pos h2
          rw [e1, e2] at HSN
          have G1 := Lib.hid (GR.out wr p.1 HMI.out.bl hop.1)
          clear e1 e2 h1 h2
          obtain ⟨n1, hn1⟩ : ∃ n1, (groupR l p.1).length = n1 := ⟨_, rfl⟩
          obtain ⟨n2, hn2⟩ : ∃ n2, (groupR l p.2).length = n2 := ⟨_, rfl⟩
          rw [hn1] at t1 hg1
          rw [hn2] at t2 hg2
          have HN1 := Lib.hid hn1
          have HN2 := Lib.hid hn2
          clear hn1 hn2
          go_wp2_with fail
          refine G1.out.mono ?_
          rintro e w1 ⟨v1, rfl, m1⟩
          obtain ⟨gb1, gc1, hv1, _, _, _⟩ := m1.tx.strs
          rw [HN1.out] at hv1
          subst hv1
          have HM1 := Lib.hid (HMI.out.on m1)
          obtain ⟨f0, f1⟩ := HCW.out w1 HM1.out.bl
          clear m1 G1 c0 c1 HMI
          have G4 := Lib.hid (GR.out w1 p.2 HM1.out.bl hop.2)
          go_wp2_with fail
          refine G4.out.mono ?_
          rintro e w4 ⟨v4, rfl, m4⟩
          obtain ⟨gb4, gc4, hv4, _, _, _⟩ := m4.tx.strs
          rw [HN2.out] at hv4
          subst hv4
          have M4 := Lib.hid (HM1.out.on m4)
          obtain ⟨k0, k1⟩ := HCW.out w4 M4.out.bl
          clear m4 G4 HM1 f0 f1
          have N4 := Lib.hid (NR.out w4 p.2 M4.out.bl hop.2)
          go_wp2_with fail
          refine N4.out.mono ?_
          rintro e w5 ⟨rfl, b5⟩
          have M5 := Lib.hid (M4.out.bel b5)
          have P5 := Lib.hid (PU.out _ w5 o (nameR l p.2) M5.out (by omega) HR.out)
          clear b5 N4 M4 k0 k1
          go_wp2_with fail
          refine P5.out.mono ?_
          rintro e w6 ⟨v6, rfl, m6, b6⟩
          have M6 := Lib.hid m6
          clear m6 b6 P5 M5
          go_wp2_with fail
          go_roundw
          case rel => exact ⟨i + 1, by omega, by go_num, by rw [HSN.out]; exact M6.out⟩
          case measure => simp [intOf]; omega
        · have t1 : decide ((1 : Int) < ((groupR l p.1).length : Int)) = false := decide_eq_false (by omega)
          have t2 : decide ((1 : Int) < ((groupR l p.2).length : Int)) = false := decide_eq_false (by omega)
          have e1 : countS l o p.1 = o := by unfold countS; exact if_neg h1
          have e2 : countS l (o) p.2 = o := by unfold countS; exact if_neg h2
          rw [e1, e2] at HSN
          have G1 := Lib.hid (GR.out wr p.1 HMI.out.bl hop.1)
          clear e1 e2 h1 h2
          obtain ⟨n1, hn1⟩ : ∃ n1, (groupR l p.1).length = n1 := ⟨_, rfl⟩
          obtain ⟨n2, hn2⟩ : ∃ n2, (groupR l p.2).length = n2 := ⟨_, rfl⟩
          rw [hn1] at t1 hg1
          rw [hn2] at t2 hg2
          have HN1 := Lib.hid hn1
          have HN2 := Lib.hid hn2
          clear hn1 hn2
          go_wp2_with fail
          refine G1.out.mono ?_
          rintro e w1 ⟨v1, rfl, m1⟩
          obtain ⟨gb1, gc1, hv1, _, _, _⟩ := m1.tx.strs
          rw [HN1.out] at hv1
          subst hv1
          have HM1 := Lib.hid (HMI.out.on m1)
          obtain ⟨f0, f1⟩ := HCW.out w1 HM1.out.bl
          clear m1 G1 c0 c1 HMI
          have G4 := Lib.hid (GR.out w1 p.2 HM1.out.bl hop.2)
          go_wp2_with fail
          refine G4.out.mono ?_
          rintro e w4 ⟨v4, rfl, m4⟩
          obtain ⟨gb4, gc4, hv4, _, _, _⟩ := m4.tx.strs
          rw [HN2.out] at hv4
          subst hv4
          have M4 := Lib.hid (HM1.out.on m4)
          obtain ⟨k0, k1⟩ := HCW.out w4 M4.out.bl
          clear m4 G4 HM1 f0 f1
          go_wp2_with fail
          go_roundw
          case rel => exact ⟨i + 1, by omega, by go_num, by rw [HSN.out]; exact M4.out⟩
          case measure => simp [intOf]; omega
    · obtain rfl : i = n := by omega
      rw [HEND.out] at HMI
      obtain ⟨ub, uc, rfl, _, _, _⟩ := HMI.out.tx.strs
      go_wp2_with fail
      go_ret
      exact ⟨rfl, HMI.out.bl⟩
/-- is there more than is gone through? -/
def heavyB (l : List Two) (most : Int) : Bool := decide (most < (l.length : Int)) || l.any fun p => decide (100 < p.1.size) || decide (100 < p.2.size)
theorem heavy_of {l : List Two} {most : Nat} (h : heavyB l most = false) : l.length ≤ most ∧ ∀ p ∈ l, p.1.size ≤ 100 ∧ p.2.size ≤ 100 := by
  unfold heavyB at h
  simp only [Bool.or_eq_false_iff, decide_eq_false_iff_not, List.any_eq_false] at h
  refine ⟨by omega, fun p hp => ?_⟩
  have := h.2 p hp
  simp at this
  omega
set_option maxHeartbeats 2000000 in
theorem heavy_any (b : Option Addr) (cap : Nat) (l : List Two) (most : Int) (w : World) (h : InW w b 2 (l.map twoC)) (hc : l.length ≤ cap) (hm : cap ≤ maxLen) (ho : ∀ p ∈ l, p.1.size ≤ maxLen ∧ p.2.size ≤ maxLen) :
    Calls Try.prog 9 #[.slice b l.length cap, .int .i64 most] w fun e w' => e = .returned (.bool (heavyB l most)) ∧ w = w' := by
  obtain ⟨r, hr⟩ : ∃ r, heavyB l most = r := ⟨_, rfl⟩
  rw [hr]
  have HR := Lib.hid hr
  have HIW := Lib.hid h
  have HO := Lib.hid ho
  unfold maxLen at hm
  clear hr h ho
  generalize hn : l.length = n at *
  have Hn := Lib.hid hn
  clear hn
  by_cases hlen : most < (n : Int)
  · have e : r = true := by rw [← HR.out]; unfold heavyB; rw [Hn.out, decide_eq_true hlen]; rfl
    subst e
    go_enter Try.func9, Try.ntmps9
    go_wp2_with fail
    go_ret
    exact ⟨rfl, rfl⟩
  have t0 : decide (most < (n : Int)) = false := decide_eq_false hlen
  have HV : Hid (r = l.any fun p => decide (100 < p.1.size) || decide (100 < p.2.size)) := Lib.hid (by rw [← HR.out]; unfold heavyB; rw [Hn.out, t0]; rfl)
  clear hlen
  go_enter Try.func9, Try.ntmps9
  go_wp2_with fail
  go_loop [5] (fun c => ∃ i : Nat, i ≤ n ∧ c = .int .i64 i ∧ Hid (((l.take i).any fun p => decide (100 < p.1.size) || decide (100 < p.2.size)) = false)) (fun c => n - (intOf c).toNat)
  case atStart => exact ⟨0, by omega, rfl, Lib.hid (by simp)⟩
  case round =>
    obtain ⟨i, hi, rfl, HA⟩ := hrel
    by_cases hlt : i < n
    · obtain ⟨p, hp⟩ : ∃ p, l[i]? = some p := ⟨l[i]'(by rw [Hn.out]; exact hlt), List.getElem?_eq_getElem _⟩
      have hop := HO.out p (List.mem_of_getElem? hp)
      unfold maxLen at hop
      obtain ⟨B, off, rfl, hB, c0, c1⟩ := twos_at HIW.out hp
      have hi0 : (0 : Int) ≤ (i : Int) := by omega
      have hi1 : (i : Int) < (n : Int) := by omega
      have HP := Lib.hid hp
      clear hp
      by_cases h1 : 100 < p.1.size
      · have t1 : decide ((100 : Int) < (p.1.size : Int)) = true := decide_eq_true (by omega)
        have e : r = true := by
          rw [HV.out, List.any_eq_true]
          exact ⟨p, List.mem_of_getElem? HP.out, by simp [h1]⟩
        subst e
        clear h1
        go_wp2_with fail
        go_ret
        exact ⟨rfl, rfl⟩
      · have t1 : decide ((100 : Int) < (p.1.size : Int)) = false := decide_eq_false (by omega)
        by_cases h2 : 100 < p.2.size
        · have t2 : decide ((100 : Int) < (p.2.size : Int)) = true := decide_eq_true (by omega)
          have e : r = true := by
            rw [HV.out, List.any_eq_true]
            exact ⟨p, List.mem_of_getElem? HP.out, by simp [h2]⟩
          subst e
          clear h1 h2
          go_wp2_with fail
          go_ret
          exact ⟨rfl, rfl⟩
        · have t2 : decide ((100 : Int) < (p.2.size : Int)) = false := decide_eq_false (by omega)
          have HA' : Hid (((l.take (i + 1)).any fun p => decide (100 < p.1.size) || decide (100 < p.2.size)) = false) := Lib.hid (by
            rw [List.take_add_one, HP.out, List.any_append, HA.out]
            simp; omega)
          clear h1 h2
          go_wp2_with fail
          go_round
          case rel => exact ⟨i + 1, by omega, by go_num, HA'⟩
          case measure => simp [intOf]; omega
    · have e : r = false := by
        rw [HV.out]
        have h := HA.out
        rw [List.take_of_length_le (by rw [Hn.out]; omega)] at h
        exact h
      subst e
      go_wp2_with fail
      go_ret
      exact ⟨rfl, rfl⟩
end Go.Proofs.Ytgflfjmlhapplaa

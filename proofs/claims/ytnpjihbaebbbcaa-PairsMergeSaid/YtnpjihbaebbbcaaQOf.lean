/- Contracts of Of and Remove. -/
import Derived.Test.YtnpjihbaebbbcaaQDoc2
namespace Go.Proofs.Ytnpjihbaebbbcaa
open Go.RowKit Go.MapKept Go.Maps Go.ChangeShapes Go.WideShapes Go.Shelf Go.Sort
set_option linter.unusedVariables false
set_option linter.unusedSimpArgs false
section
variable {Ob : Type} {K : Kind Ob}
/-- what a call has made joins what is here -/
theorem Here.adopts {w0 w w' : World} {os us : List Ob} (h : Here K w0 w os) (g : Here K w w' us) : Here K w0 w' (os ++ us) := by
  have hz := h.bel.size
  obtain ⟨Bs, h1, h2⟩ := (h.step_bel g.bel).ex
  obtain ⟨Bs0, h10, _⟩ := h.ex
  obtain ⟨Cs, g1, g2⟩ := g.ex
  have hlt : ∀ i o, os[i]? = some o → ∃ B, K.Holds w' o B ∧ (∀ b ∈ B, w0.heap.size ≤ b ∧ b < w.heap.size) := fun i o hi => ⟨Bs0 i, K.fr (h10 i o hi).1 (Fr.of_bel (S := none') g.bel) (fun _ _ => id), fun b hb => ⟨(h10 i o hi).2 b hb, K.lt (h10 i o hi).1 b hb⟩⟩
  have hone : ∀ i o, (os ++ us)[i]? = some o → (i < os.length ∧ os[i]? = some o) ∨ (¬ i < os.length ∧ us[i - os.length]? = some o) := fun i o hi => by
    rw [List.getElem?_append] at hi
    by_cases e : i < os.length
    · rw [if_pos e] at hi; exact .inl ⟨e, hi⟩
    · rw [if_neg e] at hi; exact .inr ⟨e, hi⟩
  refine ⟨(h.step_bel g.bel).bel, fun i => if i < os.length then Bs0 i else Cs (i - os.length), fun i o hi => ?_, fun i j oi oj hij hi hj => ?_⟩
  · dsimp only
    rcases hone i o hi with ⟨e, hi⟩ | ⟨e, hi⟩
    · rw [if_pos e]
      exact ⟨K.fr (h10 i o hi).1 (Fr.of_bel (S := none') g.bel) (fun _ _ => id), (h10 i o hi).2⟩
    · rw [if_neg e]
      exact ⟨(g1 _ o hi).1, fun b hb => Nat.le_trans hz ((g1 _ o hi).2 b hb)⟩
  · dsimp only
    obtain ⟨_, _, h22⟩ := h.ex
    rcases hone i oi hi with ⟨ei, hi⟩ | ⟨ei, hi⟩
    · rcases hone j oj hj with ⟨ej, hj⟩ | ⟨ej, hj⟩
      · rw [if_pos ei, if_pos ej]
        exact (by assumption : ∀ i j oi oj, i ≠ j → os[i]? = some oi → os[j]? = some oj → Aprt (Bs0 i) (Bs0 j)) i j oi oj hij hi hj
      · rw [if_pos ei, if_neg ej]
        exact fun b hb hc => by have := K.lt (h10 i oi hi).1 b hb; have := (g1 _ oj hj).2 b hc; omega
    · rcases hone j oj hj with ⟨ej, hj⟩ | ⟨ej, hj⟩
      · rw [if_neg ei, if_pos ej]
        exact fun b hb hc => by have := K.lt (h10 j oj hj).1 b hc; have := (g1 _ oi hi).2 b hb; omega
      · rw [if_neg ei, if_neg ej]
        exact g2 _ _ oi oj (fun e => hij (by omega)) hi hj
end
def cntF (l : List Sv) : CF := l.foldl (fun C x => bumpAll C x.its 1) zC
theorem cntF_snoc (l : List Sv) (x : Sv) : cntF (l ++ [x]) = bumpAll (cntF l) x.its 1 := by unfold cntF; rw [List.foldl_append]; rfl
theorem cntF_take {l : List Sv} {k : Nat} {x : Sv} (h : l[k]? = some x) : cntF (l.take (k + 1)) = bumpAll (cntF (l.take k)) x.its 1 := by rw [List.take_add_one, h, Option.toList_some, cntF_snoc]
theorem bumpAll_is (C : CF) (x : Sv) (n : Int) (a b : ByteArray) : bumpAll C x.its n a b = C a b + if hasB x a b then n else 0 := by
  unfold bumpAll hasB
  by_cases h : a ∈ x.its ∧ b ∈ x.its
  · rw [if_pos h, if_pos (by rw [Bool.and_eq_true]; exact ⟨(memB_iff _ _).2 h.1, (memB_iff _ _).2 h.2⟩)]
  · rw [if_neg h, if_neg (fun c => h (by rw [Bool.and_eq_true] at c; exact ⟨(memB_iff _ _).1 c.1, (memB_iff _ _).1 c.2⟩))]; omega
theorem cntF_foldl (a b : ByteArray) : ∀ (l : List Sv) (C : CF), (l.foldl (fun C x => bumpAll C x.its 1) C) a b = C a b + (cntB l a b : Nat)
  | [], C => by simp [cntB]
  | x :: l, C => by
    rw [List.foldl_cons, cntF_foldl a b l, bumpAll_is]
    unfold cntB
    rw [List.countP_cons]
    by_cases h : hasB x a b
    · simp [h]; omega
    · simp [h]
theorem cntF_is (l : List Sv) (a b : ByteArray) : cntF l a b = (cntB l a b : Nat) := by
  unfold cntF
  rw [cntF_foldl]
  unfold zC; omega
theorem cntF_small {l : List Sv} (h : l.length ≤ 1000) : Small (cntF l) := fun a b => by
  rw [cntF_is]
  have := cntB_le l a b
  omega
theorem sv_info : (Try.prog.info? 30).map (fun i => (i.zero, i.size, i.bytes)) = some (some (.agg #[.string ⟨#[]⟩, .int .i64 0, .int .i64 0, .slice none 0 0]), 4, 56) := by kernel_rfl
section
variable {w0 w : World} {os : List Ob17} {i j k p t : Nat} {C : CF}
set_option maxRecDepth 20000 in
set_option maxHeartbeats 4000000 in
/-- Of -/
theorem of_any (b : Option Addr) (cap : Nat) (l : List Sv) (w : World) (h : SvIn w b l) (hl : Light l) (hc : cap ≤ maxLen) (hlc : l.length ≤ cap) :
    Calls Try.prog 14 #[.slice b l.length cap] w fun e w' => ∃ p t, e = .returned (.pointer (some ⟨p, 0, none⟩)) ∧ Here K17 w w' [.tab t (cntF l), .box p [.pointer (some ⟨t, 0, none⟩), .bool false] 52] := by
  have H := Lib.hid h
  have HL := Lib.hid hl
  have hl1 := hl.1
  have HN0 := Lib.hid (q_new (Here.nil (K := K17) (Below.refl w.heap.size w)))
  unfold maxLen at hc
  generalize hn : l.length = n at *
  have HN := Lib.hid hn
  clear h hl hn
  go_enter Try.func14, Try.ntmps14
  go_wp2_with fail
  refine HN0.out.mono ?_
  rintro e w1 ⟨p, t, rfl, h1⟩
  have H1 : Hid (Here K17 w w1 [.tab t (cntF (l.take 0)), .box p [.pointer (some ⟨t, 0, none⟩), .bool false] 52]) := Lib.hid h1
  clear h1 HN0
  go_wp2_with fail
  go_loopw [9] (fun c wr => ∃ k : Nat, k ≤ n ∧ c = .int .i64 k ∧ Hid (Here K17 w wr [.tab t (cntF (l.take k)), .box p [.pointer (some ⟨t, 0, none⟩), .bool false] 52])) (fun c _ => n - (intOf c).toNat)
  case atStart => exact ⟨0, by omega, rfl, H1⟩
  case round =>
    obtain ⟨k, hk, rfl, HR⟩ := hrel
    clear H1
    by_cases hlt : k < n
    · obtain ⟨x, hx⟩ : ∃ x, l[k]? = some x := ⟨l[k]'(by have := HN.out; omega), List.getElem?_eq_getElem _⟩
      have hS := H.out.bel HR.out.bel
      obtain ⟨B, off, rfl, hB, d0, d1, d2, d3⟩ := svAt hS hx
      have hxm := List.mem_of_getElem? hx
      have HO := Lib.hid (hS.o x hxm)
      have HX := Lib.hid (cntF_take hx)
      have hil := HL.out.2 x hxm
      have hk0 : (0 : Int) ≤ (k : Int) := by omega
      have hk1 : (k : Int) < (n : Int) := by omega
      have hsm : Small (cntF (l.take k)) := cntF_small (by rw [List.length_take]; omega)
      have hbw : Below wr.heap.size wr (wr.alloc (.cells #[.string x.p, .int .i64 x.f, .int .i64 x.t, .slice x.ib x.its.length x.ic] 30)) := (Below.refl _ _).alloc (Nat.le_refl _) _
      have HA := Lib.hid (q_add_no (i := 1) (j := 0) (HR.out.step_bel hbw) rfl rfl hsm x (HO.out.bel hbw).st HO.out.sz (by omega))
      clear hx hxm hS hsm hil hB hbw
      go_wp2_with fail
      refine HA.out.mono ?_
      rintro e w2 ⟨rfl, h2⟩
      have HR2 : Hid (Here K17 w w2 [.tab t (cntF (l.take (k + 1))), .box p [.pointer (some ⟨t, 0, none⟩), .bool false] 52]) := Lib.hid (by rw [HX.out]; exact h2)
      clear h2 HA HR HX d0 d1 d2 d3
      go_wp2_with fail
      go_roundw
      case rel => exact ⟨k + 1, by omega, by go_num, HR2⟩
      case measure => simp [intOf]; omega
    · have HE : Hid (Here K17 w wr [.tab t (cntF l), .box p [.pointer (some ⟨t, 0, none⟩), .bool false] 52]) := Lib.hid (by
        have h := HR.out
        rw [List.take_of_length_le (by have := HN.out; omega)] at h
        exact h)
      clear HR
      go_wp2_with fail
      go_ret
      exact ⟨p, t, rfl, HE.out⟩
theorem set_same {α : Type} {l : List α} {j : Nat} {a : α} (h : l[j]? = some a) : l.set j a = l := by
  apply List.ext_getElem?
  intro i
  rw [List.getElem?_set]
  by_cases e : j = i
  · subst e
    rw [if_pos rfl, if_pos (List.getElem?_eq_some_iff.1 h).1, h]
  · rw [if_neg e]
def canB (C : CF) (xs : List ByteArray) : Bool := xs.all fun a => xs.all fun b => decide (0 < C a b)
theorem canB_iff (C : CF) (xs : List ByteArray) : canB C xs = true ↔ ∀ a ∈ xs, ∀ b ∈ xs, 0 < C a b := by
  unfold canB
  simp [List.all_eq_true]
theorem canB_same {ks xs : List ByteArray} (h : ∀ x, x ∈ ks ↔ x ∈ xs) (C : CF) : canB C ks = canB C xs := by
  rw [Bool.eq_iff_iff, canB_iff, canB_iff]
  exact ⟨fun q a ha b hb => q a ((h a).2 ha) b ((h b).2 hb), fun q a ha b hb => q a ((h a).1 ha) b ((h b).1 hb)⟩
set_option maxRecDepth 20000 in
set_option maxHeartbeats 4000000 in
/-- Remove, of a table that nobody else has -/
theorem q_remove_no (h : Here K17 w0 w os) (hi : os[i]? = some (.box p [.pointer (some ⟨t, 0, none⟩), .bool false] 52)) (hj : os[j]? = some (.tab t C)) (hC : Small C) (x : Sv) (hx : Strs w x.ib x.its) (hsz : ∀ s ∈ x.its, s.size ≤ maxLen) (hl : x.its.length ≤ 1000) :
    Calls Try.prog 17 #[.pointer (some ⟨p, 0, none⟩), .agg #[.string x.p, .int .i64 x.f, .int .i64 x.t, .slice x.ib x.its.length x.ic]] w fun e w' => e = .returned (.bool (canB C x.its)) ∧ Here K17 w0 w' (os.set j (.tab t (if canB C x.its = true then bumpAll C x.its (-1) else C))) := by
  have H := Lib.hid h
  have HS := Lib.hid hsz
  have HC := Lib.hid hC
  have hli := (List.getElem?_eq_some_iff.1 hi).1
  have hlj := (List.getElem?_eq_some_iff.1 hj).1
  have HLJ := Lib.hid hlj
  have HJ := Lib.hid hj
  obtain ⟨xp, xf, xt, xb, xc, xs⟩ := x
  dsimp only at *
  have hbw : Below w.heap.size w (w.alloc (.cells #[.string xp, .int .i64 xf, .int .i64 xt, .slice xb xs.length xc] 30)) := (Below.refl _ _).alloc (Nat.le_refl _) _
  have TH := Lib.hid (things_any xp xf xt xb xc xs (w.alloc (.cells #[.string xp, .int .i64 xf, .int .i64 xt, .slice xb xs.length xc] 30)) (hx.bel hbw) (by omega))
  have H1 := Lib.hid (H.out.step_bel hbw)
  obtain ⟨r, hr⟩ : ∃ r, canB C xs = r := ⟨_, rfl⟩
  rw [hr]
  have HR := Lib.hid hr
  have HL := Lib.hid hl
  generalize hN : xs.length = n at *
  clear h hx hsz hC hlj hN hbw hr H
  go_enter Try.func17, Try.ntmps17
  go_wp2_with fail
  generalize w.alloc (.cells #[.string xp, .int .i64 xf, .int .i64 xt, .slice xb n xc] 30) = W at *
  refine TH.out.mono ?_
  rintro e w2 ⟨v, ks, rfl, q1, q2, q3, q4, q5, q6⟩
  have h2 := q_row H1.out q6 q4 q5
  obtain ⟨b', cap', rfl, _, _, hst, _⟩ := strs_of_row q4
  have H2 := Lib.hid h2
  have HST := Lib.hid hst
  have HI2 : Hid ((os ++ [Ob17.row (.slice b' ks.length cap') 9 1 ks.length (ks.map Value.string)])[i]? = some (.box p [.pointer (some ⟨t, 0, none⟩), .bool false] 52)) := Lib.hid (by rw [List.getElem?_append_left hli]; exact hi)
  have HJ2 : Hid ((os ++ [Ob17.row (.slice b' ks.length cap') 9 1 ks.length (ks.map Value.string)])[j]? = some (.tab t C)) := Lib.hid (by rw [List.getElem?_append_left HLJ.out]; exact hj)
  have HPR := Lib.hid (pr_here H2.out HI2.out HJ2.out)
  have HR2 : Hid (canB C ks = r) := Lib.hid (by rw [canB_same q2]; exact HR.out)
  have HSZ : Hid (∀ s ∈ ks, s.size ≤ maxLen) := Lib.hid (fun s hs => HS.out s ((q2 s).1 hs))
  have HOW := Lib.hid (q_own_no H2.out HI2.out)
  have HAL := Lib.hid (q_all (i := j) (j := os.length) (b := b') (cap := cap') (ks := ks) H2.out HJ2.out (by simp) (by have := HLJ.out; omega) HC.out HSZ.out q1.nodup (by have := HL.out; omega) (-1) (.inr rfl))
  have HQ := Lib.hid (rise_small q2 C (-1))
  have hkl : ks.length ≤ 1000 := by have := HL.out; omega
  clear q1 q2 q3 q4 q5 q6 h2 hst TH hi hj hli
  have HA0 : Hid ((ks.take 0).all (fun a => ks.all fun b => decide (0 < C a b)) = true) := Lib.hid rfl
  generalize hm : ks.length = m at *
  have HM := Lib.hid hm
  clear hm
  go_wp2_with fail
  go_loop [14] (fun c => ∃ k : Nat, k ≤ m ∧ c = .int .i64 k ∧ Hid ((ks.take k).all (fun a => ks.all fun b => decide (0 < C a b)) = true)) (fun c => m - (intOf c).toNat)
  case atStart => exact ⟨0, by omega, rfl, HA0⟩
  case round =>
    obtain ⟨k, hk, rfl, HA⟩ := hrel
    clear HA0
    by_cases hlt : k < m
    · obtain ⟨a, ha⟩ : ∃ a, ks[k]? = some a := ⟨ks[k]'(by have := HM.out; omega), List.getElem?_eq_getElem _⟩
      obtain ⟨Ba, off, rfl, hBa, ca⟩ := HST.out.at ha
      have HAm := Lib.hid ha
      have hk0 : (0 : Int) ≤ (k : Int) := by omega
      have hk1 : (k : Int) < (m : Int) := by omega
      have HB0 : Hid ((ks.take 0).all (fun b => decide (0 < C a b)) = true) := Lib.hid rfl
      clear ha hBa
      go_wp2_with fail
      go_loop [20] (fun c => ∃ j : Nat, j ≤ m ∧ c = .int .i64 j ∧ Hid ((ks.take j).all (fun b => decide (0 < C a b)) = true)) (fun c => m - (intOf c).toNat)
      case atStart => exact ⟨0, by omega, rfl, HB0⟩
      case round =>
        obtain ⟨q, hq, rfl, HB⟩ := hrel
        clear HB0
        by_cases hqt : q < m
        · obtain ⟨z, hz⟩ : ∃ z, ks[q]? = some z := ⟨ks[q]'(by have := HM.out; omega), List.getElem?_eq_getElem _⟩
          obtain ⟨Bz, offz, hbz, hBz, cz⟩ := HST.out.at hz
          cases hbz
          have HZ := Lib.hid hz
          have hq0 : (0 : Int) ≤ (q : Int) := by omega
          have hq1 : (q : Int) < (m : Int) := by omega
          have CC := Lib.hid (pcount_any HPR.out a z (HSZ.out a (List.mem_of_getElem? HAm.out)) (HSZ.out z (List.mem_of_getElem? hz)))
          clear hz hBz
          by_cases h0 : 0 < C a z
          · have t0 : decide (C a z ≤ 0) = false := decide_eq_false (by omega)
            have HB1 : Hid ((ks.take (q + 1)).all (fun b => decide (0 < C a b)) = true) := Lib.hid (by
              rw [List.take_add_one, HZ.out, List.all_append, HB.out]; simp [h0])
            generalize C a z = cc at *
            clear HB h0
            go_wp2_with fail
            refine CC.out.mono ?_
            rintro e w' ⟨rfl, rfl⟩
            go_wp2_with fail
            go_round
            case rel => exact ⟨q + 1, by omega, by go_num, HB1⟩
            case measure => simp [intOf]; omega
          · have t0 : decide (C a z ≤ 0) = true := decide_eq_true (by omega)
            have er : r = false := by
              rw [← HR2.out]
              cases e : canB C ks with
              | false => rfl
              | true => exact absurd ((canB_iff C ks).1 e a (List.mem_of_getElem? HAm.out) z (List.mem_of_getElem? HZ.out)) h0
            subst er
            generalize C a z = cc at *
            clear HB h0 HA
            go_wp2_with fail
            refine CC.out.mono ?_
            rintro e w' ⟨rfl, rfl⟩
            go_wp2_with fail
            go_ret
            refine ⟨rfl, ?_⟩
            have h := H2.out.init
            rw [set_same HJ.out]
            exact h
        · have HA1 : Hid ((ks.take (k + 1)).all (fun a => ks.all fun b => decide (0 < C a b)) = true) := Lib.hid (by
            have h := HB.out
            rw [List.take_of_length_le (by have := HM.out; omega)] at h
            rw [List.take_add_one, HAm.out, List.all_append, HA.out]
            simp only [Option.toList_some, List.all_cons, List.all_nil, Bool.and_true, Bool.true_and]
            exact h)
          clear HB HA
          go_wp2_with fail
          go_round
          case rel => exact ⟨k + 1, by omega, by go_num, HA1⟩
          case measure => simp [intOf]; omega
    · have er : r = true := by
        rw [← HR2.out]
        have h := HA.out
        rw [List.take_of_length_le (by have := HM.out; omega)] at h
        exact h
      subst er
      clear HA
      go_wp2_with fail
      refine HOW.out.mono ?_
      rintro e w' ⟨rfl, rfl⟩
      go_wp2_with fail
      refine HAL.out.mono ?_
      rintro e w3 ⟨rfl, h3⟩
      have H3 : Hid (Here K17 w0 w3 (os.set j (.tab t (bumpAll C xs (-1))))) := Lib.hid (by
        rw [HQ.out, List.set_append_left _ _ HLJ.out] at h3
        exact h3.init)
      clear h3 HAL HOW
      go_wp2_with fail
      go_ret
      exact ⟨rfl, H3.out⟩
end
end Go.Proofs.Ytnpjihbaebbbcaa

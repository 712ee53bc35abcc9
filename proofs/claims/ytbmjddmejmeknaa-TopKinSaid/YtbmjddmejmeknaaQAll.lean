/- Contract of a table's function all: two loops, one within the other. -/
import Derived.Test.YtbmjddmejmeknaaQFun
namespace Go.Proofs.Ytbmjddmejmeknaa.Pr
open Go.RowKit Go.MapKept Go.Maps Go.ChangeShapes Go.WideShapes
set_option linter.unusedVariables false
set_option linter.unusedSimpArgs false
instance memDec (y : ByteArray) (l : List ByteArray) : Decidable (y ∈ l) := decidable_of_iff (memB l y = true) (memB_iff l y)
abbrev PP := List (ByteArray × ByteArray)
def addTo (C : CF) (ps : PP) (n : Int) : CF := ps.foldl (fun C p => bump C p.1 p.2 n) C
theorem addTo_snoc (C : CF) (ps : PP) (p : ByteArray × ByteArray) (n : Int) : addTo C (ps ++ [p]) n = bump (addTo C ps n) p.1 p.2 n := by unfold addTo; rw [List.foldl_append]; rfl
def cP (ps : PP) (x y : ByteArray) : Nat := ps.countP fun q => decide (q.1 = x ∧ q.2 = y)
theorem addTo_is (ps : PP) (n : Int) : ∀ (C : CF) (x y : ByteArray), addTo C ps n x y = C x y + n * (cP ps x y : Nat) := by
  induction ps with
  | nil => intro C x y; simp [addTo, cP]
  | cons p ps ih =>
    intro C x y
    have : addTo C (p :: ps) n = addTo (bump C p.1 p.2 n) ps n := rfl
    have hc : cP (p :: ps) x y = cP ps x y + if p.1 = x ∧ p.2 = y then 1 else 0 := by
      unfold cP; rw [List.countP_cons]; congr 1; simp
    rw [this, ih, hc]
    unfold bump
    by_cases e : p.1 = x ∧ p.2 = y
    · rw [if_pos ⟨e.1.symm, e.2.symm⟩, if_pos e, Int.natCast_add, Int.mul_add]
      have : n * ((1 : Nat) : Int) = n := by simp
      rw [this]; omega
    · rw [if_neg (fun c => e ⟨c.1.symm, c.2.symm⟩), if_neg e]
      simp
def rowP (ks : List ByteArray) (a : ByteArray) : PP := (a, a) :: (ks.filter (fun b => decide (b ≠ a))).map fun b => (a, b)
def allP (ks m : List ByteArray) : PP := m.flatMap (rowP ks)
theorem allP_snoc (ks m : List ByteArray) (a : ByteArray) : allP ks (m ++ [a]) = allP ks m ++ rowP ks a := by unfold allP; simp
theorem rowP_len (ks : List ByteArray) (a : ByteArray) : (rowP ks a).length ≤ ks.length + 1 := by
  unfold rowP
  rw [List.length_cons, List.length_map]
  have := List.length_filter_le (fun b => decide (b ≠ a)) ks
  omega
theorem allP_len (ks : List ByteArray) (hk : ks.length ≤ 1000) : ∀ m : List ByteArray, (allP ks m).length ≤ 1001 * m.length
  | [] => by simp [allP]
  | a :: m => by
    have := allP_len ks hk m
    have h2 := rowP_len ks a
    have : (allP ks (a :: m)).length = (rowP ks a).length + (allP ks m).length := by unfold allP; rw [List.flatMap_cons, List.length_append]
    rw [this, List.length_cons]; omega
theorem cP_append (p q : PP) (x y : ByteArray) : cP (p ++ q) x y = cP p x y + cP q x y := by unfold cP; rw [List.countP_append]
def c1 (l : List ByteArray) (y : ByteArray) : Nat := l.countP fun q => decide (q = y)
theorem c1_nodup : ∀ {l : List ByteArray}, l.Nodup → ∀ y, c1 l y = if y ∈ l then 1 else 0
  | [], _, y => by simp [c1]
  | a :: l, h, y => by
    have h' := List.nodup_cons.1 h
    have ih := c1_nodup h'.2 y
    have e0 : c1 (a :: l) y = c1 l y + if a = y then 1 else 0 := by unfold c1; rw [List.countP_cons]; congr 1; simp
    rw [e0, ih]
    by_cases e : a = y
    · subst e
      rw [if_neg h'.1, if_pos rfl, if_pos (by simp)]
    · rw [if_neg e, Nat.add_zero]
      have : y ∈ a :: l ↔ y ∈ l := by
        rw [List.mem_cons]
        exact ⟨fun c => c.elim (fun c => absurd c.symm e) id, .inr⟩
      by_cases hy : y ∈ l
      · rw [if_pos hy, if_pos (this.2 hy)]
      · rw [if_neg hy, if_neg (fun c => hy (this.1 c))]
theorem count_pair (a x y : ByteArray) : ∀ l : List ByteArray, cP (l.map fun b => (a, b)) x y = if x = a then c1 l y else 0
  | [] => by simp [cP, c1]
  | b :: l => by
    have e0 : c1 (b :: l) y = c1 l y + if b = y then 1 else 0 := by unfold c1; rw [List.countP_cons]; congr 1; simp
    have e1 : cP ((b :: l).map fun b => (a, b)) x y = cP (l.map fun b => (a, b)) x y + if a = x ∧ b = y then 1 else 0 := by unfold cP; rw [List.map_cons, List.countP_cons]; congr 1; simp
    rw [e0, e1, count_pair a x y l]
    by_cases e : x = a
    · subst e
      rw [if_pos rfl, if_pos rfl]
      congr 1
      by_cases h : b = y
      · rw [if_pos ⟨rfl, h⟩, if_pos h]
      · rw [if_neg (fun c => h c.2), if_neg h]
    · rw [if_neg e, if_neg e, if_neg (fun c => e c.1.symm)]
theorem count_row {ks : List ByteArray} (hn : ks.Nodup) (a x y : ByteArray) : cP (rowP ks a) x y = if x = a ∧ (y = a ∨ y ∈ ks) then 1 else 0 := by
  have e1 : cP (rowP ks a) x y = cP ((ks.filter (fun b => decide (b ≠ a))).map fun b => (a, b)) x y + if a = x ∧ a = y then 1 else 0 := by unfold rowP cP; rw [List.countP_cons]; congr 1; simp
  have hfil : y ∈ ks.filter (fun b => decide (b ≠ a)) ↔ (y ∈ ks ∧ y ≠ a) := by rw [List.mem_filter]; simp
  have e2 : (a = x) = (x = a) := propext eq_comm
  have e3 : (a = y) = (y = a) := propext eq_comm
  rw [e1, count_pair, c1_nodup (hn.filter _)]
  simp only [hfil, e2, e3]
  by_cases h1 : x = a <;> by_cases h2 : y = a <;> by_cases h3 : y ∈ ks <;> simp [h1, h2, h3]
theorem count_all {ks : List ByteArray} (hn : ks.Nodup) (x y : ByteArray) : ∀ m : List ByteArray, m.Nodup → cP (allP ks m) x y = if x ∈ m ∧ (y = x ∨ y ∈ ks) then 1 else 0
  | [], _ => by simp [allP, cP]
  | a :: m, hm => by
    have hm' := List.nodup_cons.1 hm
    have : allP ks (a :: m) = rowP ks a ++ allP ks m := by unfold allP; rw [List.flatMap_cons]
    rw [this, cP_append, count_row hn, count_all hn x y m hm'.2]
    by_cases e : x = a
    · subst e
      rw [if_neg (fun c => hm'.1 c.1 : ¬ (x ∈ m ∧ (y = x ∨ y ∈ ks)))]
      by_cases h2 : y = x ∨ y ∈ ks
      · rw [if_pos ⟨rfl, h2⟩, if_pos ⟨by simp, h2⟩]
      · rw [if_neg (fun c => h2 c.2), if_neg (fun c => h2 c.2)]
    · rw [if_neg (fun c => e c.1 : ¬ (x = a ∧ (y = a ∨ y ∈ ks)))]
      simp only [List.mem_cons, e, false_or]
      omega
def bumpAll (C : CF) (ks : List ByteArray) (n : Int) : CF := fun x y => if x ∈ ks ∧ y ∈ ks then C x y + n else C x y
theorem addTo_all {ks : List ByteArray} (hn : ks.Nodup) (C : CF) (n : Int) : addTo C (allP ks ks) n = bumpAll C ks n := by
  funext x y
  rw [addTo_is, count_all hn x y ks hn]
  unfold bumpAll
  by_cases h : x ∈ ks ∧ y ∈ ks
  · rw [if_pos h, if_pos ⟨h.1, .inr h.2⟩]; simp
  · rw [if_neg h, if_neg (fun c => c.2.elim (fun e => h ⟨c.1, e ▸ c.1⟩) (fun e => h ⟨c.1, e⟩))]; simp
def Small (C : CF) : Prop := ∀ a b, -1099511627776 ≤ C a b ∧ C a b ≤ 1099511627776
theorem addTo_io {C : CF} (hC : Small C) {n : Int} (hn : n = 1 ∨ n = -1) {ps : PP} (hl : ps.length ≤ 10000000) (x y : ByteArray) : I64 (addTo C ps n x y + n) := by
  rw [addTo_is]
  have h1 := hC x y
  have h2 : cP ps x y ≤ ps.length := List.countP_le_length
  unfold I64
  rcases hn with rfl | rfl <;> omega
/-- what stands while the list is gone through -/
structure AllI (w wr : World) (t : Nat) (B : List Nat) (C : CF) (b : Option Addr) (ks : List ByteArray) : Prop where
  ta : ∃ B', TabAt wr t B' C ∧ Sprd w B B'
  fr : Fr (fun x => x ∈ B) w wr
  st : Strs wr b ks
section
variable {w wr : World} {t : Nat} {B : List Nat} {C : CF} {b : Option Addr} {ks : List ByteArray}
theorem AllI.next {w' : World} {B' B2 : List Nat} {C' : CF} (h : AllI w wr t B C b ks) (hB : Sprd w B B') (hS : ∀ w', Fr (fun x => x ∈ B) w w' → Strs w' b ks) (h2 : TabAt w' t B2 C') (hs : Sprd wr B' B2) (hf : Fr (fun x => x ∈ B') wr w') : AllI w w' t B C' b ks := by
  have hz := h.fr.size
  have f := h.fr.trans hf (fun i hlt hi => by
    rcases hB i hi with k | k
    · exact k
    · omega)
  exact ⟨⟨B2, h2, fun x hx => by
    rcases hs x hx with k | k
    · exact hB x k
    · exact .inr (by omega)⟩, f, hS _ f⟩
set_option maxRecDepth 20000 in
set_option maxHeartbeats 4000000 in
theorem all_any (h : TabAt w t B C) (hC : Small C) (cap : Nat) (hl : ks.length ≤ cap) (hm : cap ≤ maxLen) (hS : ∀ w', Fr (fun x => x ∈ B) w w' → Strs w' b ks) (ho : ∀ s ∈ ks, s.size ≤ maxLen) (hnd : ks.Nodup) (hk : ks.length ≤ 1000) (n : Int) (hn : n = 1 ∨ n = -1) :
    Calls Try.prog 37 #[.pointer (some ⟨t, 0, none⟩), .slice b ks.length cap, .int .i64 n] w fun e w' => e = .returned (.tuple #[]) ∧ (∃ B', TabAt w' t B' (bumpAll C ks n) ∧ Sprd w B B') ∧ Fr (fun x => x ∈ B) w w' := by
  have HE : Hid (addTo C (allP ks ks) n = bumpAll C ks n) := Lib.hid (addTo_all hnd C n)
  have HI0 : Hid (AllI w w t B (addTo C (allP ks (ks.take 0)) n) b ks) := Lib.hid ⟨⟨B, h, fun x hx => .inl hx⟩, Fr.refl _ _, hS w (Fr.refl _ _)⟩
  have HS := Lib.hid hS
  have HO := Lib.hid ho
  have HC := Lib.hid hC
  have HN := Lib.hid hn
  have HK := Lib.hid hk
  generalize hL : ks.length = L at *
  have HL := Lib.hid hL
  unfold maxLen at hm
  clear h hS ho hC hnd hn hL
  go_enter Try.func37, Try.ntmps37
  go_wp2_with fail
  go_loopw [12] (fun c wr => ∃ i : Nat, i ≤ L ∧ c = .int .i64 i ∧ Hid (AllI w wr t B (addTo C (allP ks (ks.take i)) n) b ks)) (fun c _ => L - (intOf c).toNat)
  case atStart => exact ⟨0, Nat.zero_le _, rfl, HI0⟩
  case round =>
    obtain ⟨i, hi, rfl, HI⟩ := hrel
    clear HI0
    by_cases hlt : i < L
    · obtain ⟨a, ha⟩ : ∃ a, ks[i]? = some a := ⟨ks[i]'(by have := HL.out; omega), List.getElem?_eq_getElem _⟩
      obtain ⟨Ba, off, hb, hBa, ca⟩ := HI.out.st.at ha
      obtain ⟨B', hT, hB'⟩ := HI.out.ta
      have hln : (allP ks (ks.take i)).length ≤ 1001 * 1000 := by
        have := allP_len ks (by have := HL.out; have := HK.out; omega) (ks.take i)
        rw [List.length_take] at this
        have := HK.out; omega
      have CS := Lib.hid (single_any hT a n (HO.out a (List.mem_of_getElem? ha)) (addTo_io HC.out HN.out (by omega) a a))
      have HA := Lib.hid ha
      have HB := Lib.hid hB'
      have HLN := Lib.hid hln
      subst hb
      clear ha hT hBa hln hB'
      go_wp2_with fail
      refine CS.out.mono ?_
      rintro e w2 ⟨rfl, h2, f2⟩
      have HJ0 : Hid (AllI w w2 t B (addTo C (allP ks (ks.take i) ++ [(a, a)] ++ ((ks.take 0).filter (fun b => decide (b ≠ a))).map fun b => (a, b)) n) (some ⟨Ba, off, none⟩) ks) := Lib.hid (by
        have := HI.out.next HB.out HS.out h2 (fun x hx => .inl hx) f2
        simp only [List.take_zero, List.filter_nil, List.map_nil, List.append_nil]
        rw [addTo_snoc]; exact this)
      clear h2 f2 CS HI HB ca
      go_wp2_with fail
      go_loopw [22] (fun c wr => ∃ j : Nat, j ≤ L ∧ c = .int .i64 j ∧ Hid (AllI w wr t B (addTo C (allP ks (ks.take i) ++ [(a, a)] ++ ((ks.take j).filter (fun b => decide (b ≠ a))).map fun b => (a, b)) n) (some ⟨Ba, off, none⟩) ks)) (fun c _ => L - (intOf c).toNat)
      case atStart => exact ⟨0, Nat.zero_le _, rfl, HJ0⟩
      case round =>
        obtain ⟨j, hj, rfl, HJ⟩ := hrel
        clear HJ0
        by_cases hjt : j < L
        · obtain ⟨c, hc⟩ : ∃ c, ks[j]? = some c := ⟨ks[j]'(by have := HL.out; omega), List.getElem?_eq_getElem _⟩
          obtain ⟨Bc, offc, hbc, hBc, cc⟩ := HJ.out.st.at hc
          cases hbc
          have hlen : (allP ks (ks.take i) ++ [(a, a)] ++ ((ks.take j).filter (fun b => decide (b ≠ a))).map fun b => (a, b)).length ≤ 10000000 := by
            rw [List.length_append, List.length_append, List.length_map]
            have h1 := List.length_filter_le (fun b => decide (b ≠ a)) (ks.take j)
            rw [List.length_take] at h1
            have := HLN.out; have := HK.out; have := HL.out
            simp only [List.length_cons, List.length_nil]; omega
          by_cases hca : c = a
          · have t9 : (a.toList == c.toList) = true := by rw [bytesEq]; exact decide_eq_true hca.symm
            have t9' : (a.toList != c.toList) = false := by rw [bne, t9]; rfl
            have HJ1 : Hid (AllI w wr t B (addTo C (allP ks (ks.take i) ++ [(a, a)] ++ ((ks.take (j + 1)).filter (fun b => decide (b ≠ a))).map fun b => (a, b)) n) (some ⟨Ba, off, none⟩) ks) := Lib.hid (by
              rw [List.take_add_one, hc, List.filter_append]
              simp only [Option.toList_some, List.filter_cons, List.filter_nil, hca, ne_eq, not_true, decide_false, if_neg (by decide : ¬ (false = true)), List.append_nil, Bool.false_eq_true, if_false, not_true_eq_false]
              exact HJ.out)
            clear HJ hlen hca hc hBc
            go_wp2_with fail
            go_roundw
            case rel => exact ⟨j + 1, by omega, by go_num, HJ1⟩
            case measure => simp [intOf]; omega
          · have t9 : (a.toList == c.toList) = false := by rw [bytesEq]; exact decide_eq_false (fun e => hca e.symm)
            have t9' : (a.toList != c.toList) = true := by rw [bne, t9]; rfl
            obtain ⟨B', hT, hB'⟩ := HJ.out.ta
            have CP := Lib.hid (pair_any hT a c n (HO.out a (List.mem_of_getElem? HA.out)) (HO.out c (List.mem_of_getElem? hc)) hca (by rcases HN.out with h | h <;> omega) (addTo_io HC.out HN.out hlen a c))
            have HB := Lib.hid hB'
            have HX : Hid ((ks.take (j + 1)).filter (fun b => decide (b ≠ a)) = (ks.take j).filter (fun b => decide (b ≠ a)) ++ [c]) := Lib.hid (by
              rw [List.take_add_one, hc, List.filter_append]
              congr 1
              simp [hca])
            clear hlen hca hc hBc hT hB'
            go_wp2_with fail
            refine CP.out.mono ?_
            rintro e w3 ⟨rfl, ⟨B3, h3, s3⟩, f3⟩
            have HJ1 : Hid (AllI w w3 t B (addTo C (allP ks (ks.take i) ++ [(a, a)] ++ ((ks.take (j + 1)).filter (fun b => decide (b ≠ a))).map fun b => (a, b)) n) (some ⟨Ba, off, none⟩) ks) := Lib.hid (by
              have := HJ.out.next HB.out HS.out h3 s3 f3
              rw [HX.out, List.map_append, ← List.append_assoc]
              show AllI w w3 t B (addTo C (_ ++ [(a, c)]) n) _ _
              rw [addTo_snoc]; exact this)
            clear h3 s3 f3 CP HJ HB cc HX
            go_wp2_with fail
            go_roundw
            case rel => exact ⟨j + 1, by omega, by go_num, HJ1⟩
            case measure => simp [intOf]; omega
        · have hjL : j = L := by omega
          have HI1 : Hid (AllI w wr t B (addTo C (allP ks (ks.take (i + 1))) n) (some ⟨Ba, off, none⟩) ks) := Lib.hid (by
            have h := HJ.out
            have hj2 : ks.take j = ks := List.take_of_length_le (by have := HL.out; omega)
            rw [hj2] at h
            rw [List.take_add_one, HA.out, Option.toList_some, allP_snoc]
            have e : allP ks (ks.take i) ++ rowP ks a = allP ks (ks.take i) ++ [(a, a)] ++ (ks.filter (fun b => decide (b ≠ a))).map fun b => (a, b) := by
              unfold rowP; simp
            rw [e]; exact h)
          clear HJ
          go_wp2_with fail
          go_roundw
          case rel => exact ⟨i + 1, by omega, by go_num, HI1⟩
          case measure => simp [intOf]; omega
    · have hiL : i = L := by omega
      have HF : Hid (AllI w wr t B (bumpAll C ks n) b ks) := Lib.hid (by
        have h := HI.out
        rw [List.take_of_length_le (by have := HL.out; omega), HE.out] at h
        exact h)
      clear HI HE
      go_wp2_with fail
      go_end0
      exact ⟨rfl, HF.out.ta, HF.out.fr⟩
end
end Go.Proofs.Ytbmjddmejmeknaa.Pr

/- Contracts of the document's Group, Name, Count and Heavy of aliases (layer 45). -/
import Derived.Test.YtgflfjmlhapplaaNames
import Derived.Test.YtgflfjmlhapplaaRef08
namespace Go.Proofs.Ytgflfjmlhapplaa
open Go.RowKit Go.MapKept Go.Maps
set_option linter.unusedVariables false
def twoC (p : Two) : List Value := [.string p.1, .string p.2]
/-- texts that are not too long -/
def okTwo (p : Two) : Prop := p.1.size ≤ 1000 ∧ p.2.size ≤ 1000
theorem twos_at {w : World} {b : Option Addr} {xs : List Two} (h : InW w b 2 (xs.map twoC)) {i : Nat} {a : Two} (hi : xs[i]? = some a) :
    ∃ B off, b = some ⟨B, off, none⟩ ∧ B < w.heap.size ∧ w.cell? ⟨B, off + i * 2, none⟩ = some (.string a.1) ∧ w.cell? ⟨B, off + i * 2 + 1, none⟩ = some (.string a.2) := by
  rcases h with h | ⟨B, off, hb, hl, hc⟩
  · rw [List.map_eq_nil_iff.1 h] at hi; cases hi
  · have hm : (xs.map twoC)[i]? = some (twoC a) := by rw [List.getElem?_map, hi]; rfl
    exact ⟨B, off, hb, hl, hc i _ hm 0 _ rfl, hc i _ hm 1 _ rfl⟩
def ends (l : List Two) : List ByteArray := l.map Prod.fst ++ l.map Prod.snd
theorem ends_len (l : List Two) : (ends l).length = 2 * l.length := by simp [ends]; omega
theorem nodup_length' {α : Type} : ∀ {l m : List α}, l.Nodup → (∀ x ∈ l, x ∈ m) → l.length ≤ m.length
  | [], _, _, _ => by simp
  | x :: l, m, hn, hs => by
    have hn' := List.nodup_cons.1 hn
    obtain ⟨a, b, rfl⟩ := List.append_of_mem (hs x (by simp))
    have := nodup_length' (m := a ++ b) hn'.2 (fun y hy => by
      have h1 := hs y (by simp [hy])
      have h2 : y ≠ x := fun e => hn'.1 (e ▸ hy)
      simp [h2] at h1
      simpa using h1)
    simp at this ⊢
    omega
theorem ends_compat (l : List Two) (x : ByteArray) : Compat l (fun z => z ∈ x :: ends l) := fun p hp _ => by
  have h1 : p.1 ∈ ends l := List.mem_append.2 (.inl (List.mem_map.2 ⟨p, hp, rfl⟩))
  have h2 : p.2 ∈ ends l := List.mem_append.2 (.inr (List.mem_map.2 ⟨p, hp, rfl⟩))
  simp [h1, h2]
theorem growN_ends (l : List Two) (x : ByteArray) (n : Nat) : ∀ z ∈ growN l n [x], z ∈ x :: ends l := growN_only (ends_compat l x) n (fun z hz => by simp at hz; simp [hz])
theorem rise_one (x : ByteArray) : Rise [x] := by unfold Rise; simp
theorem grow_len (l : List Two) (x : ByteArray) (n i : Nat) : (grow1 (l.take i) (growN l n [x])).length ≤ 2 * l.length + 1 := by
  have h1 := grow1_rise (l.take i) (growN_rise l n (rise_one x))
  have h2 := grow1_only (ends_compat l x) (l.take i) (fun p hp => List.mem_of_mem_take hp) (growN_ends l x n)
  have := nodup_length' h1.nodup h2
  rw [List.length_cons, ends_len] at this
  exact this
theorem group_len (l : List Two) (x : ByteArray) : (groupR l x).length ≤ 2 * l.length + 1 := by
  unfold groupR
  split
  · have := nodup_length' (growN_rise l (l.length + 1) (rise_one x)).nodup (growN_ends l x _)
    rw [List.length_cons, ends_len] at this
    exact this
  · simp
theorem MkT.in_bel {w0 wr : World} {u : Value} {ks : List ByteArray} (h : MkT w0 wr u ks) {b : Option Addr} {sz : Nat} {css : List (List Value)} (hi : InW w0 b sz css) : InW wr b sz css := InW.bel hi h.bl
set_option maxRecDepth 100000 in
set_option maxHeartbeats 8000000 in
theorem rgroup_yes (b : Option Addr) (cap : Nat) (l : List Two) (x : ByteArray) (w : World) (h : InW w b 2 (l.map twoC)) (hl : l.length ≤ 1000) (ho : ∀ p ∈ l, okTwo p) (hx : nameB x = true) :
    Calls Try.prog 13 #[.slice b l.length cap, .string x] w fun e w' => ∃ v, e = .returned v ∧ MkT w w' v (growN l (l.length + 1) [x]) := by
  have hex := rname_any x w (by have := (by simp only [nameB, Bool.and_eq_true, decide_eq_true_eq] at hx; exact hx.1.2 : x.size ≤ 24); omega)
  rw [hx] at hex
  have EX := Lib.hid hex
  have HIW := Lib.hid h
  have HO := Lib.hid ho
  have HGL := Lib.hid (fun n i => grow_len l x n i)
  have HGR : Hid (∀ n i, Rise (grow1 (l.take i) (growN l n [x]))) := Lib.hid (fun n i => grow1_rise (l.take i) (growN_rise l n (rise_one x)))
  have HMK : Hid (MkT w (w.alloc (.cells #[.string x] 9)) (.slice (some ⟨w.heap.size, 0, none⟩) 1 1) (growN l 0 [x])) := Lib.hid ⟨row_of_bk (Bk.new w [.string x] 9) rfl (Nat.le_refl _) (by unfold maxLen; omega) rfl, own_at (Nat.le_refl _), (Below.refl w.heap.size w).alloc (Nat.le_refl _) (.cells #[.string x] 9)⟩
  have HSU : Hid (∀ n, grow1 (l.take l.length) (growN l n [x]) = growN l (n + 1) [x]) := Lib.hid (fun n => by rw [List.take_length]; rfl)
  clear hex h ho hx
  generalize hn : l.length = n at *
  have Hn := Lib.hid hn
  clear hn
  go_enter Try.func13, Try.ntmps13
  go_wp2_with fail
  refine EX.out.mono ?_
  rintro e wx ⟨rfl, rfl⟩
  clear EX
  go_wp2_with fail
  go_loopw [5, 6, 7] (fun u c _ wr => ∃ k : Nat, k ≤ n + 1 ∧ c = .int .i64 k ∧ MkT w wr u (growN l k [x])) (fun _ c _ _ => n + 1 - (intOf c).toNat)
  case atStart => exact ⟨0, by omega, rfl, HMK.out⟩
  case round =>
    obtain ⟨k, hk, rfl, hmk⟩ := hrel
    have HM := Lib.hid hmk
    clear hmk
    by_cases hlt : k < n + 1
    · have hk1 : (k : Int) ≤ (n : Int) := by omega
      go_wp2_with fail
      go_loopw [5, 7] (fun u c wr => ∃ i : Nat, i ≤ n ∧ c = .int .i64 i ∧ MkT w wr u (grow1 (l.take i) (growN l k [x]))) (fun _ c _ => n - (intOf c).toNat)
      case atStart => exact ⟨0, by omega, rfl, HM.out⟩
      case round =>
        obtain ⟨i, hi, rfl, hmi⟩ := hrel
        have HMI := Lib.hid hmi
        clear hmi
        by_cases hlt2 : i < n
        · obtain ⟨p, hp⟩ : ∃ p, l[i]? = some p := ⟨l[i]'(by rw [Hn.out]; exact hlt2), List.getElem?_eq_getElem _⟩
          have hop := HO.out p (List.mem_of_getElem? hp)
          unfold okTwo at hop
          obtain ⟨B, off, rfl, hB, d0, d1⟩ := twos_at HIW.out hp
          have HCW : Hid (∀ W, Below w.heap.size w W → W.cell? ⟨B, off + i * 2, none⟩ = some (.string p.1) ∧ W.cell? ⟨B, off + i * 2 + 1, none⟩ = some (.string p.2)) := Lib.hid (fun W hb => ⟨(hb.cell (p := ⟨B, off + i * 2, none⟩) hB).trans d0, (hb.cell (p := ⟨B, off + i * 2 + 1, none⟩) hB).trans d1⟩)
          obtain ⟨c0, c1⟩ := HCW.out wr HMI.out.bl
          have hi0 : (0 : Int) ≤ (i : Int) := by omega
          have hi1 : (i : Int) < (n : Int) := by omega
          have HSN : Hid (grow1 (l.take (i + 1)) (growN l k [x]) = stepG (grow1 (l.take i) (growN l k [x])) p) := Lib.hid (by
            rw [List.take_add_one, hp]
            exact grow1_snoc _ _ _)
          have hgl := HGL.out k i
          have HR := Lib.hid (HGR.out k i)
          have NX : Hid (∀ W, Calls Try.prog 11 #[.string p.1] W fun e w' => e = .returned (.bool (nameB p.1)) ∧ W = w') := Lib.hid (fun W => rname_any p.1 W (by omega))
          have NY : Hid (∀ W, Calls Try.prog 11 #[.string p.2] W fun e w' => e = .returned (.bool (nameB p.2)) ∧ W = w') := Lib.hid (fun W => rname_any p.2 W (by omega))
          clear hp d0 d1
          generalize grow1 (l.take i) (growN l k [x]) = o at *
          obtain ⟨ob, ocap, rfl, ho1, ho2, hos⟩ := HMI.out.tx.strs
          have IX := Lib.hid (in08_any ob ocap o p.1 wr hos (by omega))
          have IY := Lib.hid (in08_any ob ocap o p.2 wr hos (by omega))
          clear hos ho1 ho2
          cases ex : nameB p.1 with
          | false =>
            have hst : stepG o p = o := by unfold stepG twoB; rw [ex]; rfl
            rw [hst] at HSN
            rw [ex] at NX
            clear hst ex IX IY NY
            generalize o.length = no at *
            go_wp2_with fail
            refine (NX.out _).mono ?_
            rintro e wx ⟨rfl, rfl⟩
            go_wp2_with fail
            go_roundw
            case rel => exact ⟨i + 1, by omega, by go_num, by rw [HSN.out]; exact HMI.out⟩
            case measure => simp [intOf]; omega
          | true =>
            rw [ex] at NX
            cases ey : nameB p.2 with
            | false =>
              have hst : stepG o p = o := by unfold stepG twoB; rw [ex, ey]; rfl
              rw [hst] at HSN
              rw [ey] at NY
              clear hst ex ey IX IY
              generalize o.length = no at *
              go_wp2_with fail
              refine (NX.out _).mono ?_
              rintro e wx ⟨rfl, rfl⟩
              go_wp2_with fail
              refine (NY.out _).mono ?_
              rintro e wx ⟨rfl, rfl⟩
              go_wp2_with fail
              go_roundw
              case rel => exact ⟨i + 1, by omega, by go_num, by rw [HSN.out]; exact HMI.out⟩
              case measure => simp [intOf]; omega
            | true =>
              rw [ey] at NY
              have h2 : twoB p = true := by unfold twoB; rw [ex, ey]; rfl
              have PU : Hid (∀ (u' : Value) (W : World) (ks : List ByteArray) (z : ByteArray), MkT w W u' ks → ks.length ≤ 100000 → Rise ks → Calls Try.prog 27 #[u', .string z] W fun e w' => ∃ v, e = .returned v ∧ MkT w w' v (putB ks z) ∧ Below W.heap.size W w') := Lib.hid (fun u' W ks z hm hl hr => put08_any u' ks z w W hm hl hr)
              have P1 := Lib.hid (PU.out _ wr.drew o p.1 HMI.out.drew (by omega) HR.out)
              have hR1 := Lib.hid (putB_rise HR.out p.1)
              have hL1 : (putB o p.1).length ≤ 100000 := by have := putB_len o p.1; omega
              obtain ⟨e0, e1⟩ := HCW.out wr.drew HMI.out.drew.bl
              cases mx : memB o p.1 with
              | true =>
                have hst : stepG o p = putB (putB o p.1) p.2 := by unfold stepG; rw [h2, mx]; rfl
                rw [hst] at HSN
                rw [mx] at IX
                clear hst ex ey mx h2 IY
                generalize o.length = no at *
                go_wp2_with fail
                refine (NX.out _).mono ?_
                rintro e wx ⟨rfl, rfl⟩
                go_wp2_with fail
                refine (NY.out _).mono ?_
                rintro e wx ⟨rfl, rfl⟩
                go_wp2_with fail
                refine (IX.out).mono ?_
                rintro e wx ⟨rfl, rfl⟩
                clear IX NX NY
                go_wp2_with fail
                go_region_held3 (fun X => X.cell? ⟨B, off + i * 2, none⟩ = some (.string p.1) ∧ X.cell? ⟨B, off + i * 2 + 1, none⟩ = some (.string p.2)) (first | assumption | go_keep)
                  (first
                    | (go_at_call 27
                       (with_reducible refine P1.out.mono ?_)
                       rintro e w3 ⟨v3, rfl, m3, b3⟩
                       have hS3 := HCW.out w3 m3.bl
                       have P2 := Lib.hid (PU.out _ w3 _ p.2 m3 hL1 hR1.out)
                       clear m3 b3)
                    | (go_at_call 27
                       (with_reducible refine P2.out.mono ?_)
                       rintro e w4 ⟨v4, rfl, m4, b4⟩
                       have hS4 := HCW.out w4 m4.bl
                       have M4 := Lib.hid m4
                       clear m4 b4)
                    | fail)
                go_wp2_with fail
                go_roundw
                case rel => exact ⟨i + 1, by omega, by go_num, by rw [HSN.out]; exact M4.out⟩
                case measure => simp [intOf]; omega
              | false =>
                rw [mx] at IX
                cases my : memB o p.2 with
                | false =>
                  have hst : stepG o p = o := by unfold stepG; rw [h2, mx, my]; rfl
                  rw [hst] at HSN
                  rw [my] at IY
                  clear hst ex ey mx my h2 P1 PU e0 e1 hL1 hR1
                  generalize o.length = no at *
                  go_wp2_with fail
                  refine (NX.out _).mono ?_
                  rintro e wx ⟨rfl, rfl⟩
                  go_wp2_with fail
                  refine (NY.out _).mono ?_
                  rintro e wx ⟨rfl, rfl⟩
                  go_wp2_with fail
                  refine (IX.out).mono ?_
                  rintro e wx ⟨rfl, rfl⟩
                  go_wp2_with fail
                  refine (IY.out).mono ?_
                  rintro e wx ⟨rfl, rfl⟩
                  go_wp2_with fail
                  go_roundw
                  case rel => exact ⟨i + 1, by omega, by go_num, by rw [HSN.out]; exact HMI.out⟩
                  case measure => simp [intOf]; omega
                | true =>
                  have hst : stepG o p = putB (putB o p.1) p.2 := by unfold stepG; rw [h2, mx, my]; rfl
                  rw [hst] at HSN
                  rw [my] at IY
                  clear hst ex ey mx my h2
                  generalize o.length = no at *
                  go_wp2_with fail
                  refine (NX.out _).mono ?_
                  rintro e wx ⟨rfl, rfl⟩
                  go_wp2_with fail
                  refine (NY.out _).mono ?_
                  rintro e wx ⟨rfl, rfl⟩
                  go_wp2_with fail
                  refine (IX.out).mono ?_
                  rintro e wx ⟨rfl, rfl⟩
                  go_wp2_with fail
                  refine (IY.out).mono ?_
                  rintro e wx ⟨rfl, rfl⟩
                  clear IX IY NX NY
                  go_wp2_with fail
                  go_region_held3 (fun X => X.cell? ⟨B, off + i * 2, none⟩ = some (.string p.1) ∧ X.cell? ⟨B, off + i * 2 + 1, none⟩ = some (.string p.2)) (first | assumption | go_keep)
                    (first
                      | (go_at_call 27
                         (with_reducible refine P1.out.mono ?_)
                         rintro e w3 ⟨v3, rfl, m3, b3⟩
                         have hS3 := HCW.out w3 m3.bl
                         have P2 := Lib.hid (PU.out _ w3 _ p.2 m3 hL1 hR1.out)
                         clear m3 b3)
                      | (go_at_call 27
                         (with_reducible refine P2.out.mono ?_)
                         rintro e w4 ⟨v4, rfl, m4, b4⟩
                         have hS4 := HCW.out w4 m4.bl
                         have M4 := Lib.hid m4
                         clear m4 b4)
                      | fail)
                  go_wp2_with fail
                  go_roundw
                  case rel => exact ⟨i + 1, by omega, by go_num, by rw [HSN.out]; exact M4.out⟩
                  case measure => simp [intOf]; omega
        · obtain rfl : i = n := by omega
          have hsu := HSU.out k
          rw [hsu] at HMI
          clear hsu
          go_wp2_with fail
          go_roundw
          case rel => exact ⟨k + 1, by omega, by go_num, HMI.out⟩
          case measure => simp [intOf]; omega
    · obtain rfl : k = n + 1 := by omega
      have hk1 : decide (((n + 1 : Nat) : Int) ≤ (n : Int)) = false := decide_eq_false (by omega)
      go_wp2_with fail
      go_ret
      exact ⟨u5, rfl, HM.out⟩
end Go.Proofs.Ytgflfjmlhapplaa

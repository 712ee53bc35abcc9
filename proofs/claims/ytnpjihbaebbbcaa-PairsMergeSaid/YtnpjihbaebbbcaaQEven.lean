/- Law 17: even. -/
import Derived.Test.YtnpjihbaebbbcaaQOf
namespace Go.Proofs.Ytnpjihbaebbbcaa
open Go.RowKit Go.MapKept Go.Maps Go.ChangeShapes Go.WideShapes Go.Shelf Go.Sort
set_option linter.unusedVariables false
set_option linter.unusedSimpArgs false
/-- pairs that tell what sessions make -/
def Tells (C : CF) (l : List Sv) : Prop := ∀ x y, C x y = (cntB l x y : Nat)
theorem cnt_self (l : List Sv) (x : ByteArray) : (cntB l x x : Int) ≠ 0 ↔ ∃ s ∈ l, x ∈ s.its := by
  have : cntB l x x ≠ 0 ↔ ∃ s ∈ l, x ∈ s.its := by
    unfold cntB
    rw [← Nat.pos_iff_ne_zero, List.countP_pos_iff]
    refine exists_congr fun s => and_congr_right fun _ => ?_
    unfold hasB
    rw [Bool.and_self, memB_iff]
  rw [← this]
  omega
def allIts (l : List Sv) : List ByteArray := l.flatMap fun x => x.its
theorem allIts_mem (l : List Sv) (x : ByteArray) : x ∈ allIts l ↔ ∃ s ∈ l, x ∈ s.its := by unfold allIts; rw [List.mem_flatMap]
theorem allIts_len {l : List Sv} (h : Light l) : (allIts l).length ≤ 10000 := by
  have key : ∀ m : List Sv, (∀ x ∈ m, x.its.length ≤ 100) → (allIts m).length ≤ 100 * m.length := by
    intro m
    induction m with
    | nil => intro _; simp [allIts]
    | cons a m ih =>
      intro hm
      have h1 := ih (fun x hx => hm x (by simp [hx]))
      have h2 := hm a (by simp)
      unfold allIts at *
      rw [List.flatMap_cons, List.length_append, List.length_cons]
      omega
  have := key l h.2
  have := h.1
  omega
theorem Below.trans' {w w1 w2 : World} (h : Below w.heap.size w w1) (k : Below w1.heap.size w1 w2) : Below w.heap.size w w2 := h.trans (k.mono h.size)
set_option maxRecDepth 100000 in
set_option maxHeartbeats 8000000 in
theorem even_any (p : Nat) (C : CF) (b : Option Addr) (cap : Nat) (l : List Sv) (x y : ByteArray) (w : World) (hp : PrAt w p C) (hC : Tells C l) (h : SvIn w b l) (hl : Light l) (hc : cap ≤ maxLen) (hlc : l.length ≤ cap) (hx : x.size ≤ 1000) (hy : y.size ≤ 1000) :
    Calls Try.prog 13 #[.pointer (some ⟨p, 0, none⟩), .slice b l.length cap, .string x, .string y] w fun e w' => e = .returned (.bool true) ∧ Below w.heap.size w w' := by
  have hxm : x.size ≤ maxLen := by unfold maxLen; omega
  have hym : y.size ≤ maxLen := by unfold maxLen; omega
  have DI := Lib.hid (ditems_any b cap l w h hl hc hlc)
  have PI : Hid (∀ W, Below w.heap.size w W → Calls Try.prog 19 #[.pointer (some ⟨p, 0, none⟩)] W fun e w' => ∃ (v : Value) (ks : List ByteArray), e = .returned v ∧ ItemsOf l ks ∧ Texts17 W w' v ks) := Lib.hid (fun W hb => (pitems_any (hp.bel hb) (allIts l) (fun z hz => (allIts_mem l z).2 ((cnt_self l z).1 (by rw [← hC]; exact hz))) (by have := allIts_len hl; omega)).mono (by
    rintro e w' ⟨v, ks, rfl, h1, h2, h3⟩
    exact ⟨v, ks, rfl, ⟨h1, fun z => by rw [h2, hC, cnt_self]⟩, h3⟩))
  have PC : Hid (∀ W, Below w.heap.size w W → ∀ z, z.size ≤ maxLen → Calls Try.prog 12 #[.pointer (some ⟨p, 0, none⟩), .string x, .string z] W fun e w' => e = .returned (.int .i64 (cntB l x z : Nat)) ∧ w' = W) := Lib.hid (fun W hb z hz => by
    have := pcount_any (hp.bel hb) x z hxm hz
    rw [hC] at this; exact this)
  have PS : Hid (∀ W, Below w.heap.size w W → ∀ z, z.size ≤ maxLen → Calls Try.prog 15 #[.pointer (some ⟨p, 0, none⟩), .string z] W fun e w' => e = .returned (.int .i64 (cntB l z z : Nat)) ∧ w' = W) := Lib.hid (fun W hb z hz => by
    have := psingle_any (hp.bel hb) z hz
    rw [hC] at this; exact this)
  have DC : Hid (∀ W, Below w.heap.size w W → ∀ z z', Calls Try.prog 18 #[.slice b l.length cap, .string z, .string z'] W fun e w' => e = .returned (.int .i64 (cntB l z z' : Nat)) ∧ w' = W) := Lib.hid (fun W hb z z' => dcount_any b cap l z z' W (h.bel hb) hl hc hlc)
  have PN : Hid (∀ W, Below w.heap.size w W → Calls Try.prog 20 #[.pointer (some ⟨p, 0, none⟩), .string x] W fun e w' => ∃ (v : Value) (ks : List ByteArray), e = .returned v ∧ NearOf l x ks ∧ Texts17 W w' v ks) := Lib.hid (fun W hb => (pnear_any (hp.bel hb) x hxm (allIts l) (fun z hz => (allIts_mem l z).2 (by
    rw [hC] at hz
    have h0 : 0 < cntB l x z := by omega
    obtain ⟨s, hs, h2⟩ := List.countP_pos_iff.1 h0
    unfold hasB at h2
    rw [Bool.and_eq_true] at h2
    exact ⟨s, hs, (memB_iff _ _).1 h2.2⟩)) (by have := allIts_len hl; omega)).mono (by
    rintro e w' ⟨v, ks, rfl, h1, h2, h3⟩
    exact ⟨v, ks, rfl, ⟨h1, fun z => by rw [h2, hC]; exact and_congr_right fun _ => by omega⟩, h3⟩))
  have DN : Hid (∀ W, Below w.heap.size w W → Calls Try.prog 29 #[.slice b l.length cap, .string x] W fun e w' => ∃ v ks, e = .returned v ∧ NearOf l x ks ∧ ks.length ≤ 10000 ∧ MkT W w' v ks) := Lib.hid (fun W hb => dnear_any b cap l x W (h.bel hb) hl hc hlc)
  have HSZ : Hid (∀ ks, ItemsOf l ks → ∀ z ∈ ks, z.size ≤ maxLen) := Lib.hid (fun ks hk z hz => by
    obtain ⟨s, hs, h2⟩ := (hk.2 z).1 hz
    exact (h.o s hs).sz z h2)
  have B0 := Lib.hid (Below.refl w.heap.size w)
  clear hp hC h hl hc hlc hx hy
  generalize l.length = n at *
  go_enter Try.func13, Try.ntmps13
  go_wp2_with fail
  refine DI.out.mono ?_
  rintro e w1 ⟨v1, ks, rfl, k1, k2, m1⟩
  obtain ⟨b1, c1, rfl, _, _, st1⟩ := m1.tx.strs
  have B1 := Lib.hid m1.bl
  have K1 := Lib.hid k1
  have S1 := Lib.hid st1
  have PI1 := Lib.hid (PI.out w1 m1.bl)
  generalize hN : ks.length = N at *
  have HN := Lib.hid hN
  clear k1 m1 st1 hN DI PI
  go_wp2_with fail
  refine PI1.out.mono ?_
  rintro e w2 ⟨v2, ks2, rfl, k3, k4⟩
  obtain ⟨b2, c2, rfl, _, _, st2⟩ := k4.1.strs
  obtain rfl : ks2 = ks := k3.1.ext K1.out.1 (fun z => by rw [k3.2, K1.out.2])
  have B2 := Lib.hid (Below.trans' B1.out k4.2.2)
  have T2 := Lib.hid (texts_any b2 b1 N N c2 c1 ks2 ks2 w2 st2 (S1.out.bel k4.2.2) HN.out HN.out (by omega) (by omega))
  rw [decide_eq_true rfl] at T2
  have S2 := Lib.hid (S1.out.bel k4.2.2)
  rw [HN.out]
  clear k3 k4 st2 PI1
  go_wp2_with fail
  refine T2.out.mono ?_
  rintro e w3 ⟨rfl, q, hq⟩
  have h23 : Below w2.heap.size w2 w3 := by rw [hq]; exact bdrewN (Below.refl _ _) q
  have B3 := Lib.hid (Below.trans' B2.out h23)
  have S3 := Lib.hid (S2.out.bel h23)
  clear hq h23 T2 S2
  have C1 := Lib.hid (PC.out w3 B3.out y hym)
  have C2 := Lib.hid (DC.out w3 B3.out x y)
  have C3 := Lib.hid (PS.out w3 B3.out x hxm)
  have C4 := Lib.hid (DC.out w3 B3.out x x)
  have C5 := Lib.hid (PN.out w3 B3.out)
  generalize ((cntB l x y : Nat) : Int) = g1 at *
  generalize ((cntB l x x : Nat) : Int) = g2 at *
  have e1 : (g1 != g1) = false := by simp
  have e2 : (g2 != g2) = false := by simp
  go_wp2_with fail
  refine C1.out.mono ?_
  rintro e w' ⟨rfl, rfl⟩
  go_wp2_with fail
  refine C2.out.mono ?_
  rintro e w' ⟨rfl, rfl⟩
  go_wp2_with fail
  refine C3.out.mono ?_
  rintro e w' ⟨rfl, rfl⟩
  go_wp2_with fail
  refine C4.out.mono ?_
  rintro e w' ⟨rfl, rfl⟩
  go_wp2_with fail
  refine C5.out.mono ?_
  rintro e w4 ⟨v4, n4, rfl, k5, k6⟩
  obtain ⟨b4, c4, rfl, _, _, st4⟩ := k6.1.strs
  have B4 := Lib.hid (Below.trans' B3.out k6.2.2)
  have D5 := Lib.hid (DN.out w4 B4.out)
  have K5 := Lib.hid k5
  have S4 := Lib.hid st4
  have S3b := Lib.hid (S3.out.bel k6.2.2)
  generalize hM : n4.length = M at *
  have HM := Lib.hid hM
  clear k5 k6 st4 C1 C2 C3 C4 C5 S3 hM
  go_wp2_with fail
  refine D5.out.mono ?_
  rintro e w5 ⟨v5, n5, rfl, k7, k8, m5⟩
  obtain ⟨b5, c5, rfl, _, _, st5⟩ := m5.tx.strs
  obtain rfl : n5 = n4 := k7.1.ext K5.out.1 (fun z => by rw [k7.2, K5.out.2])
  have B5 := Lib.hid (Below.trans' B4.out m5.bl)
  have T5 := Lib.hid (texts_any b4 b5 M M c4 c5 n5 n5 w5 (S4.out.bel m5.bl) st5 HM.out HM.out (by have := HM.out; omega) (by have := HM.out; omega))
  rw [decide_eq_true rfl] at T5
  have S5 := Lib.hid (S3b.out.bel m5.bl)
  rw [HM.out]
  clear k7 k8 m5 st5 D5 S3b S4
  go_wp2_with fail
  refine T5.out.mono ?_
  rintro e w6 ⟨rfl, q6, hq6⟩
  have h56 : Below w5.heap.size w5 w6 := by rw [hq6]; exact bdrewN (Below.refl _ _) q6
  have B6 := Lib.hid (Below.trans' B5.out h56)
  have S6 := Lib.hid (S5.out.bel h56)
  clear hq6 h56 T5 S5 B0 B1 B2 B3 B4 B5
  go_wp2_with fail
  go_loopw [10] (fun c wr => ∃ (i k : Nat), i ≤ N ∧ c = .int .i64 i ∧ wr = w6.drewN k) (fun c _ => N - (intOf c).toNat)
  case atStart => exact ⟨0, 0, by omega, rfl, rfl⟩
  case round =>
    obtain ⟨i, k, hi, rfl, rfl⟩ := hrel
    have hbk : Below w.heap.size w (w6.drewN k) := bdrewN B6.out k
    by_cases hlt : i < N
    · obtain ⟨z, hz⟩ : ∃ z, ks2[i]? = some z := ⟨ks2[i]'(by have := HN.out; omega), List.getElem?_eq_getElem _⟩
      obtain ⟨Bz, offz, rfl, hBz, cz⟩ := (S6.out.bel (bdrewN (Below.refl w6.heap.size w6) k)).at hz
      have hzs := HSZ.out ks2 K1.out z (List.mem_of_getElem? hz)
      have hi0 : (0 : Int) ≤ (i : Int) := by omega
      have hi1 : (i : Int) < (N : Int) := by omega
      have Q1 : Hid (∀ m, Calls Try.prog 15 #[.pointer (some ⟨p, 0, none⟩), .string z] ((w6.drewN k).drewN m) fun e w' => e = .returned (.int .i64 (cntB l z z : Nat)) ∧ w' = (w6.drewN k).drewN m) := Lib.hid (fun m => PS.out _ (bdrewN hbk m) z hzs)
      have Q2 : Hid (∀ m, Calls Try.prog 18 #[.slice b n cap, .string z, .string z] ((w6.drewN k).drewN m) fun e w' => e = .returned (.int .i64 (cntB l z z : Nat)) ∧ w' = (w6.drewN k).drewN m) := Lib.hid (fun m => DC.out _ (bdrewN hbk m) z z)
      have Q3 : Hid (∀ m, Calls Try.prog 12 #[.pointer (some ⟨p, 0, none⟩), .string x, .string z] ((w6.drewN k).drewN m) fun e w' => e = .returned (.int .i64 (cntB l x z : Nat)) ∧ w' = (w6.drewN k).drewN m) := Lib.hid (fun m => PC.out _ (bdrewN hbk m) z hzs)
      have Q4 : Hid (∀ m, Calls Try.prog 18 #[.slice b n cap, .string x, .string z] ((w6.drewN k).drewN m) fun e w' => e = .returned (.int .i64 (cntB l x z : Nat)) ∧ w' = (w6.drewN k).drewN m) := Lib.hid (fun m => DC.out _ (bdrewN hbk m) x z)
      have QQ : Hid (∀ m u g, (u = z ∧ g = ((cntB l z z : Nat) : Int)) ∨ (u = x ∧ g = ((cntB l x z : Nat) : Int)) → Calls Try.prog 18 #[.slice b n cap, .string u, .string z] ((w6.drewN k).drewN m) fun e w' => e = .returned (.int .i64 g) ∧ w' = (w6.drewN k).drewN m) := Lib.hid (fun m u g hh => by
        rcases hh with ⟨rfl, rfl⟩ | ⟨rfl, rfl⟩
        · exact Q2.out m
        · exact Q4.out m)
      clear Q2 Q4
      generalize ((cntB l z z : Nat) : Int) = g3 at *
      generalize ((cntB l x z : Nat) : Int) = g4 at *
      have e3 : (g3 != g3) = false := by simp
      have e4 : (g4 != g4) = false := by simp
      clear hz hBz hzs hbk
      generalize hW : w6.drewN k = W at *
      have HW := Lib.hid hW
      clear hW
      go_wp2_with fail
      go_quiet (first | (go_at_call 15; refine Calls.quiet_of_same (Q1.out _)) | (go_at_call 18; refine Calls.quiet_of_same (QQ.out _ _ _ (by first | exact .inl ⟨rfl, rfl⟩ | exact .inr ⟨rfl, rfl⟩))) | (go_at_call 12; refine Calls.quiet_of_same (Q3.out _)) | fail)
      go_wp2_with fail
      go_roundw
      case rel => exact ⟨i + 1, k + nq, by omega, by go_num, by rw [← HW.out]; simp⟩
      case measure => simp [intOf]; omega
    · have HB := Lib.hid hbk
      clear hbk
      go_wp2_with fail
      go_ret
      exact ⟨rfl, HB.out⟩
end Go.Proofs.Ytnpjihbaebbbcaa

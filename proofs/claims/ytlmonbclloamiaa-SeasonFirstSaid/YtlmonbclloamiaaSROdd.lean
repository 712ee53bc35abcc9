/- Contract of the document's Odd; season.Odd where nothing is told. -/
import Derived.Test.YtlmonbclloamiaaSPut2
namespace Go.Proofs.Ytlmonbclloamiaa
open Go.RowKit Go.MapKept Go.Maps Wide
set_option linter.unusedVariables false
theorem nowS_mem {wd : Int} {l : List Add10} {k : ByteArray} {now : Int} (h : nowS (addsS wd l) k wd now ≠ 0) : ∃ a ∈ l, a.1 = k := by
  obtain ⟨x, hx, e, _⟩ := mem_of_sget h
  obtain ⟨a, ha, rfl⟩ := List.mem_map.1 hx
  exact ⟨a, (List.mem_filter.1 ha).1, e⟩
/-- the odd keys of the first i adds -/
structure OddSo (A : List Ad) (l : List Add10) (pe bk wd now fl : Int) (i : Nat) (os : List ByteArray) : Prop where
  rise : Rise os
  len : os.length ≤ i
  mem : ∀ x, x ∈ os ↔ (nowS A x wd now ≠ 0 ∧ oddB A pe bk wd now fl x = true) ∧ ∃ a ∈ l.take i, a.1 = x
theorem OddSo.nil (A : List Ad) (l : List Add10) (pe bk wd now fl : Int) : OddSo A l pe bk wd now fl 0 [] := ⟨List.Pairwise.nil, by simp, by simp⟩
theorem OddSo.skip {A : List Ad} {l : List Add10} {pe bk wd now fl : Int} {i : Nat} {os : List ByteArray} {a : Add10} (h : OddSo A l pe bk wd now fl i os) (ha : l[i]? = some a) (hs : ¬ (nowS A a.1 wd now ≠ 0 ∧ oddB A pe bk wd now fl a.1 = true)) : OddSo A l pe bk wd now fl (i + 1) os := by
  refine ⟨h.rise, by have := h.len; omega, fun x => ?_⟩
  rw [h.mem, List.take_add_one, ha]
  constructor
  · rintro ⟨h1, a', h2, h3⟩; exact ⟨h1, a', by simp [h2], h3⟩
  · rintro ⟨h1, a', h2, h3⟩
    rcases List.mem_append.1 h2 with h2 | h2
    · exact ⟨h1, a', h2, h3⟩
    · have : a' = a := by simpa using h2
      subst this; subst h3
      exact absurd h1 hs
theorem OddSo.put {A : List Ad} {l : List Add10} {pe bk wd now fl : Int} {i : Nat} {os : List ByteArray} {a : Add10} (h : OddSo A l pe bk wd now fl i os) (ha : l[i]? = some a) (hs : nowS A a.1 wd now ≠ 0 ∧ oddB A pe bk wd now fl a.1 = true) : OddSo A l pe bk wd now fl (i + 1) (putB os a.1) := by
  refine ⟨putB_rise h.rise _, ?_, fun x => ?_⟩
  · have := h.len
    unfold putB; split
    · omega
    · simp; omega
  rw [putB_mem, h.mem, List.take_add_one, ha]
  constructor
  · rintro (rfl | ⟨h1, a', h2, h3⟩)
    · exact ⟨hs, a, by simp, rfl⟩
    · exact ⟨h1, a', by simp [h2], h3⟩
  · rintro ⟨h1, a', h2, h3⟩
    rcases List.mem_append.1 h2 with h2 | h2
    · exact .inr ⟨h1, a', h2, h3⟩
    · have : a' = a := by simpa using h2
      subst this
      exact .inl h3.symm
theorem OddSo.all {l : List Add10} {pe bk wd now fl : Int} {n : Nat} {os : List ByteArray} (h : OddSo (addsS wd l) l pe bk wd now fl n os) (hn : l.length = n) : OddsOf (addsS wd l) pe bk wd now fl os := by
  refine ⟨h.rise, fun x => ?_⟩
  rw [h.mem, List.take_of_length_le (by omega)]
  exact ⟨fun h => h.1, fun h => ⟨h, nowS_mem h.1⟩⟩
set_option maxRecDepth 100000 in
set_option maxHeartbeats 8000000 in
theorem rodd_yes (b : Option Addr) (cap : Nat) (l : List Add10) (pe bk wd now fl : Int) (w : World) (h : InW w b 3 (l.map a10C)) (hl : l.length ≤ 1000) (ho : ∀ a ∈ l, a10Ok a) (hw2 : wd ≤ 1099511627776) (hr : rightS pe bk wd now = true) (hfl : I64 fl) (h1 : I64 pe) (h2 : I64 bk) (h3 : I64 wd) (h4 : I64 now) :
    Calls Try.prog 22 #[.slice b l.length cap, .agg #[.int .i64 pe, .int .i64 bk], .int .i64 wd, .int .i64 now, .int .i64 fl] w fun e w' => ∃ v os, e = .returned v ∧ OddsOf (addsS wd l) pe bk wd now fl os ∧ TextsAt w' v os ∧ Below w.heap.size w w' := by
  obtain ⟨⟨r1, r2, r3, r4, r5, r6⟩, r7, r8⟩ := (rightS_iff _ _ _ _).1 hr
  have hA := addsS_ok wd r1 l
  have hAl := addsS_length wd l
  obtain ⟨W1, hW1⟩ : ∃ W1, (w.alloc (.cells #[.int .i64 pe, .int .i64 bk] 23)).alloc (.cells #[] 9) = W1 := ⟨_, rfl⟩
  have hb1 : Below w.heap.size w W1 := by rw [← hW1]; exact ((Below.refl _ _).alloc (Nat.le_refl _) _).alloc (by simp) _
  have hbk : Bk W1 w.heap.size [.int .i64 pe, .int .i64 bk] 23 := by rw [← hW1]; exact (Bk.new w _ _).old _
  have htx : TextsAt W1 (.slice (some ⟨w.heap.size + 1, 0, none⟩) 0 0) [] := by
    have hk : Bk W1 (w.heap.size + 1) [] 9 := by rw [← hW1]; exact bk_at _ _ (by simp)
    have h := row_empty (α := ByteArray) (f := tC) (sz := 1) hk
    rw [tC_flat] at h
    exact h
  have hR := rright_any pe bk wd now W1 h1 h2 h3 h4
  rw [hr] at hR
  have HR := Lib.hid hR
  have HB1 := Lib.hid hb1
  have HBK := Lib.hid hbk
  have HTX := Lib.hid htx
  have HW1 := Lib.hid hW1
  have HIW := Lib.hid h
  have HO := Lib.hid ho
  have HTS := Lib.hid (fun k => thenS_bd hA (by omega) k pe wd now bk.toNat)
  have HNB : Hid (∀ k, 0 ≤ nowS (addsS wd l) k wd now ∧ nowS (addsS wd l) k wd now ≤ 1048576000) := Lib.hid (fun k => by
    have h1 := sget_nonneg hA k (now / wd)
    have h2 := sget_le hA k (now / wd)
    unfold nowS; omega)
  have HNO : Hid (∀ (k : ByteArray) W, Below w.heap.size w W → Calls Try.prog 19 #[.slice b l.length cap, .int .i64 wd, .string k, .int .i64 now] W fun e w' => e = .returned (.int .i64 (nowS (addsS wd l) k wd now)) ∧ Below W.heap.size W w') := Lib.hid (fun k W hb => rnow_any b cap l k wd now W (InW.bel h hb) hl ho ⟨r1, hw2⟩ ⟨r7, r8⟩)
  have HTH : Hid (∀ (k : ByteArray) W, Below w.heap.size w W → Calls Try.prog 20 #[.slice b l.length cap, .agg #[.int .i64 pe, .int .i64 bk], .int .i64 wd, .string k, .int .i64 now] W fun e w' => e = .returned (.int .i64 (thenS (addsS wd l) k pe wd now bk.toNat)) ∧ Below W.heap.size W w') := Lib.hid (fun k W hb => rthen_any b cap l k pe bk wd now W (InW.bel h hb) hl ho hw2 hr)
  clear hb1 hbk htx hR h ho hA hAl hr hW1
  have HALL : Hid (∀ os, OddSo (addsS wd l) l pe bk wd now fl l.length os → OddsOf (addsS wd l) pe bk wd now fl os) := Lib.hid (fun os h => h.all rfl)
  unfold I64 at hfl h1 h2 h3 h4
  generalize hn : l.length = n at *
  have Hn := Lib.hid hn
  generalize addsS wd l = A at *
  obtain ⟨N, hN⟩ : ∃ N, w.heap.size = N := ⟨_, rfl⟩
  have HN := Lib.hid hN
  clear hn hN
  go_enter Try.func22, Try.ntmps22
  go_wp2_with fail
  rw [HW1.out]
  refine HR.out.mono ?_
  rintro e w2 ⟨rfl, b2⟩
  have hz1 : W1.heap.size = w.heap.size + 2 := by rw [← HW1.out]; simp
  have HB2 : Hid (Below w.heap.size w w2) := Lib.hid (HB1.out.trans (b2.mono HB1.out.size))
  have HK2 : Hid (Bk w2 N [.int .i64 pe, .int .i64 bk] 23) := Lib.hid (by have := HBK.out.bel b2; rw [HN.out] at this; exact this)
  have HT2 : Hid (TextsAt w2 (.slice (some ⟨w.heap.size + 1, 0, none⟩) 0 0) []) := Lib.hid ((Fr.of_bel (S := none') b2).row HTX.out (fun _ _ => id))
  clear b2 HR HB1 HBK HTX hz1
  go_wp2_with fail
  rw [HN.out]
  rw [HN.out] at HT2
  go_loopw [11, 12] (fun u c wr => ∃ (i : Nat) (os : List ByteArray), i ≤ n ∧ c = .int .i64 i ∧ OddSo A l pe bk wd now fl i os ∧ TextsAt wr u os ∧ Below w2.heap.size w2 wr) (fun _ c _ => n - (intOf c).toNat)
  case atStart => exact ⟨0, [], by omega, rfl, OddSo.nil _ _ _ _ _ _ _, HT2.out, Below.refl _ _⟩
  case round =>
    obtain ⟨i, os, hi, rfl, hso, htx, hbl⟩ := hrel
    have HSO := Lib.hid hso
    have HTX := Lib.hid htx
    have HBL := Lib.hid hbl
    have HBW : Hid (∀ W, Below wr.heap.size wr W → Below w.heap.size w W ∧ Below w2.heap.size w2 W) := Lib.hid (fun W hb => ⟨(HB2.out.trans (HBL.out.mono HB2.out.size)).trans (hb.mono (by have := HB2.out.size; have := HBL.out.size; omega)), HBL.out.trans (hb.mono HBL.out.size)⟩)
    clear hso htx hbl
    by_cases hlt : i < n
    · obtain ⟨a, ha⟩ : ∃ a, l[i]? = some a := ⟨l[i]'(by rw [Hn.out]; exact hlt), List.getElem?_eq_getElem _⟩
      obtain ⟨B, off, hbb, hB, c0, c1, c2⟩ := adds10_at HIW.out ha
      subst hbb
      have HC : Hid (∀ W, Below wr.heap.size wr W → W.cell? ⟨B, off + i * 3, none⟩ = some (.string a.1)) := Lib.hid (fun W hb => ((HBW.out W hb).1.cell (p := ⟨B, off + i * 3, none⟩) hB).trans c0)
      have HCB : Hid (∀ W, Below wr.heap.size wr W → W.cell? ⟨N, 0, none⟩ = some (.int .i64 pe) ∧ W.cell? ⟨N, 1, none⟩ = some (.int .i64 bk)) := Lib.hid (fun W hb => by
        have hk := HK2.out.bel (HBW.out W hb).2
        exact ⟨hk.cell 0, hk.cell 1⟩)
      have g0 := HC.out wr (Below.refl _ _)
      have hi0 : (0 : Int) ≤ (i : Int) := by omega
      have hi1 : (i : Int) < (n : Int) := by omega
      have HA := Lib.hid ha
      have NW := Lib.hid (HNO.out a.1 wr (HBW.out wr (Below.refl _ _)).1)
      have TH := Lib.hid (fun W hb => HTH.out a.1 W (HBW.out W hb).1)
      have tb := HTS.out a.1
      have nb := HNB.out a.1
      have hlen := HSO.out.len
      have HOB : Hid (oddB A pe bk wd now fl a.1 = (decide (fl ≤ nowS A a.1 wd now) && decide (2 * thenS A a.1 pe wd now bk.toNat < nowS A a.1 wd now * bk))) := Lib.hid rfl
      have HXS : Hid (∃ X, nowS A a.1 wd now = X) := Lib.hid ⟨_, rfl⟩
      clear ha c0 c1 c2
      generalize hX : nowS A a.1 wd now = X at *
      have HX := Lib.hid hX
      generalize hT : thenS A a.1 pe wd now bk.toNat = T at *
      clear hX hT
      have hxb : 0 ≤ X * bk ∧ X * bk ≤ 1048576000000 := ⟨Int.mul_nonneg (by omega) (by omega), Int.le_trans (Int.mul_le_mul nb.2 r6 (by omega) (by omega)) (by decide)⟩
      have q1 : IntKind.i64.wrap (X * bk) = X * bk := IntWalk.i64_in _ (by omega)
      have q2 : IntKind.i64.wrap (2 * T) = 2 * T := IntWalk.i64_in _ (by omega)
      go_wp2_with fail
      refine NW.out.mono ?_
      rintro e w3 ⟨rfl, b3⟩
      have HB3 := Lib.hid b3
      have g3 := HC.out w3 b3
      have k3 := HCB.out w3 b3
      obtain ⟨k30, k31⟩ := k3
      clear b3 NW g0
      by_cases x0 : 0 < X
      · have t0 : decide (0 < X) = true := decide_eq_true x0
        by_cases x1 : fl ≤ X
        · have t1 : decide (fl ≤ X) = true := decide_eq_true x1
          have TH3 := Lib.hid (TH.out w3.drew HB3.out.drew)
          have s3 : w3.drew.cell? ⟨B, off + i * 3, none⟩ = some (.string a.1) ∧ w3.drew.cell? ⟨N, 0, none⟩ = some (.int .i64 pe) ∧ w3.drew.cell? ⟨N, 1, none⟩ = some (.int .i64 bk) := ⟨g3, k30, k31⟩
          by_cases x2 : 2 * T < X * bk
          · have t2 : decide (2 * T < X * bk) = true := decide_eq_true x2
            have HOD : Hid (nowS A a.1 wd now ≠ 0 ∧ oddB A pe bk wd now fl a.1 = true) := Lib.hid ⟨by rw [HX.out]; omega, by rw [HOB.out, t1, t2]; rfl⟩
            clear HOB
            go_wp2_with fail
            go_region_held3 (fun Y => Y.cell? ⟨B, off + i * 3, none⟩ = some (.string a.1) ∧ Y.cell? ⟨N, 0, none⟩ = some (.int .i64 pe) ∧ Y.cell? ⟨N, 1, none⟩ = some (.int .i64 bk)) (first | assumption | go_keep)
              (first
                | (go_at_call 20
                   (with_reducible refine TH3.out.mono ?_)
                   rintro e w4 ⟨rfl, b4⟩
                   have HB4 : Hid (Below wr.heap.size wr w4) := Lib.hid (HB3.out.drew.trans (b4.mono HB3.out.drew.size))
                   have s4 : w4.cell? ⟨B, off + i * 3, none⟩ = some (.string a.1) ∧ w4.cell? ⟨N, 0, none⟩ = some (.int .i64 pe) ∧ w4.cell? ⟨N, 1, none⟩ = some (.int .i64 bk) := ⟨HC.out w4 HB4.out, HCB.out w4 HB4.out⟩
                   clear b4)
                | fail)
            have P4 := Lib.hid (put16_any u11 os a.1 w4 ((Fr.of_bel (S := none') HB4.out).row HTX.out (fun _ _ => id)) (by omega) HSO.out.rise)
            have g4 := HC.out w4 HB4.out
            clear g3 k30 k31 s3 q1 q2
            go_wp2_with fail
            refine P4.out.mono ?_
            rintro e w5 ⟨v5, rfl, t5, b5⟩
            have HB5 : Hid (Below w2.heap.size w2 w5) := Lib.hid (HBW.out w5 (HB4.out.trans (b5.mono HB4.out.size))).2
            have HT5 := Lib.hid t5
            clear b5 t5 P4
            go_wp2_with fail
            go_roundw
            case rel => exact ⟨i + 1, putB os a.1, by omega, by go_num, HSO.out.put HA.out HOD.out, HT5.out, HB5.out⟩
            case measure => simp [intOf]; omega
          · have t2 : decide (2 * T < X * bk) = false := decide_eq_false x2
            have HOD : Hid (¬ (nowS A a.1 wd now ≠ 0 ∧ oddB A pe bk wd now fl a.1 = true)) := Lib.hid (fun c => by have := c.2; rw [HOB.out, t2] at this; simp at this)
            clear HOB
            go_wp2_with fail
            go_region_held3 (fun Y => Y.cell? ⟨B, off + i * 3, none⟩ = some (.string a.1) ∧ Y.cell? ⟨N, 0, none⟩ = some (.int .i64 pe) ∧ Y.cell? ⟨N, 1, none⟩ = some (.int .i64 bk)) (first | assumption | go_keep)
              (first
                | (go_at_call 20
                   (with_reducible refine TH3.out.mono ?_)
                   rintro e w4 ⟨rfl, b4⟩
                   have HB4 : Hid (Below wr.heap.size wr w4) := Lib.hid (HB3.out.drew.trans (b4.mono HB3.out.drew.size))
                   have s4 : w4.cell? ⟨B, off + i * 3, none⟩ = some (.string a.1) ∧ w4.cell? ⟨N, 0, none⟩ = some (.int .i64 pe) ∧ w4.cell? ⟨N, 1, none⟩ = some (.int .i64 bk) := ⟨HC.out w4 HB4.out, HCB.out w4 HB4.out⟩
                   clear b4)
                | fail)
            clear g3 k30 k31 s3 q1 q2
            go_wp2_with fail
            go_roundw
            case rel => exact ⟨i + 1, os, by omega, by go_num, HSO.out.skip HA.out HOD.out, (Fr.of_bel (S := none') HB4.out).row HTX.out (fun _ _ => id), (HBW.out w4 HB4.out).2⟩
            case measure => simp [intOf]; omega
        · have t1 : decide (fl ≤ X) = false := decide_eq_false x1
          have HOD : Hid (¬ (nowS A a.1 wd now ≠ 0 ∧ oddB A pe bk wd now fl a.1 = true)) := Lib.hid (fun c => by have := c.2; rw [HOB.out, t1] at this; simp at this)
          clear HOB
          go_wp2_with fail
          go_quiet (fail)
          go_wp2_with fail
          go_roundw
          case rel => exact ⟨i + 1, os, by omega, by go_num, HSO.out.skip HA.out HOD.out, (Fr.of_bel (S := none') (bdrewN HB3.out nq)).row HTX.out (fun _ _ => id), (HBW.out _ (bdrewN HB3.out nq)).2⟩
          case measure => simp [intOf]; omega
      · have t0 : decide (0 < X) = false := decide_eq_false x0
        have HOD : Hid (¬ (nowS A a.1 wd now ≠ 0 ∧ oddB A pe bk wd now fl a.1 = true)) := Lib.hid (fun c => by have := c.1; rw [HX.out] at this; omega)
        clear HOB
        go_wp2_with fail
        go_quiet (fail)
        go_wp2_with fail
        go_roundw
        case rel => exact ⟨i + 1, os, by omega, by go_num, HSO.out.skip HA.out HOD.out, (Fr.of_bel (S := none') (bdrewN HB3.out nq)).row HTX.out (fun _ _ => id), (HBW.out _ (bdrewN HB3.out nq)).2⟩
        case measure => simp [intOf]; omega
    · obtain rfl : i = n := by omega
      go_wp2_with fail
      go_ret
      exact ⟨u11, os, rfl, HALL.out os HSO.out, HTX.out, HB2.out.trans (HBL.out.mono HB2.out.size)⟩
set_option maxHeartbeats 1000000 in
theorem rodd_no (b : Option Addr) (cap n : Nat) (pe bk wd now fl : Int) (w : World) (hr : rightS pe bk wd now = false) (h1 : I64 pe) (h2 : I64 bk) (h3 : I64 wd) (h4 : I64 now) :
    Calls Try.prog 22 #[.slice b n cap, .agg #[.int .i64 pe, .int .i64 bk], .int .i64 wd, .int .i64 now, .int .i64 fl] w fun e w' => ∃ v, e = .returned v ∧ TextsAt w' v [] ∧ Below w.heap.size w w' := by
  obtain ⟨W1, hW1⟩ : ∃ W1, (w.alloc (.cells #[.int .i64 pe, .int .i64 bk] 23)).alloc (.cells #[] 9) = W1 := ⟨_, rfl⟩
  have hb1 : Below w.heap.size w W1 := by rw [← hW1]; exact ((Below.refl _ _).alloc (Nat.le_refl _) _).alloc (by simp) _
  have htx : TextsAt W1 (.slice (some ⟨w.heap.size + 1, 0, none⟩) 0 0) [] := by
    have hk : Bk W1 (w.heap.size + 1) [] 9 := by rw [← hW1]; exact bk_at _ _ (by simp)
    have h := row_empty (α := ByteArray) (f := tC) (sz := 1) hk
    rw [tC_flat] at h
    exact h
  have hR := rright_any pe bk wd now W1 h1 h2 h3 h4
  rw [hr] at hR
  have HR := Lib.hid hR
  have HB1 := Lib.hid hb1
  have HTX := Lib.hid htx
  have HW1 := Lib.hid hW1
  clear hb1 htx hR hr hW1
  go_enter Try.func22, Try.ntmps22
  go_wp2_with fail
  rw [HW1.out]
  refine HR.out.mono ?_
  rintro e w2 ⟨rfl, b2⟩
  have HB2 : Hid (Below w.heap.size w w2) := Lib.hid (HB1.out.trans (b2.mono HB1.out.size))
  have HT2 : Hid (TextsAt w2 (.slice (some ⟨w.heap.size + 1, 0, none⟩) 0 0) []) := Lib.hid ((Fr.of_bel (S := none') b2).row HTX.out (fun _ _ => id))
  clear b2
  go_wp2_with fail
  go_ret
  exact ⟨_, rfl, HT2.out, HB2.out⟩
set_option maxHeartbeats 1000000 in
theorem odd_no (P : Option Addr) (pe bk now fl : Int) (w : World) (hr : ∀ W, Below w.heap.size w W → Calls Try.prog 26 #[.pointer P, .agg #[.int .i64 pe, .int .i64 bk], .int .i64 now] W fun e w' => e = .returned (.bool false) ∧ Below W.heap.size W w') :
    Calls Try.prog 14 #[.pointer P, .agg #[.int .i64 pe, .int .i64 bk], .int .i64 now, .int .i64 fl] w fun e w' => e = .returned (.slice none 0 0) ∧ Below w.heap.size w w' := by
  have hb := (Below.refl w.heap.size w).alloc (Nat.le_refl _) (.cells #[.int .i64 pe, .int .i64 bk] 23)
  have HR := Lib.hid (hr _ hb)
  have HB := Lib.hid hb
  clear hr hb
  go_enter Try.func14, Try.ntmps14
  go_wp2_with fail
  refine HR.out.mono ?_
  rintro e w2 ⟨rfl, b2⟩
  have HB2 : Hid (Below w.heap.size w w2) := Lib.hid (HB.out.trans (b2.mono (by simp)))
  clear b2
  go_wp2_with fail
  go_ret
  exact ⟨rfl, HB2.out⟩
end Go.Proofs.Ytlmonbclloamiaa

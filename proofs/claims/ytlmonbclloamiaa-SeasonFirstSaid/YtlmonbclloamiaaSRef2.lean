/- Layer 44, the document: contracts of In, Now, Then. -/
import Derived.Test.YtlmonbclloamiaaSRef
namespace Go.Proofs.Ytlmonbclloamiaa
open Go.RowKit Go.MapKept Go.Maps Wide
set_option linter.unusedVariables false
theorem inS_take {key : ByteArray} {f wd : Int} {l : List Add10} {i : Nat} {a : Add10} (ha : l[i]? = some a) : inS key f wd (l.take (i + 1)) = inS key f wd (l.take i) + if okB a = true ∧ a.1 = key ∧ f ≤ a.2.1 ∧ a.2.1 < f + wd then a.2.2 else 0 := by
  rw [List.take_add_one, ha, inS_append]
  simp [inS]
set_option maxHeartbeats 4000000 in
theorem in_any (b : Option Addr) (cap : Nat) (l : List Add10) (key : ByteArray) (f wd : Int) (w : World) (h : InW w b 3 (l.map a10C)) (hl : l.length ≤ 1000) (ho : ∀ a ∈ l, a10Ok a) (hf : -2199023255552000 ≤ f ∧ f ≤ 2199023255552000) (hw : 1 ≤ wd ∧ wd ≤ 1099511627776) :
    Calls Try.prog 31 #[.slice b l.length cap, .string key, .int .i64 f, .int .i64 wd] w fun e w' => e = .returned (.int .i64 (inS key f wd l)) ∧ Below w.heap.size w w' := by
  have HIN := Lib.hid h
  have HO := Lib.hid ho
  clear h ho
  generalize hn : l.length = n at *
  have Hn := Lib.hid hn
  clear hn
  go_enter Try.func31, Try.ntmps31
  go_wp2_with fail
  go_loopw [9, 10] (fun u c wr => ∃ i : Nat, i ≤ n ∧ c = .int .i64 i ∧ u = .int .i64 (inS key f wd (l.take i)) ∧ Below w.heap.size w wr) (fun _ c _ => n - (intOf c).toNat)
  case atStart => exact ⟨0, by omega, rfl, rfl, Below.refl _ _⟩
  case round =>
    obtain ⟨i, hi, rfl, rfl, hb⟩ := hrel
    by_cases hlt : i < n
    · obtain ⟨a, ha⟩ : ∃ a, l[i]? = some a := ⟨l[i]'(by rw [Hn.out]; exact hlt), List.getElem?_eq_getElem _⟩
      obtain ⟨B, off, rfl, hB, c0, c1, c2⟩ := adds10_at (InW.bel HIN.out hb) ha
      have hao := HO.out a (List.mem_of_getElem? ha)
      obtain ⟨ao0, ao1, ao2⟩ := hao
      unfold maxLen at ao0
      unfold I64 at ao1 ao2
      have HT := Lib.hid (inS_take (key := key) (f := f) (wd := wd) ha)
      have hbd := inS_bd key f wd (l.take i)
      have hbl : (l.take i).length ≤ 1000 := by rw [List.length_take, Hn.out]; omega
      have RT := Lib.hid (right10_any a wr ao0)
      have hi0 : (0 : Int) ≤ (i : Int) := by omega
      have hi1 : (i : Int) < (n : Int) := by omega
      have HB := Lib.hid hb
      clear ha hb
      generalize hS : inS key f wd (l.take i) = Z at *
      have HZ := Lib.hid hS
      clear hS
      cases hok : okB a with
      | false =>
        rw [hok] at RT
        have HOKB := Lib.hid hok
        clear hok
        go_wp2_with fail
        refine RT.out.mono ?_
        rintro e w2 ⟨rfl, b2⟩
        have HB2 : Hid (Below w.heap.size w w2) := Lib.hid (HB.out.trans (b2.mono HB.out.size))
        clear b2 RT
        go_wp2_with fail
        go_roundw
        case rel => exact ⟨i + 1, by omega, by go_num, by rw [HT.out, if_neg (by rw [HOKB.out]; simp), Int.add_zero], HB2.out⟩
        case measure => simp [intOf]; omega
      | true =>
        have hao2 := (okB_iff a).1 hok
        rw [hok] at RT
        have HOKB := Lib.hid hok
        clear hok
        have c0' : Hid (∀ w2, Below wr.heap.size wr w2 → w2.cell? ⟨B, off + i * 3, none⟩ = some (.string a.1) ∧ w2.cell? ⟨B, off + i * 3 + 1, none⟩ = some (.int .i64 a.2.1) ∧ w2.cell? ⟨B, off + i * 3 + 2, none⟩ = some (.int .i64 a.2.2)) := Lib.hid (fun w2 b2 => ⟨(b2.cell (p := ⟨B, _, none⟩) hB).trans c0, (b2.cell (p := ⟨B, _, none⟩) hB).trans c1, (b2.cell (p := ⟨B, _, none⟩) hB).trans c2⟩)
        go_wp2_with fail
        refine RT.out.mono ?_
        rintro e w2 ⟨rfl, b2⟩
        have HB2 : Hid (Below w.heap.size w w2) := Lib.hid (HB.out.trans (b2.mono HB.out.size))
        obtain ⟨d0, d1, d2⟩ := c0'.out w2 b2
        clear b2 RT c0 c1 c2
        by_cases hk : a.1 = key
        · have t1 : (a.1.toList == key.toList) = true := by rw [bytesEq]; exact decide_eq_true hk
          by_cases h1 : f ≤ a.2.1
          · by_cases h2 : a.2.1 < f + wd
            · have HV : Hid (inS key f wd (l.take (i + 1)) = Z + a.2.2) := Lib.hid (by rw [HT.out, if_pos ⟨HOKB.out, hk, h1, h2⟩])
              clear hk HT
              go_wp2_with fail
              go_roundw
              case rel => exact ⟨i + 1, by omega, by go_num, by rw [HV.out], HB2.out⟩
              case measure => simp [intOf]; omega
            · have HV : Hid (inS key f wd (l.take (i + 1)) = Z) := Lib.hid (by rw [HT.out, if_neg (fun c => h2 c.2.2.2), Int.add_zero])
              clear hk HT
              go_wp2_with fail
              go_roundw
              case rel => exact ⟨i + 1, by omega, by go_num, by rw [HV.out], HB2.out⟩
              case measure => simp [intOf]; omega
          · have HV : Hid (inS key f wd (l.take (i + 1)) = Z) := Lib.hid (by rw [HT.out, if_neg (fun c => h1 c.2.2.1), Int.add_zero])
            clear hk HT
            go_wp2_with fail
            go_roundw
            case rel => exact ⟨i + 1, by omega, by go_num, by rw [HV.out], HB2.out⟩
            case measure => simp [intOf]; omega
        · have t1 : (a.1.toList == key.toList) = false := by rw [bytesEq]; exact decide_eq_false hk
          have HV : Hid (inS key f wd (l.take (i + 1)) = Z) := Lib.hid (by rw [HT.out, if_neg (fun c => hk c.2.1), Int.add_zero])
          clear hk HT
          go_wp2_with fail
          go_roundw
          case rel => exact ⟨i + 1, by omega, by go_num, by rw [HV.out], HB2.out⟩
          case measure => simp [intOf]; omega
    · obtain rfl : i = n := by omega
      have htk : l.take i = l := List.take_of_length_le (by rw [Hn.out]; exact Nat.le_refl _)
      rw [htk]
      have HB := Lib.hid hb
      clear hb
      go_wp2_with fail
      go_ret
      exact ⟨rfl, HB.out⟩
theorem begin_bd {wd now : Int} (r1 : 1 ≤ wd) (r7 : 0 ≤ now) (r8 : now ≤ 1099511627776) : 0 ≤ now - now % wd ∧ now - now % wd ≤ 1099511627776 ∧ 0 ≤ now % wd ∧ now % wd < wd := by
  have h1 := Int.mul_ediv_add_emod now wd
  have h2 : 0 ≤ now / wd := Int.ediv_nonneg r7 (by omega)
  have h3 : 0 ≤ wd * (now / wd) := Int.mul_nonneg (by omega) h2
  have h4 := Int.emod_nonneg now (show wd ≠ 0 by omega)
  have h5 := Int.emod_lt_of_pos now (show 0 < wd by omega)
  omega
set_option maxHeartbeats 1000000 in
theorem rnow_any (b : Option Addr) (cap : Nat) (l : List Add10) (key : ByteArray) (wd now : Int) (w : World) (h : InW w b 3 (l.map a10C)) (hl : l.length ≤ 1000) (ho : ∀ a ∈ l, a10Ok a) (hw : 1 ≤ wd ∧ wd ≤ 1099511627776) (hn : 0 ≤ now ∧ now ≤ 1099511627776) :
    Calls Try.prog 19 #[.slice b l.length cap, .int .i64 wd, .string key, .int .i64 now] w fun e w' => e = .returned (.int .i64 (nowS (addsS wd l) key wd now)) ∧ Below w.heap.size w w' := by
  have hb := begin_bd hw.1 hn.1 hn.2
  have hI := in_any b cap l key (now - now % wd) wd w h hl ho (by omega) hw
  have e1 : now - now % wd = wd * (now / wd) := by have := Int.mul_ediv_add_emod now wd; omega
  have e2 : inS key (now - now % wd) wd l = nowS (addsS wd l) key wd now := by rw [e1, inS_sget hw.1]; rfl
  rw [e2] at hI
  have HI := Lib.hid hI
  clear hI e1 e2 h ho
  generalize nowS (addsS wd l) key wd now = X at *
  generalize l.length = n at *
  go_enter Try.func19, Try.ntmps19
  go_wp2_with fail
  refine HI.out.mono ?_
  rintro e w2 ⟨rfl, b2⟩
  have HB2 := Lib.hid b2
  clear b2
  go_wp2_with fail
  go_ret
  exact ⟨rfl, HB2.out⟩
set_option maxRecDepth 100000 in
set_option maxHeartbeats 4000000 in
theorem rthen_any (b : Option Addr) (cap : Nat) (l : List Add10) (key : ByteArray) (pe bk wd now : Int) (w : World) (h : InW w b 3 (l.map a10C)) (hl : l.length ≤ 1000) (ho : ∀ a ∈ l, a10Ok a) (hw2 : wd ≤ 1099511627776) (hr : rightS pe bk wd now = true) :
    Calls Try.prog 20 #[.slice b l.length cap, .agg #[.int .i64 pe, .int .i64 bk], .int .i64 wd, .string key, .int .i64 now] w fun e w' => e = .returned (.int .i64 (thenS (addsS wd l) key pe wd now bk.toNat)) ∧ Below w.heap.size w w' := by
  obtain ⟨⟨r1, r2, r3, r4, r5, r6⟩, r7, r8⟩ := (rightS_iff _ _ _ _).1 hr
  obtain ⟨n, rfl⟩ : ∃ n : Nat, bk = n := ⟨bk.toNat, by omega⟩
  have e0 : ((n : Int)).toNat = n := rfl
  rw [e0]
  clear e0
  have hb := begin_bd r1 r7 r8
  have hbw := (Below.refl w.heap.size w).alloc (Nat.le_refl _) (.cells #[.int .i64 pe, .int .i64 (n : Int)] 23)
  have hbk := Bk.new w [.int .i64 pe, .int .i64 (n : Int)] 23
  have HTS := Lib.hid (fun m => thenS_bd (addsS_ok wd r1 l) (by have := addsS_length wd l; omega) key pe wd now m)
  have HI : Hid (∀ (i : Int) (W : World), 0 ≤ i → i ≤ 1000 → Below w.heap.size w W → Calls Try.prog 31 #[.slice b l.length cap, .string key, .int .i64 (now - now % wd - i * pe), .int .i64 wd] W fun e w' => e = .returned (.int .i64 (sget (addsS wd l) key (agoQ pe wd now i))) ∧ Below W.heap.size W w') := Lib.hid (fun i W h0 h1 hbW => by
    have hp := prod_le h0 h1 r2 r3
    have := in_any b cap l key (now - now % wd - i * pe) wd W (InW.bel h hbW) hl ho (by omega) ⟨r1, hw2⟩
    have e2 : inS key (now - now % wd - i * pe) wd l = sget (addsS wd l) key (agoQ pe wd now i) := by rw [ago_from hr, inS_sget r1]
    rw [e2] at this
    exact this)
  obtain ⟨N, hN⟩ : ∃ N, w.heap.size = N := ⟨_, rfl⟩
  have HN := Lib.hid hN
  have HBW := Lib.hid hbw
  have HBK := Lib.hid hbk
  generalize hA : addsS wd l = A at *
  clear hA hr h ho hbw hbk hN
  generalize l.length = ll at *
  go_enter Try.func20, Try.ntmps20
  go_wp2_with fail
  rw [HN.out]
  go_loopw [11, 12] (fun u c wr => ∃ j : Nat, j ≤ n ∧ c = .int .i64 ((j : Int) + 1) ∧ u = .int .i64 (thenS A key pe wd now j) ∧ Below w.heap.size w wr ∧ Bk wr N [.int .i64 pe, .int .i64 (n : Int)] 23) (fun _ c _ => n + 1 - (intOf c).toNat)
  case atStart => exact ⟨0, by omega, by go_num, rfl, HBW.out, by have := HBK.out; rw [HN.out] at this; exact this⟩
  case round =>
    obtain ⟨j, hj, rfl, rfl, hbl, hbk⟩ := hrel
    have k0 := hbk.cell 0
    have k1 := hbk.cell 1
    have t1 := HTS.out j
    have t2 := HTS.out (j + 1)
    by_cases hlt : j < n
    · have hp := prod_le (n := (j : Int) + 1) (pe := pe) (by omega) (by omega) r2 r3
      have HS : Hid (thenS A key pe wd now (j + 1) = thenS A key pe wd now j + sget A key (agoQ pe wd now ((j : Int) + 1))) := Lib.hid rfl
      rw [HS.out] at t2
      have q1 : IntKind.i64.wrap (((j : Int) + 1) * pe) = ((j : Int) + 1) * pe := IntWalk.i64_in _ (by omega)
      have q0 : now.tmod wd = now % wd := Int.tmod_eq_emod_of_nonneg r7
      have q0' : IntKind.i64.wrap (now % wd) = now % wd := IntWalk.i64_in _ (by omega)
      have hz : (wd == 0) = false := by simp; omega
      have hz' : wd ≠ 0 := by omega
      have q2 : IntKind.i64.wrap (now - now % wd) = now - now % wd := IntWalk.i64_in _ (by omega)
      have q3 : IntKind.i64.wrap (now - now % wd - ((j : Int) + 1) * pe) = now - now % wd - ((j : Int) + 1) * pe := IntWalk.i64_in _ (by omega)
      have IN := Lib.hid (HI.out ((j : Int) + 1) wr.drew (by omega) (by omega) hbl.drew)
      generalize sget A key (agoQ pe wd now ((j : Int) + 1)) = X at *
      generalize hT : thenS A key pe wd now j = T at *
      have HT := Lib.hid hT
      have HBL := Lib.hid hbl
      have HBKr := Lib.hid hbk
      clear hT hbl hbk
      have q4 : IntKind.i64.wrap (T + X) = T + X := IntWalk.i64_in _ (by omega)
      go_wp2_with fail
      go_region_held3 (fun Y => Y.cell? ⟨N, 0, none⟩ = some (.int .i64 pe)) (first | assumption | go_keep)
        (first
          | (go_at_call 31
             (with_reducible refine IN.out.mono ?_)
             rintro e w4 ⟨rfl, b4⟩
             have HB4 : Hid (Below w.heap.size w w4) := Lib.hid (HBL.out.drew.trans (b4.mono HBL.out.drew.size))
             have HK4 := Lib.hid ((HBKr.out.fr (Fr.refl none' wr).drew id).bel b4)
             have hS4 : w4.cell? ⟨N, 0, none⟩ = some (.int .i64 pe) := HK4.out.cell 0
             clear b4)
          | fail)
      clear q0 q0' q1 q2 q3 q4
      go_wp2_with fail
      go_roundw
      case rel => exact ⟨j + 1, by omega, by go_num, by rw [HS.out], HB4.out, HK4.out⟩
      case measure => simp [intOf]; omega
    · obtain rfl : j = n := by omega
      have HBL := Lib.hid hbl
      clear hbl hbk
      go_wp2_with fail
      go_ret
      exact ⟨rfl, HBL.out⟩
end Go.Proofs.Ytlmonbclloamiaa

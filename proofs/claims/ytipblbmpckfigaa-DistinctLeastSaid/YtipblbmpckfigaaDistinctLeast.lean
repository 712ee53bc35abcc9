/- For every input ciceronelaw13.DistinctLeast returns true, and its arguments read behind the call as before. No conditions. -/
import Derived.Test.YtipblbmpckfigaaDMisc
import Derived.Test.YtipblbmpckfigaaDUnl
import Derived.Test.YtipblbmpckfigaaRows
import Derived.ProofKit
import Derived.OpenShut
import Derived.ShutString
import Derived.ChangeOld
import Derived.Below
import Derived.Lib.SmallJoins
namespace Go.Proofs.Ytipblbmpckfigaa.distinctLeast
open Go.ChangeShapes Go.WideShapes Go.ChangeAt Go.RowKit Go.Joins
open Go.ChangeMaps (open_string shut_string)
set_option linter.unusedVariables false

open Dist
theorem dec_mem_true {a : Int} {T : List Int} {j : Nat} {x : Int} (h : decide (a ∈ T.take j) = true) (hx : T[j]? = some x) : decide (a ∈ T.take (j + 1)) = true := by
  rw [List.take_add_one, hx]
  have := of_decide_eq_true h
  exact decide_eq_true (List.mem_append.2 (.inl this))
theorem dec_mem_false {a : Int} {T : List Int} {j : Nat} {x : Int} (h : decide (a ∈ T.take j) = false) (hx : T[j]? = some x) : decide (a ∈ T.take (j + 1)) = decide (a = x) := by
  rw [List.take_add_one, hx]
  have := of_decide_eq_false h
  simp [this]
set_option maxHeartbeats 2000000 in
set_option maxRecDepth 100000 in
theorem walk_exact (w : World) (k : Int) (wk : (Lit.int .i64 k).wf = true) (b : Option Addr) (cap : Nat) (xs : List ByteArray) (hl : xs.length ≤ cap) (hm : cap ≤ maxLen) (hi : InW w b 1 (xs.map fun s => [.string s])) (ho : ∀ s ∈ xs, s.size ≤ maxLen) (hlong : longB xs = false) (hz : ¬ sizeK k < (allOf (hs xs) []).length) :
    Calls Try.prog 7 #[.int .i64 k, .slice b xs.length cap] w fun e w' => e = .returned (.bool true) ∧ Below w.heap.size w w' := by
  have HLo := Lib.hid (long_any b cap xs w hi hm hl ho)
  unfold maxLen at hm
  rw [hlong] at HLo
  have hsh := (short_of hlong).1
  have HF := Lib.hid (fill_any k b cap xs w hi ho (by omega))
  have HU := Lib.hid (fun wx (h : Strs wx b xs) => unlike_any b cap xs wx h ho (by omega))
  have HM : Hid (∀ s ∈ xs, hash s.data.toList ∈ allOf (hs xs) []) := fun s hs' => (mem_all _).2 (.inl (List.mem_map.2 ⟨s, hs', rfl⟩))
  have hKb := sizeK_bd k
  have hLl : (allOf (hs xs) []).length ≤ 1000000 := by have := all_length (hs xs) []; have h2 : (hs xs).length = xs.length := List.length_map _; simp only [List.length_nil] at this; omega
  clear hlong
  generalize hn : xs.length = n at *
  have Hn := Lib.hid hn
  clear hn
  generalize sizeK k = K at *
  obtain ⟨hK1, hK2⟩ := hKb
  unfold FillPost at HF
  generalize allOf (hs xs) [] = L at *
  obtain ⟨ll, hll⟩ : ∃ ll, leastOf K L = ll := ⟨_, rfl⟩
  obtain ⟨cc, hcc⟩ : ∃ cc, countOf K L = cc := ⟨_, rfl⟩
  obtain ⟨T, hT⟩ : ∃ T, L.take K = T := ⟨_, rfl⟩
  have hTl : T.length ≤ 1000000 := by rw [← hT, List.length_take]; omega
  have h1 : ll ≤ L.length := by rw [← hll]; unfold leastOf; split <;> omega
  have h2 : (ll : Int) ≤ cc := by
    rw [← hll, ← hcc]; unfold leastOf countOf
    split
    · have := nearly_ge K (L.getD (K - 1) 0) hK2; push_cast; exact this
    · omega
  have hzz : (!decide (K < L.length)) = true := by simp; omega
  have h3 : cc = L.length := by rw [← hcc]; unfold countOf; rw [if_neg hz]
  have hTL : T = L := by rw [← hT]; exact List.take_of_length_le (by omega)
  have HTL := Lib.hid hTL
  clear hTL
  have HT := Lib.hid hT
  have HC : Hid (∀ wx v, Cnt wx w.heap.size v K L → Calls Try.prog 15 #[.pointer (some ⟨w.heap.size, 0, none⟩)] wx fun e w' => e = .returned (.int .i64 cc) ∧ Below wx.heap.size wx w') := by
    intro wx v c; have := Count_any w.heap.size K v L wx c; rw [hcc] at this; exact this
  have HLe : Hid (∀ wx v, Cnt wx w.heap.size v K L → Calls Try.prog 17 #[.pointer (some ⟨w.heap.size, 0, none⟩)] wx fun e w' => e = .returned (.int .i64 ll) ∧ wx = w') := by
    intro wx v c; have := Least_any w.heap.size K v L wx c; rw [hll] at this; exact this
  have HEx : Hid (∀ wx v, Cnt wx w.heap.size v K L → Calls Try.prog 16 #[.pointer (some ⟨w.heap.size, 0, none⟩)] wx fun e w' => e = .returned (.bool true) ∧ wx = w') := by
    intro wx v c; have := Exact_any w.heap.size K v L wx c; rw [hzz] at this; exact this
  generalize hLn : L.length = Ln at *
  clear hT hll hcc hzz hLn
  go_enter Try.func7, Try.ntmps7
  go_wp2_with fail
  refine HLo.out.mono ?_
  rintro e w1 ⟨rfl, rfl⟩
  go_wp2_with fail
  refine HF.out.mono ?_
  rintro e w1 ⟨v, rfl, C, hv, B1⟩
  go_wp2_with fail
  refine (HU.out _ (Strs.bel hi B1)).mono ?_
  rintro e w2 ⟨⟨u, hu, rfl, hLu⟩, b2⟩
  replace C := C.bel b2
  have B2 : Below w.heap.size w w2 := B1.trans (b2.mono B1.size)
  have HB2 := Lib.hid B2
  have k1 : (ll : Int) ≤ (u : Int) := by omega
  have t0 : decide (u < ll) = false := decide_eq_false (by omega)
  have t1 : decide (cc < (ll : Int)) = false := decide_eq_false (by omega)
  have k2 : cc ≤ (u : Int) := by rw [h3]; omega
  clear h3
  have t2 : decide ((u : Int) < cc) = false := decide_eq_false (by omega)
  clear b2 B1 B2 HF HU HLo
  go_wp2_with fail
  refine (HLe.out _ _ C).mono ?_
  rintro e w3 ⟨rfl, rfl⟩
  go_wp2_with fail
  refine (HC.out _ _ C).mono ?_
  rintro e w3 ⟨rfl, b3⟩
  replace C := C.bel b3
  have B3 : Below w.heap.size w w3 := HB2.out.trans (b3.mono HB2.out.size)
  clear b3 HB2
  go_wp2_with fail
  refine (HLe.out _ _ C).mono ?_
  rintro e w4 ⟨rfl, rfl⟩
  go_wp2_with fail
  refine (HEx.out _ _ C).mono ?_
  rintro e w4 ⟨rfl, rfl⟩
  go_wp2_with fail
  refine (HC.out _ _ C).mono ?_
  rintro e w4 ⟨rfl, b4⟩
  replace C := C.bel b4
  replace B3 : Below w.heap.size w w4 := B3.trans (b4.mono B3.size)
  clear b4
  clear HC HLe
  go_wp2_with fail
  go_loopg [45] n (fun m c wr => ∃ (i : Nat), i ≤ n ∧ n - i ≤ m ∧ c = .int .i64 i ∧ Cnt wr w.heap.size v K L ∧ Below w.heap.size w wr)
  case atStart => exact ⟨0, by omega, by omega, rfl, C, B3⟩
  case round =>
    clear C B3
    obtain ⟨i, hin, hmi, rfl, C, hB⟩ := hrel
    by_cases hlt : i < n
    · obtain ⟨s, hs'⟩ : ∃ s, xs[i]? = some s := ⟨xs[i]'(by have := Hn.out; omega), List.getElem?_eq_getElem _⟩
      obtain ⟨B, off, rfl, hBl, hc⟩ := Strs.at hi hs'
      have hsz : s.size ≤ maxLen := ho s (List.mem_of_getElem? hs')
      have c1 := hB.cell (p := ⟨B, off + i, none⟩) hBl
      rw [hc] at c1
      clear hc
      have HMs := Lib.hid (HM.out s (List.mem_of_getElem? hs'))
      have HH := Lib.hid (fun w => hash_any s w hsz)
      clear hs'
      generalize hash s.data.toList = hh at *
      go_wp2_with fail
      refine (Hashes_as w.heap.size K v L T _ C HT.out).mono ?_
      rintro e w5 ⟨vt, rfl, RT, hvt, b5⟩
      replace C := C.bel b5
      have B5 : Below w.heap.size w w5 := hB.trans (b5.mono hB.size)
      obtain ⟨p1, q1, rfl, hq1, hq2, N1, _⟩ := nums_of_row RT
      unfold maxLen at hq2
      clear RT hvt b5 hB c1
      generalize hnt : T.length = nt at *
      have Hnt := Lib.hid hnt
      have HN1 := Lib.hid N1
      clear hnt N1
      go_wp2_with fail
      go_loop [9, 52] (fun s9 c => ∃ (j : Nat) (f : Bool), j ≤ nt ∧ c = .int .i64 j ∧ s9 = .bool f ∧ f = decide (hh ∈ T.take j)) (fun _ c => nt - (intOf c).toNat)
      case atStart => exact ⟨0, false, by omega, rfl, rfl, by simp⟩
      case round =>
        obtain ⟨j, f, hj, rfl, rfl, hf⟩ := hrel
        have Hf := Lib.hid hf
        clear hf
        by_cases hjl : j < nt
        · obtain ⟨x, hx⟩ : ∃ x, T[j]? = some x := ⟨T[j]'(by have := Hnt.out; omega), List.getElem?_eq_getElem _⟩
          obtain ⟨B', o', rfl, lb, cx⟩ := HN1.out.at hx
          have HXx := Lib.hid hx
          clear hx
          cases f
          · have hne := dec_mem_false Hf.out.symm HXx.out
            by_cases hxh : x = hh
            · have HK : Hid (true = decide (hh ∈ T.take (j + 1))) := by show true = _; rw [hne, hxh]; simp
              have t1 : (x == hh) = true := by simp [hxh]
              clear hne hxh
              go_wp2_with fail
              refine (HH.out _).mono ?_
              rintro e w1 ⟨rfl, rfl⟩
              go_wp2_with fail
              go_round
              case rel => exact ⟨j + 1, true, by omega, by go_num, rfl, HK.out⟩
              case measure => simp [intOf]; omega
            · have HK : Hid (false = decide (hh ∈ T.take (j + 1))) := by show false = _; rw [hne, decide_eq_false (fun e => hxh e.symm)]
              have t1 : (x == hh) = false := by simp [hxh]
              clear hne hxh
              go_wp2_with fail
              refine (HH.out _).mono ?_
              rintro e w1 ⟨rfl, rfl⟩
              go_wp2_with fail
              go_round
              case rel => exact ⟨j + 1, false, by omega, by go_num, rfl, HK.out⟩
              case measure => simp [intOf]; omega
          · have HK : Hid (true = decide (hh ∈ T.take (j + 1))) := (dec_mem_true Hf.out.symm HXx.out).symm
            go_wp2_with fail
            go_round
            case rel => exact ⟨j + 1, true, by omega, by go_num, rfl, HK.out⟩
            case measure => simp [intOf]; omega
        · obtain rfl : j = nt := by omega
          have hft : f = true := by
            have h1 := Hf.out
            rw [List.take_of_length_le (by have := Hnt.out; omega), HTL.out] at h1
            rw [h1]
            exact decide_eq_true HMs.out
          subst hft
          clear Hf
          go_wp2_with fail
          refine (HEx.out _ _ C).mono ?_
          rintro e w6 ⟨rfl, rfl⟩
          go_wp2_with fail
          go_roundg (n - (i + 1))
          case measure => omega
          case rel => exact ⟨i + 1, by omega, Nat.le_refl _, by go_num, C, B5⟩
    · obtain rfl : i = n := by omega
      go_wp2_with fail
      refine (awake_any _).mono ?_
      rintro e w9 ⟨rfl, b9⟩
      go_wp2_with fail
      go_ret
      exact ⟨rfl, hB.trans (b9.mono hB.size)⟩
set_option maxHeartbeats 2000000 in
set_option maxRecDepth 100000 in
theorem walk_near (w : World) (k : Int) (wk : (Lit.int .i64 k).wf = true) (b : Option Addr) (cap : Nat) (xs : List ByteArray) (hl : xs.length ≤ cap) (hm : cap ≤ maxLen) (hi : InW w b 1 (xs.map fun s => [.string s])) (ho : ∀ s ∈ xs, s.size ≤ maxLen) (hlong : longB xs = false) (hz :  sizeK k < (allOf (hs xs) []).length) :
    Calls Try.prog 7 #[.int .i64 k, .slice b xs.length cap] w fun e w' => e = .returned (.bool true) ∧ Below w.heap.size w w' := by
  have HLo := Lib.hid (long_any b cap xs w hi hm hl ho)
  unfold maxLen at hm
  rw [hlong] at HLo
  have hsh := (short_of hlong).1
  have HF := Lib.hid (fill_any k b cap xs w hi ho (by omega))
  have HU := Lib.hid (fun wx (h : Strs wx b xs) => unlike_any b cap xs wx h ho (by omega))
  have HM : Hid (∀ s ∈ xs, hash s.data.toList ∈ allOf (hs xs) []) := fun s hs' => (mem_all _).2 (.inl (List.mem_map.2 ⟨s, hs', rfl⟩))
  have hKb := sizeK_bd k
  have hLl : (allOf (hs xs) []).length ≤ 1000000 := by have := all_length (hs xs) []; have h2 : (hs xs).length = xs.length := List.length_map _; simp only [List.length_nil] at this; omega
  clear hlong
  generalize hn : xs.length = n at *
  have Hn := Lib.hid hn
  clear hn
  generalize sizeK k = K at *
  obtain ⟨hK1, hK2⟩ := hKb
  unfold FillPost at HF
  generalize allOf (hs xs) [] = L at *
  obtain ⟨ll, hll⟩ : ∃ ll, leastOf K L = ll := ⟨_, rfl⟩
  obtain ⟨cc, hcc⟩ : ∃ cc, countOf K L = cc := ⟨_, rfl⟩
  obtain ⟨T, hT⟩ : ∃ T, L.take K = T := ⟨_, rfl⟩
  have hTl : T.length ≤ 1000000 := by rw [← hT, List.length_take]; omega
  have h1 : ll ≤ L.length := by rw [← hll]; unfold leastOf; split <;> omega
  have h2 : (ll : Int) ≤ cc := by
    rw [← hll, ← hcc]; unfold leastOf countOf
    split
    · have := nearly_ge K (L.getD (K - 1) 0) hK2; push_cast; exact this
    · omega
  have hzz : (!decide (K < L.length)) = false := by simp; omega
  have HT := Lib.hid hT
  have HC : Hid (∀ wx v, Cnt wx w.heap.size v K L → Calls Try.prog 15 #[.pointer (some ⟨w.heap.size, 0, none⟩)] wx fun e w' => e = .returned (.int .i64 cc) ∧ Below wx.heap.size wx w') := by
    intro wx v c; have := Count_any w.heap.size K v L wx c; rw [hcc] at this; exact this
  have HLe : Hid (∀ wx v, Cnt wx w.heap.size v K L → Calls Try.prog 17 #[.pointer (some ⟨w.heap.size, 0, none⟩)] wx fun e w' => e = .returned (.int .i64 ll) ∧ wx = w') := by
    intro wx v c; have := Least_any w.heap.size K v L wx c; rw [hll] at this; exact this
  have HEx : Hid (∀ wx v, Cnt wx w.heap.size v K L → Calls Try.prog 16 #[.pointer (some ⟨w.heap.size, 0, none⟩)] wx fun e w' => e = .returned (.bool false) ∧ wx = w') := by
    intro wx v c; have := Exact_any w.heap.size K v L wx c; rw [hzz] at this; exact this
  generalize hLn : L.length = Ln at *
  clear hT hll hcc hzz hLn
  go_enter Try.func7, Try.ntmps7
  go_wp2_with fail
  refine HLo.out.mono ?_
  rintro e w1 ⟨rfl, rfl⟩
  go_wp2_with fail
  refine HF.out.mono ?_
  rintro e w1 ⟨v, rfl, C, hv, B1⟩
  go_wp2_with fail
  refine (HU.out _ (Strs.bel hi B1)).mono ?_
  rintro e w2 ⟨⟨u, hu, rfl, hLu⟩, b2⟩
  replace C := C.bel b2
  have B2 : Below w.heap.size w w2 := B1.trans (b2.mono B1.size)
  have HB2 := Lib.hid B2
  have k1 : (ll : Int) ≤ (u : Int) := by omega
  have t0 : decide (u < ll) = false := decide_eq_false (by omega)
  have t1 : decide (cc < (ll : Int)) = false := decide_eq_false (by omega)
  clear b2 B1 B2 HF HU HLo
  go_wp2_with fail
  refine (HLe.out _ _ C).mono ?_
  rintro e w3 ⟨rfl, rfl⟩
  go_wp2_with fail
  refine (HC.out _ _ C).mono ?_
  rintro e w3 ⟨rfl, b3⟩
  replace C := C.bel b3
  have B3 : Below w.heap.size w w3 := HB2.out.trans (b3.mono HB2.out.size)
  clear b3 HB2
  go_wp2_with fail
  refine (HLe.out _ _ C).mono ?_
  rintro e w4 ⟨rfl, rfl⟩
  go_wp2_with fail
  refine (HEx.out _ _ C).mono ?_
  rintro e w4 ⟨rfl, rfl⟩
  clear HC HLe
  go_wp2_with fail
  go_loopg [45] n (fun m c wr => ∃ (i : Nat), i ≤ n ∧ n - i ≤ m ∧ c = .int .i64 i ∧ Cnt wr w.heap.size v K L ∧ Below w.heap.size w wr)
  case atStart => exact ⟨0, by omega, by omega, rfl, C, B3⟩
  case round =>
    clear C B3
    obtain ⟨i, hin, hmi, rfl, C, hB⟩ := hrel
    by_cases hlt : i < n
    · obtain ⟨s, hs'⟩ : ∃ s, xs[i]? = some s := ⟨xs[i]'(by have := Hn.out; omega), List.getElem?_eq_getElem _⟩
      obtain ⟨B, off, rfl, hBl, hc⟩ := Strs.at hi hs'
      have hsz : s.size ≤ maxLen := ho s (List.mem_of_getElem? hs')
      have c1 := hB.cell (p := ⟨B, off + i, none⟩) hBl
      rw [hc] at c1
      clear hc
      have HMs := Lib.hid (HM.out s (List.mem_of_getElem? hs'))
      have HH := Lib.hid (fun w => hash_any s w hsz)
      clear hs'
      generalize hash s.data.toList = hh at *
      go_wp2_with fail
      refine (Hashes_as w.heap.size K v L T _ C HT.out).mono ?_
      rintro e w5 ⟨vt, rfl, RT, hvt, b5⟩
      replace C := C.bel b5
      have B5 : Below w.heap.size w w5 := hB.trans (b5.mono hB.size)
      obtain ⟨p1, q1, rfl, hq1, hq2, N1, _⟩ := nums_of_row RT
      unfold maxLen at hq2
      clear RT hvt b5 hB c1
      generalize hnt : T.length = nt at *
      have Hnt := Lib.hid hnt
      have HN1 := Lib.hid N1
      clear hnt N1
      go_wp2_with fail
      go_loop [9, 52] (fun s9 c => ∃ (j : Nat) (f : Bool), j ≤ nt ∧ c = .int .i64 j ∧ s9 = .bool f ∧ f = decide (hh ∈ T.take j)) (fun _ c => nt - (intOf c).toNat)
      case atStart => exact ⟨0, false, by omega, rfl, rfl, by simp⟩
      case round =>
        obtain ⟨j, f, hj, rfl, rfl, hf⟩ := hrel
        have Hf := Lib.hid hf
        clear hf
        by_cases hjl : j < nt
        · obtain ⟨x, hx⟩ : ∃ x, T[j]? = some x := ⟨T[j]'(by have := Hnt.out; omega), List.getElem?_eq_getElem _⟩
          obtain ⟨B', o', rfl, lb, cx⟩ := HN1.out.at hx
          have HXx := Lib.hid hx
          clear hx
          cases f
          · have hne := dec_mem_false Hf.out.symm HXx.out
            by_cases hxh : x = hh
            · have HK : Hid (true = decide (hh ∈ T.take (j + 1))) := by show true = _; rw [hne, hxh]; simp
              have t1 : (x == hh) = true := by simp [hxh]
              clear hne hxh
              go_wp2_with fail
              refine (HH.out _).mono ?_
              rintro e w1 ⟨rfl, rfl⟩
              go_wp2_with fail
              go_round
              case rel => exact ⟨j + 1, true, by omega, by go_num, rfl, HK.out⟩
              case measure => simp [intOf]; omega
            · have HK : Hid (false = decide (hh ∈ T.take (j + 1))) := by show false = _; rw [hne, decide_eq_false (fun e => hxh e.symm)]
              have t1 : (x == hh) = false := by simp [hxh]
              clear hne hxh
              go_wp2_with fail
              refine (HH.out _).mono ?_
              rintro e w1 ⟨rfl, rfl⟩
              go_wp2_with fail
              go_round
              case rel => exact ⟨j + 1, false, by omega, by go_num, rfl, HK.out⟩
              case measure => simp [intOf]; omega
          · have HK : Hid (true = decide (hh ∈ T.take (j + 1))) := (dec_mem_true Hf.out.symm HXx.out).symm
            go_wp2_with fail
            go_round
            case rel => exact ⟨j + 1, true, by omega, by go_num, rfl, HK.out⟩
            case measure => simp [intOf]; omega
        · obtain rfl : j = nt := by omega
          clear Hf
          go_wp2_with fail
          refine (HEx.out _ _ C).mono ?_
          rintro e w6 ⟨rfl, rfl⟩
          go_wp2_with fail
          go_roundg (n - (i + 1))
          case measure => omega
          case rel => exact ⟨i + 1, by omega, Nat.le_refl _, by go_num, C, B5⟩
    · obtain rfl : i = n := by omega
      go_wp2_with fail
      refine (awake_any _).mono ?_
      rintro e w9 ⟨rfl, b9⟩
      go_wp2_with fail
      go_ret
      exact ⟨rfl, hB.trans (b9.mono hB.size)⟩
set_option maxHeartbeats 1000000 in
theorem walk (w : World) (k : Int) (wk : (Lit.int .i64 k).wf = true) (b : Option Addr) (cap : Nat) (xs : List ByteArray) (hl : xs.length ≤ cap) (hm : cap ≤ maxLen) (hi : InW w b 1 (xs.map fun s => [.string s])) (ho : ∀ s ∈ xs, s.size ≤ maxLen) :
    Calls Try.prog 7 #[.int .i64 k, .slice b xs.length cap] w fun e w' => e = .returned (.bool true) ∧ Below w.heap.size w w' := by
  cases hlong : longB xs
  · by_cases hz : sizeK k < (allOf (hs xs) []).length
    · exact walk_near w k wk b cap xs hl hm hi ho hlong hz
    · exact walk_exact w k wk b cap xs hl hm hi ho hlong hz
  · have HLo := Lib.hid (long_any b cap xs w hi hm hl ho)
    unfold maxLen at hm
    rw [hlong] at HLo
    generalize xs.length = n at *
    go_enter Try.func7, Try.ntmps7
    go_wp2_with fail
    refine HLo.out.mono ?_
    rintro e w0 ⟨rfl, rfl⟩
    go_wp2_with fail
    refine (awake_any _).mono ?_
    rintro e w2 ⟨rfl, b2⟩
    go_wp2_with fail
    go_ret
    exact ⟨rfl, b2⟩

theorem own : ownKnob Try.prog.godebug = none := by kernel_rfl
theorem laidOut : laidOutB Try.prog = true := by kernel_rfl

set_option maxRecDepth 100000 in
theorem lifted (os : Os) (started : os.Started) (H : Type) (enc : TypeId × Value → H) :
    ReturnsInHanded {} Try.checked os 7 .any (Rows.distinctLeastSpec.pre6 enc Try.prog Try.f7 Rows.distinctLeastRow.domain false) (Rows.distinctLeastSpec.post enc Try.prog Try.f7 false true false false) := by
  refine returnsInHanded_of_change (C := Try.checked) own started (by kernel_rfl) Try.func7
    (ChangeSpec.witness6 (enc := enc) (C := Try.checked) false ⟨#[], #[.int .i64 0, .slice none 0 0], []⟩ 8 (by kernel_rfl) (by kernel_rfl) (by kernel_rfl) (by kernel_rfl)) ?_
  intro W base args ds gs before hval0 hW hcnd _
  have hval : ∀ (j : Nat) t v, Try.f7.params[j]? = some t → args[j]? = some v → Value.okWide Try.prog W .any base t v := hval0
  have hW' := hW
  obtain ⟨p, q, hA0, hV, rfl, hfz, hnd⟩ := hW
  have hA : DataW.TrodAll enc Try.prog W 0 (fun _ => true) true Try.f7.params.toList args.toList ds p := hA0
  rw [Try.params7] at hA hval
  obtain ⟨v0, vs0, d0, ds0, p0, q0, hargs, rfl, rfl, h0, r0⟩ := trodAll_cons hA
  obtain ⟨v1, vs1, d1, ds1, p1, q1, rfl, rfl, rfl, h1, r1⟩ := trodAll_cons r0
  obtain ⟨rfl, rfl, rfl⟩ := trodAll_nil r1
  obtain rfl : args = #[v0, v1] := by cases args; simp_all
  obtain ⟨rfl, rfl⟩ := trodVars_none hV
  have k0 := h0
  have lt0 : ∀ x ∈ p0, x.block < W.heap.size := by obtain ⟨m, hm⟩ := k0; exact DataW.trod_lt m _ _ _ hm
  obtain ⟨a0, rfl, rfl, rfl, w0⟩ := open_int Try.underlying3 (hval 0 3 v0 rfl rfl) h0
  have k1 := h1
  have lt1 : ∀ x ∈ p1, x.block < W.heap.size := by obtain ⟨m, hm⟩ := k1; exact DataW.trod_lt m _ _ _ hm
  obtain ⟨b1, c1, x1, rfl, l1, m1, i1, o1⟩ := open_l (hval 1 26 v1 rfl rfl) h1
  clear hA0 hval0
  refine (walk W a0 w0 b1 c1 x1 l1 m1 i1 o1).mono fun e W' ⟨he, bel⟩ => ?_
  subst he
  exact ⟨_, rfl, _, _, _, [], _, [], hW', trodAll_mk1 (shut_bool Try.underlying4 _), (trodAll_cons_mk (Below.trod laidOut (by kernel_rfl) (of_decide_eq_true (by kernel_rfl)) k0 bel lt0) (trodAll_cons_mk (Below.trod laidOut (by kernel_rfl) (of_decide_eq_true (by kernel_rfl)) k1 bel lt1) trodAll_mk0)), rfl, bel.frame _, fun h => by cases h⟩

theorem over : Rows.distinctLeastRow.holds Try.pinned (OpenSpec.ofChange Rows.distinctLeastSpec) :=
  OpenClaim.holds_of_wide 7 Try.f7 rfl rfl rfl rfl rfl rfl rfl ⟨rfl, rfl, rfl, rfl, rfl⟩ rfl rfl rfl rfl rfl (by kernel_rfl) Try.func7 (by kernel_rfl)
    (of_decide_eq_true (by kernel_rfl)) (by unfold Func.isWrapper; first | (rw [if_pos (by decide +kernel)]; kernel_rfl) | (rw [if_neg (by decide +kernel)]; exact ⟨rfl, rfl⟩))
    (fun os started H enc _ => lifted os started H enc)

theorem proved : Rows.DistinctLeastSaid := over
#print axioms proved
end Go.Proofs.Ytipblbmpckfigaa.distinctLeast

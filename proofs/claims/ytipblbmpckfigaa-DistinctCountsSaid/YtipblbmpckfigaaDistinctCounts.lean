/- For every input ciceronelaw13.DistinctCounts returns true, and its arguments read behind the call as before. No conditions. -/
import Derived.Test.YtipblbmpckfigaaDRef2
import Derived.Test.YtipblbmpckfigaaRows
import Derived.ProofKit
import Derived.OpenShut
import Derived.ShutString
import Derived.ChangeOld
import Derived.Below
import Derived.Lib.SmallJoins
namespace Go.Proofs.Ytipblbmpckfigaa.distinctCounts
open Go.ChangeShapes Go.WideShapes Go.ChangeAt Go.RowKit Go.Joins
open Go.ChangeMaps (open_string shut_string)
set_option linter.unusedVariables false

open Dist
theorem dec_mem_true {a : Int} {T : List Int} {j : Nat} {x : Int} (h : decide (a ∈ T.take j) = true) (hx : T[j]? = some x) : decide (a ∈ T.take (j + 1)) = true := by
  rw [List.take_add_one, hx]
  have := of_decide_eq_true h
  exact decide_eq_true (List.mem_append.2 (.inl this))
theorem dec_mem_false {a : Int} {T : List Int} {j : Nat} {x : Int} (h : decide (a ∈ T.take j) = false) (hx : T[j]? = some x) : decide (a ∈ T.take (j + 1)) = decide (a = x) := by
  rw [List.take_add_one, hx]
  have := of_decide_eq_false h
  simp [this]
set_option maxHeartbeats 2000000 in
set_option maxRecDepth 100000 in
theorem walk (w : World) (k : Int) (wk : (Lit.int .i64 k).wf = true) (b : Option Addr) (cap : Nat) (xs : List ByteArray) (hl : xs.length ≤ cap) (hm : cap ≤ maxLen) (hi : InW w b 1 (xs.map fun s => [.string s])) (ho : ∀ s ∈ xs, s.size ≤ maxLen) :
    Calls Try.prog 5 #[.int .i64 k, .slice b xs.length cap] w fun e w' => e = .returned (.bool true) ∧ Below w.heap.size w w' := by
  have HLo := Lib.hid (long_any b cap xs w hi hm hl ho)
  unfold maxLen at hm
  cases hlong : longB xs
  · rw [hlong] at HLo
    have hsh := (short_of hlong).1
    have HN := Lib.hid (fun w => New_any k w)
    have RS := Lib.hid (fun wx => rsize_any k wx)
    have hKb := sizeK_bd k
    have HA : Hid (∀ wx (i c : Nat), i ≤ xs.length → Strs wx b xs → Calls Try.prog 21 #[.slice b i c] wx (RowPost (allOf (hs (xs.take i)) []) wx)) := by
      intro wx i c h1 h2
      have h3 := all_any b c (xs.take i) wx (h2.take i) (fun s hs => ho s (List.mem_of_mem_take hs)) (by rw [List.length_take]; omega)
      rwa [List.length_take, Nat.min_eq_left h1] at h3
    have HAL : Hid (∀ i, (allOf (hs (xs.take i)) []).length ≤ 1000000) := fun i => by
      have h1 := all_length (hs (xs.take i)) []
      have h2 : (hs (xs.take i)).length ≤ xs.length := by rw [hs, List.length_map, List.length_take]; omega
      simp only [List.length_nil] at h1
      omega
    clear hlong
    generalize hn : xs.length = n at *
    have Hn := Lib.hid hn
    clear hn
    generalize sizeK k = K at *
    obtain ⟨hK1, hK2⟩ := hKb
    go_enter Try.func5, Try.ntmps5
    go_wp2_with fail
    refine HLo.out.mono ?_
    rintro e w1 ⟨rfl, rfl⟩
    go_wp2_with fail
    refine (HN.out _).mono ?_
    rintro e w2 ⟨rfl, CB, hw2⟩
    have B2 : Below w.heap.size w w2 := by rw [hw2]; exact (Below.refl _ _).alloc (Nat.le_refl _) _
    clear hw2 HN HLo
    go_wp2_with fail
    refine (RS.out _).mono ?_
    rintro e w3 ⟨rfl, rfl⟩
    go_wp2_with fail
    go_loopg [28] n (fun m c wr => ∃ (i : Nat) (L : List Int) (v : Value), i ≤ n ∧ n - i ≤ m ∧ c = .int .i64 i ∧ L = allOf (hs (xs.take i)) [] ∧ Cnt wr w.heap.size v K L ∧ (∀ b, v.ownBlock = some b → w.heap.size ≤ b) ∧ Below w.heap.size w wr)
    case atStart => exact ⟨0, [], .slice none 0 0, by omega, by omega, rfl, rfl, CB, (fun b hb => by cases hb), B2⟩
    case round =>
      clear CB B2
      obtain ⟨i, L, v, hin, hmi, rfl, hL, C, hv, hB⟩ := hrel
      have HL := Lib.hid hL
      clear hL
      by_cases hlt : i < n
      · obtain ⟨s, hs'⟩ : ∃ s, xs[i]? = some s := ⟨xs[i]'(by have := Hn.out; omega), List.getElem?_eq_getElem _⟩
        obtain ⟨B, off, rfl, hBl, hc⟩ := Strs.at hi hs'
        have hsz : s.size ≤ maxLen := ho s (List.mem_of_getElem? hs')
        have c1 := hB.cell (p := ⟨B, off + i, none⟩) hBl
        rw [hc] at c1
        clear hc
        have HS : Hid (allOf (hs (xs.take (i + 1))) [] = insU L (hash s.data.toList)) := by
          show allOf (hs (xs.take (i + 1))) [] = _
          rw [hs_snoc hs', all_snoc, ← HL.out]
        clear hs'
        have hL2l : (insU L (hash s.data.toList)).length ≤ 1000000 := by rw [← HS.out]; exact HAL.out _
        have hLl : L.length ≤ 1000000 := by rw [HL.out]; exact HAL.out _
        have HH := Lib.hid (fun w => rhash_any s w hsz)
        have A1 := Lib.hid (fun wx (c : Cnt wx w.heap.size v K L) => Add_any w.heap.size K v L s wx c hsz)
        generalize hash s.data.toList = hh at *
        have HX0 := Lib.hid (fun wx c h => HA.out wx i c (by omega) h)
        have HX1 := Lib.hid (fun wx c h => HA.out wx (i + 1) c (by omega) h)
        rw [← HL.out] at HX0
        rw [HS.out] at HX1
        obtain ⟨L2, hL2⟩ : ∃ L2, insU L hh = L2 := ⟨_, rfl⟩
        obtain ⟨T, hT⟩ : ∃ T, L.take K = T := ⟨_, rfl⟩
        obtain ⟨T2, hT2⟩ : ∃ T2, L2.take K = T2 := ⟨_, rfl⟩
        have HF : Hid (addRet K L hh = (decide (hh ∉ T) && decide (hh ∈ T2))) := by show addRet K L hh = _; unfold addRet; rw [hL2, hT, hT2]
        obtain ⟨F, hF⟩ : ∃ F, addRet K L hh = F := ⟨_, rfl⟩
        rw [hF] at HF
        have A2 : Hid (∀ wx, Cnt wx w.heap.size v K L → Calls Try.prog 18 #[.pointer (some ⟨w.heap.size, 0, none⟩), .string s] wx fun e w' => ∃ v', e = .returned (.bool F) ∧ Cnt w' w.heap.size v' K L2 ∧ Fr (own2 w.heap.size v) wx w' ∧ Since wx v v') := by
          intro wx c
          have h := A1.out wx c
          unfold CAddPost at h
          rw [hF, hL2] at h
          exact h
        rw [hL2] at HX1 HS hL2l
        have HT := Lib.hid hT
        have HT2 := Lib.hid hT2
        clear hL2 hT hT2 hF A1
        have hTl : T.length ≤ 1000000 := by rw [← HT.out, List.length_take]; omega
        have hT2l : T2.length ≤ 1000000 := by rw [← HT2.out, List.length_take]; omega
        have b1 : (i : Int) ≤ (cap : Int) := by omega
        have b2 : (i : Int) + 1 ≤ (cap : Int) := by omega
        go_wp2_with fail
        refine (HX0.out _ _ (Strs.bel hi hB)).mono ?_
        rintro e w4 ⟨va, rfl, RA, hva, b4⟩
        replace C := C.bel b4
        have B4 : Below w.heap.size w w4 := hB.trans (b4.mono hB.size)
        go_wp2_with fail
        refine (kept_any va L T K _ RA HT.out hK1 hK2 hLl).mono ?_
        rintro e w5 ⟨⟨vt, rfl, RT⟩, rfl⟩
        have hvv : ∀ b, v.ownBlock = some b → b < w4.heap.size := fun b hb => (C.lt.2 b hb).1
        have hgg : w.heap.size < w4.heap.size := C.lt.1
        obtain ⟨p1, q1, rfl, hq1, hq2, N1, _⟩ := nums_of_row RT
        clear RT RA hva b4
        have hB4 := B4
        go_wp2_with fail
        refine (HX1.out _ _ (Strs.bel hi B4)).mono ?_
        rintro e w5 ⟨va2, rfl, RA2, hva2, b5⟩
        replace C := C.bel b5
        replace N1 := N1.bel b5
        have B5 : Below w.heap.size w w5 := B4.trans (b5.mono B4.size)
        have s5 := b5.size
        clear b5
        go_wp2_with fail
        refine (kept_any va2 L2 T2 K _ RA2 HT2.out hK1 hK2 hL2l).mono ?_
        rintro e w6 ⟨⟨vt2, rfl, RT2⟩, rfl⟩
        obtain ⟨p2, q2, rfl, hq3, hq4, N2, _⟩ := nums_of_row RT2
        clear RT2
        unfold maxLen at hq2 hq4
        generalize hnt : T.length = nt at *
        generalize hnt2 : T2.length = nt2 at *
        have Hnt := Lib.hid hnt
        have Hnt2 := Lib.hid hnt2
        have HN1 := Lib.hid N1
        have HN2 := Lib.hid N2
        clear hnt hnt2 N1 N2 HX0 HX1 HA
        go_wp2_with fail
        go_loop [12, 49] (fun s12 c => ∃ (j : Nat) (f : Bool), j ≤ nt2 ∧ c = .int .i64 j ∧ s12 = .bool f ∧ f = decide (hh ∈ T2.take j)) (fun _ c => nt2 - (intOf c).toNat)
        case atStart => exact ⟨0, false, by omega, rfl, rfl, by simp⟩
        case round =>
          obtain ⟨j, f, hj, rfl, rfl, hf⟩ := hrel
          have Hf := Lib.hid hf
          clear hf
          by_cases hjl : j < nt2
          · obtain ⟨x, hx⟩ : ∃ x, T2[j]? = some x := ⟨T2[j]'(by have := Hnt2.out; omega), List.getElem?_eq_getElem _⟩
            obtain ⟨B', o', rfl, lb, cx⟩ := HN2.out.at hx
            have HXx := Lib.hid hx
            clear hx
            cases f
            · have hne := dec_mem_false Hf.out.symm HXx.out
              by_cases hxh : x = hh
              · have HK : Hid (true = decide (hh ∈ T2.take (j + 1))) := by show true = _; rw [hne, hxh]; simp
                have t1 : (x == hh) = true := by simp [hxh]
                clear hne hxh
                go_wp2_with fail
                refine (HH.out _).mono ?_
                rintro e w1 ⟨rfl, rfl⟩
                go_wp2_with fail
                go_round
                case rel => exact ⟨j + 1, true, by omega, by go_num, rfl, HK.out⟩
                case measure => simp [intOf]; omega
              · have HK : Hid (false = decide (hh ∈ T2.take (j + 1))) := by show false = _; rw [hne, decide_eq_false (fun e => hxh e.symm)]
                have t1 : (x == hh) = false := by simp [hxh]
                clear hne hxh
                go_wp2_with fail
                refine (HH.out _).mono ?_
                rintro e w1 ⟨rfl, rfl⟩
                go_wp2_with fail
                go_round
                case rel => exact ⟨j + 1, false, by omega, by go_num, rfl, HK.out⟩
                case measure => simp [intOf]; omega
            · have HK : Hid (true = decide (hh ∈ T2.take (j + 1))) := (dec_mem_true Hf.out.symm HXx.out).symm
              go_wp2_with fail
              go_round
              case rel => exact ⟨j + 1, true, by omega, by go_num, rfl, HK.out⟩
              case measure => simp [intOf]; omega
          · obtain rfl : j = nt2 := by omega
            have Hf2 : Hid (f = decide (hh ∈ T2)) := by
              have h1 := Hf.out
              rw [List.take_of_length_le (by have := Hnt2.out; omega)] at h1
              exact h1
            clear Hf
            go_wp2_with fail
            go_loop [12, 63] (fun s12 c => ∃ (j : Nat) (q : Bool), j ≤ nt ∧ c = .int .i64 j ∧ s12 = .bool q ∧ q = (f && !decide (hh ∈ T.take j))) (fun _ c => nt - (intOf c).toNat)
            case atStart => exact ⟨0, f, by omega, rfl, rfl, by simp⟩
            case round =>
              obtain ⟨j, q, hj, rfl, rfl, hq⟩ := hrel
              have Hq := Lib.hid hq
              clear hq
              by_cases hjl : j < nt
              · obtain ⟨x, hx⟩ : ∃ x, T[j]? = some x := ⟨T[j]'(by have := Hnt.out; omega), List.getElem?_eq_getElem _⟩
                obtain ⟨B', o', rfl, lb, cx⟩ := HN1.out.at hx
                have HXx := Lib.hid hx
                clear hx
                cases q
                · have HK : Hid (false = (f && !decide (hh ∈ T.take (j + 1)))) := by
                    have h := Hq.out
                    cases hd : decide (hh ∈ T.take j)
                    · rw [hd] at h
                      simp only [Bool.not_false, Bool.and_true] at h
                      show false = _
                      rw [← h]; rfl
                    · show false = _
                      rw [dec_mem_true hd HXx.out]; simp
                  go_wp2_with fail
                  go_round
                  case rel => exact ⟨j + 1, false, by omega, by go_num, rfl, HK.out⟩
                  case measure => simp [intOf]; omega
                · have hq2 : f = true ∧ decide (hh ∈ T.take j) = false := by
                    have h := Hq.out
                    revert h
                    cases f <;> cases decide (hh ∈ T.take j) <;> simp
                  have hne := dec_mem_false hq2.2 HXx.out
                  have hf1 := hq2.1
                  by_cases hxh : x = hh
                  · have HK : Hid (false = (f && !decide (hh ∈ T.take (j + 1)))) := by show false = _; rw [hne, hxh]; simp
                    have t1 : (x != hh) = false := by simp [hxh]
                    clear hne hxh hq2 hf1
                    go_wp2_with fail
                    refine (HH.out _).mono ?_
                    rintro e w1 ⟨rfl, rfl⟩
                    go_wp2_with fail
                    go_round
                    case rel => exact ⟨j + 1, false, by omega, by go_num, rfl, HK.out⟩
                    case measure => simp [intOf]; omega
                  · have HK : Hid (true = (f && !decide (hh ∈ T.take (j + 1)))) := by show true = _; rw [hne, decide_eq_false (fun e => hxh e.symm), hf1]; rfl
                    have t1 : (x != hh) = true := by simp [hxh]
                    clear hne hxh hq2 hf1
                    go_wp2_with fail
                    refine (HH.out _).mono ?_
                    rintro e w1 ⟨rfl, rfl⟩
                    go_wp2_with fail
                    go_round
                    case rel => exact ⟨j + 1, true, by omega, by go_num, rfl, HK.out⟩
                    case measure => simp [intOf]; omega
              · obtain rfl : j = nt := by omega
                have hqF : q = F := by
                  have h1 := Hq.out
                  rw [List.take_of_length_le (by have := Hnt.out; omega)] at h1
                  rw [h1, HF.out, Hf2.out, Bool.and_comm]
                  simp
                subst hqF
                clear Hq Hf2 HF HN1 HN2 HH
                by_cases h40 : 40 < n
                · go_wp2_with fail
                  refine (A2.out _ C).mono ?_
                  rintro e w7 ⟨v7, rfl, C7, F7, S7⟩
                  obtain ⟨B7, hv7⟩ := grown_new B5 (Nat.le_refl _) hv F7 S7
                  clear F7 S7
                  go_wp2_with fail
                  go_roundg (n - (i + 1))
                  case measure => omega
                  case rel => exact ⟨i + 1, L2, v7, by omega, Nat.le_refl _, by go_num, HS.out.symm, C7, hv7, B7⟩
                · have t9 : (q != q) = false := by simp
                  go_wp2_with fail
                  refine (A2.out _ C).mono ?_
                  rintro e w7 ⟨v7, rfl, C7, F7, S7⟩
                  obtain ⟨B7, hv7⟩ := grown_new B5 (Nat.le_refl _) hv F7 S7
                  have RA7 := F7.row RA2 (fun b hb e => by
                    have := hva2 b hb
                    rcases e with e | e
                    · omega
                    · have := hvv b e; omega)
                  clear F7 S7
                  go_wp2_with fail
                  refine (like_any w.heap.size K v7 va2 L2 _ C7 RA7 hL2l).mono ?_
                  rintro e w8 ⟨rfl, b8⟩
                  replace C7 := C7.bel b8
                  have B8 : Below w.heap.size w w8 := B7.trans (b8.mono B7.size)
                  go_wp2_with fail
                  go_roundg (n - (i + 1))
                  case measure => omega
                  case rel => exact ⟨i + 1, L2, v7, by omega, Nat.le_refl _, by go_num, HS.out.symm, C7, hv7, B8⟩
      · obtain rfl : i = n := by omega
        have HX0 := Lib.hid (fun wx c h => HA.out wx i c (Nat.le_refl _) h)
        rw [← HL.out] at HX0
        have hLl : L.length ≤ 1000000 := by rw [HL.out]; exact HAL.out _
        go_wp2_with fail
        refine (HX0.out _ _ (Strs.bel hi hB)).mono ?_
        rintro e w4 ⟨va, rfl, RA, hva, b4⟩
        replace C := C.bel b4
        have B4 : Below w.heap.size w w4 := hB.trans (b4.mono hB.size)
        clear b4 hB
        go_wp2_with fail
        refine (like_any w.heap.size K v va L _ C RA hLl).mono ?_
        rintro e w8 ⟨rfl, b8⟩
        have B8 : Below w.heap.size w w8 := B4.trans (b8.mono B4.size)
        go_wp2_with fail
        refine (awake_any _).mono ?_
        rintro e w9 ⟨rfl, b9⟩
        go_wp2_with fail
        go_ret
        exact ⟨rfl, B8.trans (b9.mono B8.size)⟩
  · rw [hlong] at HLo
    generalize xs.length = n at *
    go_enter Try.func5, Try.ntmps5
    go_wp2_with fail
    refine HLo.out.mono ?_
    rintro e w0 ⟨rfl, rfl⟩
    go_wp2_with fail
    refine (awake_any _).mono ?_
    rintro e w2 ⟨rfl, b2⟩
    go_wp2_with fail
    go_ret
    exact ⟨rfl, b2⟩

theorem own : ownKnob Try.prog.godebug = none := by kernel_rfl
theorem laidOut : laidOutB Try.prog = true := by kernel_rfl

set_option maxRecDepth 100000 in
theorem lifted (os : Os) (started : os.Started) (H : Type) (enc : TypeId × Value → H) :
    ReturnsInHanded {} Try.checked os 5 .any (Rows.distinctCountsSpec.pre6 enc Try.prog Try.f5 Rows.distinctCountsRow.domain false) (Rows.distinctCountsSpec.post enc Try.prog Try.f5 false true false false) := by
  refine returnsInHanded_of_change (C := Try.checked) own started (by kernel_rfl) Try.func5
    (ChangeSpec.witness6 (enc := enc) (C := Try.checked) false ⟨#[], #[.int .i64 0, .slice none 0 0], []⟩ 8 (by kernel_rfl) (by kernel_rfl) (by kernel_rfl) (by kernel_rfl)) ?_
  intro W base args ds gs before hval0 hW hcnd _
  have hval : ∀ (j : Nat) t v, Try.f5.params[j]? = some t → args[j]? = some v → Value.okWide Try.prog W .any base t v := hval0
  have hW' := hW
  obtain ⟨p, q, hA0, hV, rfl, hfz, hnd⟩ := hW
  have hA : DataW.TrodAll enc Try.prog W 0 (fun _ => true) true Try.f5.params.toList args.toList ds p := hA0
  rw [Try.params5] at hA hval
  obtain ⟨v0, vs0, d0, ds0, p0, q0, hargs, rfl, rfl, h0, r0⟩ := trodAll_cons hA
  obtain ⟨v1, vs1, d1, ds1, p1, q1, rfl, rfl, rfl, h1, r1⟩ := trodAll_cons r0
  obtain ⟨rfl, rfl, rfl⟩ := trodAll_nil r1
  obtain rfl : args = #[v0, v1] := by cases args; simp_all
  obtain ⟨rfl, rfl⟩ := trodVars_none hV
  have k0 := h0
  have lt0 : ∀ x ∈ p0, x.block < W.heap.size := by obtain ⟨m, hm⟩ := k0; exact DataW.trod_lt m _ _ _ hm
  obtain ⟨a0, rfl, rfl, rfl, w0⟩ := open_int Try.underlying3 (hval 0 3 v0 rfl rfl) h0
  have k1 := h1
  have lt1 : ∀ x ∈ p1, x.block < W.heap.size := by obtain ⟨m, hm⟩ := k1; exact DataW.trod_lt m _ _ _ hm
  obtain ⟨b1, c1, x1, rfl, l1, m1, i1, o1⟩ := open_l (hval 1 26 v1 rfl rfl) h1
  clear hA0 hval0
  refine (walk W a0 w0 b1 c1 x1 l1 m1 i1 o1).mono fun e W' ⟨he, bel⟩ => ?_
  subst he
  exact ⟨_, rfl, _, _, _, [], _, [], hW', trodAll_mk1 (shut_bool Try.underlying4 _), (trodAll_cons_mk (Below.trod laidOut (by kernel_rfl) (of_decide_eq_true (by kernel_rfl)) k0 bel lt0) (trodAll_cons_mk (Below.trod laidOut (by kernel_rfl) (of_decide_eq_true (by kernel_rfl)) k1 bel lt1) trodAll_mk0)), rfl, bel.frame _, fun h => by cases h⟩

theorem over : Rows.distinctCountsRow.holds Try.pinned (OpenSpec.ofChange Rows.distinctCountsSpec) :=
  OpenClaim.holds_of_wide 5 Try.f5 rfl rfl rfl rfl rfl rfl rfl ⟨rfl, rfl, rfl, rfl, rfl⟩ rfl rfl rfl rfl rfl (by kernel_rfl) Try.func5 (by kernel_rfl)
    (of_decide_eq_true (by kernel_rfl)) (by unfold Func.isWrapper; first | (rw [if_pos (by decide +kernel)]; kernel_rfl) | (rw [if_neg (by decide +kernel)]; exact ⟨rfl, rfl⟩))
    (fun os started H enc _ => lifted os started H enc)

theorem proved : Rows.DistinctCountsSaid := over
#print axioms proved
end Go.Proofs.Ytipblbmpckfigaa.distinctCounts

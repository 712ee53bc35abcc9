/- For every input ciceronelaw13.DistinctOrders returns true, and its arguments read behind the call as before. No conditions. -/
import Derived.Test.YtipblbmpckfigaaDMisc
import Derived.Test.YtipblbmpckfigaaRows
import Derived.ProofKit
import Derived.OpenShut
import Derived.ShutString
import Derived.ChangeOld
import Derived.Below
import Derived.Lib.SmallJoins
namespace Go.Proofs.Ytipblbmpckfigaa.distinctOrders
open Go.ChangeShapes Go.WideShapes Go.ChangeAt Go.RowKit Go.Joins
open Go.ChangeMaps (open_string shut_string)
set_option linter.unusedVariables false

open Dist
/-- what the loops keep: the second counter has some of the hashes -/
def Part (xs : List ByteArray) (i : Nat) (L : List Int) : Prop := (∀ x ∈ L, x ∈ hs xs) ∧ ∀ j s, xs[j]? = some s → xs.length - i ≤ j → hash s.data.toList ∈ L
theorem part_all {xs : List ByteArray} {L : List Int} (h : Part xs xs.length L) (hu : Up L) : L = allOf (hs xs) [] := by
  refine up_ext hu (up_all _ up_nil) fun x => ?_
  rw [mem_all]
  constructor
  · intro hx; exact .inl (h.1 x hx)
  · rintro (hx | hx)
    · obtain ⟨s, hs', rfl⟩ := List.mem_map.1 hx
      obtain ⟨j, hj, e⟩ := List.mem_iff_getElem.1 hs'
      exact h.2 j s (by rw [List.getElem?_eq_getElem hj, e]) (by omega)
    · cases hx
theorem part_next {xs : List ByteArray} {i : Nat} {L : List Int} {s : ByteArray} (h : Part xs i L) (hi : i < xs.length) (hs' : xs[xs.length - 1 - i]? = some s) : Part xs (i + 1) (insU L (hash s.data.toList)) := by
  refine ⟨fun x hx => ?_, fun j t ht hj => ?_⟩
  · rcases mem_insU.1 hx with rfl | hx
    · exact List.mem_map.2 ⟨s, List.mem_of_getElem? hs', rfl⟩
    · exact h.1 x hx
  · rw [mem_insU]
    by_cases e : j = xs.length - 1 - i
    · left; rw [e, hs'] at ht; rw [Option.some.inj ht]
    · right; exact h.2 j t ht (by omega)
theorem part_zero {xs : List ByteArray} {L : List Int} (h : ∀ x ∈ L, x ∈ hs xs) : Part xs 0 L :=
  ⟨h, fun j s hj hk => by have := (List.getElem?_eq_some_iff.1 hj).1; omega⟩
set_option maxHeartbeats 2000000 in
set_option maxRecDepth 100000 in
theorem walk (w : World) (k : Int) (wk : (Lit.int .i64 k).wf = true) (b : Option Addr) (cap : Nat) (xs : List ByteArray) (hl : xs.length ≤ cap) (hm : cap ≤ maxLen) (hi : InW w b 1 (xs.map fun s => [.string s])) (ho : ∀ s ∈ xs, s.size ≤ maxLen) :
    Calls Try.prog 6 #[.int .i64 k, .slice b xs.length cap] w fun e w' => e = .returned (.bool true) ∧ Below w.heap.size w w' := by
  have HL := Lib.hid (long_any b cap xs w hi hm hl ho)
  unfold maxLen at hm
  cases hlong : longB xs
  · rw [hlong] at HL
    have hsh := (short_of hlong).1
    have HF := Lib.hid (fill_any k b cap xs w hi ho (by omega))
    have HN := Lib.hid (fun w => New_any k w)
    clear hlong
    generalize hn : xs.length = n at *
    have Hn := Lib.hid hn
    clear hn
    generalize sizeK k = K at *
    go_enter Try.func6, Try.ntmps6
    go_wp2_with fail
    refine HL.out.mono ?_
    rintro e w1 ⟨rfl, rfl⟩
    go_wp2_with fail
    refine HF.out.mono ?_
    rintro e w1 ⟨va, rfl, CA, hva, B1⟩
    go_wp2_with fail
    refine (HN.out _).mono ?_
    rintro e w2 ⟨rfl, CB, hw2⟩
    have b12 : Below w1.heap.size w1 w2 := by rw [hw2]; exact (Below.refl _ _).alloc (Nat.le_refl _) _
    have hNM : w.heap.size < w1.heap.size := CA.lt.1
    have hvM : ∀ b, va.ownBlock = some b → b < w1.heap.size := fun b hb => (CA.lt.2 b hb).1
    replace CA := CA.bel b12
    have B2 : Below w.heap.size w w2 := B1.trans (b12.mono B1.size)
    obtain ⟨M, hM⟩ : ∃ M, w1.heap.size = M := ⟨_, rfl⟩
    have hMs : M ≤ w2.heap.size := by rw [← hM]; exact b12.size
    rw [hM] at CB hNM hvM b12
    clear hw2 HF HN HL B1 b12
    go_wp2_with fail
    clear hM
    go_loopw [22] (fun c wr => ∃ (r : Nat) (L : List Int) (v : Value), r ≤ 2 ∧ c = .int .i64 r ∧ (∀ x ∈ L, x ∈ hs xs) ∧ (1 ≤ r → L = allOf (hs xs) []) ∧ Cnt wr w.heap.size va K (allOf (hs xs) []) ∧ Cnt wr M v K L ∧ (∀ b, v.ownBlock = some b → M ≤ b) ∧ Below w.heap.size w wr ∧ M ≤ wr.heap.size) (fun c _ => 2 - (intOf c).toNat)
    case atStart => exact ⟨0, [], .slice none 0 0, by omega, rfl, (fun x hx => by cases hx), (fun h => by omega), CA, CB, (fun b hb => by cases hb), B2, hMs⟩
    case round =>
      obtain ⟨r, L, v, hr, rfl, hsub, hall, CA1, CB1, hv, hB, hMr⟩ := hrel
      have HA := Lib.hid hall
      clear hall CA CB B2 hMs
      by_cases hr2 : r < 2
      · have P0 := part_zero hsub
        clear HA hsub
        have d1 : decide ((r : Int) < 2) = true := decide_eq_true (by omega)
        go_wp2_with fail
        obtain ⟨wo, hwo⟩ : ∃ wo : World, wo = wr := ⟨_, rfl⟩
        go_loopw [26] (fun c wi => ∃ (i : Nat) (L : List Int) (v : Value), i ≤ n ∧ c = .int .i64 i ∧ Part xs i L ∧ Cnt wi w.heap.size va K (allOf (hs xs) []) ∧ Cnt wi M v K L ∧ (∀ b, v.ownBlock = some b → M ≤ b) ∧ Below w.heap.size w wi ∧ M ≤ wi.heap.size) (fun c _ => n - (intOf c).toNat)
        case atStart => exact ⟨0, L, v, by omega, rfl, P0, CA1, CB1, hv, hB, hMr⟩
        case round =>
          clear CA1 CB1 hv hB hMr P0 hwo
          obtain ⟨i, L, v, hin, rfl, hP, CA1, CB1, hv, hB, hMr⟩ := hrel
          have HP := Lib.hid hP
          clear hP
          by_cases hlt : i < n
          · obtain ⟨s, hs'⟩ : ∃ s, xs[n - 1 - i]? = some s := ⟨xs[n - 1 - i]'(by have := Hn.out; omega), List.getElem?_eq_getElem _⟩
            obtain ⟨B, off, rfl, hBl, hc⟩ := Strs.at hi hs'
            have hsz : s.size ≤ maxLen := ho s (List.mem_of_getElem? hs')
            have c1 := hB.cell (p := ⟨B, off + (n - 1 - i), none⟩) hBl
            rw [hc] at c1
            clear hc
            have hpn : Part xs (i + 1) (insU L (hash s.data.toList)) := part_next HP.out (by have := Hn.out; omega) (by rw [Hn.out]; exact hs')
            have HS := Lib.hid hpn
            clear hpn
            clear hs'
            have A1 := Lib.hid (fun wx (c : Cnt wx M v K L) => Add_any M K v L s wx c hsz)
            generalize hash s.data.toList = hh at *
            have e1 : (n : Int) - 1 - (i : Int) = ((n - 1 - i : Nat) : Int) := by omega
            go_wp2_with fail
            refine (A1.out _ CB1).mono ?_
            rintro e w1 ⟨v1, rfl, C1, F1, S1⟩
            have CA2 := CA1.apart hNM hvM F1 hv
            have hB1 : Below w.heap.size w w1 := hB.trans (F1.below hB.size (fun b hb => by rcases hb with rfl | hb; omega; have := hv b hb; omega))
            have hv1 : ∀ b, v1.ownBlock = some b → M ≤ b := fun b hb => by
              rcases S1 with e | ⟨c, e, hc⟩
              · rw [e] at hb; exact hv b hb
              · rw [e] at hb; cases hb; omega
            have hM1 : M ≤ w1.heap.size := by have := F1.size; omega
            clear F1 S1
            go_wp2_with fail
            go_roundw
            case rel => first | exact ⟨i + 1, _, v1, by omega, by go_num, HS.out, CA2, C1, hv1, hB1, hM1⟩ | ((repeat apply Exists.intro); exact ⟨⟨i + 1, _, v1, by omega, by go_num, HS.out, CA2, C1, hv1, hB1, hM1⟩, rfl⟩)
            case measure => simp [intOf]; omega
          · obtain rfl : i = n := by omega
            have hL := part_all (xs := xs) (by have := HP.out; rw [Hn.out]; exact this) CB1.up
            have hmem := HP.out.1
            have HH := Lib.hid hL
            have HM := Lib.hid hmem
            clear hL hmem
            go_wp2_with fail
            go_roundw
            case rel => exact ⟨r + 1, L, v, by omega, by go_num, HM.out, (fun _ => HH.out), CA1, CB1, hv, hB, hMr⟩
            case measure => simp [intOf]; omega
      · have hL : L = allOf (hs xs) [] := HA.out (by omega)
        subst hL
        obtain rfl : r = 2 := by omega
        generalize allOf (hs xs) [] = L at *
        clear HA hsub hi ho
        obtain ⟨T, hT⟩ : ∃ T, L.take K = T := ⟨_, rfl⟩
        have hk := CA1.k2
        have hll : T.length ≤ 1000000 := by rw [← hT, List.length_take]; omega
        have HT := Lib.hid hT
        clear hT
        go_wp2_with fail
        refine (Hashes_as w.heap.size K va L T _ CA1 HT.out).mono ?_
        rintro e w3 ⟨x1, rfl, R1, X1, b3⟩
        obtain ⟨p1, q1, rfl, _, _, N1, _⟩ := nums_of_row R1
        replace CA1 := CA1.bel b3
        replace CB1 := CB1.bel b3
        replace hB := hB.trans (b3.mono hB.size)
        clear R1 X1 b3
        go_wp2_with fail
        refine (Hashes_as M K v L T _ CB1 HT.out).mono ?_
        rintro e w4 ⟨x2, rfl, R2, X2, b4⟩
        obtain ⟨p2, q2, rfl, _, _, N2, _⟩ := nums_of_row R2
        replace CA1 := CA1.bel b4
        replace CB1 := CB1.bel b4
        replace N1 := N1.bel b4
        replace hB := hB.trans (b4.mono hB.size)
        clear R2 X2 b4
        go_wp2_with fail
        refine (same_any p1 p2 q1 q2 T T _ N1 N2 hll hll).mono ?_
        rintro e w5 ⟨rfl, b5⟩
        rw [decide_eq_true (rfl : T = T)]
        replace CA1 := CA1.bel b5
        replace CB1 := CB1.bel b5
        replace hB := hB.trans (b5.mono hB.size)
        clear N1 N2 b5
        go_wp2_with fail
        refine (Exact_any w.heap.size K va L _ CA1).mono ?_
        rintro e w6 ⟨rfl, rfl⟩
        go_wp2_with fail
        refine (Exact_any M K v L _ CB1).mono ?_
        rintro e w6 ⟨rfl, rfl⟩
        generalize (!decide (K < L.length)) = z at *
        have zz : (z == z) = true := by simp
        go_wp2_with fail
        refine (Count_any w.heap.size K va L _ CA1).mono ?_
        rintro e w6 ⟨rfl, b6⟩
        replace CA1 := CA1.bel b6
        replace CB1 := CB1.bel b6
        replace hB := hB.trans (b6.mono hB.size)
        clear b6
        go_wp2_with fail
        refine (Count_any M K v L _ CB1).mono ?_
        rintro e w7 ⟨rfl, b7⟩
        replace CA1 := CA1.bel b7
        replace CB1 := CB1.bel b7
        replace hB := hB.trans (b7.mono hB.size)
        clear b7
        generalize countOf K L = cc at *
        go_wp2_with fail
        refine (Least_any w.heap.size K va L _ CA1).mono ?_
        rintro e w8 ⟨rfl, rfl⟩
        go_wp2_with fail
        refine (Least_any M K v L _ CB1).mono ?_
        rintro e w8 ⟨rfl, rfl⟩
        generalize leastOf K L = ll at *
        go_wp2_with fail
        refine (awake_any _).mono ?_
        rintro e w9 ⟨rfl, b9⟩
        go_wp2_with fail
        go_ret
        exact ⟨rfl, hB.trans (b9.mono hB.size)⟩
  · rw [hlong] at HL
    generalize xs.length = n at *
    go_enter Try.func6, Try.ntmps6
    go_wp2_with fail
    refine HL.out.mono ?_
    rintro e w1 ⟨rfl, rfl⟩
    go_wp2_with fail
    refine (awake_any _).mono ?_
    rintro e w2 ⟨rfl, b2⟩
    go_wp2_with fail
    go_ret
    exact ⟨rfl, b2⟩

theorem own : ownKnob Try.prog.godebug = none := by kernel_rfl
theorem laidOut : laidOutB Try.prog = true := by kernel_rfl

set_option maxRecDepth 100000 in
theorem lifted (os : Os) (started : os.Started) (H : Type) (enc : TypeId × Value → H) :
    ReturnsInHanded {} Try.checked os 6 .any (Rows.distinctOrdersSpec.pre6 enc Try.prog Try.f6 Rows.distinctOrdersRow.domain false) (Rows.distinctOrdersSpec.post enc Try.prog Try.f6 false true false false) := by
  refine returnsInHanded_of_change (C := Try.checked) own started (by kernel_rfl) Try.func6
    (ChangeSpec.witness6 (enc := enc) (C := Try.checked) false ⟨#[], #[.int .i64 0, .slice none 0 0], []⟩ 8 (by kernel_rfl) (by kernel_rfl) (by kernel_rfl) (by kernel_rfl)) ?_
  intro W base args ds gs before hval0 hW hcnd _
  have hval : ∀ (j : Nat) t v, Try.f6.params[j]? = some t → args[j]? = some v → Value.okWide Try.prog W .any base t v := hval0
  have hW' := hW
  obtain ⟨p, q, hA0, hV, rfl, hfz, hnd⟩ := hW
  have hA : DataW.TrodAll enc Try.prog W 0 (fun _ => true) true Try.f6.params.toList args.toList ds p := hA0
  rw [Try.params6] at hA hval
  obtain ⟨v0, vs0, d0, ds0, p0, q0, hargs, rfl, rfl, h0, r0⟩ := trodAll_cons hA
  obtain ⟨v1, vs1, d1, ds1, p1, q1, rfl, rfl, rfl, h1, r1⟩ := trodAll_cons r0
  obtain ⟨rfl, rfl, rfl⟩ := trodAll_nil r1
  obtain rfl : args = #[v0, v1] := by cases args; simp_all
  obtain ⟨rfl, rfl⟩ := trodVars_none hV
  have k0 := h0
  have lt0 : ∀ x ∈ p0, x.block < W.heap.size := by obtain ⟨m, hm⟩ := k0; exact DataW.trod_lt m _ _ _ hm
  obtain ⟨a0, rfl, rfl, rfl, w0⟩ := open_int Try.underlying3 (hval 0 3 v0 rfl rfl) h0
  have k1 := h1
  have lt1 : ∀ x ∈ p1, x.block < W.heap.size := by obtain ⟨m, hm⟩ := k1; exact DataW.trod_lt m _ _ _ hm
  obtain ⟨b1, c1, x1, rfl, l1, m1, i1, o1⟩ := open_l (hval 1 26 v1 rfl rfl) h1
  clear hA0 hval0
  refine (walk W a0 w0 b1 c1 x1 l1 m1 i1 o1).mono fun e W' ⟨he, bel⟩ => ?_
  subst he
  exact ⟨_, rfl, _, _, _, [], _, [], hW', trodAll_mk1 (shut_bool Try.underlying4 _), (trodAll_cons_mk (Below.trod laidOut (by kernel_rfl) (of_decide_eq_true (by kernel_rfl)) k0 bel lt0) (trodAll_cons_mk (Below.trod laidOut (by kernel_rfl) (of_decide_eq_true (by kernel_rfl)) k1 bel lt1) trodAll_mk0)), rfl, bel.frame _, fun h => by cases h⟩

theorem over : Rows.distinctOrdersRow.holds Try.pinned (OpenSpec.ofChange Rows.distinctOrdersSpec) :=
  OpenClaim.holds_of_wide 6 Try.f6 rfl rfl rfl rfl rfl rfl rfl ⟨rfl, rfl, rfl, rfl, rfl⟩ rfl rfl rfl rfl rfl (by kernel_rfl) Try.func6 (by kernel_rfl)
    (of_decide_eq_true (by kernel_rfl)) (by unfold Func.isWrapper; first | (rw [if_pos (by decide +kernel)]; kernel_rfl) | (rw [if_neg (by decide +kernel)]; exact ⟨rfl, rfl⟩))
    (fun os started H enc _ => lifted os started H enc)

theorem proved : Rows.DistinctOrdersSaid := over
#print axioms proved
end Go.Proofs.Ytipblbmpckfigaa.distinctOrders

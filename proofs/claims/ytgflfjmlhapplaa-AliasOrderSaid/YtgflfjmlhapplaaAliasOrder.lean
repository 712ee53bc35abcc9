/- For every input ciceronelaw45.AliasOrder returns true, and its arguments read behind the call as before. No conditions. -/
import Derived.Test.YtgflfjmlhapplaaAOpen
import Derived.Test.YtgflfjmlhapplaaRowG
import Derived.Test.YtgflfjmlhapplaaRows
import Derived.ProofKit
import Derived.OpenShut
import Derived.ShutString
import Derived.ChangeOld
import Derived.Below
import Derived.Lib.SmallJoins
namespace Go.Proofs.Ytgflfjmlhapplaa.aliasOrder
open Go.ChangeShapes Go.WideShapes Go.ChangeAt Go.RowKit Go.Joins
open Go.ChangeMaps (open_string shut_string)
set_option linter.unusedVariables false

/-- from the end on, with both names turned -/
def turnT (l : List Two) : List Two := (l.map fun p => (p.2, p.1)).reverse
theorem turnT_mem {l : List Two} {p : Two} : p ∈ turnT l ↔ (p.2, p.1) ∈ l := by
  unfold turnT
  rw [List.mem_reverse, List.mem_map]
  constructor
  · rintro ⟨q, hq, rfl⟩; exact hq
  · intro h; exact ⟨_, h, rfl⟩
theorem turnT_compat (l : List Two) (f : ByteArray → Prop) : Compat (turnT l) f ↔ Compat l f := by
  unfold Compat
  constructor
  · intro h p hp ht
    exact (h (p.2, p.1) (turnT_mem.2 hp) (by unfold twoB at *; rw [Bool.and_comm]; exact ht)).symm
  · intro h p hp ht
    exact (h (p.2, p.1) (turnT_mem.1 hp) (by unfold twoB at *; rw [Bool.and_comm]; exact ht)).symm
theorem turnT_both (l : List Two) (f : ByteArray → Prop) : Compat (turnT l ++ l) f ↔ Compat l f := by
  rw [Compat.append, turnT_compat]; exact ⟨fun h => h.1, fun h => ⟨h, h⟩⟩
theorem turnT_len (l : List Two) : (turnT l).length = l.length := by simp [turnT]
/-- the last j of them, turned -/
theorem turn_step {l : List Two} {j : Nat} {q : Two} (hq : l[j]? = some q) : turnT (l.drop j) = turnT (l.drop (j + 1)) ++ [(q.2, q.1)] := by
  have hj := (List.getElem?_eq_some_iff.1 hq).1
  have e := (List.getElem?_eq_some_iff.1 hq).2
  unfold turnT
  rw [List.drop_eq_getElem_cons hj, e]
  simp
theorem turn_ok {l : List Two} (h : ∀ p ∈ l, okTwo p) : ∀ p ∈ turnT l, okTwo p := fun p hp => by
  have := h _ (turnT_mem.1 hp)
  exact ⟨this.2, this.1⟩
theorem both_ok {l : List Two} (h : ∀ p ∈ l, okTwo p) : ∀ p ∈ turnT l ++ l, okTwo p := fun p hp => by
  rcases List.mem_append.1 hp with hp | hp
  · exact turn_ok h p hp
  · exact h p hp
theorem twoLen (p : Two) : (twoC p).length = 2 := rfl
theorem twoOne (p : Two) : ∀ u ∈ twoC p, u.oneCell' = true := fun u hu => by
  simp only [twoC, List.mem_cons, List.not_mem_nil, or_false] at hu
  rcases hu with rfl | rfl <;> rfl
/-- a row of twos that a call is making -/
structure MkP (w0 wr : World) (u : Value) (ps : List Two) : Prop where
  tx : wr.ownsRow 0 29 2 u ps.length (ps.flatMap twoC)
  nw : ∀ b, u.ownBlock = some b → w0.heap.size ≤ b
  bl : Below w0.heap.size w0 wr
theorem MkP.bel {w0 wr w' : World} {u : Value} {ps : List Two} (h : MkP w0 wr u ps) (hb : Below wr.heap.size wr w') : MkP w0 w' u ps :=
  ⟨(Fr.of_bel (S := none') hb).row h.tx (fun _ _ => id), h.nw, h.bl.trans (hb.mono h.bl.size)⟩
theorem MkP.more {w0 wr w' : World} {u u' : Value} {ps ps' : List Two} (h : MkP w0 wr u ps) (ho : w'.ownsRow 0 29 2 u' ps'.length (ps'.flatMap twoC)) (hf : Fr (fun b => u.ownBlock = some b) wr w') (he : Hence u u' wr) : MkP w0 w' u' ps' := by
  refine ⟨ho, fun b hb => ?_, h.bl.trans (hf.below h.bl.size (fun b hb => h.nw b hb))⟩
  rcases he with e | e
  · exact h.nw b (by rw [← e]; exact hb)
  · have := Option.some.inj (e.symm.trans hb)
    have := h.bl.size
    omega
set_option maxRecDepth 100000 in
set_option maxHeartbeats 8000000 in
theorem walk (w : World) (b : Option Addr) (cap : Nat) (l : List Two) (hlc : l.length ≤ cap) (hm : cap ≤ maxLen) (hi : InW w b 2 (l.map twoC)) (ho : ∀ a ∈ l, twoOk a) (x : ByteArray) (hx : x.size ≤ maxLen) :
    Calls Try.prog 4 #[.slice b l.length cap, .string x] w fun e w' => e = .returned (.bool true) ∧ Below w.heap.size w w' := by
  unfold maxLen at hx
  have LV := Lib.hid (lives_any w)
  have HVY : Hid (∀ W, Below w.heap.size w W → Calls Try.prog 9 #[.slice b l.length cap, .int .i64 16] W fun e w' => e = .returned (.bool (heavyB l 16)) ∧ W = w') := Lib.hid (fun W hb => heavy_any b cap l 16 W (InW.bel hi hb) hlc hm ho)
  cases hhv : heavyB l 16 with
  | true =>
    rw [hhv] at HVY
    clear hhv hi ho
    generalize l.length = n at *
    go_enter Try.func4, Try.ntmps4
    go_wp2_with fail
    refine LV.out.mono ?_
    rintro e w1 ⟨rfl, b1⟩
    have H1 := Lib.hid (Here.nil (K := K45) b1)
    have HE := Lib.hid (HVY.out w1 b1)
    clear b1 LV HVY
    go_wp2_with fail
    refine HE.out.mono ?_
    rintro e wx ⟨rfl, rfl⟩
    clear HE
    go_wp2_with fail
    go_ret
    exact ⟨rfl, H1.out.bel⟩
  | false =>
    rw [hhv] at HVY
    obtain ⟨hl16, hok⟩ := ok_of_heavy (most := 16) hhv
    clear hhv ho
    by_cases hxs : 100 < x.size
    · have t1 : decide ((100 : Int) < (x.size : Int)) = true := decide_eq_true (by omega)
      clear hi hok
      generalize l.length = n at *
      go_enter Try.func4, Try.ntmps4
      go_wp2_with fail
      refine LV.out.mono ?_
      rintro e w1 ⟨rfl, b1⟩
      have H1 := Lib.hid (Here.nil (K := K45) b1)
      have HE := Lib.hid (HVY.out w1 b1)
      clear b1 LV HVY
      go_wp2_with fail
      refine HE.out.mono ?_
      rintro e wx ⟨rfl, rfl⟩
      clear HE
      go_wp2_with fail
      go_ret
      exact ⟨rfl, H1.out.bel⟩
    · have t1 : decide ((100 : Int) < (x.size : Int)) = false := decide_eq_false (by omega)
      obtain ⟨i0, hi0T, hz0, hz1, hz2⟩ := info_parts infoTwo
      have HIW := Lib.hid hi
      have HOK := Lib.hid hok
      have EV : Hid (∀ (W : World) (p : Nat) (Bl : List Nat), AlAt W p Bl l → Below w.heap.size w W → Calls Try.prog 15 #[.pointer (some ⟨p, 0, none⟩), .slice b l.length cap, .string x] W fun e w' => e = .returned (.bool true) ∧ Below W.heap.size W w') := Lib.hid (fun W p Bl ha hb => even_any p Bl b cap l x W ha (InW.bel hi hb) (by omega) hok (by omega))
      have JO : Hid (∀ (W : World) (bb : Option Addr) (cc : Nat) (m : List Two), InW W bb 2 (m.map twoC) → m.length ≤ 1000 → (∀ p ∈ m, okTwo p) → Calls Try.prog 16 #[.slice bb m.length cc] W fun e w' => ∃ p, e = .returned (.pointer (some ⟨p, 0, none⟩)) ∧ Here K45 W w' [.alias p m]) := Lib.hid (fun W bb cc m h1 h2 h3 => joined_any bb cc m W h1 h2 h3)
      have HTL : Hid (turnT (l.drop l.length) = []) := Lib.hid (by rw [List.drop_length]; rfl)
      clear hi hok
      generalize hn : l.length = n at *
      have Hn := Lib.hid hn
      clear hn
      go_enter Try.func4, Try.ntmps4
      go_wp2_with fail
      refine LV.out.mono ?_
      rintro e w1 ⟨rfl, b1⟩
      have H1 := Lib.hid (Here.nil (K := K45) b1)
      have HE := Lib.hid (HVY.out w1 b1)
      clear b1 LV HVY
      go_wp2_with fail
      refine HE.out.mono ?_
      rintro e wx ⟨rfl, rfl⟩
      clear HE
      obtain ⟨N, hN⟩ : ∃ N, w1.heap.size = N := ⟨_, rfl⟩
      obtain ⟨W2, hW2⟩ : ∃ W2, w1.alloc (.cells #[] 29) = W2 := ⟨_, rfl⟩
      have hm2 : MkP w W2 (.slice (some ⟨N, 0, none⟩) 0 0) (turnT (l.drop n)) := by
        rw [HTL.out, ← hW2, ← hN]
        exact ⟨row_empty (f := twoC) (Bk.new w1 [] 29), own_at H1.out.bel.size, H1.out.bel.alloc H1.out.bel.size _⟩
      have M2 := Lib.hid hm2
      have HN := Lib.hid hN
      have HW2 := Lib.hid hW2
      clear hm2 hN hW2
      go_wp2_with fail
      rw [HN.out, HW2.out]
      go_loopw [5, 6] (fun u c wr => ∃ j : Nat, j ≤ n ∧ c = .int .i64 ((j : Int) - 1) ∧ MkP w wr u (turnT (l.drop j))) (fun _ c _ => (intOf c + 1).toNat)
      case atStart => exact ⟨n, Nat.le_refl _, rfl, M2.out⟩
      case round =>
        obtain ⟨j, hj, rfl, hmj⟩ := hrel
        have HMJ := Lib.hid hmj
        clear hmj
        by_cases hlt : 0 < j
        · obtain ⟨i, rfl⟩ : ∃ i, j = i + 1 := ⟨j - 1, by omega⟩
          obtain ⟨q, hq⟩ : ∃ p, l[i]? = some p := ⟨l[i]'(by rw [Hn.out]; omega), List.getElem?_eq_getElem _⟩
          obtain ⟨B, off, rfl, hB, d0, d1⟩ := twos_at HIW.out hq
          have HCW : Hid (∀ W, Below w.heap.size w W → W.cell? ⟨B, off + i * 2, none⟩ = some (.string q.1) ∧ W.cell? ⟨B, off + i * 2 + 1, none⟩ = some (.string q.2)) := Lib.hid (fun W hb => ⟨(hb.cell (p := ⟨B, off + i * 2, none⟩) hB).trans d0, (hb.cell (p := ⟨B, off + i * 2 + 1, none⟩) hB).trans d1⟩)
          obtain ⟨c0, c1⟩ := HCW.out wr HMJ.out.bl
          have eji : ((i + 1 : Nat) : Int) - 1 = (i : Int) := by omega
          rw [eji]
          have hi0 : (0 : Int) ≤ (i : Int) := by omega
          have hi1 : (i : Int) < (n : Int) := by omega
          have HSN := Lib.hid (turn_step hq)
          have hlen : (turnT (l.drop (i + 1))).length ≤ 16 := by rw [turnT_len, List.length_drop, Hn.out]; omega
          have HLN : Hid ((turnT (l.drop (i + 1))).length + [(q.2, q.1)].length ≤ 1000000) := Lib.hid (by simp only [List.length_cons, List.length_nil]; omega)
          have hb3 := (Below.refl wr.heap.size wr).alloc (Nat.le_refl _) (.cells #[.string q.2, .string q.1] 29)
          have hb4 : Below wr.heap.size wr (wr.alloc (.cells #[.string q.2, .string q.1] 29)).drew := bdrewN hb3 1
          have HM2 := Lib.hid (HMJ.out.bel hb4)
          have HIN : Hid (InW (wr.alloc (.cells #[.string q.2, .string q.1] 29)).drew (some ⟨wr.heap.size, 0, none⟩) 2 ([(q.2, q.1)].map twoC)) := Lib.hid (inw_one (f := twoC) (x := (q.2, q.1)) (Bk.fr (Bk.new wr (twoC (q.2, q.1)) 29) (Fr.refl none' _).drew id))
          clear hq d0 d1 hlen hb3 hb4 eji
          generalize turnT (l.drop (i + 1)) = o at *
          go_wp2_with fail
          go_region_held3 (fun X => X.cell? ⟨B, off + i * 2, none⟩ = some (.string q.1) ∧ X.cell? ⟨B, off + i * 2 + 1, none⟩ = some (.string q.2)) (first | assumption | go_keep)
            ((refine step_append_m twoLen twoOne (by rfl) _ _ _ (by rfl) 29 i0 _ 32 Try.underlying22 hi0T hz0 hz1 hz2 rfl (by decide) (by omega) u5 o [(q.2, q.1)] (by rfl) HM2.out.tx (some ⟨wr.heap.size, 0, none⟩) 1 1 (by rfl) rfl HIN.out HLN.out ?_
              intro v5 w5 o5 f5 h5
              have HM5 := Lib.hid (HM2.out.more o5 f5 h5)
              have hS5 : w5.cell? ⟨B, off + i * 2, none⟩ = some (.string q.1) ∧ w5.cell? ⟨B, off + i * 2 + 1, none⟩ = some (.string q.2) := HCW.out w5 HM5.out.bl
              clear o5 f5 h5))
          go_wp2_with fail
          go_roundw
          case rel => exact ⟨i, by omega, by first | rfl | go_num, by rw [HSN.out]; exact HM5.out⟩
          case measure => simp [intOf]
        · obtain rfl : j = 0 := by omega
          rw [List.drop_zero] at HMJ
          have t3 : decide ((0 : Int) ≤ ((0 : Nat) : Int) - 1) = false := rfl
          obtain ⟨ub, uc, hu, hl1, hl2, huw, _⟩ := inw_of_rowm twoLen (by omega) HMJ.out.tx
          have htl := turnT_len l
          rw [Hn.out] at htl
          have HUW := Lib.hid huw
          have hjo := JO.out wr ub uc (turnT l) huw (by omega) (turn_ok HOK.out)
          rw [htl] at hu hjo
          subst hu
          have J1 := Lib.hid hjo
          have HTL2 := Lib.hid htl
          clear hjo huw htl hl1 hl2
          go_wp2_with fail
          refine J1.out.mono ?_
          rintro e w3 ⟨p3, rfl, h3⟩
          have h3' := h_congr h3 (i := 0) rfl (fun f => turnT_compat l f)
          obtain ⟨Bl, ha⟩ := h_at h3' (i := 0) rfl
          have M3 := Lib.hid (HMJ.out.bel h3.bel)
          have E3 := Lib.hid (EV.out w3 p3 Bl ha M3.out.bl)
          clear J1 h3 h3' ha
          go_wp2_with fail
          refine E3.out.mono ?_
          rintro e w4 ⟨rfl, b4⟩
          have M4 := Lib.hid (M3.out.bel b4)
          have HI4 := Lib.hid (InW.bel HIW.out M4.out.bl)
          have HLN4 : Hid ((turnT l).length + l.length ≤ 1000000) := Lib.hid (by rw [HTL2.out, Hn.out]; omega)
          have HN4 : Hid (n = l.length) := Lib.hid Hn.out.symm
          have htx4 := M4.out.tx
          have HTX4 : Hid (w4.ownsRow 0 29 2 (.slice ub n uc) (turnT l).length ((turnT l).flatMap twoC)) := Lib.hid htx4
          clear b4 E3 M3 htx4
          go_wp2_with (at_builtin; refine wpList_append_mg twoLen twoOne _ rfl _ _ _ rfl 29 i0 _ 32 Try.underlying22 hi0T hz0 hz1 hz2 rfl (by decide) (by omega) (.slice ub n uc) (turnT l) l rfl HTX4.out b n cap rfl HN4.out HI4.out HLN4.out ?_; intro v5 w5 o5 f5 h5)
          have M5 := Lib.hid (M4.out.more o5 f5 h5)
          clear o5 f5 h5 HTX4 HI4 HLN4 M4
          obtain ⟨vb, vc, hv, _, _, hvw, _⟩ := inw_of_rowm twoLen (by omega) M5.out.tx
          have hjo := JO.out w5 vb vc (turnT l ++ l) hvw (by rw [List.length_append, HTL2.out, Hn.out]; omega) (both_ok HOK.out)
          rw [← hv] at hjo
          have J5 := Lib.hid hjo
          clear hjo hvw hv
          go_wp2_with fail
          refine J5.out.mono ?_
          rintro e w6 ⟨p6, rfl, h6⟩
          have h6' := h_congr h6 (i := 0) rfl (fun f => turnT_both l f)
          obtain ⟨Bl6, ha6⟩ := h_at h6' (i := 0) rfl
          have M6 := Lib.hid (M5.out.bel h6.bel)
          have E6 := Lib.hid (EV.out w6 p6 Bl6 ha6 M6.out.bl)
          clear J5 h6 h6' ha6
          go_wp2_with fail
          refine E6.out.mono ?_
          rintro e w7 ⟨rfl, b7⟩
          have M7 := Lib.hid (M6.out.bel b7)
          clear b7 E6
          go_wp2_with fail
          go_ret
          exact ⟨rfl, M7.out.bl⟩

theorem own : ownKnob Try.prog.godebug = none := by kernel_rfl
theorem laidOut : laidOutB Try.prog = true := by kernel_rfl

set_option maxRecDepth 100000 in
theorem lifted (os : Os) (started : os.Started) (H : Type) (enc : TypeId × Value → H) :
    ReturnsInHanded {} Try.checked os 4 .any (Rows.aliasOrderSpec.pre6 enc Try.prog Try.f4 Rows.aliasOrderRow.domain false) (Rows.aliasOrderSpec.post enc Try.prog Try.f4 false true false false) := by
  refine returnsInHanded_of_change (C := Try.checked) own started (by kernel_rfl) Try.func4
    (ChangeSpec.witness6 (enc := enc) (C := Try.checked) false ⟨#[], #[.slice none 0 0, .string ⟨#[]⟩], []⟩ 8 (by kernel_rfl) (by kernel_rfl) (by kernel_rfl) (by kernel_rfl)) ?_
  intro W base args ds gs before hval0 hW hcnd _
  have hval : ∀ (j : Nat) t v, Try.f4.params[j]? = some t → args[j]? = some v → Value.okWide Try.prog W .any base t v := hval0
  have hW' := hW
  obtain ⟨p, q, hA0, hV, rfl, hfz, hnd⟩ := hW
  have hA : DataW.TrodAll enc Try.prog W 0 (fun _ => true) true Try.f4.params.toList args.toList ds p := hA0
  rw [Try.params4] at hA hval
  obtain ⟨v0, vs0, d0, ds0, p0, q0, hargs, rfl, rfl, h0, r0⟩ := trodAll_cons hA
  obtain ⟨v1, vs1, d1, ds1, p1, q1, rfl, rfl, rfl, h1, r1⟩ := trodAll_cons r0
  obtain ⟨rfl, rfl, rfl⟩ := trodAll_nil r1
  obtain rfl : args = #[v0, v1] := by cases args; simp_all
  obtain ⟨rfl, rfl⟩ := trodVars_none hV
  have k0 := h0
  have lt0 : ∀ x ∈ p0, x.block < W.heap.size := by obtain ⟨m, hm⟩ := k0; exact DataW.trod_lt m _ _ _ hm
  obtain ⟨b0, c0, x0, rfl, l0, m0, i0, o0⟩ := open_twos (hval 0 22 v0 rfl rfl) h0
  have k1 := h1
  have lt1 : ∀ x ∈ p1, x.block < W.heap.size := by obtain ⟨m, hm⟩ := k1; exact DataW.trod_lt m _ _ _ hm
  obtain ⟨a1, rfl, rfl, rfl, w1⟩ := open_string Try.underlying9 (hval 1 9 v1 rfl rfl) h1
  clear hA0 hval0
  refine (walk W b0 c0 x0 l0 m0 i0 o0 a1 w1).mono fun e W' ⟨he, bel⟩ => ?_
  subst he
  exact ⟨_, rfl, _, _, _, [], _, [], hW', trodAll_mk1 (shut_bool Try.underlying4 _), (trodAll_cons_mk (Below.trod laidOut (by kernel_rfl) (of_decide_eq_true (by kernel_rfl)) k0 bel lt0) (trodAll_cons_mk (Below.trod laidOut (by kernel_rfl) (of_decide_eq_true (by kernel_rfl)) k1 bel lt1) trodAll_mk0)), rfl, bel.frame _, fun h => by cases h⟩

theorem over : Rows.aliasOrderRow.holds Try.pinned (OpenSpec.ofChange Rows.aliasOrderSpec) :=
  OpenClaim.holds_of_wide 4 Try.f4 rfl rfl rfl rfl rfl rfl rfl ⟨rfl, rfl, rfl, rfl, rfl⟩ rfl rfl rfl rfl rfl (by kernel_rfl) Try.func4 (by kernel_rfl)
    (of_decide_eq_true (by kernel_rfl)) (by unfold Func.isWrapper; first | (rw [if_pos (by decide +kernel)]; kernel_rfl) | (rw [if_neg (by decide +kernel)]; exact ⟨rfl, rfl⟩))
    (fun os started H enc _ => lifted os started H enc)

theorem proved : Rows.AliasOrderSaid := over
#print axioms proved
end Go.Proofs.Ytgflfjmlhapplaa.aliasOrder

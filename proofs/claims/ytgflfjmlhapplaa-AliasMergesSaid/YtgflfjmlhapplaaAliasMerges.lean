/- For every input ciceronelaw45.AliasMerges returns true, and its arguments read behind the call as before. No conditions. -/
import Derived.Test.YtgflfjmlhapplaaAOpen
import Derived.Test.YtgflfjmlhapplaaAMerge
import Derived.Test.YtgflfjmlhapplaaRows
import Derived.ProofKit
import Derived.OpenShut
import Derived.ShutString
import Derived.ChangeOld
import Derived.Below
import Derived.Lib.SmallJoins
namespace Go.Proofs.Ytgflfjmlhapplaa.aliasMerges
open Go.ChangeShapes Go.WideShapes Go.ChangeAt Go.RowKit Go.Joins
open Go.ChangeMaps (open_string shut_string)
set_option linter.unusedVariables false

def t1w : ByteArray := ⟨#[111, 110, 101]⟩
def t2w : ByteArray := ⟨#[116, 119, 111]⟩
theorem joined_name {w : World} {p : Nat} {B : List Nat} {l : List Two} {x y : ByteArray} (h : AlAt w p B (l ++ [(x, y)])) (ht : twoB (x, y) = true) : nameR (l ++ [(x, y)]) y = nameR (l ++ [(x, y)]) x := by
  obtain ⟨m, M, r, rfl, h1, h2, h3⟩ := h
  rw [nameR_eq h3 h2, nameR_eq h3 h2]
  exact (h3.both (x, y) (by simp) ht).symm
theorem take_drop_compat (l : List Two) (k : Nat) (f : ByteArray → Prop) : Compat (l.drop k ++ l.take k) f ↔ Compat l f := by
  rw [Compat.append]
  conv => rhs; rw [← List.take_append_drop k l, Compat.append]
  exact And.comm
set_option maxRecDepth 100000 in
set_option maxHeartbeats 8000000 in
theorem walk (w : World) (b : Option Addr) (cap : Nat) (l : List Two) (hlc : l.length ≤ cap) (hm : cap ≤ maxLen) (hi : InW w b 2 (l.map twoC)) (ho : ∀ a ∈ l, twoOk a) (k : Int) (hk : (Lit.int .i64 k).wf = true) (x : ByteArray) (hx : x.size ≤ maxLen) :
    Calls Try.prog 7 #[.slice b l.length cap, .int .i64 k, .string x] w fun e w' => e = .returned (.bool true) ∧ Below w.heap.size w w' := by
  unfold maxLen at hx
  have hkk := i64_wf hk
  clear hk
  have LV := Lib.hid (lives_any w)
  have HVY : Hid (∀ W, Below w.heap.size w W → Calls Try.prog 9 #[.slice b l.length cap, .int .i64 16] W fun e w' => e = .returned (.bool (heavyB l 16)) ∧ W = w') := Lib.hid (fun W hb => heavy_any b cap l 16 W (InW.bel hi hb) hlc hm ho)
  cases hhv : heavyB l 16 with
  | true =>
    rw [hhv] at HVY
    clear hhv hi ho
    generalize l.length = n at *
    go_enter Try.func7, Try.ntmps7
    go_wp2_with fail
    refine LV.out.mono ?_
    rintro e w1 ⟨rfl, b1⟩
    have H1 := Lib.hid (Here.nil (K := K45) b1)
    have HE := Lib.hid (HVY.out w1 b1)
    clear b1 LV HVY
    go_wp2_with fail
    refine HE.out.mono ?_
    rintro e wx ⟨rfl, rfl⟩
    clear HE
    go_wp2_with fail
    go_ret
    exact ⟨rfl, H1.out.bel⟩
  | false =>
    rw [hhv] at HVY
    obtain ⟨hl16, hok⟩ := ok_of_heavy (most := 16) hhv
    clear hhv ho
    by_cases hxs : 100 < x.size
    · have t1 : decide ((100 : Int) < (x.size : Int)) = true := decide_eq_true (by omega)
      clear hi hok
      generalize l.length = n at *
      go_enter Try.func7, Try.ntmps7
      go_wp2_with fail
      refine LV.out.mono ?_
      rintro e w1 ⟨rfl, b1⟩
      have H1 := Lib.hid (Here.nil (K := K45) b1)
      have HE := Lib.hid (HVY.out w1 b1)
      clear b1 LV HVY
      go_wp2_with fail
      refine HE.out.mono ?_
      rintro e wx ⟨rfl, rfl⟩
      clear HE
      go_wp2_with fail
      go_ret
      exact ⟨rfl, H1.out.bel⟩
    · have t1 : decide ((100 : Int) < (x.size : Int)) = false := decide_eq_false (by omega)
      by_cases hk0 : k < 0
      · have t2 : decide (k < 0) = true := decide_eq_true hk0
        clear hi hok
        generalize l.length = n at *
        go_enter Try.func7, Try.ntmps7
        go_wp2_with fail
        refine LV.out.mono ?_
        rintro e w1 ⟨rfl, b1⟩
        have H1 := Lib.hid (Here.nil (K := K45) b1)
        have HE := Lib.hid (HVY.out w1 b1)
        clear b1 LV HVY
        go_wp2_with fail
        refine HE.out.mono ?_
        rintro e wx ⟨rfl, rfl⟩
        clear HE
        go_wp2_with fail
        go_ret
        exact ⟨rfl, H1.out.bel⟩
      · have t2 : decide (k < 0) = false := decide_eq_false hk0
        by_cases hkn : (l.length : Int) < k
        · have t3 : decide ((l.length : Int) < k) = true := decide_eq_true hkn
          clear hi hok
          generalize l.length = n at *
          go_enter Try.func7, Try.ntmps7
          go_wp2_with fail
          refine LV.out.mono ?_
          rintro e w1 ⟨rfl, b1⟩
          have H1 := Lib.hid (Here.nil (K := K45) b1)
          have HE := Lib.hid (HVY.out w1 b1)
          clear b1 LV HVY
          go_wp2_with fail
          refine HE.out.mono ?_
          rintro e wx ⟨rfl, rfl⟩
          clear HE
          go_wp2_with fail
          go_ret
          exact ⟨rfl, H1.out.bel⟩
        · have t3 : decide ((l.length : Int) < k) = false := decide_eq_false hkn
          obtain ⟨k, rfl⟩ : ∃ j : Nat, k = j := ⟨k.toNat, by omega⟩
          have hkl : k ≤ l.length := by omega
          have t2' : decide ((k : Int) < 0) = false := t2
          have t3' : decide (l.length < k) = false := decide_eq_false (by omega)
          have HIW := Lib.hid hi
          have HOK := Lib.hid hok
          have EV : Hid (∀ (W : World) (p : Nat) (Bl : List Nat), AlAt W p Bl l → Below w.heap.size w W → Calls Try.prog 15 #[.pointer (some ⟨p, 0, none⟩), .slice b l.length cap, .string x] W fun e w' => e = .returned (.bool true) ∧ Below W.heap.size W w') := Lib.hid (fun W p Bl ha hb => even_any p Bl b cap l x W ha (InW.bel hi hb) (by omega) hok (by omega))
          have JO : Hid (∀ (W : World) (bb : Option Addr) (cc n' : Nat) (m : List Two), InW W bb 2 (m.map twoC) → m.length = n' → m.length ≤ 1000 → (∀ p ∈ m, okTwo p) → Calls Try.prog 16 #[.slice bb n' cc] W fun e w' => ∃ p, e = .returned (.pointer (some ⟨p, 0, none⟩)) ∧ Here K45 W w' [.alias p m]) := Lib.hid (fun W bb cc n' m h1 h0 h2 h3 => by subst h0; exact joined_any bb cc m W h1 h2 h3)
          have HT : Hid (∀ W, Below w.heap.size w W → InW W b 2 ((l.take k).map twoC)) := Lib.hid (fun W hb => InW.take' (f := twoC) (InW.bel hi hb) k)
          have HD : Hid (∀ W, Below w.heap.size w W → InW W (subB b cap k 2) 2 ((l.drop k).map twoC)) := Lib.hid (fun W hb => by
            rw [List.map_drop]
            exact subB_inw (InW.bel hi hb) (by rw [List.length_map]; exact hlc))
          have hln1 : (l.take k).length = k := by rw [List.length_take]; omega
          have hln2 : (l.drop k).length = l.length - k := List.length_drop
          have HL1 := Lib.hid hln1
          have HL2 := Lib.hid hln2
          have hok1 : ∀ p ∈ l.take k, okTwo p := fun p hp => hok p (List.mem_of_mem_take hp)
          have hok2 : ∀ p ∈ l.drop k, okTwo p := fun p hp => hok p (List.mem_of_mem_drop hp)
          have HO1 := Lib.hid hok1
          have HO2 := Lib.hid hok2
          have EVD : Hid (∀ (W : World) (p : Nat) (Bl : List Nat), AlAt W p Bl (l.drop k) → Below w.heap.size w W → Calls Try.prog 15 #[.pointer (some ⟨p, 0, none⟩), .slice (subB b cap k 2) (l.length - k) (cap - k), .string x] W fun e w' => e = .returned (.bool true) ∧ Below W.heap.size W w') := Lib.hid (fun W p Bl ha hb => by
            have := even_any p Bl (subB b cap k 2) (cap - k) (l.drop k) x W ha (HD.out W hb) (by rw [hln2]; omega) hok2 (by omega)
            rw [hln2] at this
            exact this)
          have hsl1 := fun W => run_slice_to (P := Try.prog) W 22 29 b l.length cap k 2 Try.underlying22 sizeTwo (by omega)
          have hsl2 := fun W => run_slice_from (P := Try.prog) W 22 29 b l.length cap k 2 Try.underlying22 sizeTwo hkl
          have HTD : Hid (l.take k ++ l.drop k = l) := Lib.hid (List.take_append_drop k l)
          have hN : (l.take k).length ≤ 1000 ∧ (l.drop k).length ≤ 1000 := by omega
          have HNN := Lib.hid hN
          clear hi hok hok1 hok2 hln1 hln2 hN hk0 hkn t2 t3
          generalize hn : l.length = n at *
          have Hn := Lib.hid hn
          clear hn
          go_enter Try.func7, Try.ntmps7
          go_wp2_with fail
          refine LV.out.mono ?_
          rintro e w1 ⟨rfl, b1⟩
          have H1 := Lib.hid (Here.nil (K := K45) b1)
          have HE := Lib.hid (HVY.out w1 b1)
          clear b1 LV HVY
          go_wp2_with fail
          refine HE.out.mono ?_
          rintro e wx ⟨rfl, rfl⟩
          clear HE
          have J1 := Lib.hid (JO.out w1.drew b cap k (l.take k) (HT.out _ H1.out.drew.bel) HL1.out HNN.out.1 HO1.out)
          go_wp2_with fail
          go_region_held3 (fun X => True) (first | trivial | assumption)
            (first
              | (go_at_call 16
                 (with_reducible refine J1.out.mono ?_)
                 rintro e w2 ⟨p, rfl, h2⟩
                 have H2 := Lib.hid (H1.out.drew.adopt h2)
                 have J2 := Lib.hid (JO.out w2 (subB b cap k 2) (cap - k) (n - k) (l.drop k) (HD.out _ H2.out.bel) HL2.out HNN.out.2 HO2.out)
                 clear h2)
              | (go_at_call 16
                 (with_reducible refine J2.out.mono ?_)
                 rintro e w3 ⟨q, rfl, h3⟩
                 have H3 := Lib.hid (H2.out.adopt h3)
                 clear h3)
              | fail)
          have H3' : Hid (Here K45 w w3 [.alias p (l.take k), .alias q (l.drop k)]) := Lib.hid H3.out
          clear H3 H2 H1 J1 J2
          have CO := Lib.hid (h_copy H3'.out (i := 1) rfl)
          go_wp2_with fail
          refine CO.out.mono ?_
          rintro e w4 ⟨c, rfl, h4⟩
          have H4 : Hid (Here K45 w w4 [.alias p (l.take k), .alias q (l.drop k), .alias c (l.drop k)]) := Lib.hid h4
          clear h4 CO H3'
          have M1 := Lib.hid (h_merge H4.out (i := 2) (j := 0) rfl rfl (by decide))
          go_wp2_with fail
          refine M1.out.mono ?_
          rintro e w5 ⟨rfl, h5⟩
          have H5 : Hid (Here K45 w w5 [.alias p (l.take k), .alias q (l.drop k), .alias c (l.drop k ++ l.take k)]) := Lib.hid h5
          clear h5 M1 H4
          have M2 := Lib.hid (h_merge H5.out (i := 0) (j := 1) rfl rfl (by decide))
          go_wp2_with fail
          refine M2.out.mono ?_
          rintro e w6 ⟨rfl, h6⟩
          have h6' : Here K45 w w6 [.alias p (l.take k ++ l.drop k), .alias q (l.drop k), .alias c (l.drop k ++ l.take k)] := h6
          rw [HTD.out] at h6'
          have h7 := h_congr h6' (i := 2) rfl (fun f => take_drop_compat l k f)
          have H7 : Hid (Here K45 w w6 [.alias p l, .alias q (l.drop k), .alias c l]) := Lib.hid h7
          clear h6 h6' h7 M2 H5
          have MN := Lib.hid (merge_none ⟨p, 0, none⟩ w6)
          have MS := Lib.hid (merge_self p w6)
          go_wp2_with fail
          refine MN.out.mono ?_
          rintro e wx ⟨rfl, rfl⟩
          go_wp2_with fail
          refine MS.out.mono ?_
          rintro e wx ⟨rfl, rfl⟩
          clear MN MS
          obtain ⟨Blw8, haw8⟩ := h_at H7.out (i := 0) rfl
          have Ew8 := Lib.hid (EV.out w6 _ Blw8 haw8 H7.out.bel)
          clear haw8
          go_wp2_with fail
          refine Ew8.out.mono ?_
          rintro e w8 ⟨rfl, bw8⟩
          have Hw8 := Lib.hid (H7.out.step_bel bw8)
          clear bw8 Ew8 H7
          obtain ⟨Blw9, haw9⟩ := h_at Hw8.out (i := 2) rfl
          have Ew9 := Lib.hid (EV.out w8 _ Blw9 haw9 Hw8.out.bel)
          clear haw9
          go_wp2_with fail
          refine Ew9.out.mono ?_
          rintro e w9 ⟨rfl, bw9⟩
          have Hw9 := Lib.hid (Hw8.out.step_bel bw9)
          clear bw9 Ew9 Hw8
          obtain ⟨Blwa, hawa⟩ := h_at Hw9.out (i := 1) rfl
          have Ewa := Lib.hid (EVD.out w9 _ Blwa hawa Hw9.out.bel)
          clear hawa
          go_wp2_with fail
          refine Ewa.out.mono ?_
          rintro e wa ⟨rfl, bwa⟩
          have Hwa := Lib.hid (Hw9.out.step_bel bwa)
          clear bwa Ewa Hw9
          have CA := Lib.hid (h_copy Hwa.out (i := 0) rfl)
          go_wp2_with fail
          refine CA.out.mono ?_
          rintro e wb ⟨d, rfl, hb⟩
          have HB : Hid (Here K45 w wb [.alias p l, .alias q (l.drop k), .alias c l, .alias d l]) := Lib.hid hb
          clear hb CA Hwa
          have JD := Lib.hid (h_join HB.out (i := 3) rfl t1w t2w (by decide) (by decide))
          generalize canB l t1w t2w = cb at *
          go_wp2_with fail
          refine JD.out.mono ?_
          rintro e wc ⟨rfl, hc⟩
          have HC : Hid (Here K45 w wc [.alias p l, .alias q (l.drop k), .alias c l, .alias d (l ++ [(t1w, t2w)])]) := Lib.hid hc
          clear hc JD HB
          obtain ⟨Blwd, hawd⟩ := h_at HC.out (i := 0) rfl
          have Ewd := Lib.hid (EV.out wc _ Blwd hawd HC.out.bel)
          clear hawd
          go_wp2_with fail
          refine Ewd.out.mono ?_
          rintro e wd ⟨rfl, bwd⟩
          have Hwd := Lib.hid (HC.out.step_bel bwd)
          clear bwd Ewd HC
          obtain ⟨Bd, hd⟩ := h_at Hwd.out (i := 3) rfl
          have hjn := joined_name hd (by decide)
          have N1 := Lib.hid (name_at hd t1w (by decide))
          have N2 := Lib.hid (name_at hd t2w (by decide))
          rw [hjn] at N2
          clear hd hjn
          generalize nameR (l ++ [(t1w, t2w)]) t1w = nn at *
          go_wp2_with fail
          refine N2.out.mono ?_
          rintro e wx ⟨rfl, rfl⟩
          go_wp2_with fail
          refine N1.out.mono ?_
          rintro e wx ⟨rfl, rfl⟩
          clear N1 N2
          obtain ⟨Blwe, hawe⟩ := h_at Hwd.out (i := 1) rfl
          have Ewe := Lib.hid (EVD.out wd _ Blwe hawe Hwd.out.bel)
          clear hawe
          go_wp2_with fail
          refine Ewe.out.mono ?_
          rintro e we ⟨rfl, bwe⟩
          have Hwe := Lib.hid (Hwd.out.step_bel bwe)
          clear bwe Ewe Hwd
          go_wp2_with fail
          go_ret
          exact ⟨rfl, Hwe.out.bel⟩

theorem own : ownKnob Try.prog.godebug = none := by kernel_rfl
theorem laidOut : laidOutB Try.prog = true := by kernel_rfl

set_option maxRecDepth 100000 in
theorem lifted (os : Os) (started : os.Started) (H : Type) (enc : TypeId × Value → H) :
    ReturnsInHanded {} Try.checked os 7 .any (Rows.aliasMergesSpec.pre6 enc Try.prog Try.f7 Rows.aliasMergesRow.domain false) (Rows.aliasMergesSpec.post enc Try.prog Try.f7 false true false false) := by
  refine returnsInHanded_of_change (C := Try.checked) own started (by kernel_rfl) Try.func7
    (ChangeSpec.witness6 (enc := enc) (C := Try.checked) false ⟨#[], #[.slice none 0 0, .int .i64 0, .string ⟨#[]⟩], []⟩ 8 (by kernel_rfl) (by kernel_rfl) (by kernel_rfl) (by kernel_rfl)) ?_
  intro W base args ds gs before hval0 hW hcnd _
  have hval : ∀ (j : Nat) t v, Try.f7.params[j]? = some t → args[j]? = some v → Value.okWide Try.prog W .any base t v := hval0
  have hW' := hW
  obtain ⟨p, q, hA0, hV, rfl, hfz, hnd⟩ := hW
  have hA : DataW.TrodAll enc Try.prog W 0 (fun _ => true) true Try.f7.params.toList args.toList ds p := hA0
  rw [Try.params7] at hA hval
  obtain ⟨v0, vs0, d0, ds0, p0, q0, hargs, rfl, rfl, h0, r0⟩ := trodAll_cons hA
  obtain ⟨v1, vs1, d1, ds1, p1, q1, rfl, rfl, rfl, h1, r1⟩ := trodAll_cons r0
  obtain ⟨v2, vs2, d2, ds2, p2, q2, rfl, rfl, rfl, h2, r2⟩ := trodAll_cons r1
  obtain ⟨rfl, rfl, rfl⟩ := trodAll_nil r2
  obtain rfl : args = #[v0, v1, v2] := by cases args; simp_all
  obtain ⟨rfl, rfl⟩ := trodVars_none hV
  have k0 := h0
  have lt0 : ∀ x ∈ p0, x.block < W.heap.size := by obtain ⟨m, hm⟩ := k0; exact DataW.trod_lt m _ _ _ hm
  obtain ⟨b0, c0, x0, rfl, l0, m0, i0, o0⟩ := open_twos (hval 0 22 v0 rfl rfl) h0
  have k1 := h1
  have lt1 : ∀ x ∈ p1, x.block < W.heap.size := by obtain ⟨m, hm⟩ := k1; exact DataW.trod_lt m _ _ _ hm
  obtain ⟨a1, rfl, rfl, rfl, w1⟩ := open_int Try.underlying3 (hval 1 3 v1 rfl rfl) h1
  have k2 := h2
  have lt2 : ∀ x ∈ p2, x.block < W.heap.size := by obtain ⟨m, hm⟩ := k2; exact DataW.trod_lt m _ _ _ hm
  obtain ⟨a2, rfl, rfl, rfl, w2⟩ := open_string Try.underlying9 (hval 2 9 v2 rfl rfl) h2
  clear hA0 hval0
  refine (walk W b0 c0 x0 l0 m0 i0 o0 a1 w1 a2 w2).mono fun e W' ⟨he, bel⟩ => ?_
  subst he
  exact ⟨_, rfl, _, _, _, [], _, [], hW', trodAll_mk1 (shut_bool Try.underlying4 _), (trodAll_cons_mk (Below.trod laidOut (by kernel_rfl) (of_decide_eq_true (by kernel_rfl)) k0 bel lt0) (trodAll_cons_mk (Below.trod laidOut (by kernel_rfl) (of_decide_eq_true (by kernel_rfl)) k1 bel lt1) (trodAll_cons_mk (Below.trod laidOut (by kernel_rfl) (of_decide_eq_true (by kernel_rfl)) k2 bel lt2) trodAll_mk0))), rfl, bel.frame _, fun h => by cases h⟩

theorem over : Rows.aliasMergesRow.holds Try.pinned (OpenSpec.ofChange Rows.aliasMergesSpec) :=
  OpenClaim.holds_of_wide 7 Try.f7 rfl rfl rfl rfl rfl rfl rfl ⟨rfl, rfl, rfl, rfl, rfl⟩ rfl rfl rfl rfl rfl (by kernel_rfl) Try.func7 (by kernel_rfl)
    (of_decide_eq_true (by kernel_rfl)) (by unfold Func.isWrapper; first | (rw [if_pos (by decide +kernel)]; kernel_rfl) | (rw [if_neg (by decide +kernel)]; exact ⟨rfl, rfl⟩))
    (fun os started H enc _ => lifted os started H enc)

theorem proved : Rows.AliasMergesSaid := over
#print axioms proved
end Go.Proofs.Ytgflfjmlhapplaa.aliasMerges

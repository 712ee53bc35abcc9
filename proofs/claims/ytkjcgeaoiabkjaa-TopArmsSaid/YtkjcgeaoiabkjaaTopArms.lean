/- For every input ciceronetop.TopArms returns true, and its arguments read behind the call as before. No conditions. -/
import Derived.Test.YtkjcgeaoiabkjaaTNew
import Derived.Deep.DeepCutAuto
import Derived.Test.YtkjcgeaoiabkjaaRows
import Derived.ProofKit
import Derived.OpenShut
import Derived.ShutString
import Derived.ChangeOld
import Derived.Below
import Derived.Lib.SmallJoins
namespace Go.Proofs.Ytkjcgeaoiabkjaa.topArms
open Go.ChangeShapes Go.WideShapes Go.ChangeAt Go.RowKit Go.Joins
open Go.ChangeMaps (open_string shut_string)
set_option linter.unusedVariables false

theorem u16_wf {n : Int} (h : (Lit.int .u16 n).wf = true) : 0 ≤ n ∧ n ≤ 65535 := by
  simp only [Lit.wf, Bool.and_eq_true, decide_eq_true_eq] at h
  exact h
theorem u8_wf {q : Int} (h : (Lit.int .u8 q).wf = true) : 0 ≤ q ∧ q ≤ 255 := by
  simp only [Lit.wf, Bool.and_eq_true, decide_eq_true_eq] at h
  exact h
theorem name_a (w : World) : Calls Try.prog 12 #[.string ⟨#[97]⟩] w fun e w' => e = .returned (.bool true) ∧ w = w' := by
  have h := ename_any ⟨#[97]⟩ w (by decide)
  rwa [show nameB ⟨#[97]⟩ = true by rfl] at h
theorem name_is {s : ByteArray} {b : Bool} (h : nameB s = b) (hs : s.size ≤ maxLen) (w : World) : Calls Try.prog 12 #[.string s] w fun e w' => e = .returned (.bool b) ∧ w = w' := by
  have h1 := ename_any s w hs
  rwa [h] at h1
theorem arms_in {w0 w : World} {os : List ObN} {g : Nat} (h : Here KN w0 w os) (hi : os[0]? = some (.box g [.string ⟨#[120]⟩, .string ⟨#[121]⟩, .string ⟨#[122]⟩] 9)) (m : Nat) : InW w (some ⟨g, 0, none⟩) 1 ((armsL.take m).map fun s => [.string s]) := by
  have h1 := bk_inw (xs := armsL) (n_boxAt h hi)
  rw [List.map_take]
  exact h1.take m
theorem may_t {n l : ByteArray} {f t : Int} {g m : Nat} {W : World} (hi : InW W (some ⟨g, 0, none⟩) 1 ((armsL.take m).map fun s => [.string s])) (hm : m ≤ 3) (ok : TrOk n l f t (armsL.take m)) :
    Calls Try.prog 13 #[.agg #[.string n, .string l, .int .i64 f, .int .i64 t, .slice (some ⟨g, 0, none⟩) m 3]] W fun e w' => e = .returned (.bool true) ∧ Below W.heap.size W w' := by
  have h := tmay_any n l f t (some ⟨g, 0, none⟩) 3 (armsL.take m) W hi (by rw [arms_len hm]; exact hm) (by decide) ok
  rwa [arms_len hm] at h
theorem arm_t {n l p : ByteArray} {f t : Int} {g m : Nat} {W : World} (hi : InW W (some ⟨g, 0, none⟩) 1 ((armsL.take m).map fun s => [.string s])) (hm : m ≤ 3) (ok : TrOk n l f t (armsL.take m)) (hp : p.size ≤ maxLen) {b : Bool} {s : ByteArray} (hb : armIn l f t p = b) (hs : s = if b then armOf n (armsL.take m) p else ⟨#[]⟩) :
    Calls Try.prog 14 #[.agg #[.string n, .string l, .int .i64 f, .int .i64 t, .slice (some ⟨g, 0, none⟩) m 3], .string p] W fun e w' => e = .returned (.tuple #[.string s, .bool b]) ∧ Below W.heap.size W w' := by
  have h := tarm_any n l f t (some ⟨g, 0, none⟩) 3 (armsL.take m) p W hi (by rw [arms_len hm]; exact hm) (by decide) ok hp
  rw [arms_len hm] at h
  have e : armV n l f t (armsL.take m) p = .tuple #[.string s, .bool b] := by
    unfold armV
    rw [hb, hs]
    cases b <;> rfl
  rwa [e] at h
theorem zeroText (w : World) : (zeroValue 9).run Try.prog w = .ok (.string ⟨#[]⟩) w := by kernel_rfl
/-- what the book's map has of the first trial -/
theorem look_t {w : World} {r m : Nat} {n l p : ByteArray} {f t : Int} {L : List TV} {U O : TV} (hM : Mp encS okS w r (armsM (armsL.take m) p L)) (hl : L.length = 2) (ha : ∀ (i : Nat) (x y : TV), L[i]? = some x → [U, O][i]? = some y → Alike x y) (hU : U.nm = n ∧ U.ly = l ∧ U.f = f ∧ U.t = t) (hne : O.nm ≠ n) (hn : n.size ≤ maxLen) {b : Bool} {s : ByteArray} (hb : armIn l f t p = b) (hs : s = if b then armOf n (armsL.take m) p else ⟨#[]⟩) :
    (Instr.lookup 49 (.map (some r)) (.string n) true).run Try.prog w = .ok (.tuple #[.string s, .bool b]) w := by
  match L, hl with
  | [u, o], _ =>
    obtain ⟨u1, u2, u3, u4⟩ := ha 0 u U rfl rfl
    obtain ⟨o1, _, _, _⟩ := ha 1 o O rfl rfl
    obtain ⟨U1, U2, U3, U4⟩ := hU
    have h := hM.look (P := Try.prog) keyS Try.underlying49 (zeroText w) (a := n) hn true
    have hg := armsM_get (arms := armsL.take m) (pn := p) (u := u) (o := o) (by rw [o1, u1, U1]; exact hne)
    rw [u1, u2, u3, u4, U1, U2, U3, U4, hb] at hg
    rw [hg] at h
    have h' : (Instr.lookup 49 (.map (some r)) (.string n) true).run Try.prog w = _ := h
    rw [h', hs]
    cases b <;> rfl
theorem two_in {w : World} {g : Nat} {U O : TV} (h : Bk w g (tvC U ++ tvC O) 41) : InW w (some ⟨g, 0, none⟩) 5 ([U, O].map tvC) := by
  refine .inr ⟨g, 0, rfl, h.lt, fun i r hr k v hv => ?_⟩
  have hk := (List.getElem?_eq_some_iff.1 hv).1
  match i with
  | 0 =>
    simp only [List.map_cons, List.map_nil, List.getElem?_cons_zero, Option.some.injEq] at hr
    subst hr
    have := h.cell k
    rw [List.getElem?_append_left hk] at this
    rw [Nat.zero_mul, Nat.zero_add]
    exact this.trans hv
  | 1 =>
    simp only [List.map_cons, List.map_nil, List.getElem?_cons_zero, List.getElem?_cons_succ, Option.some.injEq] at hr
    subst hr
    have := h.cell (5 + k)
    rw [List.getElem?_append_right (by simp [tvC]), show 5 + k - (tvC U).length = k by simp [tvC]] at this
    rw [Nat.one_mul, Nat.zero_add]
    exact this.trans hv
  | i + 2 => simp at hr
set_option maxRecDepth 20000 in
set_option maxHeartbeats 4000000 in
theorem walk (n : ByteArray) (hn : n.size ≤ maxLen) (l : ByteArray) (hl : l.size ≤ maxLen) (p : ByteArray) (hp : p.size ≤ maxLen) (a3 : Int) (w3 : (Lit.int .u16 a3).wf = true) (a4 : Int) (w4 : (Lit.int .u16 a4).wf = true) (a5 : Int) (w5 : (Lit.int .u16 a5).wf = true) (a6 : Int) (w6 : (Lit.int .u8 a6).wf = true) (w : World) :
    Calls Try.prog 4 #[.string n, .string l, .string p, .int .u16 a3, .int .u16 a4, .int .u16 a5, .int .u8 a6] w fun e w' => e = .returned (.bool true) ∧ Below w.heap.size w w' := by
  have h3 := u16_wf w3
  have h4 := u16_wf w4
  have h5 := u16_wf w5
  have h6 := u8_wf w6
  have NA := Lib.hid name_a
  have HN := Lib.hid hn
  have HL := Lib.hid hl
  have HP := Lib.hid hp
  clear w3 w4 w5 w6 hn hl hp
  cases en : nameB n with
  | false =>
    have N1 := Lib.hid (name_is en HN.out)
    clear en
    go_enter Try.func4, Try.ntmps4
    go_wp2_with fail
    refine (NA.out _).mono ?_
    rintro e w1 ⟨rfl, rfl⟩
    go_wp2_with fail
    refine (N1.out _).mono ?_
    rintro e w1 ⟨rfl, rfl⟩
    go_wp2_with fail
    refine (NA.out _).mono ?_
    rintro e w1 ⟨rfl, rfl⟩
    go_wp2_with fail
    go_ret
    exact ⟨rfl, Below.refl _ _⟩
  | true =>
    have N1 := Lib.hid (name_is en HN.out)
    cases el : nameB l with
    | false =>
      have N2 := Lib.hid (name_is el HL.out)
      clear en el
      go_enter Try.func4, Try.ntmps4
      go_wp2_with fail
      refine (NA.out _).mono ?_
      rintro e w1 ⟨rfl, rfl⟩
      go_wp2_with fail
      refine (N1.out _).mono ?_
      rintro e w1 ⟨rfl, rfl⟩
      go_wp2_with fail
      refine (N2.out _).mono ?_
      rintro e w1 ⟨rfl, rfl⟩
      go_wp2_with fail
      refine (NA.out _).mono ?_
      rintro e w1 ⟨rfl, rfl⟩
      go_wp2_with fail
      go_ret
      exact ⟨rfl, Below.refl _ _⟩
    | true =>
      have N2 := Lib.hid (name_is el HL.out)
      cases ep : nameB p with
      | false =>
        have N3 := Lib.hid (name_is ep HP.out)
        clear en el ep
        go_enter Try.func4, Try.ntmps4
        go_wp2_with fail
        refine (NA.out _).mono ?_
        rintro e w1 ⟨rfl, rfl⟩
        go_wp2_with fail
        refine (N1.out _).mono ?_
        rintro e w1 ⟨rfl, rfl⟩
        go_wp2_with fail
        refine (N2.out _).mono ?_
        rintro e w1 ⟨rfl, rfl⟩
        go_wp2_with fail
        refine (N3.out _).mono ?_
        rintro e w1 ⟨rfl, rfl⟩
        go_wp2_with fail
        refine (NA.out _).mono ?_
        rintro e w1 ⟨rfl, rfl⟩
        go_wp2_with fail
        go_ret
        exact ⟨rfl, Below.refl _ _⟩
      | true =>
        have N3 := Lib.hid (name_is ep HP.out)
        have EN := Lib.hid en
        have EL := Lib.hid el
        clear en el ep
        go_enter Try.func4, Try.ntmps4
        go_wp2_with fail
        refine (NA.out _).mono ?_
        rintro e w1 ⟨rfl, rfl⟩
        go_wp2_with fail
        refine (N1.out _).mono ?_
        rintro e w1 ⟨rfl, rfl⟩
        go_wp2_with fail
        refine (N2.out _).mono ?_
        rintro e w1 ⟨rfl, rfl⟩
        go_wp2_with fail
        refine (N3.out _).mono ?_
        rintro e w1 ⟨rfl, rfl⟩
        go_wp2_with fail
        obtain ⟨f, hf⟩ : ∃ f, a3 % 1000 = f := ⟨_, rfl⟩
        obtain ⟨m, hm⟩ : ∃ m, (2 + a6 % 2).toNat = m := ⟨_, rfl⟩
        have hf0 : 0 ≤ f ∧ f ≤ 999 := by omega
        have hm0 : 2 ≤ m ∧ m ≤ 3 := by omega
        have hh1 := n_box (Here.nil (K := KN) (Below.refl w.heap.size w)) [.string ⟨#[120]⟩, .string ⟨#[121]⟩, .string ⟨#[122]⟩] 9
        have hh2 := n_box hh1 [.string n, .string l, .int .i64 f, .int .i64 0, .slice (some ⟨w.heap.size, 0, none⟩) m 3] 41
        rw [show (w.alloc (.cells #[.string ⟨#[120]⟩, .string ⟨#[121]⟩, .string ⟨#[122]⟩] 9)).heap.size = w.heap.size + 1 by simp] at hh2
        rw [hf, hm]
        clear hh1 hf hm h3 h6 N1 N2 N3
        obtain ⟨g, hg⟩ : ∃ g, w.heap.size = g := ⟨_, rfl⟩
        rw [hg] at hh2 ⊢
        have H2 := Lib.hid hh2
        generalize ((w.alloc _).alloc _) = W2 at *
        have k2 : W2.cell? ⟨g + 1, 2, none⟩ = some (.int .i64 f) := (n_boxAt hh2 (i := 1) rfl).cell 2
        have kf3 := (n_boxAt hh2 (i := 1) rfl).free 3
        clear hh2 hg
        have q1 : IntKind.i64.wrap a4 = a4 := IntWalk.i64_in _ (by omega)
        have q2 : IntKind.i64.wrap (1000 - f) = 1000 - f := IntWalk.i64_in _ (by omega)
        have q3 : IntKind.i64.wrap (f + 1) = f + 1 := IntWalk.i64_in _ (by omega)
        have q4 : ¬ (1000 - f = 0) := by omega
        have k3c : W2.cell? ⟨g + 1, 3, none⟩ = some (.int .i64 0) := (n_boxAt H2.out (i := 1) rfl).cell 3
        obtain ⟨t, ht, ht0⟩ : ∃ t, f + 1 + a4 % (1000 - f) = t ∧ f < t ∧ t ≤ 1000 := ⟨_, rfl, by
          have h2 := Int.emod_nonneg a4 q4
          have h3 := Int.emod_lt_of_pos a4 (b := 1000 - f) (by omega)
          omega⟩
        have q5 : IntKind.i64.wrap (f + 1 + a4 % (1000 - f)) = t := by rw [ht]; exact IntWalk.i64_in _ (by omega)
        clear ht
        go_region
        go_upto_region 5 with fail
        have H4 := Lib.hid ((n_set H2.out (i := 1) rfl 3 (.int .i64 t)).drew)
        clear q1 q2 q3 q4 q5 k2 kf3 H2 k3c
        generalize (W2.setCell ⟨g + 1, 3, none⟩ (.int .i64 t)).drew = W4 at *
        obtain ⟨c0, c1, c2, c3, c4⟩ : W4.cell? ⟨g + 1, 0, none⟩ = some (.string n) ∧ W4.cell? ⟨g + 1, 1, none⟩ = some (.string l) ∧ W4.cell? ⟨g + 1, 2, none⟩ = some (.int .i64 f) ∧ W4.cell? ⟨g + 1, 3, none⟩ = some (.int .i64 t) ∧ W4.cell? ⟨g + 1, 4, none⟩ = some (.slice (some ⟨g, 0, none⟩) m 3) := by
          have hk := n_boxAt H4.out (i := 1) rfl
          exact ⟨hk.cell 0, hk.cell 1, hk.cell 2, hk.cell 3, hk.cell 4⟩
        have H5 := Lib.hid (n_box H4.out [.string n, .string l, .int .i64 f, .int .i64 t, .slice (some ⟨g, 0, none⟩) m 3] 41)
        obtain ⟨u, hu⟩ : ∃ u, W4.heap.size = u := ⟨_, rfl⟩
        go_upto_region 6 with fail
        rw [hu] at H5
        generalize W4.alloc _ = W5 at *
        clear hu c0 c1 c2 c3 c4 H4
        have e3 : W5.cell? ⟨g + 1, 3, none⟩ = some (.int .i64 t) := (n_boxAt H5.out (i := 1) rfl).cell 3
        have e4 : W5.cell? ⟨u, 3, none⟩ = some (.int .i64 t) := (n_boxAt H5.out (i := 2) rfl).cell 3
        have e5 := (n_boxAt H5.out (i := 2) rfl).free 3
        have q1 : IntKind.i64.wrap a5 = a5 := IntWalk.i64_in _ (by omega)
        have q2 : IntKind.i64.wrap (1001 - t) = 1001 - t := IntWalk.i64_in _ (by omega)
        have q4 : ¬ (1001 - t = 0) := by omega
        obtain ⟨v, hv, hv0⟩ : ∃ v, t + a5 % (1001 - t) = v ∧ t ≤ v ∧ v ≤ 1000 := ⟨_, rfl, by
          have h2 := Int.emod_nonneg a5 q4
          have h3 := Int.emod_lt_of_pos a5 (b := 1001 - t) (by omega)
          omega⟩
        have q5 : IntKind.i64.wrap (t + a5 % (1001 - t)) = v := by rw [hv]; exact IntWalk.i64_in _ (by omega)
        clear hv
        go_region
        go_upto_region 7 with fail
        have H6 : Hid (Here KN w (W5.setCell ⟨u, 3, none⟩ (.int .i64 v)).drew [.box g [.string ⟨#[120]⟩, .string ⟨#[121]⟩, .string ⟨#[122]⟩] 9, .box (g + 1) [.string n, .string l, .int .i64 f, .int .i64 t, .slice (some ⟨g, 0, none⟩) m 3] 41, .box u [.string n, .string l, .int .i64 f, .int .i64 v, .slice (some ⟨g, 0, none⟩) m 3] 41]) := Lib.hid ((n_set H5.out (i := 2) rfl 3 (.int .i64 v)).drew)
        clear q1 q2 q4 q5 e3 e4 e5 H5
        generalize (W5.setCell ⟨u, 3, none⟩ (.int .i64 v)).drew = W6 at *
        have OKT : Hid (TrOk n l f t (armsL.take m)) := Lib.hid (tr_ok EN.out EL.out hf0.1 ht0.1 ht0.2 (by omega) hm0.2)
        have OKU : Hid (TrOk n l f v (armsL.take m)) := Lib.hid (tr_ok EN.out EL.out hf0.1 (by omega) hv0.2 (by omega) hm0.2)
        obtain ⟨x0, x1, x2, x3, x4⟩ : W6.cell? ⟨(g + 1), 0, none⟩ = some (.string n) ∧ W6.cell? ⟨(g + 1), 1, none⟩ = some (.string l) ∧ W6.cell? ⟨(g + 1), 2, none⟩ = some (.int .i64 f) ∧ W6.cell? ⟨(g + 1), 3, none⟩ = some (.int .i64 t) ∧ W6.cell? ⟨(g + 1), 4, none⟩ = some (.slice (some ⟨g, 0, none⟩) m 3) := by
          have hk := n_boxAt H6.out (i := 1) rfl
          exact ⟨hk.cell 0, hk.cell 1, hk.cell 2, hk.cell 3, hk.cell 4⟩
        have C1 := Lib.hid (may_t (arms_in H6.out rfl m) hm0.2 OKT.out)
        go_wp2_with fail
        refine C1.out.mono ?_
        rintro e W7 ⟨rfl, b7⟩
        have H7 := Lib.hid (H6.out.step_bel b7)
        clear x0 x1 x2 x3 x4 C1 H6 b7
        obtain ⟨x0, x1, x2, x3, x4⟩ : W7.cell? ⟨u, 0, none⟩ = some (.string n) ∧ W7.cell? ⟨u, 1, none⟩ = some (.string l) ∧ W7.cell? ⟨u, 2, none⟩ = some (.int .i64 f) ∧ W7.cell? ⟨u, 3, none⟩ = some (.int .i64 v) ∧ W7.cell? ⟨u, 4, none⟩ = some (.slice (some ⟨g, 0, none⟩) m 3) := by
          have hk := n_boxAt H7.out (i := 2) rfl
          exact ⟨hk.cell 0, hk.cell 1, hk.cell 2, hk.cell 3, hk.cell 4⟩
        have C1 := Lib.hid (may_t (arms_in H7.out rfl m) hm0.2 OKU.out)
        go_wp2_with fail
        refine C1.out.mono ?_
        rintro e W8 ⟨rfl, b8⟩
        have H8 := Lib.hid (H7.out.step_bel b8)
        clear x0 x1 x2 x3 x4 C1 H7 b8
        obtain ⟨x0, x1, x2, x3, x4⟩ : W8.cell? ⟨(g + 1), 0, none⟩ = some (.string n) ∧ W8.cell? ⟨(g + 1), 1, none⟩ = some (.string l) ∧ W8.cell? ⟨(g + 1), 2, none⟩ = some (.int .i64 f) ∧ W8.cell? ⟨(g + 1), 3, none⟩ = some (.int .i64 t) ∧ W8.cell? ⟨(g + 1), 4, none⟩ = some (.slice (some ⟨g, 0, none⟩) m 3) := by
          have hk := n_boxAt H8.out (i := 1) rfl
          exact ⟨hk.cell 0, hk.cell 1, hk.cell 2, hk.cell 3, hk.cell 4⟩
        have HBK : Hid (∀ W, Calls Try.prog 15 #[.string l, .string p] W fun e w' => e = .returned (.int .i64 (bucketF l p : Nat)) ∧ Below W.heap.size W w') := Lib.hid (fun W => bucket_any l p W HL.out HP.out)
        have hbk := bucketF_lt l p
        have HMO : Hid (armIn l f t p = true → armIn l f v p = true) := Lib.hid (armIn_more hv0.1)
        obtain ⟨kb, hkb⟩ : ∃ kb, bucketF l p = kb := ⟨_, rfl⟩
        rw [hkb] at HBK hbk
        clear hkb
        have bk0 : decide ((kb : Int) < 0) = false := decide_eq_false (by omega)
        have bk1 : decide ((1000 : Int) ≤ (kb : Int)) = false := decide_eq_false (by omega)
        have HLS := Lib.hid (nameB_size EL.out)
        cases e1 : armIn l f t p with
        | true =>
          have e2 := HMO.out e1
          obtain ⟨S, hS⟩ : ∃ S, S = armOf n (armsL.take m) p := ⟨_, rfl⟩
          have C1 := Lib.hid (arm_t (b := true) (s := S) (arms_in H8.out rfl m) hm0.2 OKT.out HP.out e1 hS)
          have E2 := Lib.hid e2
          have HS := Lib.hid hS
          clear e1 e2 hS
          go_wp2_with fail
          refine C1.out.mono ?_
          rintro e W9 ⟨rfl, b9⟩
          have H9 := Lib.hid (H8.out.step_bel b9)
          clear x0 x1 x2 x3 x4 C1 H8 b9
          obtain ⟨x0, x1, x2, x3, x4⟩ : W9.cell? ⟨u, 0, none⟩ = some (.string n) ∧ W9.cell? ⟨u, 1, none⟩ = some (.string l) ∧ W9.cell? ⟨u, 2, none⟩ = some (.int .i64 f) ∧ W9.cell? ⟨u, 3, none⟩ = some (.int .i64 v) ∧ W9.cell? ⟨u, 4, none⟩ = some (.slice (some ⟨g, 0, none⟩) m 3) := by
            have hk := n_boxAt H9.out (i := 2) rfl
            exact ⟨hk.cell 0, hk.cell 1, hk.cell 2, hk.cell 3, hk.cell 4⟩
          have C1 := Lib.hid (arm_t (b := true) (s := S) (arms_in H9.out rfl m) hm0.2 OKU.out HP.out E2.out HS.out)
          go_wp2_with fail
          refine C1.out.mono ?_
          rintro e W10 ⟨rfl, b10⟩
          have H10 := Lib.hid (H9.out.step_bel b10)
          clear x0 x1 x2 x3 x4 C1 H9 b10
          go_wp2_with fail
          refine (HBK.out _).mono ?_
          rintro e W11 ⟨rfl, b11⟩
          have H11 := Lib.hid (H10.out.step_bel b11)
          clear H10 b11
          go_wp2_with fail
          refine (HBK.out _).mono ?_
          rintro e W12 ⟨rfl, b12⟩
          have H12 := Lib.hid (H11.out.step_bel b12)
          clear H11 b12
          have hxs : (l ++ xN).size ≤ 25 := by
            have h := HLS.out.2
            have : (l ++ xN).size = l.size + 1 := by
              show (l ++ xN).data.size = l.data.size + 1
              rw [show (l ++ xN).data = l.data ++ xN.data by simp, Array.size_append]; rfl
            omega
          have hq9 : ¬ 9223372036854775807 < l.size + 1 := by have := HLS.out.2; omega
          have z4 : W12.cell? ⟨g + 1, 4, none⟩ = some (.slice (some ⟨g, 0, none⟩) m 3) := (n_boxAt H12.out (i := 1) rfl).cell 4
          go_upto_region 14 with fail
          have H13 := Lib.hid (n_box H12.out [.string otherN, .string (l ++ xN), .int .i64 0, .int .i64 1000, .slice (some ⟨g, 0, none⟩) m 3] 41)
          clear z4 hq9 bk0 bk1 hbk HBK
          obtain ⟨o, ho⟩ : ∃ o, W12.heap.size = o := ⟨_, rfl⟩
          rw [ho] at H13 ⊢
          have H14 : Hid (Here KN w (W12.alloc (.cells #[.string ⟨#[111, 116, 104, 101, 114]⟩, .string (l ++ ⟨#[120]⟩), .int .i64 0, .int .i64 1000, .slice (some ⟨g, 0, none⟩) m 3] 41)) _) := H13
          clear H13 ho H12
          generalize W12.alloc _ = W13 at *
          have z0 : W13.cell? ⟨o, 0, none⟩ = some (.string ⟨#[111, 116, 104, 101, 114]⟩) := (n_boxAt H14.out (i := 3) rfl).cell 0
          by_cases hno : n = otherN
          · have t5 : n.toList = [111, 116, 104, 101, 114] := by rw [hno, Go.ByteArray.toList_eq]; rfl
            have t5b : (n.toList == [111, 116, 104, 101, 114]) = true := by rw [t5]; rfl
            clear hno
            go_wp2_with fail
            go_ret
            exact ⟨rfl, H14.out.bel⟩
          · have t5b : (n.toList == [111, 116, 104, 101, 114]) = false := by
              have h := bytesEq n otherN
              rw [decide_eq_false hno, show otherN.toList = [111, 116, 104, 101, 114] by rw [Go.ByteArray.toList_eq]; rfl] at h
              exact h
            have t5 : ¬ n.toList = [111, 116, 104, 101, 114] := by simpa using t5b
            have HNO := Lib.hid hno
            clear hno
            by_cases h23 : 23 < l.size
            · have t6 : decide ((23 : Int) < (l.size : Int)) = true := decide_eq_true (by omega)
              go_wp2_with fail
              go_ret
              exact ⟨rfl, H14.out.bel⟩
            · have t6 : decide ((23 : Int) < (l.size : Int)) = false := decide_eq_false (by omega)
              have HXN : Hid (nameB (l ++ xN) = true) := Lib.hid (name_x EL.out (by omega))
              clear h23
              obtain ⟨x0, x1, x2, x3, x4⟩ : W13.cell? ⟨u, 0, none⟩ = some (.string n) ∧ W13.cell? ⟨u, 1, none⟩ = some (.string l) ∧ W13.cell? ⟨u, 2, none⟩ = some (.int .i64 f) ∧ W13.cell? ⟨u, 3, none⟩ = some (.int .i64 v) ∧ W13.cell? ⟨u, 4, none⟩ = some (.slice (some ⟨g, 0, none⟩) m 3) := by
                have hk := n_boxAt H14.out (i := 2) rfl
                exact ⟨hk.cell 0, hk.cell 1, hk.cell 2, hk.cell 3, hk.cell 4⟩
              obtain ⟨y0, y1, y2, y3, y4⟩ : W13.cell? ⟨o, 0, none⟩ = some (.string ⟨#[111, 116, 104, 101, 114]⟩) ∧ W13.cell? ⟨o, 1, none⟩ = some (.string (l ++ ⟨#[120]⟩)) ∧ W13.cell? ⟨o, 2, none⟩ = some (.int .i64 0) ∧ W13.cell? ⟨o, 3, none⟩ = some (.int .i64 1000) ∧ W13.cell? ⟨o, 4, none⟩ = some (.slice (some ⟨g, 0, none⟩) m 3) := by
                have hk := n_boxAt H14.out (i := 3) rfl
                exact ⟨hk.cell 0, hk.cell 1, hk.cell 2, hk.cell 3, hk.cell 4⟩
              go_upto_region 16 with fail
              have OKO : Hid (TrOk otherN (l ++ xN) 0 1000 (armsL.take m)) := Lib.hid (tr_ok other_name HXN.out (by omega) (by omega) (by omega) (by omega) hm0.2)
              have H15 := Lib.hid (n_box H14.out [.string n, .string l, .int .i64 f, .int .i64 v, .slice (some ⟨g, 0, none⟩) m 3, .string otherN, .string (l ++ xN), .int .i64 0, .int .i64 1000, .slice (some ⟨g, 0, none⟩) m 3] 41)
              obtain ⟨q, hq⟩ : ∃ q, W13.heap.size = q := ⟨_, rfl⟩
              rw [hq] at H15
              have hte := tnew_any (some ⟨q, 0, none⟩) 2 [({ nm := n, ly := l, f := f, t := v, b := some ⟨g, 0, none⟩, n := m, c := 3 } : TV), { nm := otherN, ly := l ++ xN, f := 0, t := 1000, b := some ⟨g, 0, none⟩, n := m, c := 3 }] (armsL.take m) _ (two_in (n_boxAt H15.out (i := 4) rfl)) (Nat.le_refl _) (by decide) (by simp) (fun x hx => by
                have ha := arms_in H15.out rfl m
                have e := arms_len hm0.2
                simp only [List.mem_cons, List.not_mem_nil, or_false] at hx
                rcases hx with rfl | rfl
                · exact ⟨OKU.out, ha, e.symm, by rw [e]; exact hm0.2, by show (3 : Nat) ≤ maxLen; decide⟩
                · exact ⟨OKO.out, ha, e.symm, by rw [e]; exact hm0.2, by show (3 : Nat) ≤ maxLen; decide⟩) (fun i j x y hij hx hy => by
                have hj := (List.getElem?_eq_some_iff.1 hy).1
                simp only [List.length_cons, List.length_nil] at hj
                obtain rfl : i = 0 := by omega
                obtain rfl : j = 1 := by omega
                simp only [List.getElem?_cons_zero, List.getElem?_cons_succ, Option.some.injEq] at hx hy
                subst hx hy
                exact ⟨HNO.out, fun e => x_ne l e.symm⟩)
              have HTE := Lib.hid hte
              clear hte
              go_wp2_with fail
              refine HTE.out.mono ?_
              rintro e W16 ⟨gb, ub, uc, L, rfl, r1, r2, r3, r4, r5, r6, r7, r8, b16⟩
              have H16 := Lib.hid (H15.out.step_bel b16)
              have HR := Lib.hid (And.intro r7 r8)
              have HBA := Lib.hid (barms_any gb ub uc (.map none) L (armsL.take m) p W16 r1 r2 r3 r4 r5 r6 HP.out)
              clear r1 r2 r3 r4 r5 r6 r7 r8 b16 HTE H15 hq OKO x0 x1 x2 x3 x4 y0 y1 y2 y3 y4
              go_wp2_with fail
              refine HBA.out.mono ?_
              rintro e W17 ⟨rfl, hM, b17⟩
              have H17 := Lib.hid (H16.out.step_bel b17)
              generalize W16.heap.size = r at *
              have hlk := look_t hM HR.out.1 HR.out.2 ⟨rfl, rfl, rfl, rfl⟩ (fun e => HNO.out e.symm) HN.out (b := true) (s := S) E2.out HS.out
              clear hM b17 HBA H16
              go_wp2_with fail
              go_ret
              exact ⟨rfl, H17.out.bel⟩
        | false =>
          cases e2 : armIn l f v p with
          | true =>
            obtain ⟨S, hS⟩ : ∃ S, S = armOf n (armsL.take m) p := ⟨_, rfl⟩
            have C1 := Lib.hid (arm_t (b := false) (s := ⟨#[]⟩) (arms_in H8.out rfl m) hm0.2 OKT.out HP.out e1 rfl)
            have E2 := Lib.hid e2
            have HS := Lib.hid hS
            clear e1 e2 hS
            go_wp2_with fail
            refine C1.out.mono ?_
            rintro e W9 ⟨rfl, b9⟩
            have H9 := Lib.hid (H8.out.step_bel b9)
            clear x0 x1 x2 x3 x4 C1 H8 b9
            obtain ⟨x0, x1, x2, x3, x4⟩ : W9.cell? ⟨u, 0, none⟩ = some (.string n) ∧ W9.cell? ⟨u, 1, none⟩ = some (.string l) ∧ W9.cell? ⟨u, 2, none⟩ = some (.int .i64 f) ∧ W9.cell? ⟨u, 3, none⟩ = some (.int .i64 v) ∧ W9.cell? ⟨u, 4, none⟩ = some (.slice (some ⟨g, 0, none⟩) m 3) := by
              have hk := n_boxAt H9.out (i := 2) rfl
              exact ⟨hk.cell 0, hk.cell 1, hk.cell 2, hk.cell 3, hk.cell 4⟩
            have C1 := Lib.hid (arm_t (b := true) (s := S) (arms_in H9.out rfl m) hm0.2 OKU.out HP.out E2.out HS.out)
            go_wp2_with fail
            refine C1.out.mono ?_
            rintro e W10 ⟨rfl, b10⟩
            have H10 := Lib.hid (H9.out.step_bel b10)
            clear x0 x1 x2 x3 x4 C1 H9 b10
            go_wp2_with fail
            refine (HBK.out _).mono ?_
            rintro e W11 ⟨rfl, b11⟩
            have H11 := Lib.hid (H10.out.step_bel b11)
            clear H10 b11
            go_wp2_with fail
            refine (HBK.out _).mono ?_
            rintro e W12 ⟨rfl, b12⟩
            have H12 := Lib.hid (H11.out.step_bel b12)
            clear H11 b12
            have hxs : (l ++ xN).size ≤ 25 := by
              have h := HLS.out.2
              have : (l ++ xN).size = l.size + 1 := by
                show (l ++ xN).data.size = l.data.size + 1
                rw [show (l ++ xN).data = l.data ++ xN.data by simp, Array.size_append]; rfl
              omega
            have hq9 : ¬ 9223372036854775807 < l.size + 1 := by have := HLS.out.2; omega
            have z4 : W12.cell? ⟨g + 1, 4, none⟩ = some (.slice (some ⟨g, 0, none⟩) m 3) := (n_boxAt H12.out (i := 1) rfl).cell 4
            go_upto_region 14 with fail
            have H13 := Lib.hid (n_box H12.out [.string otherN, .string (l ++ xN), .int .i64 0, .int .i64 1000, .slice (some ⟨g, 0, none⟩) m 3] 41)
            clear z4 hq9 bk0 bk1 hbk HBK
            obtain ⟨o, ho⟩ : ∃ o, W12.heap.size = o := ⟨_, rfl⟩
            rw [ho] at H13 ⊢
            have H14 : Hid (Here KN w (W12.alloc (.cells #[.string ⟨#[111, 116, 104, 101, 114]⟩, .string (l ++ ⟨#[120]⟩), .int .i64 0, .int .i64 1000, .slice (some ⟨g, 0, none⟩) m 3] 41)) _) := H13
            clear H13 ho H12
            generalize W12.alloc _ = W13 at *
            have z0 : W13.cell? ⟨o, 0, none⟩ = some (.string ⟨#[111, 116, 104, 101, 114]⟩) := (n_boxAt H14.out (i := 3) rfl).cell 0
            by_cases hno : n = otherN
            · have t5 : n.toList = [111, 116, 104, 101, 114] := by rw [hno, Go.ByteArray.toList_eq]; rfl
              have t5b : (n.toList == [111, 116, 104, 101, 114]) = true := by rw [t5]; rfl
              clear hno
              go_wp2_with fail
              go_ret
              exact ⟨rfl, H14.out.bel⟩
            · have t5b : (n.toList == [111, 116, 104, 101, 114]) = false := by
                have h := bytesEq n otherN
                rw [decide_eq_false hno, show otherN.toList = [111, 116, 104, 101, 114] by rw [Go.ByteArray.toList_eq]; rfl] at h
                exact h
              have t5 : ¬ n.toList = [111, 116, 104, 101, 114] := by simpa using t5b
              have HNO := Lib.hid hno
              clear hno
              by_cases h23 : 23 < l.size
              · have t6 : decide ((23 : Int) < (l.size : Int)) = true := decide_eq_true (by omega)
                go_wp2_with fail
                go_ret
                exact ⟨rfl, H14.out.bel⟩
              · have t6 : decide ((23 : Int) < (l.size : Int)) = false := decide_eq_false (by omega)
                have HXN : Hid (nameB (l ++ xN) = true) := Lib.hid (name_x EL.out (by omega))
                clear h23
                obtain ⟨x0, x1, x2, x3, x4⟩ : W13.cell? ⟨u, 0, none⟩ = some (.string n) ∧ W13.cell? ⟨u, 1, none⟩ = some (.string l) ∧ W13.cell? ⟨u, 2, none⟩ = some (.int .i64 f) ∧ W13.cell? ⟨u, 3, none⟩ = some (.int .i64 v) ∧ W13.cell? ⟨u, 4, none⟩ = some (.slice (some ⟨g, 0, none⟩) m 3) := by
                  have hk := n_boxAt H14.out (i := 2) rfl
                  exact ⟨hk.cell 0, hk.cell 1, hk.cell 2, hk.cell 3, hk.cell 4⟩
                obtain ⟨y0, y1, y2, y3, y4⟩ : W13.cell? ⟨o, 0, none⟩ = some (.string ⟨#[111, 116, 104, 101, 114]⟩) ∧ W13.cell? ⟨o, 1, none⟩ = some (.string (l ++ ⟨#[120]⟩)) ∧ W13.cell? ⟨o, 2, none⟩ = some (.int .i64 0) ∧ W13.cell? ⟨o, 3, none⟩ = some (.int .i64 1000) ∧ W13.cell? ⟨o, 4, none⟩ = some (.slice (some ⟨g, 0, none⟩) m 3) := by
                  have hk := n_boxAt H14.out (i := 3) rfl
                  exact ⟨hk.cell 0, hk.cell 1, hk.cell 2, hk.cell 3, hk.cell 4⟩
                go_upto_region 16 with fail
                have OKO : Hid (TrOk otherN (l ++ xN) 0 1000 (armsL.take m)) := Lib.hid (tr_ok other_name HXN.out (by omega) (by omega) (by omega) (by omega) hm0.2)
                have H15 := Lib.hid (n_box H14.out [.string n, .string l, .int .i64 f, .int .i64 v, .slice (some ⟨g, 0, none⟩) m 3, .string otherN, .string (l ++ xN), .int .i64 0, .int .i64 1000, .slice (some ⟨g, 0, none⟩) m 3] 41)
                obtain ⟨q, hq⟩ : ∃ q, W13.heap.size = q := ⟨_, rfl⟩
                rw [hq] at H15
                have hte := tnew_any (some ⟨q, 0, none⟩) 2 [({ nm := n, ly := l, f := f, t := v, b := some ⟨g, 0, none⟩, n := m, c := 3 } : TV), { nm := otherN, ly := l ++ xN, f := 0, t := 1000, b := some ⟨g, 0, none⟩, n := m, c := 3 }] (armsL.take m) _ (two_in (n_boxAt H15.out (i := 4) rfl)) (Nat.le_refl _) (by decide) (by simp) (fun x hx => by
                  have ha := arms_in H15.out rfl m
                  have e := arms_len hm0.2
                  simp only [List.mem_cons, List.not_mem_nil, or_false] at hx
                  rcases hx with rfl | rfl
                  · exact ⟨OKU.out, ha, e.symm, by rw [e]; exact hm0.2, by show (3 : Nat) ≤ maxLen; decide⟩
                  · exact ⟨OKO.out, ha, e.symm, by rw [e]; exact hm0.2, by show (3 : Nat) ≤ maxLen; decide⟩) (fun i j x y hij hx hy => by
                  have hj := (List.getElem?_eq_some_iff.1 hy).1
                  simp only [List.length_cons, List.length_nil] at hj
                  obtain rfl : i = 0 := by omega
                  obtain rfl : j = 1 := by omega
                  simp only [List.getElem?_cons_zero, List.getElem?_cons_succ, Option.some.injEq] at hx hy
                  subst hx hy
                  exact ⟨HNO.out, fun e => x_ne l e.symm⟩)
                have HTE := Lib.hid hte
                clear hte
                go_wp2_with fail
                refine HTE.out.mono ?_
                rintro e W16 ⟨gb, ub, uc, L, rfl, r1, r2, r3, r4, r5, r6, r7, r8, b16⟩
                have H16 := Lib.hid (H15.out.step_bel b16)
                have HR := Lib.hid (And.intro r7 r8)
                have HBA := Lib.hid (barms_any gb ub uc (.map none) L (armsL.take m) p W16 r1 r2 r3 r4 r5 r6 HP.out)
                clear r1 r2 r3 r4 r5 r6 r7 r8 b16 HTE H15 hq OKO x0 x1 x2 x3 x4 y0 y1 y2 y3 y4
                go_wp2_with fail
                refine HBA.out.mono ?_
                rintro e W17 ⟨rfl, hM, b17⟩
                have H17 := Lib.hid (H16.out.step_bel b17)
                generalize W16.heap.size = r at *
                have hlk := look_t hM HR.out.1 HR.out.2 ⟨rfl, rfl, rfl, rfl⟩ (fun e => HNO.out e.symm) HN.out (b := true) (s := S) E2.out HS.out
                clear hM b17 HBA H16
                go_wp2_with fail
                go_ret
                exact ⟨rfl, H17.out.bel⟩
          | false =>
            obtain ⟨S, hS⟩ : ∃ S, S = armOf n (armsL.take m) p := ⟨_, rfl⟩
            have C1 := Lib.hid (arm_t (b := false) (s := ⟨#[]⟩) (arms_in H8.out rfl m) hm0.2 OKT.out HP.out e1 rfl)
            have E2 := Lib.hid e2
            have HS := Lib.hid hS
            clear e1 e2 hS
            go_wp2_with fail
            refine C1.out.mono ?_
            rintro e W9 ⟨rfl, b9⟩
            have H9 := Lib.hid (H8.out.step_bel b9)
            clear x0 x1 x2 x3 x4 C1 H8 b9
            obtain ⟨x0, x1, x2, x3, x4⟩ : W9.cell? ⟨u, 0, none⟩ = some (.string n) ∧ W9.cell? ⟨u, 1, none⟩ = some (.string l) ∧ W9.cell? ⟨u, 2, none⟩ = some (.int .i64 f) ∧ W9.cell? ⟨u, 3, none⟩ = some (.int .i64 v) ∧ W9.cell? ⟨u, 4, none⟩ = some (.slice (some ⟨g, 0, none⟩) m 3) := by
              have hk := n_boxAt H9.out (i := 2) rfl
              exact ⟨hk.cell 0, hk.cell 1, hk.cell 2, hk.cell 3, hk.cell 4⟩
            have C1 := Lib.hid (arm_t (b := false) (s := ⟨#[]⟩) (arms_in H9.out rfl m) hm0.2 OKU.out HP.out E2.out rfl)
            go_wp2_with fail
            refine C1.out.mono ?_
            rintro e W10 ⟨rfl, b10⟩
            have H10 := Lib.hid (H9.out.step_bel b10)
            clear x0 x1 x2 x3 x4 C1 H9 b10
            go_wp2_with fail
            refine (HBK.out _).mono ?_
            rintro e W11 ⟨rfl, b11⟩
            have H11 := Lib.hid (H10.out.step_bel b11)
            clear H10 b11
            go_wp2_with fail
            refine (HBK.out _).mono ?_
            rintro e W12 ⟨rfl, b12⟩
            have H12 := Lib.hid (H11.out.step_bel b12)
            clear H11 b12
            have hxs : (l ++ xN).size ≤ 25 := by
              have h := HLS.out.2
              have : (l ++ xN).size = l.size + 1 := by
                show (l ++ xN).data.size = l.data.size + 1
                rw [show (l ++ xN).data = l.data ++ xN.data by simp, Array.size_append]; rfl
              omega
            have hq9 : ¬ 9223372036854775807 < l.size + 1 := by have := HLS.out.2; omega
            have z4 : W12.cell? ⟨g + 1, 4, none⟩ = some (.slice (some ⟨g, 0, none⟩) m 3) := (n_boxAt H12.out (i := 1) rfl).cell 4
            go_upto_region 14 with fail
            have H13 := Lib.hid (n_box H12.out [.string otherN, .string (l ++ xN), .int .i64 0, .int .i64 1000, .slice (some ⟨g, 0, none⟩) m 3] 41)
            clear z4 hq9 bk0 bk1 hbk HBK
            obtain ⟨o, ho⟩ : ∃ o, W12.heap.size = o := ⟨_, rfl⟩
            rw [ho] at H13 ⊢
            have H14 : Hid (Here KN w (W12.alloc (.cells #[.string ⟨#[111, 116, 104, 101, 114]⟩, .string (l ++ ⟨#[120]⟩), .int .i64 0, .int .i64 1000, .slice (some ⟨g, 0, none⟩) m 3] 41)) _) := H13
            clear H13 ho H12
            generalize W12.alloc _ = W13 at *
            have z0 : W13.cell? ⟨o, 0, none⟩ = some (.string ⟨#[111, 116, 104, 101, 114]⟩) := (n_boxAt H14.out (i := 3) rfl).cell 0
            by_cases hno : n = otherN
            · have t5 : n.toList = [111, 116, 104, 101, 114] := by rw [hno, Go.ByteArray.toList_eq]; rfl
              have t5b : (n.toList == [111, 116, 104, 101, 114]) = true := by rw [t5]; rfl
              clear hno
              go_wp2_with fail
              go_ret
              exact ⟨rfl, H14.out.bel⟩
            · have t5b : (n.toList == [111, 116, 104, 101, 114]) = false := by
                have h := bytesEq n otherN
                rw [decide_eq_false hno, show otherN.toList = [111, 116, 104, 101, 114] by rw [Go.ByteArray.toList_eq]; rfl] at h
                exact h
              have t5 : ¬ n.toList = [111, 116, 104, 101, 114] := by simpa using t5b
              have HNO := Lib.hid hno
              clear hno
              by_cases h23 : 23 < l.size
              · have t6 : decide ((23 : Int) < (l.size : Int)) = true := decide_eq_true (by omega)
                go_wp2_with fail
                go_ret
                exact ⟨rfl, H14.out.bel⟩
              · have t6 : decide ((23 : Int) < (l.size : Int)) = false := decide_eq_false (by omega)
                have HXN : Hid (nameB (l ++ xN) = true) := Lib.hid (name_x EL.out (by omega))
                clear h23
                obtain ⟨x0, x1, x2, x3, x4⟩ : W13.cell? ⟨u, 0, none⟩ = some (.string n) ∧ W13.cell? ⟨u, 1, none⟩ = some (.string l) ∧ W13.cell? ⟨u, 2, none⟩ = some (.int .i64 f) ∧ W13.cell? ⟨u, 3, none⟩ = some (.int .i64 v) ∧ W13.cell? ⟨u, 4, none⟩ = some (.slice (some ⟨g, 0, none⟩) m 3) := by
                  have hk := n_boxAt H14.out (i := 2) rfl
                  exact ⟨hk.cell 0, hk.cell 1, hk.cell 2, hk.cell 3, hk.cell 4⟩
                obtain ⟨y0, y1, y2, y3, y4⟩ : W13.cell? ⟨o, 0, none⟩ = some (.string ⟨#[111, 116, 104, 101, 114]⟩) ∧ W13.cell? ⟨o, 1, none⟩ = some (.string (l ++ ⟨#[120]⟩)) ∧ W13.cell? ⟨o, 2, none⟩ = some (.int .i64 0) ∧ W13.cell? ⟨o, 3, none⟩ = some (.int .i64 1000) ∧ W13.cell? ⟨o, 4, none⟩ = some (.slice (some ⟨g, 0, none⟩) m 3) := by
                  have hk := n_boxAt H14.out (i := 3) rfl
                  exact ⟨hk.cell 0, hk.cell 1, hk.cell 2, hk.cell 3, hk.cell 4⟩
                go_upto_region 16 with fail
                have OKO : Hid (TrOk otherN (l ++ xN) 0 1000 (armsL.take m)) := Lib.hid (tr_ok other_name HXN.out (by omega) (by omega) (by omega) (by omega) hm0.2)
                have H15 := Lib.hid (n_box H14.out [.string n, .string l, .int .i64 f, .int .i64 v, .slice (some ⟨g, 0, none⟩) m 3, .string otherN, .string (l ++ xN), .int .i64 0, .int .i64 1000, .slice (some ⟨g, 0, none⟩) m 3] 41)
                obtain ⟨q, hq⟩ : ∃ q, W13.heap.size = q := ⟨_, rfl⟩
                rw [hq] at H15
                have hte := tnew_any (some ⟨q, 0, none⟩) 2 [({ nm := n, ly := l, f := f, t := v, b := some ⟨g, 0, none⟩, n := m, c := 3 } : TV), { nm := otherN, ly := l ++ xN, f := 0, t := 1000, b := some ⟨g, 0, none⟩, n := m, c := 3 }] (armsL.take m) _ (two_in (n_boxAt H15.out (i := 4) rfl)) (Nat.le_refl _) (by decide) (by simp) (fun x hx => by
                  have ha := arms_in H15.out rfl m
                  have e := arms_len hm0.2
                  simp only [List.mem_cons, List.not_mem_nil, or_false] at hx
                  rcases hx with rfl | rfl
                  · exact ⟨OKU.out, ha, e.symm, by rw [e]; exact hm0.2, by show (3 : Nat) ≤ maxLen; decide⟩
                  · exact ⟨OKO.out, ha, e.symm, by rw [e]; exact hm0.2, by show (3 : Nat) ≤ maxLen; decide⟩) (fun i j x y hij hx hy => by
                  have hj := (List.getElem?_eq_some_iff.1 hy).1
                  simp only [List.length_cons, List.length_nil] at hj
                  obtain rfl : i = 0 := by omega
                  obtain rfl : j = 1 := by omega
                  simp only [List.getElem?_cons_zero, List.getElem?_cons_succ, Option.some.injEq] at hx hy
                  subst hx hy
                  exact ⟨HNO.out, fun e => x_ne l e.symm⟩)
                have HTE := Lib.hid hte
                clear hte
                go_wp2_with fail
                refine HTE.out.mono ?_
                rintro e W16 ⟨gb, ub, uc, L, rfl, r1, r2, r3, r4, r5, r6, r7, r8, b16⟩
                have H16 := Lib.hid (H15.out.step_bel b16)
                have HR := Lib.hid (And.intro r7 r8)
                have HBA := Lib.hid (barms_any gb ub uc (.map none) L (armsL.take m) p W16 r1 r2 r3 r4 r5 r6 HP.out)
                clear r1 r2 r3 r4 r5 r6 r7 r8 b16 HTE H15 hq OKO x0 x1 x2 x3 x4 y0 y1 y2 y3 y4
                go_wp2_with fail
                refine HBA.out.mono ?_
                rintro e W17 ⟨rfl, hM, b17⟩
                have H17 := Lib.hid (H16.out.step_bel b17)
                generalize W16.heap.size = r at *
                have hlk := look_t hM HR.out.1 HR.out.2 ⟨rfl, rfl, rfl, rfl⟩ (fun e => HNO.out e.symm) HN.out (b := false) (s := ⟨#[]⟩) E2.out rfl
                clear hM b17 HBA H16
                go_wp2_with fail
                go_ret
                exact ⟨rfl, H17.out.bel⟩

theorem own : ownKnob Try.prog.godebug = none := by kernel_rfl
theorem laidOut : laidOutB Try.prog = true := by kernel_rfl

set_option maxRecDepth 100000 in
theorem lifted (os : Os) (started : os.Started) (H : Type) (enc : TypeId × Value → H) :
    ReturnsInHanded {} Try.checked os 4 .any (Rows.topArmsSpec.pre6 enc Try.prog Try.f4 Rows.topArmsRow.domain false) (Rows.topArmsSpec.post enc Try.prog Try.f4 false true false false) := by
  refine returnsInHanded_of_change (C := Try.checked) own started (by kernel_rfl) Try.func4
    (ChangeSpec.witness6 (enc := enc) (C := Try.checked) false ⟨#[], #[.string ⟨#[]⟩, .string ⟨#[]⟩, .string ⟨#[]⟩, .int .u16 0, .int .u16 0, .int .u16 0, .int .u8 0], []⟩ 8 (by kernel_rfl) (by kernel_rfl) (by kernel_rfl) (by kernel_rfl)) ?_
  intro W base args ds gs before hval0 hW hcnd _
  have hval : ∀ (j : Nat) t v, Try.f4.params[j]? = some t → args[j]? = some v → Value.okWide Try.prog W .any base t v := hval0
  have hW' := hW
  obtain ⟨p, q, hA0, hV, rfl, hfz, hnd⟩ := hW
  have hA : DataW.TrodAll enc Try.prog W 0 (fun _ => true) true Try.f4.params.toList args.toList ds p := hA0
  rw [Try.params4] at hA hval
  obtain ⟨v0, vs0, d0, ds0, p0, q0, hargs, rfl, rfl, h0, r0⟩ := trodAll_cons hA
  obtain ⟨v1, vs1, d1, ds1, p1, q1, rfl, rfl, rfl, h1, r1⟩ := trodAll_cons r0
  obtain ⟨v2, vs2, d2, ds2, p2, q2, rfl, rfl, rfl, h2, r2⟩ := trodAll_cons r1
  obtain ⟨v3, vs3, d3, ds3, p3, q3, rfl, rfl, rfl, h3, r3⟩ := trodAll_cons r2
  obtain ⟨v4, vs4, d4, ds4, p4, q4, rfl, rfl, rfl, h4, r4⟩ := trodAll_cons r3
  obtain ⟨v5, vs5, d5, ds5, p5, q5, rfl, rfl, rfl, h5, r5⟩ := trodAll_cons r4
  obtain ⟨v6, vs6, d6, ds6, p6, q6, rfl, rfl, rfl, h6, r6⟩ := trodAll_cons r5
  obtain ⟨rfl, rfl, rfl⟩ := trodAll_nil r6
  obtain rfl : args = #[v0, v1, v2, v3, v4, v5, v6] := by cases args; simp_all
  obtain ⟨rfl, rfl⟩ := trodVars_none hV
  have k0 := h0
  have lt0 : ∀ x ∈ p0, x.block < W.heap.size := by obtain ⟨m, hm⟩ := k0; exact DataW.trod_lt m _ _ _ hm
  obtain ⟨a0, rfl, rfl, rfl, w0⟩ := open_string Try.underlying9 (hval 0 9 v0 rfl rfl) h0
  have k1 := h1
  have lt1 : ∀ x ∈ p1, x.block < W.heap.size := by obtain ⟨m, hm⟩ := k1; exact DataW.trod_lt m _ _ _ hm
  obtain ⟨a1, rfl, rfl, rfl, w1⟩ := open_string Try.underlying9 (hval 1 9 v1 rfl rfl) h1
  have k2 := h2
  have lt2 : ∀ x ∈ p2, x.block < W.heap.size := by obtain ⟨m, hm⟩ := k2; exact DataW.trod_lt m _ _ _ hm
  obtain ⟨a2, rfl, rfl, rfl, w2⟩ := open_string Try.underlying9 (hval 2 9 v2 rfl rfl) h2
  have k3 := h3
  have lt3 : ∀ x ∈ p3, x.block < W.heap.size := by obtain ⟨m, hm⟩ := k3; exact DataW.trod_lt m _ _ _ hm
  obtain ⟨a3, rfl, rfl, rfl, w3⟩ := open_int Try.underlying23 (hval 3 23 v3 rfl rfl) h3
  have k4 := h4
  have lt4 : ∀ x ∈ p4, x.block < W.heap.size := by obtain ⟨m, hm⟩ := k4; exact DataW.trod_lt m _ _ _ hm
  obtain ⟨a4, rfl, rfl, rfl, w4⟩ := open_int Try.underlying23 (hval 4 23 v4 rfl rfl) h4
  have k5 := h5
  have lt5 : ∀ x ∈ p5, x.block < W.heap.size := by obtain ⟨m, hm⟩ := k5; exact DataW.trod_lt m _ _ _ hm
  obtain ⟨a5, rfl, rfl, rfl, w5⟩ := open_int Try.underlying23 (hval 5 23 v5 rfl rfl) h5
  have k6 := h6
  have lt6 : ∀ x ∈ p6, x.block < W.heap.size := by obtain ⟨m, hm⟩ := k6; exact DataW.trod_lt m _ _ _ hm
  obtain ⟨a6, rfl, rfl, rfl, w6⟩ := open_int Try.underlying5 (hval 6 5 v6 rfl rfl) h6
  clear hA0 hval0
  refine (walk a0 w0 a1 w1 a2 w2 a3 w3 a4 w4 a5 w5 a6 w6 W).mono fun e W' ⟨he, bel⟩ => ?_
  subst he
  exact ⟨_, rfl, _, _, _, [], _, [], hW', trodAll_mk1 (shut_bool Try.underlying4 _), (trodAll_cons_mk (Below.trod laidOut (by kernel_rfl) (of_decide_eq_true (by kernel_rfl)) k0 bel lt0) (trodAll_cons_mk (Below.trod laidOut (by kernel_rfl) (of_decide_eq_true (by kernel_rfl)) k1 bel lt1) (trodAll_cons_mk (Below.trod laidOut (by kernel_rfl) (of_decide_eq_true (by kernel_rfl)) k2 bel lt2) (trodAll_cons_mk (Below.trod laidOut (by kernel_rfl) (of_decide_eq_true (by kernel_rfl)) k3 bel lt3) (trodAll_cons_mk (Below.trod laidOut (by kernel_rfl) (of_decide_eq_true (by kernel_rfl)) k4 bel lt4) (trodAll_cons_mk (Below.trod laidOut (by kernel_rfl) (of_decide_eq_true (by kernel_rfl)) k5 bel lt5) (trodAll_cons_mk (Below.trod laidOut (by kernel_rfl) (of_decide_eq_true (by kernel_rfl)) k6 bel lt6) trodAll_mk0))))))), rfl, bel.frame _, fun h => by cases h⟩

theorem over : Rows.topArmsRow.holds Try.pinned (OpenSpec.ofChange Rows.topArmsSpec) :=
  OpenClaim.holds_of_wide 4 Try.f4 rfl rfl rfl rfl rfl rfl rfl ⟨rfl, rfl, rfl, rfl, rfl⟩ rfl rfl rfl rfl rfl (by kernel_rfl) Try.func4 (by kernel_rfl)
    (of_decide_eq_true (by kernel_rfl)) (by unfold Func.isWrapper; first | (rw [if_pos (by decide +kernel)]; kernel_rfl) | (rw [if_neg (by decide +kernel)]; exact ⟨rfl, rfl⟩))
    (fun os started H enc _ => lifted os started H enc)

theorem proved : Rows.TopArmsSaid := over
#print axioms proved
end Go.Proofs.Ytkjcgeaoiabkjaa.topArms

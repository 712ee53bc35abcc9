/- Contracts of session.New and of Add. -/
import Derived.Test.YtbmjddmejmeknaaESes
namespace Go.Proofs.Ytbmjddmejmeknaa
open Go.RowKit Go.MapKept Go.Maps Go.ChangeShapes Go.WideShapes
set_option linter.unusedVariables false
set_option linter.unusedSimpArgs false
def gapOf (x : Int) : Int := min (max x 0) 1099511627776
theorem gapOf_in (x : Int) : 0 ≤ gapOf x ∧ gapOf x ≤ 1099511627776 := by unfold gapOf; omega
def role0 (s r : Nat) : Nat → Option Role := fun b => if b = s then some .box else if b = r then some .root else none
theorem ses_made (x : Int) (w : World) : SesAt ((w.alloc (.map #[] 0)).alloc (.cells #[.int .i64 (gapOf x), .map (some w.heap.size)] 59)) (w.heap.size + 1) [w.heap.size + 1, w.heap.size] (gapOf x) [] := by
  have hm : Mp encS okS (w.alloc (.map #[] 0)) w.heap.size (vals vMap ([] : MR)) := Mp.made w
  have hb := Bk.new (w.alloc (.map #[] 0)) [.int .i64 (gapOf x), .map (some w.heap.size)] 59
  rw [show (w.alloc (.map #[] 0)).heap.size = w.heap.size + 1 by simp] at hb
  refine ⟨SOk.nil, gapOf_in x, Nat.zero_le _, w.heap.size, [], fun _ => [], fun _ _ => [], role0 (w.heap.size + 1) w.heap.size, ⟨hb, hm.bel ((Below.refl _ _).alloc (Nat.le_refl _) _), fun p b h => (by cases h), fun p b t c h => (by cases h), (by simp [role0]), (by simp [role0]), fun p b h => (by cases h), fun p b t c h => (by cases h), fun b k h => ?_, fun b hb => ?_⟩, ⟨fun p t i => (by simp [mget]), fun p b h => (by cases h), fun p b t c h => (by cases h)⟩⟩
  · unfold role0 at h
    by_cases e : b = w.heap.size + 1
    · simp [e]
    · rw [if_neg e] at h
      by_cases e2 : b = w.heap.size
      · simp [e2]
      · rw [if_neg e2] at h; cases h
  · simp only [List.mem_cons, List.not_mem_nil, or_false] at hb
    rcases hb with rfl | rfl <;> simp <;> omega
set_option maxHeartbeats 1000000 in
theorem ses_new (x : Int) (w : World) (hx : I64 x) :
    Calls Try.prog 19 #[.int .i64 x] w fun e w' => e = .returned (.pointer (some ⟨w.heap.size + 1, 0, none⟩)) ∧ SesAt w' (w.heap.size + 1) [w.heap.size + 1, w.heap.size] (gapOf x) [] ∧ Below w.heap.size w w' := by
  have H := Lib.hid (ses_made x w)
  have HB : Hid (Below w.heap.size w ((w.alloc (.map #[] 0)).alloc (.cells #[.int .i64 (gapOf x), .map (some w.heap.size)] 59))) := Lib.hid (((Below.refl _ _).alloc (Nat.le_refl _) _).alloc (by simp) _)
  have hh := @run_makeMap Try.prog
  unfold I64 at hx
  go_enter Try.func19, Try.ntmps19
  go_wp2_with fail
  go_ret
  exact ⟨rfl, H.out, HB.out⟩
def fitB (s : ByteArray) : Bool := decide (1 ≤ s.size) && decide (s.size ≤ 24)
theorem fits_any (s : ByteArray) (w : World) (hs : s.size ≤ maxLen) :
    Calls Try.prog 30 #[.string s] w fun e w' => e = .returned (.bool (fitB s)) ∧ w = w' := by
  unfold maxLen at hs
  by_cases h1 : 1 ≤ s.size
  · by_cases h2 : s.size ≤ 24
    · have e : fitB s = true := by unfold fitB; rw [decide_eq_true h1, decide_eq_true h2]; rfl
      have t1 : decide ((1 : Int) ≤ (s.size : Int)) = true := decide_eq_true (by omega)
      have t2 : decide ((s.size : Int) ≤ 24) = true := decide_eq_true (by omega)
      rw [e]
      go_enter Try.func30, Try.ntmps30
      go_wp2_with fail
      go_ret
      exact ⟨rfl, rfl⟩
    · have e : fitB s = false := by unfold fitB; rw [decide_eq_false h2, Bool.and_false]
      have t1 : decide ((1 : Int) ≤ (s.size : Int)) = true := decide_eq_true (by omega)
      have t2 : decide ((s.size : Int) ≤ 24) = false := decide_eq_false (by omega)
      rw [e]
      go_enter Try.func30, Try.ntmps30
      go_wp2_with fail
      go_ret
      exact ⟨rfl, rfl⟩
  · have e : fitB s = false := by unfold fitB; rw [decide_eq_false h1, Bool.false_and]
    have t1 : decide ((1 : Int) ≤ (s.size : Int)) = false := decide_eq_false (by omega)
    rw [e]
    go_enter Try.func30, Try.ntmps30
    go_wp2_with fail
    go_ret
    exact ⟨rfl, rfl⟩
theorem fits_is {s : ByteArray} {b : Bool} (h : fitB s = b) (hs : s.size ≤ maxLen) (w : World) : Calls Try.prog 30 #[.string s] w fun e w' => e = .returned (.bool b) ∧ w = w' := by
  have h1 := fits_any s w hs
  rwa [h] at h1
theorem okT_fit (p i : ByteArray) (t : Int) : okT (p, t, i) = (fitB p && fitB i && decide (0 ≤ t) && decide (t ≤ 1099511627776)) := by
  unfold okT fitB
  simp only [Bool.and_assoc]
set_option maxHeartbeats 1000000 in
theorem add_no (P : Option Addr) (p i : ByteArray) (t : Int) (w : World) (hp : p.size ≤ maxLen) (hi : i.size ≤ maxLen) (ht : I64 t) (hno : okT (p, t, i) = false) :
    Calls Try.prog 20 #[.pointer P, .string p, .int .i64 t, .string i] w fun e w' => e = .returned (.bool false) ∧ w = w' := by
  rw [okT_fit] at hno
  unfold I64 at ht
  cases e1 : fitB p with
  | false =>
    have N1 := Lib.hid (fits_is e1 hp)
    clear hno e1 hp hi
    go_enter Try.func20, Try.ntmps20
    go_wp2_with fail
    refine (N1.out _).mono ?_
    rintro e w1 ⟨rfl, rfl⟩
    go_wp2_with fail
    go_ret
    exact ⟨rfl, rfl⟩
  | true =>
    have N1 := Lib.hid (fits_is e1 hp)
    cases e2 : fitB i with
    | false =>
      have N2 := Lib.hid (fits_is e2 hi)
      clear hno e1 e2 hp hi
      go_enter Try.func20, Try.ntmps20
      go_wp2_with fail
      refine (N1.out _).mono ?_
      rintro e w1 ⟨rfl, rfl⟩
      go_wp2_with fail
      refine (N2.out _).mono ?_
      rintro e w1 ⟨rfl, rfl⟩
      go_wp2_with fail
      go_ret
      exact ⟨rfl, rfl⟩
    | true =>
      have N2 := Lib.hid (fits_is e2 hi)
      rw [e1, e2] at hno
      simp only [Bool.true_and, Bool.and_eq_false_iff, decide_eq_false_iff_not] at hno
      clear e1 e2 hp hi
      by_cases h3 : t < 0
      · have t3 : decide (t < 0) = true := decide_eq_true h3
        go_enter Try.func20, Try.ntmps20
        go_wp2_with fail
        refine (N1.out _).mono ?_
        rintro e w1 ⟨rfl, rfl⟩
        go_wp2_with fail
        refine (N2.out _).mono ?_
        rintro e w1 ⟨rfl, rfl⟩
        go_wp2_with fail
        go_ret
        exact ⟨rfl, rfl⟩
      · have t3 : decide (t < 0) = false := decide_eq_false h3
        have t4 : decide (1099511627776 < t) = true := decide_eq_true (by omega)
        go_enter Try.func20, Try.ntmps20
        go_wp2_with fail
        refine (N1.out _).mono ?_
        rintro e w1 ⟨rfl, rfl⟩
        go_wp2_with fail
        refine (N2.out _).mono ?_
        rintro e w1 ⟨rfl, rfl⟩
        go_wp2_with fail
        go_ret
        exact ⟨rfl, rfl⟩

theorem eql_mi (b : Nat) (w : World) : (binOp BinOp.eql 57 (.map (some b)) (.map none)).run Try.prog w = .ok (.bool false) w := by kernel_rfl
theorem eql_mi0 (w : World) : (binOp BinOp.eql 57 (.map none) (.map none)).run Try.prog w = .ok (.bool true) w := by kernel_rfl
theorem eql_mb (b : Nat) (w : World) : (binOp BinOp.eql 84 (.map (some b)) (.map none)).run Try.prog w = .ok (.bool false) w := by kernel_rfl
theorem eql_mb0 (w : World) : (binOp BinOp.eql 84 (.map none) (.map none)).run Try.prog w = .ok (.bool true) w := by kernel_rfl
theorem zeroMI (w : World) : (zeroValue 57).run Try.prog w = .ok (.map none) w := by kernel_rfl
theorem zeroMB (w : World) : (zeroValue 84).run Try.prog w = .ok (.map none) w := by kernel_rfl
section
variable {w : World} {s r : Nat} {gap : Int} {mr : MR} {mt : ByteArray → MT} {mi : ByteArray → Int → MI} {role : Nat → Option Role} {B : List Nat}
theorem SesR.lookP (h : SesR w s r gap mr mt mi role B) {p : ByteArray} (hp : p.size ≤ maxLen) {v : Value} (hv : ((mget mr p).map vMap).getD (.map none) = v) : (Instr.lookup 56 (.map (some r)) (.string p) false).run Try.prog w = .ok v w := by
  have := h.mp.look (P := Try.prog) keyS Try.underlying56 (zeroMI w) (a := p) hp false
  rw [vals_get, hv] at this
  exact this
theorem SesR.lookT (h : SesR w s r gap mr mt mi role B) {p : ByteArray} {b : Nat} (hp : mget mr p = some b) {t : Int} (ht : I64 t) {v : Value} (hv : ((mget (mt p) t).map vMap).getD (.map none) = v) : (Instr.lookup 57 (.map (some b)) (.int .i64 t) false).run Try.prog w = .ok v w := by
  have := (h.tk p b hp).look (P := Try.prog) keyI Try.underlying57 (zeroMB w) (a := t) (wf64 ht) false
  rw [vals_get, hv] at this
  exact this
end
section
variable {w : World} {s r : Nat} {gap : Int} {mr : MR} {mt : ByteArray → MT} {mi : ByteArray → Int → MI} {role : Nat → Option Role} {B : List Nat} {L : List Tri}
set_option maxRecDepth 20000 in
set_option maxHeartbeats 2000000 in
theorem add_item (h : SesR w s r gap mr mt mi role B) (hr : SRel L mr mt mi) (p i : ByteArray) (t : Int) (hps : p.size ≤ maxLen) (his : i.size ≤ maxLen) (hok : okT (p, t, i) = true) {b c : Nat} (hb : mget mr p = some b) (hc : mget (mt p) t = some c) :
    Calls Try.prog 20 #[.pointer (some ⟨s, 0, none⟩), .string p, .int .i64 t, .string i] w fun e w' => e = .returned (.bool true) ∧ (∃ mr' mt' mi' role' B', SesR w' s r gap mr' mt' mi' role' B' ∧ SRel (addT L (p, t, i)) mr' mt' mi' ∧ Sprd w B B') ∧ Fr (fun b => b ∈ B) w w' := by
  have hdec := okT_fit p i t
  rw [hok] at hdec
  simp only [Bool.true_eq, Bool.and_eq_true, decide_eq_true_eq] at hdec
  obtain ⟨⟨⟨e1, e2⟩, e3⟩, e4⟩ := hdec
  have N1 := Lib.hid (fits_is e1 hps)
  have N2 := Lib.hid (fits_is e2 his)
  have t3 : decide (t < 0) = false := decide_eq_false (by omega)
  have t4 : decide (1099511627776 < t) = false := decide_eq_false (by omega)
  have hk := @run_makeMap Try.prog
  have hq1 := eql_mi
  have hq2 := eql_mi0
  have hq3 := eql_mb
  have hq4 := eql_mb0
  have c1 : w.cell? ⟨s, 1, none⟩ = some (.map (some r)) := h.bk.cell 1
  have ht : I64 t := by unfold I64; omega
  have l1 := h.lookP hps (v := .map (some b)) (by rw [hb]; rfl)
  have l2 := h.lookT hb ht (v := .map (some c)) (by rw [hc]; rfl)
  obtain ⟨w3, x3, m3, f3, z3⟩ := (h.it p b t c hb hc).store (P := Try.prog) keyS Try.underlying84 (a := i) his (.bool true)
  have y3 : (Instr.mapUpdate 84 (.map (some c)) (.string i) (.bool true)).run Try.prog w = .ok () w3 := x3
  have HR := Lib.hid (And.intro (h.item hb hc m3 f3) (And.intro (hr.item hb hc hok) (fun x hx => .inl hx : Sprd w B B)))
  have HF : Hid (Fr (fun b => b ∈ B) w w3) := Lib.hid (f3.mono (fun x _ hx => by subst hx; exact h.inB _ _ (h.rt p b t x hb hc)))
  clear h hr m3 f3 z3 x3 hb hc e1 e2 hps his
  go_enter Try.func20, Try.ntmps20
  go_wp2_with fail
  refine (N1.out _).mono ?_
  rintro e w1 ⟨rfl, rfl⟩
  go_wp2_with fail
  refine (N2.out _).mono ?_
  rintro e w1 ⟨rfl, rfl⟩
  go_wp2_with fail
  go_ret
  exact ⟨rfl, ⟨_, _, _, _, _, HR.out.1, HR.out.2.1, HR.out.2.2⟩, HF.out⟩
set_option maxRecDepth 20000 in
set_option maxHeartbeats 2000000 in
theorem add_tick (h : SesR w s r gap mr mt mi role B) (hr : SRel L mr mt mi) (p i : ByteArray) (t : Int) (hps : p.size ≤ maxLen) (his : i.size ≤ maxLen) (hok : okT (p, t, i) = true) {b : Nat} (hb : mget mr p = some b) (hc : mget (mt p) t = none) :
    Calls Try.prog 20 #[.pointer (some ⟨s, 0, none⟩), .string p, .int .i64 t, .string i] w fun e w' => e = .returned (.bool true) ∧ (∃ mr' mt' mi' role' B', SesR w' s r gap mr' mt' mi' role' B' ∧ SRel (addT L (p, t, i)) mr' mt' mi' ∧ Sprd w B B') ∧ Fr (fun b => b ∈ B) w w' := by
  have hdec := okT_fit p i t
  rw [hok] at hdec
  simp only [Bool.true_eq, Bool.and_eq_true, decide_eq_true_eq] at hdec
  obtain ⟨⟨⟨e1, e2⟩, e3⟩, e4⟩ := hdec
  have N1 := Lib.hid (fits_is e1 hps)
  have N2 := Lib.hid (fits_is e2 his)
  have t3 : decide (t < 0) = false := decide_eq_false (by omega)
  have t4 : decide (1099511627776 < t) = false := decide_eq_false (by omega)
  have hk := @run_makeMap Try.prog
  have hq1 := eql_mi
  have hq2 := eql_mi0
  have hq3 := eql_mb
  have hq4 := eql_mb0
  have c1 : w.cell? ⟨s, 1, none⟩ = some (.map (some r)) := h.bk.cell 1
  have ht : I64 t := by unfold I64; omega
  have l1 := h.lookP hps (v := .map (some b)) (by rw [hb]; rfl)
  have l2 := h.lookT hb ht (v := .map none) (by rw [hc]; rfl)
  have hbw := (Below.refl w.heap.size w).alloc (Nat.le_refl _) (.map #[] 0)
  have hm0 : Mp encS okS (w.alloc (.map #[] 0)) w.heap.size [] := Mp.made w
  obtain ⟨w2, x2, m2, f2, z2⟩ := ((h.bel hbw).tk p b hb).store (P := Try.prog) keyI Try.underlying57 (a := t) (wf64 ht) (.map (some w.heap.size))
  have y2 : (Instr.mapUpdate 57 (.map (some b)) (.int .i64 t) (.map (some w.heap.size))).run Try.prog (w.alloc (.map #[] 0)) = .ok () w2 := x2
  have h2 := h.tickNew (c := w.heap.size) hb hbw hm0 (Nat.le_refl _) m2 f2
  have c2 : w2.cell? ⟨s, 1, none⟩ = some (.map (some r)) := h2.bk.cell 1
  have l3 := h2.lookP hps (v := .map (some b)) (by rw [hb]; rfl)
  have hc2 : mget (upd mt p (mput (mt p) t w.heap.size) p) t = some w.heap.size := by rw [upd_same, get_put, if_pos rfl]
  have l4 := h2.lookT hb ht (v := .map (some w.heap.size)) (by rw [hc2]; rfl)
  obtain ⟨w3, x3, m3, f3, z3⟩ := (h2.it p b t w.heap.size hb hc2).store (P := Try.prog) keyS Try.underlying84 (a := i) his (.bool true)
  have y3 : (Instr.mapUpdate 84 (.map (some w.heap.size)) (.string i) (.bool true)).run Try.prog w2 = .ok () w3 := x3
  have HR := Lib.hid (And.intro (h2.item hb hc2 m3 f3) (And.intro (hr.tick (c := w.heap.size) hb hc hok) (fun x hx => by rcases List.mem_cons.1 hx with rfl | hx; exact .inr (Nat.le_refl _); exact .inl hx : Sprd w B (w.heap.size :: B))))
  have HF : Hid (Fr (fun b => b ∈ B) w w3) := Lib.hid (((Fr.of_bel (S := fun b => b ∈ B) hbw).trans f2 (fun x _ hx => by subst hx; exact h.inB _ _ (h.rp p x hb))).trans f3 (fun x hlt hx => by subst hx; exact absurd hlt (Nat.lt_irrefl _)))
  clear h hr h2 hm0 hbw m2 f2 z2 x2 m3 f3 z3 x3 hb hc hc2 e1 e2 hps his
  go_enter Try.func20, Try.ntmps20
  go_wp2_with fail
  refine (N1.out _).mono ?_
  rintro e w1 ⟨rfl, rfl⟩
  go_wp2_with fail
  refine (N2.out _).mono ?_
  rintro e w1 ⟨rfl, rfl⟩
  go_wp2_with fail
  go_ret
  exact ⟨rfl, ⟨_, _, _, _, _, HR.out.1, HR.out.2.1, HR.out.2.2⟩, HF.out⟩
set_option maxRecDepth 20000 in
set_option maxHeartbeats 2000000 in
theorem add_pers (h : SesR w s r gap mr mt mi role B) (hr : SRel L mr mt mi) (p i : ByteArray) (t : Int) (hps : p.size ≤ maxLen) (his : i.size ≤ maxLen) (hok : okT (p, t, i) = true) (hb : mget mr p = none) :
    Calls Try.prog 20 #[.pointer (some ⟨s, 0, none⟩), .string p, .int .i64 t, .string i] w fun e w' => e = .returned (.bool true) ∧ (∃ mr' mt' mi' role' B', SesR w' s r gap mr' mt' mi' role' B' ∧ SRel (addT L (p, t, i)) mr' mt' mi' ∧ Sprd w B B') ∧ Fr (fun b => b ∈ B) w w' := by
  have hdec := okT_fit p i t
  rw [hok] at hdec
  simp only [Bool.true_eq, Bool.and_eq_true, decide_eq_true_eq] at hdec
  obtain ⟨⟨⟨e1, e2⟩, e3⟩, e4⟩ := hdec
  have N1 := Lib.hid (fits_is e1 hps)
  have N2 := Lib.hid (fits_is e2 his)
  have t3 : decide (t < 0) = false := decide_eq_false (by omega)
  have t4 : decide (1099511627776 < t) = false := decide_eq_false (by omega)
  have hk := @run_makeMap Try.prog
  have hq1 := eql_mi
  have hq2 := eql_mi0
  have hq3 := eql_mb
  have hq4 := eql_mb0
  have c1 : w.cell? ⟨s, 1, none⟩ = some (.map (some r)) := h.bk.cell 1
  have ht : I64 t := by unfold I64; omega
  have l1 := h.lookP hps (v := .map none) (by rw [hb]; rfl)
  have hbw := (Below.refl w.heap.size w).alloc (Nat.le_refl _) (.map #[] 0)
  have hm0 : Mp encI okI (w.alloc (.map #[] 0)) w.heap.size [] := Mp.made w
  obtain ⟨w1, x1, m1, f1, z1⟩ := ((h.bel hbw).mp).store (P := Try.prog) keyS Try.underlying56 (a := p) hps (.map (some w.heap.size))
  have y1 : (Instr.mapUpdate 56 (.map (some r)) (.string p) (.map (some w.heap.size))).run Try.prog (w.alloc (.map #[] 0)) = .ok () w1 := x1
  have h1 := h.person (b := w.heap.size) (p := p) hbw hm0 (Nat.le_refl _) m1 f1
  have c1' : w1.cell? ⟨s, 1, none⟩ = some (.map (some r)) := h1.bk.cell 1
  have hb1 : mget (mput mr p w.heap.size) p = some w.heap.size := by rw [get_put, if_pos rfl]
  have l2 := h1.lookP hps (v := .map (some w.heap.size)) (by rw [hb1]; rfl)
  have l3 := h1.lookT hb1 ht (v := .map none) (by rw [upd_same]; rfl)
  have hsz : w1.heap.size = w.heap.size + 1 := by rw [z1]; simp
  obtain ⟨q, hq⟩ : ∃ q, w1.heap.size = q := ⟨_, rfl⟩
  have hbw1 := (Below.refl w1.heap.size w1).alloc (Nat.le_refl _) (.map #[] 0)
  have hm1 : Mp encS okS (w1.alloc (.map #[] 0)) w1.heap.size [] := Mp.made w1
  obtain ⟨w2, x2, m2, f2, z2⟩ := ((h1.bel hbw1).tk p w.heap.size hb1).store (P := Try.prog) keyI Try.underlying57 (a := t) (wf64 ht) (.map (some w1.heap.size))
  have y2 : (Instr.mapUpdate 57 (.map (some w.heap.size)) (.int .i64 t) (.map (some w1.heap.size))).run Try.prog (w1.alloc (.map #[] 0)) = .ok () w2 := x2
  have h2 := h1.tickNew (c := w1.heap.size) (t := t) hb1 hbw1 hm1 (Nat.le_refl _) m2 f2
  have hc2 : mget (upd (upd mt p []) p (mput (upd mt p [] p) t w1.heap.size) p) t = some w1.heap.size := by rw [upd_same, get_put, if_pos rfl]
  have l4 := h2.lookT hb1 ht (v := .map (some w1.heap.size)) (by rw [hc2]; rfl)
  obtain ⟨w3, x3, m3, f3, z3⟩ := (h2.it p w.heap.size t w1.heap.size hb1 hc2).store (P := Try.prog) keyS Try.underlying84 (a := i) his (.bool true)
  have y3 : (Instr.mapUpdate 84 (.map (some w1.heap.size)) (.string i) (.bool true)).run Try.prog w2 = .ok () w3 := x3
  have HR := Lib.hid (And.intro (h2.item hb1 hc2 m3 f3) (And.intro (hr.pers (b := w.heap.size) (c := w1.heap.size) hb hok) (fun x hx => by
    rcases List.mem_cons.1 hx with rfl | hx
    · exact .inr (by omega)
    · rcases List.mem_cons.1 hx with rfl | hx
      · exact .inr (Nat.le_refl _)
      · exact .inl hx : Sprd w B (w1.heap.size :: w.heap.size :: B))))
  have HF : Hid (Fr (fun b => b ∈ B) w w3) := Lib.hid (((((Fr.of_bel (S := fun b => b ∈ B) hbw).trans f1 (fun x _ hx => by subst hx; exact h.inB _ _ h.rr)).bel hbw1).trans f2 (fun x hlt hx => by subst hx; exact absurd hlt (Nat.lt_irrefl _))).trans f3 (fun x hlt hx => by subst hx; omega))
  clear h hr h1 h2 hm0 hm1 hbw hbw1 m1 f1 z1 x1 m2 f2 z2 x2 m3 f3 z3 x3 hb hb1 hc2 e1 e2 hps his hsz hq
  go_enter Try.func20, Try.ntmps20
  go_wp2_with fail
  refine (N1.out _).mono ?_
  rintro e w1 ⟨rfl, rfl⟩
  go_wp2_with fail
  refine (N2.out _).mono ?_
  rintro e w1 ⟨rfl, rfl⟩
  go_wp2_with fail
  go_ret
  exact ⟨rfl, ⟨_, _, _, _, _, HR.out.1, HR.out.2.1, HR.out.2.2⟩, HF.out⟩
end
theorem Sprd.refl (w : World) (B : List Nat) : Sprd w B B := fun _ h => .inl h
/-- Add -/
theorem add_any {w : World} {s : Nat} {B : List Nat} {gap : Int} {L : List Tri} (h : SesAt w s B gap L) (p i : ByteArray) (t : Int) (hps : p.size ≤ maxLen) (his : i.size ≤ maxLen) (ht : I64 t) (hn : L.length + 1 ≤ 100000) :
    Calls Try.prog 20 #[.pointer (some ⟨s, 0, none⟩), .string p, .int .i64 t, .string i] w fun e w' => e = .returned (.bool (okT (p, t, i))) ∧ (∃ B', SesAt w' s B' gap (addT L (p, t, i)) ∧ Sprd w B B') ∧ Fr (fun b => b ∈ B) w w' := by
  cases hok : okT (p, t, i) with
  | false =>
    refine (add_no (some ⟨s, 0, none⟩) p i t w hps his ht hok).mono ?_
    rintro e w' ⟨rfl, rfl⟩
    refine ⟨rfl, ⟨B, ?_, Sprd.refl _ _⟩, Fr.refl _ _⟩
    have : addT L (p, t, i) = L := by unfold addT; rw [hok]; rfl
    rw [this]; exact h
  | true =>
    obtain ⟨r, mr, mt, mi, role, h1, h2⟩ := h.ex
    have hfin : ∀ (e : Ending) (w' : World), (e = .returned (.bool true) ∧ (∃ mr' mt' mi' role' B', SesR w' s r gap mr' mt' mi' role' B' ∧ SRel (addT L (p, t, i)) mr' mt' mi' ∧ Sprd w B B') ∧ Fr (fun b => b ∈ B) w w') → (e = .returned (.bool true) ∧ (∃ B', SesAt w' s B' gap (addT L (p, t, i)) ∧ Sprd w B B') ∧ Fr (fun b => b ∈ B) w w') := by
      rintro e w' ⟨rfl, ⟨mr', mt', mi', role', B', g1, g2, g3⟩, g4⟩
      exact ⟨rfl, ⟨B', ⟨h.ok.add _, h.g, Nat.le_trans (add_len _ _) hn, r, mr', mt', mi', role', g1, g2⟩, g3⟩, g4⟩
    cases hb : mget mr p with
    | none => exact (add_pers h1 h2 p i t hps his hok hb).mono hfin
    | some b =>
      cases hc : mget (mt p) t with
      | none => exact (add_tick h1 h2 p i t hps his hok hb hc).mono hfin
      | some c => exact (add_item h1 h2 p i t hps his hok hb hc).mono hfin
end Go.Proofs.Ytbmjddmejmeknaa

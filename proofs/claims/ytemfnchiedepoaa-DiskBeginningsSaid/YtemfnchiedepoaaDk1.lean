/- Contracts of package disk's small functions: New, Arm, Down, asked, full, file, step, found. -/
import Derived.Test.YtemfnchiedepoaaDk
namespace Go.Proofs.Ytemfnchiedepoaa
open Go.RowKit Go.MapKept Go.Maps
set_option linter.unusedVariables false
set_option maxHeartbeats 400000 in
theorem new_any (w : World) :
    Calls Try.prog 11 #[] w fun e w' => ∃ d, e = .returned (.pointer (some ⟨d, 0, none⟩)) ∧ DiskAt w' d [d, w.heap.size] newD ∧ w.heap.size ≤ d ∧ Below w.heap.size w w' := by
  have hmm := @run_makeMap Try.prog
  have hb : Bk ((w.alloc (.map #[] 0)).alloc (.cells #[.map (some w.heap.size), .int .i64 0, .bool false, .int .i64 0, .bool false] 62)) (w.heap.size + 1) [.map (some w.heap.size), .int .i64 0, .bool false, .int .i64 0, .bool false] 62 := bk_at _ _ (by simp)
  have hA : DiskAt ((w.alloc (.map #[] 0)).alloc (.cells #[.map (some w.heap.size), .int .i64 0, .bool false, .int .i64 0, .bool false] 62)) (w.heap.size + 1) [w.heap.size + 1, w.heap.size] newD :=
    ⟨⟨RiseF.nil, by simp [newD, fsum], (fun p h => by cases h), (fun p h => by cases h), by decide, by decide, by decide⟩, w.heap.size, [], rfl, ⟨hb, (Mp.made w).bel ((Below.refl _ _).alloc (Nat.le_refl _) _), (fun x h => by cases h), by simp [dblocks]⟩, fun n => rfl⟩
  have HA := Lib.hid hA
  have HB := Lib.hid (((Below.refl w.heap.size w).alloc (Nat.le_refl _) (.map #[] 0)).alloc (by simp) (.cells #[.map (some w.heap.size), .int .i64 0, .bool false, .int .i64 0, .bool false] 62))
  clear hA hb
  go_enter Try.func11, Try.ntmps11
  go_wp2_with fail
  go_ret
  exact ⟨w.heap.size + 1, rfl, HA.out, by omega, HB.out⟩
section
variable {w : World} {d m : Nat} {M : FM} {used : Int} {lit : Bool} {fuse : Int} {down : Bool}
theorem DiskR.cells (h : DiskR w d m M used lit fuse down) : w.cell? ⟨d, 0, none⟩ = some (.map (some m)) ∧ w.cell? ⟨d, 1, none⟩ = some (.int .i64 used) ∧ w.cell? ⟨d, 2, none⟩ = some (.bool lit) ∧ w.cell? ⟨d, 3, none⟩ = some (.int .i64 fuse) ∧ w.cell? ⟨d, 4, none⟩ = some (.bool down) :=
  ⟨h.bk.cell 0, h.bk.cell 1, h.bk.cell 2, h.bk.cell 3, h.bk.cell 4⟩
theorem zeroPtr (w : World) : (zeroValue 64).run Try.prog w = .ok (.pointer none) w := by kernel_rfl
def ptrOf (o : Option (Nat × Value × Fl)) : Value := .pointer (o.map fun x => ⟨x.1, 0, none⟩)
/-- 'f, ok := d.files[name]' -/
theorem DiskR.look (h : DiskR w d m M used lit fuse down) (n : ByteArray) (hn : n.size ≤ 1000) :
    (Instr.lookup 60 (.map (some m)) (.string n) true).run Try.prog w = .ok (.tuple #[ptrOf (mget M n), .bool (mget M n).isSome]) w := by
  have := h.mp.look (P := Try.prog) keyS Try.underlying60 (zeroPtr w) (a := n) (by unfold okS maxLen; omega) true
  rw [ptr_get] at this
  cases he : mget M n <;> simpa [he, encS, ptrOf] using this
theorem DiskR.look1 (h : DiskR w d m M used lit fuse down) (n : ByteArray) (hn : n.size ≤ 1000) :
    (Instr.lookup 60 (.map (some m)) (.string n) false).run Try.prog w = .ok (ptrOf (mget M n)) w := by
  have := h.mp.look (P := Try.prog) keyS Try.underlying60 (zeroPtr w) (a := n) (by unfold okS maxLen; omega) false
  rw [ptr_get] at this
  cases he : mget M n <;> simpa [he, encS, ptrOf] using this
theorem down_any (h : DiskR w d m M used lit fuse down) :
    Calls Try.prog 14 #[.pointer (some ⟨d, 0, none⟩)] w fun e w' => e = .returned (.bool down) ∧ w = w' := by
  obtain ⟨c0, c1, c2, c3, c4⟩ := h.cells
  clear h
  go_enter Try.func14, Try.ntmps14
  go_wp2_with fail
  go_ret
  exact ⟨rfl, rfl⟩
/-- what is wrong with a name -/
def askN (down : Bool) (n : ByteArray) : Int := if down then 8 else if nameD n then 0 else 1
set_option maxHeartbeats 1000000 in
theorem asked_any (h : DiskR w d m M used lit fuse down) (n : ByteArray) (hn : n.size ≤ 1000) :
    Calls Try.prog 29 #[.pointer (some ⟨d, 0, none⟩), .string n] w fun e w' => e = .returned (.int .i64 (askN down n)) ∧ w = w' := by
  obtain ⟨c0, c1, c2, c3, c4⟩ := h.cells
  clear h
  obtain ⟨r, hr⟩ : ∃ r, askN down n = r := ⟨_, rfl⟩
  rw [hr]
  have HR := Lib.hid hr
  clear hr
  unfold askN nameD at HR
  cases down with
  | true =>
    have e : r = 8 := by rw [← HR.out]; rfl
    subst e
    go_enter Try.func29, Try.ntmps29
    go_wp2_with fail
    go_ret
    exact ⟨rfl, rfl⟩
  | false =>
    by_cases h1 : n.size < 1
    · have e : r = 1 := by rw [← HR.out, decide_eq_false (show ¬ 1 ≤ n.size by omega)]; rfl
      subst e
      have t1 : decide ((n.size : Int) < 1) = true := decide_eq_true (by omega)
      go_enter Try.func29, Try.ntmps29
      go_wp2_with fail
      go_ret
      exact ⟨rfl, rfl⟩
    · have t1 : decide ((n.size : Int) < 1) = false := decide_eq_false (by omega)
      by_cases h2 : 64 < n.size
      · have e : r = 1 := by rw [← HR.out, decide_eq_false (show ¬ n.size ≤ 64 by omega), Bool.and_false]; rfl
        subst e
        have t2 : decide ((64 : Int) < (n.size : Int)) = true := decide_eq_true (by omega)
        go_enter Try.func29, Try.ntmps29
        go_wp2_with fail
        go_ret
        exact ⟨rfl, rfl⟩
      · have e : r = 0 := by rw [← HR.out, decide_eq_true (show 1 ≤ n.size by omega), decide_eq_true (show n.size ≤ 64 by omega)]; rfl
        subst e
        have t2 : decide ((64 : Int) < (n.size : Int)) = false := decide_eq_false (by omega)
        go_enter Try.func29, Try.ntmps29
        go_wp2_with fail
        go_ret
        exact ⟨rfl, rfl⟩
/-- is there no room? -/
def fullN (used more : Int) (there : Bool) (n : Nat) : Bool := decide (4194304 < used + more) || (!there && decide (4096 ≤ n))
set_option maxHeartbeats 1000000 in
theorem full_any (h : DiskR w d m M used lit fuse down) (n : ByteArray) (more : Int) (hn : n.size ≤ 1000) (h1 : -10000000 ≤ used ∧ used ≤ 10000000) (h2 : -10000000 ≤ more ∧ more ≤ 10000000) (hl : M.length ≤ 1000000) :
    Calls Try.prog 30 #[.pointer (some ⟨d, 0, none⟩), .string n, .int .i64 more] w fun e w' => e = .returned (.bool (fullN used more (mget M n).isSome M.length)) ∧ w = w' := by
  obtain ⟨c0, c1, c2, c3, c4⟩ := h.cells
  have hlk := h.look n hn
  have hln : ∀ ty, (Builtin.len_ #[60] ty #[.map (some m)]).run Try.prog w = .ok (.int .i64 M.length) w := fun ty => by
    have := h.mp.len (P := Try.prog) Try.underlying60 ty
    rw [show (ptrM M).length = M.length by simp [ptrM]] at this
    exact this
  obtain ⟨r, hr⟩ : ∃ r, fullN used more (mget M n).isSome M.length = r := ⟨_, rfl⟩
  rw [hr]
  have HR := Lib.hid hr
  clear hr h
  unfold fullN at HR
  obtain ⟨pv, hpv⟩ : ∃ pv, ptrOf (mget M n) = pv := ⟨_, rfl⟩
  rw [hpv] at hlk
  clear hpv
  have q1 : IntKind.i64.wrap (used + more) = used + more := IntWalk.i64_in _ (by omega)
  generalize M.length = ml at *
  cases hs : (mget M n).isSome with
  | true =>
    rw [hs] at hlk HR
    by_cases hc : 4194304 < used + more
    · have e : r = true := by rw [← HR.out, decide_eq_true hc]; rfl
      subst e
      have t1 : decide (4194304 < used + more) = true := decide_eq_true hc
      clear hs HR
      go_enter Try.func30, Try.ntmps30
      go_wp2_with fail
      go_ret
      exact ⟨rfl, rfl⟩
    · have e : r = false := by rw [← HR.out, decide_eq_false hc]; rfl
      subst e
      have t1 : decide (4194304 < used + more) = false := decide_eq_false hc
      clear hs HR
      go_enter Try.func30, Try.ntmps30
      go_wp2_with fail
      go_ret
      exact ⟨rfl, rfl⟩
  | false =>
    rw [hs] at hlk HR
    by_cases hc : 4194304 < used + more
    · have e : r = true := by rw [← HR.out, decide_eq_true hc]; rfl
      subst e
      have t1 : decide (4194304 < used + more) = true := decide_eq_true hc
      clear hs HR
      go_enter Try.func30, Try.ntmps30
      go_wp2_with fail
      go_ret
      exact ⟨rfl, rfl⟩
    · have t1 : decide (4194304 < used + more) = false := decide_eq_false hc
      by_cases hm : 4096 ≤ ml
      · have e : r = true := by rw [← HR.out, t1, decide_eq_true hm]; rfl
        subst e
        have t2 : decide ((4096 : Int) ≤ (ml : Int)) = true := decide_eq_true (by omega)
        have t2' : decide (4096 ≤ ml) = true := decide_eq_true hm
        clear hs HR
        go_enter Try.func30, Try.ntmps30
        go_wp2_with fail
        go_ret
        exact ⟨rfl, rfl⟩
      · have e : r = false := by rw [← HR.out, t1, decide_eq_false hm]; rfl
        subst e
        have t2 : decide ((4096 : Int) ≤ (ml : Int)) = false := decide_eq_false (by omega)
        have t2' : decide (4096 ≤ ml) = false := decide_eq_false hm
        clear hs HR
        go_enter Try.func30, Try.ntmps30
        go_wp2_with fail
        go_ret
        exact ⟨rfl, rfl⟩
set_option maxHeartbeats 1000000 in
theorem step_any (h : DiskR w d m M used lit fuse down) (hf : 0 ≤ fuse ∧ fuse ≤ 9223372036854775807) :
    Calls Try.prog 32 #[.pointer (some ⟨d, 0, none⟩)] w fun e w' => e = .returned (.bool (!lit || !decide (fuse = 0))) ∧ DiskR w' d m M used lit (if lit && decide (0 < fuse) then fuse - 1 else fuse) (down || (lit && decide (fuse = 0))) ∧ Fr (fun b => b = d) w w' := by
  obtain ⟨c0, c1, c2, c3, c4⟩ := h.cells
  have f3 := h.bk.free 3
  have f4 := h.bk.free 4
  have hlt := h.bk.lt
  have H := Lib.hid h
  clear h
  cases lit with
  | false =>
    go_enter Try.func32, Try.ntmps32
    go_wp2_with fail
    go_ret
    exact ⟨rfl, by simpa using H.out, Fr.refl _ _⟩
  | true =>
    by_cases hz : fuse = 0
    · subst hz
      have HB := Lib.hid (H.out.own (w' := w.setCell ⟨d, 4, none⟩ (.bool true)) (H.out.bk.set 4 (.bool true)) ((Fr.refl _ w).setCell d 4 _ (.inr rfl)))
      have HF : Hid (Fr (fun b => b = d) w (w.setCell ⟨d, 4, none⟩ (.bool true))) := Lib.hid ((Fr.refl _ w).setCell d 4 _ (.inr rfl))
      go_enter Try.func32, Try.ntmps32
      go_wp2_with fail
      go_ret
      exact ⟨rfl, by simpa using HB.out, HF.out⟩
    · have t1 : (fuse == 0) = false := by simp [hz]
      have hp : 0 < fuse := by omega
      have q1 : IntKind.i64.wrap (fuse - 1) = fuse - 1 := IntWalk.i64_in _ (by omega)
      have HB := Lib.hid (H.out.own (w' := w.setCell ⟨d, 3, none⟩ (.int .i64 (fuse - 1))) (H.out.bk.set 3 (.int .i64 (fuse - 1))) ((Fr.refl _ w).setCell d 3 _ (.inr rfl)))
      have HF : Hid (Fr (fun b => b = d) w (w.setCell ⟨d, 3, none⟩ (.int .i64 (fuse - 1)))) := Lib.hid ((Fr.refl _ w).setCell d 3 _ (.inr rfl))
      have e1 : (!true || !decide (fuse = 0)) = true := by simp [hz]
      have e2 : (if (true && decide (0 < fuse)) = true then fuse - 1 else fuse) = fuse - 1 := by simp [hp]
      have e3 : (down || (true && decide (fuse = 0))) = down := by simp [hz]
      rw [e1, e2, e3]
      clear hz hp e1 e2 e3
      go_enter Try.func32, Try.ntmps32
      go_wp2_with fail
      go_ret
      exact ⟨rfl, HB.out, HF.out⟩
set_option maxHeartbeats 1000000 in
theorem arm_any (h : DiskR w d m M used lit fuse down) (n : Int) (hn : I64 n) :
    Calls Try.prog 12 #[.pointer (some ⟨d, 0, none⟩), .int .i64 n] w fun e w' => e = .returned (.tuple #[]) ∧ DiskR w' d m M used (decide (0 ≤ n)) (max n 0) down ∧ Fr (fun b => b = d) w w' := by
  obtain ⟨c0, c1, c2, c3, c4⟩ := h.cells
  have f2 := h.bk.free 2
  have f3 := h.bk.free 3
  have hlt := h.bk.lt
  have hw : Bk ((w.setCell ⟨d, 2, none⟩ (.bool (decide (0 ≤ n)))).setCell ⟨d, 3, none⟩ (.int .i64 (max n 0))) d [.map (some m), .int .i64 used, .bool (decide (0 ≤ n)), .int .i64 (max n 0), .bool down] 62 := (h.bk.set 2 (.bool (decide (0 ≤ n)))).set 3 (.int .i64 (max n 0))
  have hf : Fr (fun b => b = d) w ((w.setCell ⟨d, 2, none⟩ (.bool (decide (0 ≤ n)))).setCell ⟨d, 3, none⟩ (.int .i64 (max n 0))) := ((Fr.refl (fun b => b = d) w).setCell d 2 _ (.inr rfl)).setCell d 3 _ (.inr rfl)
  have HB := Lib.hid (h.own hw hf)
  have HF := Lib.hid hf
  clear h hw hf
  unfold I64 at hn
  go_enter Try.func12, Try.ntmps12
  go_wp2_with fail
  go_end0
  exact ⟨rfl, HB.out, HF.out⟩
end
end Go.Proofs.Ytemfnchiedepoaa

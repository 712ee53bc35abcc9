/- Contracts of alias.New and Join. -/
import Derived.Test.YtgflfjmlhapplaaAl
import Derived.Test.YtgflfjmlhapplaaNames
namespace Go.Proofs.Ytgflfjmlhapplaa
open Go.RowKit Go.MapKept Go.Maps
set_option linter.unusedVariables false
theorem nodup_length {α : Type} : ∀ {l m : List α}, l.Nodup → (∀ x ∈ l, x ∈ m) → l.length ≤ m.length
  | [], _, _, _ => by simp
  | x :: l, m, hn, hs => by
    have hn' := List.nodup_cons.1 hn
    obtain ⟨a, b, rfl⟩ := List.append_of_mem (hs x (by simp))
    have := nodup_length (m := a ++ b) hn'.2 (fun y hy => by
      have h1 := hs y (by simp [hy])
      have h2 : y ≠ x := fun e => hn'.1 (e ▸ hy)
      simp [h2] at h1
      simpa using h1)
    simp at this ⊢
    omega
theorem AInv.len {l : List Two} {M : List (ByteArray × ByteArray)} {r : ByteArray → ByteArray} (h : AOf l r) (hi : AInv M r) : M.length ≤ 2 * l.length := by
  have := nodup_length hi.nd (m := l.map Prod.fst ++ l.map Prod.snd) (fun k hk => by
    obtain ⟨p, hp, _, e⟩ := hi.end_of h hk
    rw [List.mem_append]
    exact e.imp (fun e => List.mem_map.2 ⟨p, hp, e⟩) (fun e => List.mem_map.2 ⟨p, hp, e⟩))
  simp [mkeys] at this
  omega
set_option maxHeartbeats 400000 in
theorem new_any (w : World) :
    Calls Try.prog 10 #[] w fun e w' => e = .returned (.pointer (some ⟨w.heap.size + 1, 0, none⟩)) ∧ AlR w' (w.heap.size + 1) w.heap.size [] ∧ Below w.heap.size w w' ∧ w'.heap.size = w.heap.size + 2 := by
  have hmm := @run_makeMap Try.prog
  have hA : AlR ((w.alloc (.map #[] 0)).alloc (.cells #[.map (some w.heap.size)] 52)) (w.heap.size + 1) w.heap.size [] :=
    ⟨bk_at [.map (some w.heap.size)] _ (by simp), (Mp.made w).bel ((Below.refl _ _).alloc (Nat.le_refl _) _), by omega⟩
  have HA := Lib.hid hA
  have HB := Lib.hid (((Below.refl w.heap.size w).alloc (Nat.le_refl _) (.map #[] 0)).alloc (by simp) (.cells #[.map (some w.heap.size)] 52))
  clear hA
  go_enter Try.func10, Try.ntmps10
  go_wp2_with fail
  go_ret
  exact ⟨rfl, HA.out, HB.out, by simp⟩
/-- does a join make one group of two? -/
def joinV (r : ByteArray → ByteArray) (x y : ByteArray) : Bool := nameB x && nameB y && !decide (r x = r y)
set_option maxRecDepth 100000 in
set_option maxHeartbeats 4000000 in
theorem join_any (p m : Nat) (M : List (ByteArray × ByteArray)) (r : ByteArray → ByteArray) (x y : ByteArray) (w : World) (h : AlR w p m M) (hi : AInv M r) (hx : x.size ≤ 1000) (hy : y.size ≤ 1000) :
    Calls Try.prog 14 #[.pointer (some ⟨p, 0, none⟩), .string x, .string y] w fun e w' => e = .returned (.bool (joinV r x y)) ∧ ∃ M', AlR w' p m M' ∧ Fr (fun b => b = m) w w' ∧
      ((joinV r x y = false ∧ AInv M' r) ∨ (joinV r x y = true ∧ nameB x = true ∧ nameB y = true ∧ ∃ rr, AInv M' rr ∧ (rr = joinR r (r x) (r y) ∨ rr = joinR r (r y) (r x)))) := by
  have HA := Lib.hid h
  have HI := Lib.hid hi
  have EX : Hid (∀ W, Calls Try.prog 28 #[.string x] W fun e w' => e = .returned (.bool (nameB x)) ∧ W = w') := Lib.hid (fun W => ename_any x W (by omega))
  have EY : Hid (∀ W, Calls Try.prog 28 #[.string y] W fun e w' => e = .returned (.bool (nameB y)) ∧ W = w') := Lib.hid (fun W => ename_any y W (by omega))
  have NX := Lib.hid (name_any p m M r x w h hi hx)
  have NY := Lib.hid (name_any p m M r y w h hi hy)
  have c0 := h.bk.cell 0
  clear h hi
  cases ex : nameB x with
  | false =>
    have hbv : joinV r x y = false := by unfold joinV; rw [ex]; rfl
    have HV := Lib.hid hbv
    rw [ex] at EX
    clear ex hbv
    go_enter Try.func14, Try.ntmps14
    go_wp2_with fail
    refine (EX.out w).mono ?_
    rintro e wx ⟨rfl, rfl⟩
    go_wp2_with fail
    go_ret
    exact ⟨by rw [HV.out]; rfl, M, HA.out, Fr.refl _ _, .inl ⟨HV.out, HI.out⟩⟩
  | true =>
    rw [ex] at EX

    cases ey : nameB y with
    | false =>
      have hbv : joinV r x y = false := by unfold joinV; rw [ex, ey]; rfl
      have HV := Lib.hid hbv
      rw [ey] at EY
      clear ex ey hbv
      go_enter Try.func14, Try.ntmps14
      go_wp2_with fail
      refine (EX.out w).mono ?_
      rintro e wx ⟨rfl, rfl⟩
      go_wp2_with fail
      refine (EY.out _).mono ?_
      rintro e wx ⟨rfl, rfl⟩
      go_wp2_with fail
      go_ret
      exact ⟨by rw [HV.out]; rfl, M, HA.out, Fr.refl _ _, .inl ⟨HV.out, HI.out⟩⟩
    | true =>
      rw [ey] at EY

      by_cases he : r x = r y
      · have hbv : joinV r x y = false := by unfold joinV; rw [ex, ey, decide_eq_true he]; rfl
        have HV := Lib.hid hbv
        rw [he] at NX
        have t3 : ((r y).toList == (r y).toList) = true := by simp
        clear ex ey hbv he
        go_enter Try.func14, Try.ntmps14
        go_wp2_with fail
        refine (EX.out w).mono ?_
        rintro e wx ⟨rfl, rfl⟩
        go_wp2_with fail
        refine (EY.out _).mono ?_
        rintro e wx ⟨rfl, rfl⟩
        go_wp2_with fail
        refine (NX.out).mono ?_
        rintro e wx ⟨rfl, rfl⟩
        go_wp2_with fail
        refine (NY.out).mono ?_
        rintro e wx ⟨rfl, rfl⟩
        go_wp2_with fail
        go_ret
        exact ⟨by rw [HV.out]; rfl, M, HA.out, Fr.refl _ _, .inl ⟨HV.out, HI.out⟩⟩
      · rcases ltB_total he with hlt | hlt
        · clear he
          have hne : ¬ r x = r y := fun c => by rw [c] at hlt; exact ltB_irrefl _ hlt
          have t3 : ((r x).toList == (r y).toList) = false := by rw [bytesEq]; exact decide_eq_false hne
          have t4 : Op.bytesLess (r y).toList (r x).toList = false := by rw [bytesLess_lt]; exact decide_eq_false (ltB_asymm hlt)
          have hbv : joinV r x y = true := by unfold joinV; rw [ex, ey, decide_eq_false hne]; rfl
          have hj := HI.out.join (x := x) (y := y) ex ey hlt
          obtain ⟨w2, hr2, m2, f2, z2⟩ := HA.out.mp.store (P := Try.prog) keyS Try.underlying50 (a := r y) (by unfold okS maxLen; have := name_size (HI.out.name ey); omega) (.string (r x))
          have hr3 : (Instr.mapUpdate 50 (.map (some m)) (.string (r y)) (.string (r x))).run Try.prog w = .ok () w2 := hr2
          rw [mput_map] at m2
          have hA2 : AlR w2 p m (mput M (r y) (r x)) := ⟨HA.out.bk.fr f2 HA.out.ne, m2, HA.out.ne⟩
          have hs1 : joinR r (r x) (r y) x = r x := by unfold joinR; rw [if_neg hne]
          have hs2 : joinR r (r x) (r y) y = r x := by unfold joinR; rw [if_pos rfl]
          have S1 := Lib.hid (shorten_any p m _ _ x (r x) w2 hA2 hj hx hs1)
          have HS2 := Lib.hid hs2
          have F2 := Lib.hid f2
          have HV := Lib.hid hbv
          clear hne hj hr2 m2 f2 z2 hA2 hs1 hs2 hbv hlt ex ey
          obtain ⟨rr, hrr⟩ : ∃ rr, joinR r (r x) (r y) = rr := ⟨_, rfl⟩
          rw [hrr] at S1 HS2
          have HRR := Lib.hid hrr.symm
          clear hrr
          go_enter Try.func14, Try.ntmps14
          go_wp2_with fail
          refine (EX.out w).mono ?_
          rintro e wx ⟨rfl, rfl⟩
          go_wp2_with fail
          refine (EY.out _).mono ?_
          rintro e wx ⟨rfl, rfl⟩
          go_wp2_with fail
          refine (NX.out).mono ?_
          rintro e wx ⟨rfl, rfl⟩
          go_wp2_with fail
          refine (NY.out).mono ?_
          rintro e wx ⟨rfl, rfl⟩
          go_wp2_with fail
          refine S1.out.mono ?_
          rintro e w3 ⟨rfl, M3, a3, i3, k3, f3⟩
          have S2 := Lib.hid (shorten_any p m _ _ y (r x) w3 a3 i3 hy HS2.out)
          have F3 := Lib.hid (F2.out.trans f3 (fun _ _ e => e))
          clear S1 a3 i3 k3 f3 F2
          go_wp2_with fail
          refine S2.out.mono ?_
          rintro e w4 ⟨rfl, M4, a4, i4, k4, f4⟩
          have A4 := Lib.hid a4
          have I4 := Lib.hid i4
          have F4 := Lib.hid (F3.out.trans f4 (fun _ _ e => e))
          clear S2 a4 i4 k4 f4 F3
          go_wp2_with fail
          go_ret
          exact ⟨by rw [HV.out]; rfl, M4, A4.out, F4.out, .inr ⟨HV.out, by trivial, by trivial, _, I4.out, .inl HRR.out⟩⟩
        · clear he
          have hne : ¬ r x = r y := fun c => by rw [c] at hlt; exact ltB_irrefl _ hlt
          have t3 : ((r x).toList == (r y).toList) = false := by rw [bytesEq]; exact decide_eq_false hne
          have t4 : Op.bytesLess (r y).toList (r x).toList = true := by rw [bytesLess_lt]; exact decide_eq_true hlt
          have hbv : joinV r x y = true := by unfold joinV; rw [ex, ey, decide_eq_false hne]; rfl
          have hj := HI.out.join (x := y) (y := x) ey ex hlt
          obtain ⟨w2, hr2, m2, f2, z2⟩ := HA.out.mp.store (P := Try.prog) keyS Try.underlying50 (a := r x) (by unfold okS maxLen; have := name_size (HI.out.name ex); omega) (.string (r y))
          have hr3 : (Instr.mapUpdate 50 (.map (some m)) (.string (r x)) (.string (r y))).run Try.prog w = .ok () w2 := hr2
          rw [mput_map] at m2
          have hA2 : AlR w2 p m (mput M (r x) (r y)) := ⟨HA.out.bk.fr f2 HA.out.ne, m2, HA.out.ne⟩
          have hs1 : joinR r (r y) (r x) x = r y := by unfold joinR; rw [if_pos rfl]
          have hs2 : joinR r (r y) (r x) y = r y := by unfold joinR; rw [if_neg (fun c => hne c.symm)]
          have S1 := Lib.hid (shorten_any p m _ _ x (r y) w2 hA2 hj hx hs1)
          have HS2 := Lib.hid hs2
          have F2 := Lib.hid f2
          have HV := Lib.hid hbv
          clear hne hj hr2 m2 f2 z2 hA2 hs1 hs2 hbv hlt ex ey
          obtain ⟨rr, hrr⟩ : ∃ rr, joinR r (r y) (r x) = rr := ⟨_, rfl⟩
          rw [hrr] at S1 HS2
          have HRR := Lib.hid hrr.symm
          clear hrr
          go_enter Try.func14, Try.ntmps14
          go_wp2_with fail
          refine (EX.out w).mono ?_
          rintro e wx ⟨rfl, rfl⟩
          go_wp2_with fail
          refine (EY.out _).mono ?_
          rintro e wx ⟨rfl, rfl⟩
          go_wp2_with fail
          refine (NX.out).mono ?_
          rintro e wx ⟨rfl, rfl⟩
          go_wp2_with fail
          refine (NY.out).mono ?_
          rintro e wx ⟨rfl, rfl⟩
          go_wp2_with fail
          refine S1.out.mono ?_
          rintro e w3 ⟨rfl, M3, a3, i3, k3, f3⟩
          have S2 := Lib.hid (shorten_any p m _ _ y (r y) w3 a3 i3 hy HS2.out)
          have F3 := Lib.hid (F2.out.trans f3 (fun _ _ e => e))
          clear S1 a3 i3 k3 f3 F2
          go_wp2_with fail
          refine S2.out.mono ?_
          rintro e w4 ⟨rfl, M4, a4, i4, k4, f4⟩
          have A4 := Lib.hid a4
          have I4 := Lib.hid i4
          have F4 := Lib.hid (F3.out.trans f4 (fun _ _ e => e))
          clear S2 a4 i4 k4 f4 F3
          go_wp2_with fail
          go_ret
          exact ⟨by rw [HV.out]; rfl, M4, A4.out, F4.out, .inr ⟨HV.out, by trivial, by trivial, _, I4.out, .inr HRR.out⟩⟩
end Go.Proofs.Ytgflfjmlhapplaa

/- Contracts of package disk: file, found. -/
import Derived.Test.YtemfnchiedepoaaDk1
namespace Go.Proofs.Ytemfnchiedepoaa
open Go.RowKit Go.MapKept Go.Maps
set_option linter.unusedVariables false
/-- files by what they are -/
def flOf (M : FM) (n : ByteArray) : Option Fl := (mget M n).map (·.2.2)
section
variable {w : World} {d m : Nat} {M : FM} {used : Int} {lit : Bool} {fuse : Int} {down : Bool}
set_option maxRecDepth 100000 in
set_option maxHeartbeats 1000000 in
theorem file_old (h : DiskR w d m M used lit fuse down) (n : ByteArray) (hn : n.size ≤ 1000) {q : Nat} {v : Value} {g : Fl} (hg : mget M n = some (q, v, g)) :
    Calls Try.prog 31 #[.pointer (some ⟨d, 0, none⟩), .string n] w fun e w' => e = .returned (.pointer (some ⟨q, 0, none⟩)) ∧ w = w' := by
  obtain ⟨c0, c1, c2, c3, c4⟩ := h.cells
  have hlk := h.look n hn
  rw [hg] at hlk
  have hlk' : (Instr.lookup 60 (.map (some m)) (.string n) true).run Try.prog w = .ok (.tuple #[.pointer (some ⟨q, 0, none⟩), .bool true]) w := hlk
  clear h hlk hg
  go_enter Try.func31, Try.ntmps31
  go_wp2_with fail
  go_ret
  exact ⟨rfl, rfl⟩
set_option maxRecDepth 100000 in
set_option maxHeartbeats 1000000 in
theorem file_new (h : DiskR w d m M used lit fuse down) (n : ByteArray) (hn : n.size ≤ 1000) (hg : mget M n = none) :
    Calls Try.prog 31 #[.pointer (some ⟨d, 0, none⟩), .string n] w fun e w' => ∃ q, e = .returned (.pointer (some ⟨q, 0, none⟩)) ∧ DiskR w' d m (mput M n (q, .slice none 0 0, emptyF)) used lit fuse down ∧ (∀ b ∈ dblocks d m (mput M n (q, .slice none 0 0, emptyF)), b ∈ dblocks d m M ∨ w.heap.size ≤ b) ∧ Fr (fun b => b = m) w w' := by
  obtain ⟨c0, c1, c2, c3, c4⟩ := h.cells
  have hlk := h.look n hn
  rw [hg] at hlk
  have hlk' : (Instr.lookup 60 (.map (some m)) (.string n) true).run Try.prog w = .ok (.tuple #[.pointer none, .bool false]) w := hlk
  have hb1 := (Below.refl w.heap.size w).alloc (Nat.le_refl _) (.cells #[.slice none 0 0, .int .i64 0, .bool false] 67)
  obtain ⟨w2, hr2, m2, f2, z2⟩ := (h.bel hb1).mp.store (P := Try.prog) keyS Try.underlying60 (a := n) (by unfold okS maxLen; omega) (.pointer (some ⟨w.heap.size, 0, none⟩))
  have hr3 : (Instr.mapUpdate 60 (.map (some m)) (.string n) (.pointer (some ⟨w.heap.size, 0, none⟩))).run Try.prog (w.alloc (.cells #[.slice none 0 0, .int .i64 0, .bool false] 67)) = .ok () w2 := hr2
  have hbk := Bk.new w [.slice none 0 0, .int .i64 0, .bool false] 67
  have hadd := h.add (w1 := w.alloc (.cells #[.slice none 0 0, .int .i64 0, .bool false] 67)) (w' := w2) hg (q := w.heap.size) (v := .slice none 0 0) (g := emptyF) hb1 ⟨hbk, own_nil _ _⟩ (Nat.le_refl _) (by simp [Value.ownBlock]) m2 f2
  have HADD := Lib.hid hadd
  have hlt := h.bk.lt
  have HF := Lib.hid ((Fr.of_bel (S := fun b => b = m) hb1).trans f2 (fun _ _ e => e))
  clear h hlk hg hb1 hr2 m2 f2 z2 hbk hadd
  go_enter Try.func31, Try.ntmps31
  go_wp2_with fail
  go_ret
  exact ⟨w.heap.size, rfl, HADD.out.1, HADD.out.2, HF.out⟩
/-- the file of that name, a new one, if it wasn't there -/
theorem file_any (h : DiskR w d m M used lit fuse down) (n : ByteArray) (hn : n.size ≤ 1000) :
    Calls Try.prog 31 #[.pointer (some ⟨d, 0, none⟩), .string n] w fun e w' => ∃ q v M', e = .returned (.pointer (some ⟨q, 0, none⟩)) ∧ DiskR w' d m M' used lit fuse down ∧ mget M' n = some (q, v, (flOf M n).getD emptyF) ∧ (∀ k, n ≠ k → mget M' k = mget M k) ∧ (∀ b ∈ dblocks d m M', b ∈ dblocks d m M ∨ w.heap.size ≤ b) ∧ Fr (fun b => b = m) w w' := by
  cases hg : mget M n with
  | some x =>
    obtain ⟨q, v, g⟩ := x
    refine (file_old h n hn hg).mono ?_
    rintro e w' ⟨rfl, rfl⟩
    exact ⟨q, v, M, rfl, h, by rw [hg]; simp [flOf, hg], fun _ _ => rfl, fun b hb => .inl hb, Fr.refl _ _⟩
  | none =>
    refine (file_new h n hn hg).mono ?_
    rintro e w' ⟨q, rfl, h1, h2, h3⟩
    refine ⟨q, .slice none 0 0, _, rfl, h1, by rw [get_put, if_pos rfl]; simp [flOf, hg], fun k hk => by rw [get_put, if_neg hk], h2, h3⟩
/-- what is wrong with a call that needs a file -/
def foundN (down : Bool) (n : ByteArray) (there : Bool) : Int := if down then 8 else if nameD n then (if there then 0 else 6) else 1
set_option maxRecDepth 100000 in
set_option maxHeartbeats 1000000 in
theorem found_any (h : DiskR w d m M used lit fuse down) (n : ByteArray) (hn : n.size ≤ 1000) :
    Calls Try.prog 33 #[.pointer (some ⟨d, 0, none⟩), .string n] w fun e w' => e = .returned (.tuple #[.pointer (if foundN down n (mget M n).isSome = 0 then (mget M n).map (fun x => ⟨x.1, 0, none⟩) else none), .int .i64 (foundN down n (mget M n).isSome)]) ∧ w = w' := by
  obtain ⟨c0, c1, c2, c3, c4⟩ := h.cells
  have hlk := h.look n hn
  have ha := asked_any h n hn
  clear h
  cases hd : down with
  | true =>
    subst hd
    have e1 : askN true n = 8 := rfl
    have e2 : foundN true n (mget M n).isSome = 8 := rfl
    rw [e1] at ha
    rw [e2]
    have HA := Lib.hid ha
    clear ha e1 e2 hlk
    go_enter Try.func33, Try.ntmps33
    go_wp2_with fail
    refine HA.out.mono ?_
    rintro e wx ⟨rfl, rfl⟩
    go_wp2_with fail
    go_ret2
    exact ⟨rfl, rfl⟩
  | false =>
    subst hd
    cases hnm : nameD n with
    | false =>
      have e1 : askN false n = 1 := by unfold askN; rw [hnm]; rfl
      have e2 : foundN false n (mget M n).isSome = 1 := by unfold foundN; rw [hnm]; rfl
      rw [e1] at ha
      rw [e2]
      have HA := Lib.hid ha
      clear ha e1 e2 hlk hnm
      go_enter Try.func33, Try.ntmps33
      go_wp2_with fail
      refine HA.out.mono ?_
      rintro e wx ⟨rfl, rfl⟩
      go_wp2_with fail
      go_ret2
      exact ⟨rfl, rfl⟩
    | true =>
      have e1 : askN false n = 0 := by unfold askN; rw [hnm]; rfl
      rw [e1] at ha
      have HA := Lib.hid ha
      cases hg : mget M n with
      | none =>
        have e2 : foundN false n (none : Option (Nat × Value × Fl)).isSome = 6 := by unfold foundN; rw [hnm]; rfl
        rw [hg] at hlk
        have hlk' : (Instr.lookup 60 (.map (some m)) (.string n) true).run Try.prog w = .ok (.tuple #[.pointer none, .bool false]) w := hlk
        rw [e2]
        clear ha e1 e2 hlk hnm hg
        go_enter Try.func33, Try.ntmps33
        go_wp2_with fail
        refine HA.out.mono ?_
        rintro e wx ⟨rfl, rfl⟩
        go_wp2_with fail
        go_ret2
        exact ⟨rfl, rfl⟩
      | some x =>
        obtain ⟨q, v, g⟩ := x
        have e2 : foundN false n (some (q, v, g) : Option (Nat × Value × Fl)).isSome = 0 := by unfold foundN; rw [hnm]; rfl
        rw [hg] at hlk
        have hlk' : (Instr.lookup 60 (.map (some m)) (.string n) true).run Try.prog w = .ok (.tuple #[.pointer (some ⟨q, 0, none⟩), .bool true]) w := hlk
        rw [e2]
        clear ha e1 e2 hlk hnm hg
        go_enter Try.func33, Try.ntmps33
        go_wp2_with fail
        refine HA.out.mono ?_
        rintro e wx ⟨rfl, rfl⟩
        go_wp2_with fail
        go_ret2
        exact ⟨rfl, rfl⟩
end
end Go.Proofs.Ytemfnchiedepoaa

/- A disk of the call's own, and what calls of it leave. -/
import Derived.Test.YtemfnchiedepoaaDkCv
namespace Go.Proofs.Ytemfnchiedepoaa
open Go.RowKit Go.MapKept Go.Maps
set_option linter.unusedVariables false
/-- a disk that was made since w0 -/
def DkOwn (w0 w : World) (d : Nat) (X : Dk) : Prop := ∃ B, DiskAt w d B X ∧ (∀ b ∈ B, w0.heap.size ≤ b) ∧ Below w0.heap.size w0 w
theorem DkOwn.bl {w0 w : World} {d : Nat} {X : Dk} (h : DkOwn w0 w d X) : Below w0.heap.size w0 w := h.choose_spec.2.2
theorem DkOwn.ok {w0 w : World} {d : Nat} {X : Dk} (h : DkOwn w0 w d X) : DkOk X := h.choose_spec.1.ok
theorem DkOwn.bel {w0 w w' : World} {d : Nat} {X : Dk} (h : DkOwn w0 w d X) (hb : Below w.heap.size w w') : DkOwn w0 w' d X := by
  obtain ⟨B, h1, h2, h3⟩ := h
  exact ⟨B, h1.bel hb, h2, h3.trans (hb.mono h3.size)⟩
theorem DkOwn.post {w0 w w' : World} {d : Nat} {B : List Nat} {X' : Dk} (h2 : ∀ b ∈ B, w0.heap.size ≤ b) (h3 : Below w0.heap.size w0 w) (hp : DkPost w d B X' w') : DkOwn w0 w' d X' := by
  obtain ⟨B', k1, k2, k3⟩ := hp
  refine ⟨B', k1, fun b hb => ?_, h3.trans (k2.below h3.size h2)⟩
  rcases k3 b hb with h | h
  · exact h2 b h
  · exact Nat.le_trans h3.size h
theorem new_own (w0 w : World) (hb : Below w0.heap.size w0 w) :
    Calls Try.prog 11 #[] w fun e w' => ∃ d, e = .returned (.pointer (some ⟨d, 0, none⟩)) ∧ DkOwn w0 w' d newD := by
  refine (new_any w).mono ?_
  rintro e w' ⟨d, rfl, h1, h2, h3⟩
  have := hb.size
  exact ⟨d, rfl, [d, w.heap.size], h1, fun b hb => by simp at hb; omega, hb.trans (h3.mono hb.size)⟩
section
variable {w0 w w' : World} {d : Nat} {X : Dk}
theorem append_own (h : DkOwn w0 w d X) (hb : Below w.heap.size w w') (n s : ByteArray) (sb : Option Addr) (cap : Nat) (hn : n.size ≤ 1000) (hs : ByIn w' sb s) (hsb : ∀ k o, sb = some ⟨k, o, none⟩ → w.heap.size ≤ k) (hsz : s.size ≤ 5000000) (ln : Nat) (hln : ln = s.size) :
    Calls Try.prog 13 #[.pointer (some ⟨d, 0, none⟩), .string n, .slice sb ln cap] w' fun e w'' => e = .returned (.int .i64 (stepA X n s).2) ∧ DkOwn w0 w'' d (stepA X n s).1 := by
  subst hln
  obtain ⟨B, h1, h2, h3⟩ := h
  refine (append_at (h1.bel hb) n s sb cap hn hs (fun k o hk hB => by have := h1.lt k hB; have := hsb k o hk; omega) hsz).mono ?_
  rintro e w'' ⟨rfl, k⟩
  exact ⟨rfl, .post h2 (h3.trans (hb.mono h3.size)) k⟩
theorem replace_own (h : DkOwn w0 w d X) (hb : Below w.heap.size w w') (n s : ByteArray) (sb : Option Addr) (cap : Nat) (hn : n.size ≤ 1000) (hs : ByIn w' sb s) (hsb : ∀ k o, sb = some ⟨k, o, none⟩ → w.heap.size ≤ k) (hsz : s.size ≤ 5000000) (ln : Nat) (hln : ln = s.size) :
    Calls Try.prog 19 #[.pointer (some ⟨d, 0, none⟩), .string n, .slice sb ln cap] w' fun e w'' => e = .returned (.int .i64 (stepR X n s).2) ∧ DkOwn w0 w'' d (stepR X n s).1 := by
  subst hln
  obtain ⟨B, h1, h2, h3⟩ := h
  refine (replace_at (h1.bel hb) n s sb cap hn hs (fun k o hk hB => by have := h1.lt k hB; have := hsb k o hk; omega) hsz).mono ?_
  rintro e w'' ⟨rfl, k⟩
  exact ⟨rfl, .post h2 (h3.trans (hb.mono h3.size)) k⟩
theorem sync_own (h : DkOwn w0 w d X) (n : ByteArray) (hn : n.size ≤ 1000) :
    Calls Try.prog 17 #[.pointer (some ⟨d, 0, none⟩), .string n] w fun e w' => e = .returned (.int .i64 (stepS X n).2) ∧ DkOwn w0 w' d (stepS X n).1 := by
  obtain ⟨B, h1, h2, h3⟩ := h
  refine (sync_at h1 n hn).mono ?_
  rintro e w'' ⟨rfl, k⟩
  exact ⟨rfl, .post h2 h3 k⟩
theorem remove_own (h : DkOwn w0 w d X) (n : ByteArray) (hn : n.size ≤ 1000) :
    Calls Try.prog 36 #[.pointer (some ⟨d, 0, none⟩), .string n] w fun e w' => e = .returned (.int .i64 (stepD X n).2) ∧ DkOwn w0 w' d (stepD X n).1 := by
  obtain ⟨B, h1, h2, h3⟩ := h
  refine (remove_at h1 n hn).mono ?_
  rintro e w'' ⟨rfl, k⟩
  exact ⟨rfl, .post h2 h3 k⟩
theorem arm_own (h : DkOwn w0 w d X) (n : Int) (hn : I64 n) :
    Calls Try.prog 12 #[.pointer (some ⟨d, 0, none⟩), .int .i64 n] w fun e w' => e = .returned (.tuple #[]) ∧ DkOwn w0 w' d (armD X n) := by
  obtain ⟨B, h1, h2, h3⟩ := h
  refine (arm_at h1 n hn).mono ?_
  rintro e w'' ⟨rfl, k⟩
  exact ⟨rfl, .post h2 h3 k⟩
theorem down_own (h : DkOwn w0 w d X) : Calls Try.prog 14 #[.pointer (some ⟨d, 0, none⟩)] w fun e w' => e = .returned (.bool X.down) ∧ w = w' := by
  obtain ⟨B, h1, h2, h3⟩ := h
  exact down_at h1
theorem names_own (h : DkOwn w0 w d X) : Calls Try.prog 20 #[.pointer (some ⟨d, 0, none⟩)] w fun e w' => ∃ v : Value, e = .returned v ∧ MkT w w' v (fnames X.L) ∧ DkOwn w0 w' d X := by
  have h' := h
  obtain ⟨B, h1, h2, h3⟩ := h
  refine (names_at h1).mono ?_
  rintro e w' ⟨v, rfl, k⟩
  exact ⟨v, rfl, k, h'.bel k.bl⟩
theorem read_own (h : DkOwn w0 w d X) (n : ByteArray) (hn : n.size ≤ 1000) :
    Calls Try.prog 15 #[.pointer (some ⟨d, 0, none⟩), .string n] w fun e w' => ∃ u, e = .returned (.tuple #[u, .int .i64 (readD X n).2]) ∧ ByMk w w' u (readD X n).1 ∧ DkOwn w0 w' d X := by
  have h' := h
  obtain ⟨B, h1, h2, h3⟩ := h
  refine (read_at h1 n hn).mono ?_
  rintro e w' ⟨u, rfl, k⟩
  exact ⟨u, rfl, k, h'.bel k.bl⟩
theorem IntIn.old {W : World} {b : Option Addr} {l : List Int} (h : IntIn W b l) (w : World) : l = [] ∨ ∀ k o, b = some ⟨k, o, none⟩ → k < W.heap.size ∨ w.heap.size ≤ k := by
  rcases h with h | ⟨B, off, hb, hl, _⟩
  · exact .inl (List.map_eq_nil_iff.1 h)
  · refine .inr fun k o hk => .inl ?_
    rw [hb] at hk
    cases hk
    exact hl
/-- the keep of a crash lies where the disk doesn't: in what was there ahead of it, or in what came since -/
theorem crash_own (h : DkOwn w0 w d X) (hb : Below w.heap.size w w') (keep : List Int) (hk : ∀ x ∈ keep, I64 x) (hkl : keep.length ≤ 1000) (kb : Option Addr) (kc : Nat) (hin : IntIn w' kb keep) (hkb : keep = [] ∨ ∀ k o, kb = some ⟨k, o, none⟩ → k < w0.heap.size ∨ w.heap.size ≤ k) (ln : Nat) (hln : ln = keep.length) :
    Calls Try.prog 16 #[.pointer (some ⟨d, 0, none⟩), .slice kb ln kc] w' fun e w'' => e = .returned (.tuple #[]) ∧ DkOwn w0 w'' d (crashD X keep) := by
  subst hln
  obtain ⟨B, h1, h2, h3⟩ := h
  refine (crash_at (h1.bel hb) keep hk hkl kb kc hin (hkb.imp id fun hkb k o hk hB => by have := h1.lt k hB; have := h2 k hB; have := hkb k o hk; omega)).mono ?_
  rintro e w'' ⟨rfl, k⟩
  exact ⟨rfl, .post h2 (h3.trans (hb.mono h3.size)) k⟩
end
end Go.Proofs.Ytemfnchiedepoaa

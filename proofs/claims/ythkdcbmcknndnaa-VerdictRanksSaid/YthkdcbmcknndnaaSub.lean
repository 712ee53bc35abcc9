/- A part of a slice, 's[k:]' and 's[:k]', whatever slice it is. No program in sight. -/
import Derived.Test.YthkdcbmcknndnaaRowM
namespace Go.Proofs.Ythkdcbmcknndnaa
open Go.RowKit
/-- where 's[k:]' lies -/
def subB (b : Option Addr) (cap k sz : Nat) : Option Addr := if cap = k then b else b.map (·.add (k * sz))
theorem subB_inw {w : World} {b : Option Addr} {cap k sz : Nat} {css : List (List Value)} (h : InW w b sz css) (hc : css.length ≤ cap) : InW w (subB b cap k sz) sz (css.drop k) := by
  unfold subB
  by_cases e : cap = k
  · rw [if_pos e]; left
    rw [List.drop_eq_nil_iff]; omega
  · rw [if_neg e]
    rcases h with h | ⟨B, off, rfl, hl, hx⟩
    · left; rw [h]; simp
    · have h' : InW w (some ⟨B, off, none⟩) sz css := .inr ⟨B, off, rfl, hl, hx⟩
      rw [Option.map_some, Addr.add_lit]
      exact h'.drop k
theorem subB_zero (b : Option Addr) (cap sz : Nat) : subB b cap 0 sz = b := by
  unfold subB
  split
  · rfl
  · cases b <;> simp [Addr.add]
section
variable {P : Program}
theorem run_bound (w : World) (k y : Nat) (c : BoundsCode) (h : k ≤ y) : (Instr.sliceBound (.int .i64 k) y c).run P w = .ok k w := by
  have h' : (0 : Int) ≤ (k : Int) ∧ (k : Int) ≤ (y : Int) := by omega
  simp [Instr.sliceBound, asIntOf, h]
theorem run_slice_from (w : World) (t e : TypeId) (b : Option Addr) (n cap k sz : Nat) (ht : P.underlying t = some (.slice e)) (hinfo : ∃ i, P.info? e = some i ∧ i.size = sz) (hk : k ≤ n) :
    (Instr.slice t (.slice b n cap) (some (.int .i64 k)) none none).run P w = .ok (.slice (subB b cap k sz) (n - k) (cap - k)) w := by
  obtain ⟨i, hi, hsz⟩ := hinfo
  simp [Instr.slice, run_underlying ht, Instr.sliceBounds, run_bound w k n _ hk, sizeOf, typeInfo, hi, hsz, Result.andThen, subB]
theorem run_slice_to (w : World) (t e : TypeId) (b : Option Addr) (n cap k sz : Nat) (ht : P.underlying t = some (.slice e)) (hinfo : ∃ i, P.info? e = some i ∧ i.size = sz) (hk : k ≤ cap) :
    (Instr.slice t (.slice b n cap) none (some (.int .i64 k)) none).run P w = .ok (.slice b k cap) w := by
  obtain ⟨i, hi, hsz⟩ := hinfo
  have h0 := subB_zero b cap sz
  unfold subB at h0
  simp only [Nat.zero_mul] at h0
  simp [Instr.slice, run_underlying ht, Instr.sliceBounds, run_bound w k cap _ hk, sizeOf, typeInfo, hi, Result.andThen, h0]
end
end Go.Proofs.Ythkdcbmcknndnaa

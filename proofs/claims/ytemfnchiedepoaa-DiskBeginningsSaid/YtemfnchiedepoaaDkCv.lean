/- Bytes of a text, a text of bytes, a row of constants. -/
import Derived.Test.YtemfnchiedepoaaDk11
import Derived.Lib.ConvBytes
import Derived.Lib.SlBytesConst
import Derived.Laws.IdiomStrings
namespace Go.Proofs.Ytemfnchiedepoaa
open Go.RowKit Go.MapKept Go.Maps
set_option linter.unusedVariables false
/-- 'string(b)' -/
theorem text_of {w : World} {b : Option Addr} {s : ByteArray} (h : ByIn w b s) (c : Nat) : (convert 28 9 (.slice b s.size c)).run Try.prog w = .ok (.string s) w := by
  have e : (⟨s.data.toList.toArray⟩ : ByteArray) = s := by simp
  rcases h with h | ⟨B, off, rfl, hl, hc⟩
  · have h0 : s.data.toList = [] := List.map_eq_nil_iff.1 h
    have hz : s.size = 0 := by rw [← len_data, h0]; rfl
    rw [hz]
    have := Go.run_convert_bytes_string (P := Try.prog) w 28 9 5 b 0 c Try.underlying28 Try.underlying5 Try.underlying9
    rw [this]
    rw [h0] at e
    rw [← e]
    cases b with
    | none => simp [Conv.bytesToString]; rfl
    | some a =>
      have := Go.run_convert_bytes_back (P := Try.prog) w 28 9 5 a c [] Try.underlying28 Try.underlying5 Try.underlying9 (fun j hj => by simp at hj)
      rw [Go.run_convert_bytes_string (P := Try.prog) w 28 9 5 (some a) _ c Try.underlying28 Try.underlying5 Try.underlying9] at this
      exact this
  · have := Go.run_convert_bytes_back (P := Try.prog) w 28 9 5 ⟨B, off, none⟩ c s.data.toList Try.underlying28 Try.underlying5 Try.underlying9 (fun j hj => by
      have := hc j [byV s.data.toList[j]] (by rw [List.getElem?_map, List.getElem?_eq_getElem hj]; rfl) 0 _ rfl
      rw [Addr.add_lit]
      simpa [byV] using this)
    rw [len_data, e] at this
    exact this
/-- '[]byte(s)' -/
theorem bytes_of (w : World) (s : ByteArray) : ∃ c w', (convert 9 28 (.string s)).run Try.prog w = .ok (.slice (some ⟨w.heap.size, 0, none⟩) s.size c) w' ∧ ByIn w' (some ⟨w.heap.size, 0, none⟩) s ∧ Below w.heap.size w w' ∧ w'.heap.size = w.heap.size + 1 := by
  refine ⟨_, _, Go.Lib.run_convert_string_bytes (P := Try.prog) w 9 28 5 s Try.underlying9 Try.underlying28 Try.underlying5, ?_, ⟨rfl, rfl, rfl, by rw [Go.Lib.bytesWorld_size]; omega, fun k hk => Go.Lib.bytesWorld_at_old w _ s k hk⟩, Go.Lib.bytesWorld_size w _ s⟩
  refine .inr ⟨w.heap.size, 0, rfl, by rw [Go.Lib.bytesWorld_size]; omega, fun i c hi j u hj => ?_⟩
  rw [List.getElem?_map] at hi
  obtain ⟨x, hx, rfl⟩ := Option.map_eq_some_iff.1 hi
  have hlt : i < s.size := by have := (List.getElem?_eq_some_iff.1 hx).1; rw [len_data] at this; exact this
  match j, hj with
  | 0, hj =>
    cases hj
    have := Go.Lib.bytesWorld_cell w 5 s i hlt
    have e : s.data.toList.getD i 0 = x := by rw [List.getD_eq_getElem?_getD, hx]; rfl
    rw [e] at this
    simpa [byV] using this
end Go.Proofs.Ytemfnchiedepoaa

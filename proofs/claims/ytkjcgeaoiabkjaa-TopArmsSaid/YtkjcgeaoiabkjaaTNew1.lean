/- For trial.New: the clone of arms, in words of rows. -/
import Derived.Test.YtkjcgeaoiabkjaaTPlain
namespace Go.Proofs.Ytkjcgeaoiabkjaa
open Go.RowKit Go.MapKept Go.Maps
set_option linter.unusedVariables false
theorem row_base {w : World} {lo : Nat} {e : TypeId} {sz n : Nat} {v : Value} {xs : List Value} (h : w.ownsRow lo e sz v n xs) : w.ownsRow 0 e sz v n xs ∧ ∀ b, v.ownBlock = some b → lo ≤ b := by
  obtain ⟨h0, h | ⟨g, cap, cs, hv, h1, h2⟩⟩ := h
  · exact ⟨⟨h0, .inl h⟩, fun b hb => by rw [h.1] at hb; simp [Value.ownBlock] at hb⟩
  · exact ⟨⟨h0, .inr ⟨g, cap, cs, hv, Nat.zero_le _, h2⟩⟩, fun b hb => by rw [hv] at hb; simp [Value.ownBlock] at hb; omega⟩
theorem txt_flat (arms : List ByteArray) : (arms.flatMap fun s => [Value.string s]) = arms.map Value.string := by
  induction arms with
  | nil => rfl
  | cons a l ih => rw [List.flatMap_cons, ih]; rfl
theorem row_txts {w : World} {v : Value} {arms : List ByteArray} (h : w.ownsRow 0 9 1 v arms.length (arms.map Value.string)) : ∃ b cap, v = .slice b arms.length cap ∧ arms.length ≤ cap ∧ cap ≤ maxLen ∧ InW w b 1 (arms.map fun s => [.string s]) := by
  rw [← txt_flat] at h
  obtain ⟨b, cap, h1, h2, h3, h4, _⟩ := inw_of_rowm (f := fun s => [Value.string s]) (sz := 1) (fun _ => rfl) Nat.one_pos h
  exact ⟨b, cap, h1, h2, h3, h4⟩
theorem clone_txt (b : Option Addr) (cap : Nat) (arms : List ByteArray) (w : World) (hi : InW w b 1 (arms.map fun s => [.string s])) (h1 : 1 ≤ arms.length) (h2 : arms.length ≤ 16) :
    Calls Try.prog 30 #[.slice b arms.length cap] w fun e w' => ∃ b' c', e = .returned (.slice b' arms.length c') ∧ w'.ownsRow 0 9 1 (.slice b' arms.length c') arms.length (arms.map Value.string) ∧ (∀ k, (Value.slice b' arms.length c').ownBlock = some k → w.heap.size ≤ k) ∧ Below w.heap.size w w' := by
  obtain ⟨B, off, rfl, hB, hc⟩ := txts_of hi h1
  refine (Try.slices_Clone_string B off arms.length cap arms w (Nat.le_refl _) (by omega) hc).mono ?_
  rintro e w' ⟨v', rfl, h3, _, h4⟩
  rw [List.take_length] at h3
  obtain ⟨h5, h6⟩ := row_base h3
  obtain ⟨b', c', rfl, _, _, _⟩ := row_txts h5
  exact ⟨b', c', rfl, h5, h6, h4⟩
/-- a trial and its slice's row -/
def cloneOb (arms : List ByteArray) (x : TV) : ObN := .row (.slice x.b x.n x.c) 9 1 arms.length (arms.map Value.string)
theorem tvLen (a : TV) : (tvC a).length = 5 := rfl
theorem tvOne (a : TV) : ∀ u ∈ tvC a, u.oneCell' = true := fun u hu => by
  simp only [tvC, List.mem_cons, List.not_mem_nil, or_false] at hu
  rcases hu with rfl | rfl | rfl | rfl | rfl <;> rfl
theorem infoTr : (Try.prog.info? 41).map (fun i => (i.size, i.bytes)) = some (5, 72) := by kernel_rfl
set_option maxHeartbeats 2000000 in
/-- the first loop alone: both trials may be -/
theorem new_boxes (x y : TV) (arms : List ByteArray) (w : World) (hx : TVOk w arms x) (hy : TVOk w arms y) : ∀ a ∈ [x, y], TVOk w arms a := fun a ha => by
  simp only [List.mem_cons, List.not_mem_nil, or_false] at ha
  rcases ha with rfl | rfl <;> assumption
end Go.Proofs.Ytkjcgeaoiabkjaa

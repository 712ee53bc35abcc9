/- Contract of the document's Keys. -/
import Derived.Test.YtdmcbndkfnlcjaaPRef3
import Derived.Test.YtdmcbndkfnlcjaaIns
import Derived.Test.YtdmcbndkfnlcjaaSub
import Derived.Test.YtdmcbndkfnlcjaaPPut2
namespace Go.Proofs.Ytdmcbndkfnlcjaa
open Go.RowKit Go.MapKept Go.Maps
set_option linter.unusedVariables false
theorem infoText : (Try.prog.info? 9).map (fun i => (i.zero, i.size, i.bytes)) = some (some (.string ⟨#[]⟩), 1, 16) := by kernel_rfl
/-- the keys found so far -/
structure SoFar (A : List Ad) (lo hi : Int) (i : Nat) (ks : List ByteArray) : Prop where
  rise : Rise ks
  len : ks.length ≤ i
  mem : ∀ x, x ∈ ks ↔ psum A x lo hi ≠ 0 ∧ ∃ a ∈ A.take i, a.1 = x
theorem SoFar.nil (A : List Ad) (lo hi : Int) : SoFar A lo hi 0 [] := ⟨List.Pairwise.nil, by simp, by simp⟩
theorem SoFar.all {A : List Ad} {lo hi : Int} {ks : List ByteArray} {n : Nat} (h : SoFar A lo hi n ks) (hn : A.length = n) : KeysOf A lo hi ks := by
  refine ⟨h.rise, fun k => ?_⟩
  rw [h.mem, List.take_of_length_le (by omega)]
  refine ⟨And.left, fun hp => ⟨hp, ?_⟩⟩
  have : ∀ B : List Ad, psum B k lo hi ≠ 0 → ∃ a ∈ B, a.1 = k := by
    intro B
    induction B with
    | nil => intro h; exact absurd rfl h
    | cons a B ih =>
      intro h
      by_cases e : a.1 = k
      · exact ⟨a, by simp, e⟩
      · obtain ⟨x, h1, h2⟩ := ih (by
          intro c; apply h
          obtain ⟨a1, a2, a3⟩ := a
          simp only [psum]; rw [c]; simp at e ⊢; intro c; exact absurd c e)
        exact ⟨x, by simp [h1], h2⟩
  exact this A hp
theorem SoFar.skip {A : List Ad} {lo hi : Int} {ks : List ByteArray} {i : Nat} {a : Ad} (h : SoFar A lo hi i ks) (ha : A[i]? = some a) (hs : psum A a.1 lo hi ≠ 0 → a.1 ∈ ks) : SoFar A lo hi (i + 1) ks := by
  refine ⟨h.rise, by have := h.len; omega, fun x => ?_⟩
  rw [h.mem, List.take_add_one, ha]
  constructor
  · rintro ⟨h1, a', h2, h3⟩; exact ⟨h1, a', by simp [h2], h3⟩
  · rintro ⟨h1, a', h2, h3⟩
    rcases List.mem_append.1 h2 with h2 | h2
    · exact ⟨h1, a', h2, h3⟩
    · have : a' = a := by simpa using h2
      subst this; subst h3
      exact (h.mem _).1 (hs h1)
theorem SoFar.put {A : List Ad} {lo hi : Int} {ks : List ByteArray} {i : Nat} {a : Ad} (h : SoFar A lo hi i ks) (ha : A[i]? = some a) (hs : psum A a.1 lo hi ≠ 0) : SoFar A lo hi (i + 1) (putB ks a.1) := by
  refine ⟨putB_rise h.rise _, ?_, fun x => ?_⟩
  · have := h.len
    unfold putB; split
    · omega
    · simp; omega
  rw [putB_mem, h.mem, List.take_add_one, ha]
  constructor
  · rintro (rfl | ⟨h1, a', h2, h3⟩)
    · exact ⟨hs, a, by simp, rfl⟩
    · exact ⟨h1, a', by simp [h2], h3⟩
  · rintro ⟨h1, a', h2, h3⟩
    rcases List.mem_append.1 h2 with h2 | h2
    · exact .inr ⟨h1, a', h2, h3⟩
    · have : a' = a := by simpa using h2
      subst this; subst h3
      exact .inl rfl
end Go.Proofs.Ytdmcbndkfnlcjaa

/- Sessions that came in, opened: rows that hold rows. -/
import Derived.Test.YtnpjihbaebbbcaaQLives
import Derived.Deep.SlicePairs
namespace Go.Proofs.Ytnpjihbaebbbcaa
open Go.RowKit Go.MapKept Go.Maps Go.ChangeShapes Go.WideShapes Go.Shelf Go.Sort Go.Deep
set_option linter.unusedVariables false
set_option linter.unusedSimpArgs false
theorem cellsTS : Try.prog.cellsOf 9 = 1 := by kernel_rfl
theorem cellsTI : Try.prog.cellsOf 3 = 1 := by kernel_rfl
theorem cellsTT : Try.prog.cellsOf 28 = 1 := by kernel_rfl
section
variable {H : Type} {enc : TypeId × Value → H} {P : Program} {W : World}
/-- a slice within a row -/
theorem open_slice_in {α : Type} {t e : TypeId} {v : Value} {fuel0 : Nat} {x0 : DataW H × List MemPlace} (sz : Nat) (f : α → List Value) (Ok : α → Prop) (ht : P.underlying t = some (.slice e)) (he : P.cellsOf e = sz) (hsz : 0 < sz)
    (h : DataW.trod enc P W 0 (fun _ => true) true fuel0 t [v] = some x0)
    (hf : ∀ c fuel x, c.length = sz → DataW.trod enc P W 0 (fun _ => true) true fuel e c = some x → ∃ a, c = f a ∧ Ok a) :
    ∃ (b : Option Addr) (cap : Nat) (xs : List α), v = .slice b xs.length cap ∧ xs.length ≤ cap ∧ cap ≤ maxLen ∧ InW W b sz (xs.map f) ∧ ∀ a ∈ xs, Ok a := by
  rcases open_slice ht h with ⟨hcs, _⟩ | ⟨a, len, cap', m, k, D, Pl, hcs, _, hl, hm, hmm, _, hx⟩
  · simp only [List.cons.injEq, and_true] at hcs
    subst hcs
    exact ⟨none, 0, [], rfl, Nat.le_refl _, Nat.zero_le _, .inl rfl, fun _ h => (by cases h)⟩
  · simp only [List.cons.injEq, and_true] at hcs
    subst hcs
    simp only [if_true] at hmm
    subst hmm
    have each : ∀ i, ∃ c : List Value, i < len → c.length = sz ∧ (∃ x, DataW.trod enc P W 0 (fun _ => true) true k e c = some x) ∧ ∀ j, j < sz → W.cell? ((a.add (i * sz)).add j) = c[j]? := fun i => by
      by_cases hi : i < len
      · obtain ⟨cs', h1, h2⟩ := hx i (by omega)
        rw [he] at h1
        obtain ⟨_, hlen, hcell⟩ := World.cells?_some h1
        exact ⟨cs', fun _ => ⟨hlen, ⟨_, h2⟩, hcell⟩⟩
      · exact ⟨[], fun h => absurd h hi⟩
    have ⟨c, hc⟩ := Classical.axiomOfChoice each
    obtain ⟨xs, hxs, hok⟩ := list_choose f Ok ((List.range len).map c) (fun x hx => by
      obtain ⟨i, hi, rfl⟩ := List.mem_map.1 hx
      obtain ⟨q1, ⟨x, q2⟩, _⟩ := hc i (List.mem_range.1 hi)
      exact hf _ _ _ q1 q2)
    have hlen : xs.length = len := by
      have := congrArg List.length hxs
      simpa using this.symm
    subst hlen
    refine ⟨some a, m, xs, rfl, hl, hm, ?_, hok⟩
    by_cases hn : xs.length = 0
    · left
      rw [List.length_eq_zero_iff.1 hn]; rfl
    · right
      obtain ⟨q1, _, q3⟩ := hc 0 (by omega)
      have hs : a.spot = none := by
        have h0 := q3 0 hsz
        simp only [Nat.zero_mul, Addr.add, if_true] at h0
        rw [List.getElem?_eq_getElem (by omega)] at h0
        exact World.cell?_spot h0
      obtain ⟨B, off, spot⟩ := a
      simp only at hs
      subst hs
      refine ⟨B, off, rfl, ?_, ?_⟩
      · have h0 := q3 0 hsz
        simp only [Nat.zero_mul, Addr.add, if_true] at h0
        rw [List.getElem?_eq_getElem (by omega)] at h0
        exact World.block_lt_of_cell? _ _ h0
      · intro i c' hi j u hj
        rw [← hxs, List.getElem?_map] at hi
        obtain ⟨i', hi', e1⟩ := Option.map_eq_some_iff.1 hi
        obtain ⟨hi3, e3⟩ := List.getElem?_eq_some_iff.1 hi'
        simp only [List.getElem_range] at e3
        subst e3
        obtain ⟨p1, _, p3⟩ := hc i (by simpa using hi3)
        rw [e1] at p1 p3
        have hj2 : j < sz := by rw [← p1]; exact (List.getElem?_eq_some_iff.1 hj).1
        have := p3 j hj2
        rw [add_lit', hj] at this
        exact this
end
section
variable {H : Type} {enc : TypeId × Value → H} {W : World}
set_option maxRecDepth 100000 in
theorem open_texts_in {v : Value} {fuel0 : Nat} {x0 : DataW H × List MemPlace} (h : DataW.trod enc Try.prog W 0 (fun _ => true) true fuel0 28 [v] = some x0) :
    ∃ (b : Option Addr) (cap : Nat) (xs : List ByteArray), v = .slice b xs.length cap ∧ xs.length ≤ cap ∧ cap ≤ maxLen ∧ Strs W b xs ∧ ∀ s ∈ xs, s.size ≤ maxLen := by
  refine open_slice_in (P := Try.prog) 1 (fun s => [.string s]) _ Try.underlying28 cellsTS (by omega) h fun c fuel x hl hx => ?_
  match c, hl with
  | [u], _ =>
    obtain ⟨s, e0, _, hs⟩ := DataW.trod_string Try.underlying9 hx
    simp at e0
    subst e0
    exact ⟨s, rfl, hs⟩
set_option maxRecDepth 100000 in
/-- one session -/
theorem open_sv {c : List Value} {fuel : Nat} {x : DataW H × List MemPlace} (hl : c.length = 4) (hx : DataW.trod enc Try.prog W 0 (fun _ => true) true fuel 30 c = some x) : ∃ a : Sv, c = svC a ∧ (SvOk W a ∧ a.p.size ≤ maxLen ∧ I64 a.f ∧ I64 a.t) := by
  obtain ⟨y0, y1, y2, y3, n, _, _, h0, h1, h2, h3⟩ := Go.Joins.trod_struct4 Try.underlying30 hx
  match c, hl with
  | [u0, u1, u2, u3], _ =>
    obtain ⟨a1, e1, _, w1⟩ := DataW.trod_string Try.underlying9 h0
    obtain ⟨a2, e2, _, w2⟩ := DataW.trod_int Try.underlying3 h1
    obtain ⟨a3, e3, _, w3⟩ := DataW.trod_int Try.underlying3 h2
    simp [cellsTS, cellsTI, cellsTT] at e1 e2 e3 h3
    obtain ⟨b, cap, xs, e4, q1, q2, q3, q4⟩ := open_texts_in h3
    subst e1 e2 e3 e4
    exact ⟨⟨a1, a2, a3, b, cap, xs⟩, rfl, ⟨q3, q1, q2, q4⟩, w1, i64_wf w2, i64_wf w3⟩
set_option maxRecDepth 100000 in
theorem open_svs {r : Reach} {b0 : Nat} {v : Value} {d : DataW H} {p : List MemPlace} (hval : Value.okWide Try.prog W r b0 22 v) (h : DataW.Trod enc Try.prog W 0 (fun _ => true) true 22 v d p) :
    ∃ (b : Option Addr) (cap : Nat) (xs : List Sv), v = .slice b xs.length cap ∧ xs.length ≤ cap ∧ cap ≤ maxLen ∧ InW W b 4 (xs.map svC) ∧ ∀ a ∈ xs, SvOk W a := by
  refine open_slice_as 4 _ _ Try.underlying22 (by kernel_rfl) (by omega) hval h fun c fuel x hl hx => ?_
  obtain ⟨a, h1, h2, _⟩ := open_sv hl hx
  exact ⟨a, h1, h2⟩
end
end Go.Proofs.Ytnpjihbaebbbcaa

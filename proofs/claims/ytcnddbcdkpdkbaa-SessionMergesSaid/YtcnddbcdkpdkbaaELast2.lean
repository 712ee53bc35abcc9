/- Sessions.Last, in few words; a list of one session. -/
import Derived.Test.YtcnddbcdkpdkbaaEAwake
namespace Go.Proofs.Ytcnddbcdkpdkbaa
open Go.RowKit Go.MapKept Go.Maps Go.ChangeShapes Go.WideShapes
set_option linter.unusedVariables false
def zeroSe : Se := ⟨⟨#[]⟩, 0, 0, []⟩
def lastS (S : List Se) : Se := S.getLast?.getD zeroSe
theorem last_of (svs : List SV) : seOf (lastV svs) = lastS (svs.map seOf) := by
  unfold lastV lastS
  rw [List.getLast?_map]
  cases svs.getLast? <;> rfl
def svA (z : SV) : Array Value := #[.string z.p, .int .i64 z.f, .int .i64 z.t, .slice z.ib z.its.length z.ic]
theorem h_last2 {w0 w : World} {os : List Ob12} {i s : Nat} {gap : Int} {L : List Tri} (h : Here K12 w0 w os) (hi : os[i]? = some (.ses s gap L)) (p : ByteArray) (now : Int) (hp : p.size ≤ maxLen) (hnow : I64 now) {S : List Se} (hS : S = allS gap (uptoT L p now)) {bb : Bool} (hb : bb = decide (S ≠ [])) :
    Calls Try.prog 24 #[.pointer (some ⟨s, 0, none⟩), .string p, .int .i64 now] w fun e w' => ∃ z : SV, e = .returned (.tuple #[.agg #[.string z.p, .int .i64 z.f, .int .i64 z.t, .slice z.ib z.its.length z.ic], .bool bb]) ∧ InW w' z.ib 1 (z.its.map fun s => [.string s]) ∧ z.its.length ≤ z.ic ∧ z.ic ≤ maxLen ∧ seOf z = lastS S ∧ Below w.heap.size w w' := by
  refine (h_slast h hi p now hp hnow).mono ?_
  rintro e w' ⟨svs, rfl, h1, h2, h3⟩
  have hz : InW w' (lastV svs).ib 1 ((lastV svs).its.map fun s => [.string s]) ∧ (lastV svs).its.length ≤ (lastV svs).ic ∧ (lastV svs).ic ≤ maxLen := by
    unfold lastV
    cases hg : svs.getLast? with
    | none => exact ⟨.inl rfl, Nat.zero_le _, Nat.zero_le _⟩
    | some x =>
      obtain ⟨g1, g2, g3⟩ := h1 x (List.mem_of_getLast? hg)
      exact ⟨g1, g2, g3⟩
  refine ⟨lastV svs, ?_, hz.1, hz.2.1, hz.2.2, ?_, h3⟩
  · subst hb hS
    rw [← h2]
    cases svs with
    | nil => rfl
    | cons y ys => simp [svC]
  · rw [last_of, h2, hS]
theorem sv_one {w : World} {q : Nat} {z : SV} {t : TypeId} (hb : Bk w q (svC z) t) (h1 : InW w z.ib 1 (z.its.map fun s => [.string s])) (hm : z.its.length ≤ z.ic ∧ z.ic ≤ maxLen) : SvIn w (some ⟨q, 0, none⟩) [z] :=
  ⟨inw_one (f := svC) (x := z) hb, fun x hx => by
    simp only [List.mem_cons, List.not_mem_nil, or_false] at hx
    subst hx
    exact ⟨h1, hm⟩⟩
end Go.Proofs.Ytcnddbcdkpdkbaa

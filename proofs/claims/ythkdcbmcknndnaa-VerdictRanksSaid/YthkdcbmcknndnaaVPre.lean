/- Plain: the rows' order (rates, people, arms) is a preorder whose ties have one arm. -/
import Derived.Test.YthkdcbmcknndnaaVRank
import Derived.Test.YthkdcbmcknndnaaCmp
import Derived.Test.YthkdcbmcknndnaaRise
namespace Go.Proofs.Ythkdcbmcknndnaa
namespace Rk
structure Rw where
  arm : ByteArray
  pe : Int
  bo : Int
  wo : Int
def rtN (r : Rw) : Int := if r.pe < 1 ∨ r.bo < 0 then 0 else r.bo
def rtD (r : Rw) : Int := if r.pe < 1 ∨ r.bo < 0 then 1 else r.pe
def cR (x y : Rw) : Int := cmpR (rtN x) (rtD x) (rtN y) (rtD y)
theorem cR_turn (x y : Rw) : cR y x = - cR x y := cmpR_turn _ _ _ _
theorem cR_trans {x y z : Rw} (h1 : cR x y ≤ 0) (h2 : cR y z ≤ 0) : cR x z ≤ 0 := cmpR_trans _ _ _ _ _ _ h1 h2
theorem cR_trans_lt {x y z : Rw} (h1 : cR x y ≤ 0) (h2 : cR y z ≤ 0) (h3 : cR x y + cR y z < 0) : cR x z < 0 := cmpR_trans_lt _ _ _ _ _ _ h1 h2 h3
/-- x stands ahead of y -/
def LT (x y : Rw) : Prop := cR y x < 0 ∨ (cR y x = 0 ∧ (y.pe < x.pe ∨ (y.pe = x.pe ∧ ltB x.arm y.arm)))
instance (x y : Rw) : Decidable (LT x y) := inferInstanceAs (Decidable (_ ∨ _))
def ltRw (x y : Rw) : Bool := decide (LT x y)
theorem ltB_tr {a b c : ByteArray} (h1 : ¬ ltB b a) (h2 : ¬ ltB c b) : ¬ ltB c a := fun h => by
  rcases Classical.em (a = b) with e | e
  · subst e; exact h2 h
  · rcases ltB_total e with h3 | h3
    · exact h2 (ltB_trans h h3)
    · exact h1 h3
theorem pre : Pre ltRw Rw.arm := by
  refine ⟨fun a b h => ?_, fun a b c h1 h2 => ?_, fun a b h1 h2 => ?_⟩
  · have h := of_decide_eq_true h
    refine decide_eq_false (fun k => ?_)
    have ht := cR_turn a b
    rcases h with h | ⟨h, h' | ⟨h', h''⟩⟩ <;> rcases k with k | ⟨k, k' | ⟨k', k''⟩⟩
    · omega
    · omega
    · omega
    · omega
    · omega
    · omega
    · omega
    · omega
    · exact ltB_asymm h'' k''
  · have h1 := of_decide_eq_false h1
    have h2 := of_decide_eq_false h2
    refine decide_eq_false (fun k => ?_)
    have p0 : 0 ≤ cR a b := by
      rcases Int.lt_or_le (cR a b) 0 with h | h
      · exact absurd (.inl h) h1
      · exact h
    have q0 : 0 ≤ cR b c := by
      rcases Int.lt_or_le (cR b c) 0 with h | h
      · exact absurd (.inl h) h2
      · exact h
    have t1 := cR_turn a b
    have t2 := cR_turn b c
    have t3 := cR_turn a c
    have hle : cR c a ≤ 0 := cR_trans (y := b) (by omega) (by omega)
    have hz : cR a c = 0 := by
      rcases k with k | ⟨k, -⟩
      · omega
      · exact k
    have hpq : cR a b = 0 ∧ cR b c = 0 := by
      rcases Classical.em (cR a b = 0 ∧ cR b c = 0) with h | h
      · exact h
      · have := cR_trans_lt (x := c) (y := b) (z := a) (by omega) (by omega) (by omega)
        omega
    have e1 : ¬ (a.pe < b.pe ∨ (a.pe = b.pe ∧ ltB b.arm a.arm)) := fun h => h1 (.inr ⟨hpq.1, h⟩)
    have e2 : ¬ (b.pe < c.pe ∨ (b.pe = c.pe ∧ ltB c.arm b.arm)) := fun h => h2 (.inr ⟨hpq.2, h⟩)
    have f1 : ¬ a.pe < b.pe := fun h => e1 (.inl h)
    have f2 : ¬ b.pe < c.pe := fun h => e2 (.inl h)
    rcases k with k | ⟨-, k' | ⟨k', k''⟩⟩
    · omega
    · omega
    · exact ltB_tr (fun h => e1 (.inr ⟨by omega, h⟩)) (fun h => e2 (.inr ⟨by omega, h⟩)) k''
  · have h1 := of_decide_eq_false h1
    have h2 := of_decide_eq_false h2
    have ht := cR_turn a b
    have p0 : ¬ cR b a < 0 := fun h => h1 (.inl h)
    have q0 : ¬ cR a b < 0 := fun h => h2 (.inl h)
    have z1 : cR a b = 0 := by omega
    have z2 : cR b a = 0 := by omega
    have e1 : ¬ b.pe < a.pe := fun h => h1 (.inr ⟨z2, .inl h⟩)
    have e2 : ¬ a.pe < b.pe := fun h => h2 (.inr ⟨z1, .inl h⟩)
    rcases Classical.em (a.arm = b.arm) with e | e
    · exact e
    · rcases ltB_total e with h3 | h3
      · exact absurd (.inr ⟨z2, .inr ⟨by omega, h3⟩⟩) h1
      · exact absurd (.inr ⟨z1, .inr ⟨by omega, h3⟩⟩) h2
/-- any sorted order of the rows has the document's arms -/
theorem rank_arms {l m : List Rw} (h1 : m.Perm l) (h2 : Srt ltRw m) : m.map Rw.arm = (insAll ltRw l).map Rw.arm := rank_keys pre h1 h2
end Rk
end Go.Proofs.Ythkdcbmcknndnaa

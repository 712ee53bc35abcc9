/- Cells of one block written one behind the other; the builtin copy at the operation. No program in sight. -/
import Derived.Test.YthkdcbmcknndnaaOwn
import Derived.Laws.IdiomCopy
import Derived.Deep.RegionLaw
namespace Go.Proofs.Ythkdcbmcknndnaa
open Go.RowKit

/-- a list with some of its places written -/
def putAt : List Value → Nat → List Value → List Value
  | cs, _, [] => cs
  | cs, o, v :: r => putAt (cs.set o v) (o + 1) r
theorem putAt_length : ∀ (vs cs : List Value) (o : Nat), (putAt cs o vs).length = cs.length
  | [], _, _ => rfl
  | v :: r, cs, o => by rw [putAt, putAt_length r]; simp
theorem putAt_eq : ∀ (vs cs : List Value) (o : Nat), o + vs.length ≤ cs.length → putAt cs o vs = cs.take o ++ vs ++ cs.drop (o + vs.length)
  | [], cs, o, _ => by simp [putAt]
  | v :: r, cs, o, h => by
    simp only [List.length_cons] at h
    rw [putAt, putAt_eq r _ _ (by simp; omega)]
    have ho : o < cs.length := by omega
    rw [List.take_set, List.drop_set_of_lt (by omega), List.take_succ_eq_append_getElem ho, List.set_append_right o v (by simp; omega)]
    simp [Nat.min_eq_left (Nat.le_of_lt ho)]
    omega
theorem Bk.setCells {g : Nat} {t : TypeId} : ∀ (vs cs : List Value) (o : Nat) {w : World}, Bk w g cs t → Bk (w.setCells g o vs) g (putAt cs o vs) t
  | [], _, _, _, h => h
  | v :: r, cs, o, _, h => Bk.setCells r (cs.set o v) (o + 1) (h.set o v)
theorem Bk.setCells_other {g k : Nat} {t : TypeId} {cs : List Value} (hk : g ≠ k) : ∀ (vs : List Value) (o : Nat) {w : World}, Bk w g cs t → Bk (w.setCells k o vs) g cs t
  | [], _, _, h => h
  | v :: r, o, _, h => Bk.setCells_other hk r (o + 1) (h.other k o v hk)
theorem Fr.setCells {S : Nat → Prop} {a : World} {g : Nat} (hg : a.heap.size ≤ g ∨ S g) : ∀ (vs : List Value) (o : Nat) {w : World}, Fr S a w → Fr S a (w.setCells g o vs)
  | [], _, _, h => h
  | v :: r, o, _, h => Fr.setCells hg r (o + 1) (h.setCell g o v hg)
/-- a row of one-cell elements, out of its block -/
theorem row_of_bk {w : World} {g n cap : Nat} {cs xs : List Value} {e : TypeId} (h : Bk w g cs e) (hc : cs.length = cap) (hn : n ≤ cap) (hm : cap ≤ maxLen) (hx : cs.take n = xs) : w.ownsRow 0 e 1 (.slice (some ⟨g, 0, none⟩) n cap) n xs := by
  refine ⟨?_, .inr ⟨g, cap, cs.toArray, rfl, Nat.zero_le _, h, hn, hm, by simp [hc], by simpa using hx⟩⟩
  rw [← hx, List.length_take]; omega
theorem bk_of_row {w : World} {n : Nat} {xs : List Value} {v : Value} {e : TypeId} (h : w.ownsRow 0 e 1 v n xs) :
    xs.length = n ∧ ((v = .slice none 0 0 ∧ n = 0 ∧ xs = []) ∨ ∃ g cap cs, v = .slice (some ⟨g, 0, none⟩) n cap ∧ Bk w g cs e ∧ cs.length = cap ∧ n ≤ cap ∧ cap ≤ maxLen ∧ cs.take n = xs) := by
  have hl : xs.length = n := by simpa using h.1
  refine ⟨hl, ?_⟩
  rcases h.2 with ⟨rfl, rfl⟩ | ⟨g, cap, cur, rfl, _, hg, hn, hm, hs, ht⟩
  · exact .inl ⟨rfl, rfl, List.eq_nil_of_length_eq_zero hl⟩
  · refine .inr ⟨g, cap, cur.toList, rfl, by simpa [Bk] using hg, by simpa using hs, hn, hm, by simpa using ht⟩
section
variable {P : Program}
theorem wp_copy_run' (w : World) {o : Oper} {a : Act} {K : Act → World → Prop} {Q : Exit → Act → World → Prop} (d s : Operand) (t t' : TypeId)
    (ho : o.op = .call { callee := .builtin .copy, args := #[d, s], argTypes := #[t, t'] }) (v u : Value) (hd : a.eval d = v) (hs : a.eval s = u) {v' : Value} {w' : World}
    (hr : (Builtin.copy_ #[t, t'] o.type #[v, u]).run P w = .ok v' w') (h : K (a.put o.dst v') w') : o.wp P a w K Q := by
  unfold Oper.wp execOp
  simp only [ho, resolve, invoke, builtin, Sem.run_bind, Sem.run_pure, Result.andThen_ok, List.map_toArray, List.map_cons, List.map_nil, hd, hs, hr]
  exact h
theorem wpList_copy_run' (w : World) {ops : Array Oper} {rest : List Oper} {o : Oper} {a : Act} {Q : Exit → Act → World → Prop} (hgd : o.guard = none) (d s : Operand) (t t' : TypeId)
    (ho : o.op = .call { callee := .builtin .copy, args := #[d, s], argTypes := #[t, t'] }) (v u : Value) (hd : a.eval d = v) (hs : a.eval s = u) {v' : Value} {w' : World}
    (hr : (Builtin.copy_ #[t, t'] o.type #[v, u]).run P w = .ok v' w') (h : wpList P ops Q rest (a.put o.dst v') w') : wpList P ops Q (o :: rest) a w :=
  wpList_plain hgd fun _ hK => wp_copy_run' w d s t t' ho v u hd hs hr (hK _ _ h)
theorem step_copy_run' {ops : Array Oper} {o : Oper} {a : Act} {w : World} {K : Act → World → Prop} {Q : Exit → Act → World → Prop} {E : Prop}
    (hg : o.guard = none) (d x : Operand) (dT sT : TypeId) (hop : o.op = Op.call { callee := Callee.builtin Builtin.copy, args := #[d, x], argTypes := #[dT, sT] })
    (v u : Value) (hd : a.eval d = v) (hx : a.eval x = u) {v' : Value} {w' : World} (hr : (Builtin.copy_ #[dT, sT] o.type #[v, u]).run P w = .ok v' w') (hK : K (a.put o.dst v') w') :
    if Region.wanted o (yielded ops a.tmps) = true then Oper.wp P o a w K Q else E := by
  have hw : Region.wanted o (yielded ops a.tmps) = true := by simp [Region.wanted, hg]
  rw [if_pos hw]
  exact wp_copy_run' w d x dT sT hop v u hd hx hr hK
end
end Go.Proofs.Ythkdcbmcknndnaa

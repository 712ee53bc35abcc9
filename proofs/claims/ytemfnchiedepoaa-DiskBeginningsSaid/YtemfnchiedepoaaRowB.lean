/- Rows of one-cell elements of the call's own, long ones; cells that a step leaves. No program in sight. -/
import Derived.Test.YtemfnchiedepoaaRowAny
namespace Go.Proofs.Ytemfnchiedepoaa
open Go.RowKit
theorem Fr.cell {S : Nat → Prop} {w w' : World} (h : Fr S w w') {k i : Nat} (hk : k < w.heap.size) (hs : ¬ S k) : w'.cell? ⟨k, i, none⟩ = w.cell? ⟨k, i, none⟩ := by
  unfold World.cell?
  simp [h.block k hk hs]
theorem InW.fr {S : Nat → Prop} {w w' : World} {b : Option Addr} {sz : Nat} {css : List (List Value)} (h : InW w b sz css) (hf : Fr S w w') (hs : ∀ k o, b = some ⟨k, o, none⟩ → ¬ S k) : InW w' b sz css := by
  rcases h with h | ⟨B, off, hB, hl, hc⟩
  · exact .inl h
  · exact .inr ⟨B, off, hB, Nat.lt_of_lt_of_le hl hf.size, fun i c hi j u hj => by rw [hf.cell hl (hs B off hB)]; exact hc i c hi j u hj⟩
section
variable {P : Program} {α : Type} (f : α → Value) (hf : ∀ a, (f a).oneCell' = true)
include hf
theorem run_append_big (w : World) (t ty e : TypeId) (i : TypeInfo) (z : Value) (bytes : Nat) (ht : P.underlying t = some (.slice e)) (hi : P.info? e = some i) (hz : i.zero = some z) (hsize : i.size = 1) (hby : i.bytes = bytes) (hzs : z.cells.size = 1) (h16 : bytes ≤ 16)
    (v : Value) (xs ys : List α) (hown : w.ownsRow 0 e 1 v xs.length (xs.map f)) (b : Option Addr) (c : Nat) (hs : InW w b 1 (ys.map fun y => [f y])) (hlen : xs.length + ys.length ≤ 100000000) :
    ∃ v' w', (Builtin.append_ #[t, t] ty #[v, .slice b ys.length c]).run P w = .ok v' w' ∧ w'.ownsRow 0 e 1 v' (xs ++ ys).length ((xs ++ ys).map f) ∧ Fr (fun b => v.ownBlock = some b) w w' ∧ Hence v v' w := by
  rcases hs with h | ⟨B, off, rfl, _, hc⟩
  · have : ys = [] := List.map_eq_nil_iff.1 h
    subst this
    exact ⟨v, w, run_append_nothing w t ty e i ht hi 1 v _ _ hown b c, by simpa using hown, Fr.refl _ _, .inl rfl⟩
  · have := run_append_row (P := P) w t ty e i z 1 bytes ht hi hz hsize hby hzs (by decide) v xs.length (xs.map f) hown ⟨B, off, none⟩ ys.length c (ys.map f) (by simp)
      (fun j u hj => by
        rw [List.getElem?_map] at hj
        obtain ⟨s, hs, rfl⟩ := Option.map_eq_some_iff.1 hj
        rw [Addr.add_lit]
        have := hc j [f s] (by rw [List.getElem?_map, hs]; rfl) 0 _ rfl
        simpa using this) (one_any f hf ys) (by unfold maxLen; omega) (by have := Nat.mul_le_mul hlen h16; omega)
    obtain ⟨v', w', h1, h2, h3, h4⟩ := this
    exact ⟨v', w', h1, by simpa using h2, h3, h4⟩
theorem wpList_append_big (w : World) {ops : Array Oper} {rest : List Oper} {o : Oper} {a : Act} {Q : Exit → Act → World → Prop} (hgd : o.guard = none) (s x : Operand) (t : TypeId)
    (ho : o.op = .call { callee := .builtin .append, args := #[s, x], argTypes := #[t, t] })
    (e : TypeId) (i : TypeInfo) (z : Value) (bytes : Nat) (ht : P.underlying t = some (.slice e)) (hi : P.info? e = some i) (hz : i.zero = some z) (hsize : i.size = 1) (hby : i.bytes = bytes) (hzs : z.cells.size = 1) (h16 : bytes ≤ 16)
    (v : Value) (xs ys : List α) (hs : a.eval s = v) (hown : w.ownsRow 0 e 1 v xs.length (xs.map f)) (b : Option Addr) (n c : Nat) (hx : a.eval x = .slice b n c) (hn : n = ys.length) (hst : InW w b 1 (ys.map fun y => [f y])) (hlen : xs.length + ys.length ≤ 100000000)
    (h : ∀ v' w', w'.ownsRow 0 e 1 v' (xs ++ ys).length ((xs ++ ys).map f) → Fr (fun b => v.ownBlock = some b) w w' → Hence v v' w → wpList P ops Q rest (a.put o.dst v') w') : wpList P ops Q (o :: rest) a w := by
  subst hn
  refine wpList_plain hgd fun _ hK => ?_
  obtain ⟨v', w', hr, h2, h3, h4⟩ := run_append_big f hf (P := P) w t o.type e i z bytes ht hi hz hsize hby hzs h16 v xs ys hown b c hst hlen
  unfold Oper.wp execOp
  simp only [ho, resolve, invoke, builtin, Sem.run_bind, Sem.run_pure, Result.andThen_ok, List.map_toArray, List.map_cons, List.map_nil, hs, hx, hr]
  exact hK _ _ (h v' w' h2 h3 h4)
theorem step_append_big {ops : Array Oper} {o : Oper} {a : Act} {w : World} {K : Act → World → Prop} {Q : Exit → Act → World → Prop} {E : Prop} (hgd : o.guard = none) (s x : Operand) (t : TypeId)
    (ho : o.op = .call { callee := .builtin .append, args := #[s, x], argTypes := #[t, t] })
    (e : TypeId) (i : TypeInfo) (z : Value) (bytes : Nat) (ht : P.underlying t = some (.slice e)) (hi : P.info? e = some i) (hz : i.zero = some z) (hsize : i.size = 1) (hby : i.bytes = bytes) (hzs : z.cells.size = 1) (h16 : bytes ≤ 16)
    (v : Value) (xs ys : List α) (hs : a.eval s = v) (hown : w.ownsRow 0 e 1 v xs.length (xs.map f)) (b : Option Addr) (n c : Nat) (hx : a.eval x = .slice b n c) (hn : n = ys.length) (hst : InW w b 1 (ys.map fun y => [f y])) (hlen : xs.length + ys.length ≤ 100000000)
    (h : ∀ v' w', w'.ownsRow 0 e 1 v' (xs ++ ys).length ((xs ++ ys).map f) → Fr (fun b => v.ownBlock = some b) w w' → Hence v v' w → K (a.put o.dst v') w') : if Region.wanted o (yielded ops a.tmps) = true then Oper.wp P o a w K Q else E := by
  subst hn
  have hw : Region.wanted o (yielded ops a.tmps) = true := by simp [Region.wanted, hgd]
  rw [if_pos hw]
  obtain ⟨v', w', hr, h2, h3, h4⟩ := run_append_big f hf (P := P) w t o.type e i z bytes ht hi hz hsize hby hzs h16 v xs ys hown b c hst hlen
  unfold Oper.wp execOp
  simp only [ho, resolve, invoke, builtin, Sem.run_bind, Sem.run_pure, Result.andThen_ok, List.map_toArray, List.map_cons, List.map_nil, hs, hx, hr]
  exact h v' w' h2 h3 h4
end
end Go.Proofs.Ytemfnchiedepoaa

/- Rows of elements of several cells, of the call's own: read, and appended to. No program in sight. -/
import Derived.Test.YthkdcbmcknndnaaRowAny
namespace Go.Proofs.Ythkdcbmcknndnaa
open Go.RowKit Go.ChangeShapes Go.WideShapes
section
variable {α : Type} {f : α → List Value} {sz : Nat}
theorem flat_len (hf : ∀ a, (f a).length = sz) (xs : List α) : (xs.flatMap f).length = xs.length * sz := by
  induction xs with
  | nil => simp
  | cons x xs ih => rw [List.flatMap_cons, List.length_append, ih, hf, List.length_cons, Nat.add_mul]; omega
theorem flat_at (hf : ∀ a, (f a).length = sz) : ∀ {xs : List α} {i : Nat} {x : α} {j : Nat} {u : Value}, xs[i]? = some x → (f x)[j]? = some u → (xs.flatMap f)[i * sz + j]? = some u
  | [], _, _, _, _, h, _ => by simp at h
  | y :: xs, 0, x, j, u, h, hu => by
    simp at h
    subst h
    have hj := (List.getElem?_eq_some_iff.1 hu).1
    rw [List.flatMap_cons, Nat.zero_mul, Nat.zero_add, List.getElem?_append_left hj]
    exact hu
  | y :: xs, i + 1, x, j, u, h, hu => by
    simp at h
    have ih := flat_at hf (xs := xs) h hu
    rw [List.flatMap_cons, List.getElem?_append_right (by rw [hf, Nat.add_mul]; omega), hf, show (i + 1) * sz + j - sz = i * sz + j by rw [Nat.add_mul]; omega]
    exact ih
theorem flat_inv (hf : ∀ a, (f a).length = sz) : ∀ {xs : List α} {j : Nat} {u : Value}, (xs.flatMap f)[j]? = some u → ∃ i x r, xs[i]? = some x ∧ (f x)[r]? = some u ∧ j = i * sz + r
  | [], _, _, h => by simp at h
  | y :: xs, j, u, h => by
    rw [List.flatMap_cons] at h
    by_cases hj : j < (f y).length
    · rw [List.getElem?_append_left hj] at h
      exact ⟨0, y, j, rfl, h, by omega⟩
    · rw [List.getElem?_append_right (by omega)] at h
      obtain ⟨i, x, r, h1, h2, h3⟩ := flat_inv hf h
      rw [hf] at h3 hj
      exact ⟨i + 1, x, r, by simpa using h1, h2, by rw [Nat.add_mul]; omega⟩
variable {P : Program} (hf : ∀ a, (f a).length = sz) (h1 : ∀ a, ∀ u ∈ f a, u.oneCell' = true)
include hf h1
theorem run_append_m (w : World) (t ty e : TypeId) (i : TypeInfo) (z : Value) (bytes : Nat) (ht : P.underlying t = some (.slice e)) (hi : P.info? e = some i) (hz : i.zero = some z) (hsize : i.size = sz) (hby : i.bytes = bytes) (hzs : z.cells.size = sz) (hsz : 0 < sz) (h16 : bytes ≤ 1000)
    (v : Value) (xs ys : List α) (hown : w.ownsRow 0 e sz v xs.length (xs.flatMap f)) (b : Option Addr) (c : Nat) (hs : InW w b sz (ys.map f)) (hlen : xs.length + ys.length ≤ 1000000) :
    ∃ v' w', (Builtin.append_ #[t, t] ty #[v, .slice b ys.length c]).run P w = .ok v' w' ∧ w'.ownsRow 0 e sz v' (xs ++ ys).length ((xs ++ ys).flatMap f) ∧ Fr (fun b => v.ownBlock = some b) w w' ∧ Hence v v' w := by
  rcases hs with h | ⟨B, off, rfl, _, hc⟩
  · have : ys = [] := List.map_eq_nil_iff.1 h
    subst this
    exact ⟨v, w, run_append_nothing w t ty e i ht hi sz v _ _ hown b c, by simpa using hown, Fr.refl _ _, .inl rfl⟩
  · have := run_append_row (P := P) w t ty e i z sz bytes ht hi hz hsize hby hzs hsz v xs.length (xs.flatMap f) hown ⟨B, off, none⟩ ys.length c (ys.flatMap f) (flat_len hf ys)
      (fun j u hj => by
        obtain ⟨k, x, r, e1, e2, e3⟩ := flat_inv hf hj
        have := hc k (f x) (by rw [List.getElem?_map, e1]; rfl) r u e2
        rw [Addr.add_lit, e3, ← Nat.add_assoc]
        exact this) (fun u hu => by obtain ⟨x, _, hx⟩ := List.mem_flatMap.1 hu; exact h1 x u hx) (by unfold maxLen; omega) (by have := Nat.mul_le_mul hlen h16; omega)
    obtain ⟨v', w', h1, h2, h3, h4⟩ := this
    exact ⟨v', w', h1, by simpa using h2, h3, h4⟩
theorem wpList_append_m (w : World) {ops : Array Oper} {rest : List Oper} {o : Oper} {a : Act} {Q : Exit → Act → World → Prop} (hgd : o.guard = none) (s x : Operand) (t : TypeId)
    (ho : o.op = .call { callee := .builtin .append, args := #[s, x], argTypes := #[t, t] })
    (e : TypeId) (i : TypeInfo) (z : Value) (bytes : Nat) (ht : P.underlying t = some (.slice e)) (hi : P.info? e = some i) (hz : i.zero = some z) (hsize : i.size = sz) (hby : i.bytes = bytes) (hzs : z.cells.size = sz) (hsz : 0 < sz) (h16 : bytes ≤ 1000)
    (v : Value) (xs ys : List α) (hs : a.eval s = v) (hown : w.ownsRow 0 e sz v xs.length (xs.flatMap f)) (b : Option Addr) (n c : Nat) (hx : a.eval x = .slice b n c) (hn : n = ys.length) (hst : InW w b sz (ys.map f)) (hlen : xs.length + ys.length ≤ 1000000)
    (h : ∀ v' w', w'.ownsRow 0 e sz v' (xs ++ ys).length ((xs ++ ys).flatMap f) → Fr (fun b => v.ownBlock = some b) w w' → Hence v v' w → wpList P ops Q rest (a.put o.dst v') w') : wpList P ops Q (o :: rest) a w := by
  subst hn
  refine wpList_plain hgd fun _ hK => ?_
  obtain ⟨v', w', hr, h2, h3, h4⟩ := run_append_m hf h1 (P := P) w t o.type e i z bytes ht hi hz hsize hby hzs hsz h16 v xs ys hown b c hst hlen
  unfold Oper.wp execOp
  simp only [ho, resolve, invoke, builtin, Sem.run_bind, Sem.run_pure, Result.andThen_ok, List.map_toArray, List.map_cons, List.map_nil, hs, hx, hr]
  exact hK _ _ (h v' w' h2 h3 h4)
theorem step_append_m {ops : Array Oper} {o : Oper} {a : Act} {w : World} {K : Act → World → Prop} {Q : Exit → Act → World → Prop} {E : Prop} (hgd : o.guard = none) (s x : Operand) (t : TypeId)
    (ho : o.op = .call { callee := .builtin .append, args := #[s, x], argTypes := #[t, t] })
    (e : TypeId) (i : TypeInfo) (z : Value) (bytes : Nat) (ht : P.underlying t = some (.slice e)) (hi : P.info? e = some i) (hz : i.zero = some z) (hsize : i.size = sz) (hby : i.bytes = bytes) (hzs : z.cells.size = sz) (hsz : 0 < sz) (h16 : bytes ≤ 1000)
    (v : Value) (xs ys : List α) (hs : a.eval s = v) (hown : w.ownsRow 0 e sz v xs.length (xs.flatMap f)) (b : Option Addr) (n c : Nat) (hx : a.eval x = .slice b n c) (hn : n = ys.length) (hst : InW w b sz (ys.map f)) (hlen : xs.length + ys.length ≤ 1000000)
    (h : ∀ v' w', w'.ownsRow 0 e sz v' (xs ++ ys).length ((xs ++ ys).flatMap f) → Fr (fun b => v.ownBlock = some b) w w' → Hence v v' w → K (a.put o.dst v') w') : if Region.wanted o (yielded ops a.tmps) = true then Oper.wp P o a w K Q else E := by
  subst hn
  have hw : Region.wanted o (yielded ops a.tmps) = true := by simp [Region.wanted, hgd]
  rw [if_pos hw]
  obtain ⟨v', w', hr, h2, h3, h4⟩ := run_append_m hf h1 (P := P) w t o.type e i z bytes ht hi hz hsize hby hzs hsz h16 v xs ys hown b c hst hlen
  unfold Oper.wp execOp
  simp only [ho, resolve, invoke, builtin, Sem.run_bind, Sem.run_pure, Result.andThen_ok, List.map_toArray, List.map_cons, List.map_nil, hs, hx, hr]
  exact h v' w' h2 h3 h4
omit h1
/-- a row of the call's own, read -/
theorem inw_of_rowm {w : World} {e : TypeId} {v : Value} {xs : List α} {n : Nat} (hsz : 0 < sz) (h : w.ownsRow 0 e sz v n (xs.flatMap f)) : ∃ b cap, v = .slice b xs.length cap ∧ xs.length ≤ cap ∧ cap ≤ maxLen ∧ InW w b sz (xs.map f) ∧ n = xs.length := by
  have hl : xs.length * sz = n * sz := by rw [← flat_len hf]; exact h.1
  have hl' : xs.length = n := Nat.eq_of_mul_eq_mul_right hsz hl
  subst hl'
  have hcs := h
  rcases h.2 with ⟨rfl, h0⟩ | ⟨g, cap, cur, rfl, _, hg, hn, hm, hs, ht⟩
  · have : xs = [] := List.eq_nil_of_length_eq_zero h0
    subst this
    exact ⟨none, 0, rfl, Nat.le_refl _, Nat.zero_le _, Or.inl rfl, rfl⟩
  · refine ⟨some ⟨g, 0, none⟩, cap, rfl, hn, hm, .inr ⟨g, 0, rfl, lt_of_at hg, fun i c hi j u hj => ?_⟩, rfl⟩
    rw [List.getElem?_map] at hi
    obtain ⟨x, hx, rfl⟩ := Option.map_eq_some_iff.1 hi
    have h2 := hcs.cells (g := g) rfl (i * sz + j) u (flat_at hf hx hj)
    rw [Addr.add_lit] at h2
    rw [Nat.add_assoc]
    exact h2
omit hf
/-- a part of a slice -/
theorem InW.take {w : World} {b : Option Addr} {css : List (List Value)} (h : InW w b sz css) (n : Nat) : InW w b sz (css.take n) := by
  rcases h with h | ⟨B, off, hb, hl, hc⟩
  · left; rw [h]; simp
  · refine .inr ⟨B, off, hb, hl, fun i c hi => ?_⟩
    rw [List.getElem?_take] at hi
    split at hi
    · exact hc i c hi
    · cases hi
theorem InW.drop {w : World} {B off : Nat} {css : List (List Value)} (h : InW w (some ⟨B, off, none⟩) sz css) (n : Nat) : InW w (some ⟨B, off + n * sz, none⟩) sz (css.drop n) := by
  rcases h with h | ⟨B', off', hb, hl, hc⟩
  · left; rw [h]; simp
  · cases hb
    refine .inr ⟨B, off + n * sz, rfl, hl, fun i c hi j u hj => ?_⟩
    rw [List.getElem?_drop] at hi
    have := hc (n + i) c hi j u hj
    rw [Nat.add_mul, ← Nat.add_assoc] at this
    exact this
end
end Go.Proofs.Ythkdcbmcknndnaa

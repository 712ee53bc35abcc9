/- Rows of one-cell elements of the call's own, and elements that came in, appended to them; a part of a slice that came in. No program in sight. -/
import Derived.Test.YthkdcbmcknndnaaTexts
namespace Go.Proofs.Ythkdcbmcknndnaa
open Go.RowKit Go.ChangeShapes Go.WideShapes
section
variable {P : Program} {α : Type} (f : α → Value) (hf : ∀ a, (f a).oneCell' = true)
include hf
theorem one_any (xs : List α) : ∀ u ∈ xs.map f, u.oneCell' = true := fun u hu => by
  obtain ⟨s, _, rfl⟩ := List.mem_map.1 hu
  exact hf s
theorem run_append_any (w : World) (t ty e : TypeId) (i : TypeInfo) (z : Value) (bytes : Nat) (ht : P.underlying t = some (.slice e)) (hi : P.info? e = some i) (hz : i.zero = some z) (hsize : i.size = 1) (hby : i.bytes = bytes) (hzs : z.cells.size = 1) (h16 : bytes ≤ 16)
    (v : Value) (xs ys : List α) (hown : w.ownsRow 0 e 1 v xs.length (xs.map f)) (b : Option Addr) (c : Nat) (hs : InW w b 1 (ys.map fun y => [f y])) (hlen : xs.length + ys.length ≤ 1000000) :
    ∃ v' w', (Builtin.append_ #[t, t] ty #[v, .slice b ys.length c]).run P w = .ok v' w' ∧ w'.ownsRow 0 e 1 v' (xs ++ ys).length ((xs ++ ys).map f) ∧ Fr (fun b => v.ownBlock = some b) w w' ∧ Hence v v' w := by
  rcases hs with h | ⟨B, off, rfl, _, hc⟩
  · have : ys = [] := List.map_eq_nil_iff.1 h
    subst this
    exact ⟨v, w, run_append_nothing w t ty e i ht hi 1 v _ _ hown b c, by simpa using hown, Fr.refl _ _, .inl rfl⟩
  · have := run_append_row (P := P) w t ty e i z 1 bytes ht hi hz hsize hby hzs (by decide) v xs.length (xs.map f) hown ⟨B, off, none⟩ ys.length c (ys.map f) (by simp)
      (fun j u hj => by
        rw [List.getElem?_map] at hj
        obtain ⟨s, hs, rfl⟩ := Option.map_eq_some_iff.1 hj
        rw [Addr.add_lit]
        have := hc j [f s] (by rw [List.getElem?_map, hs]; rfl) 0 _ rfl
        simpa using this) (one_any f hf ys) (by unfold maxLen; omega) (by have := Nat.mul_le_mul hlen h16; omega)
    obtain ⟨v', w', h1, h2, h3, h4⟩ := this
    exact ⟨v', w', h1, by simpa using h2, h3, h4⟩
theorem wpList_append_any (w : World) {ops : Array Oper} {rest : List Oper} {o : Oper} {a : Act} {Q : Exit → Act → World → Prop} (hgd : o.guard = none) (s x : Operand) (t : TypeId)
    (ho : o.op = .call { callee := .builtin .append, args := #[s, x], argTypes := #[t, t] })
    (e : TypeId) (i : TypeInfo) (z : Value) (bytes : Nat) (ht : P.underlying t = some (.slice e)) (hi : P.info? e = some i) (hz : i.zero = some z) (hsize : i.size = 1) (hby : i.bytes = bytes) (hzs : z.cells.size = 1) (h16 : bytes ≤ 16)
    (v : Value) (xs ys : List α) (hs : a.eval s = v) (hown : w.ownsRow 0 e 1 v xs.length (xs.map f)) (b : Option Addr) (n c : Nat) (hx : a.eval x = .slice b n c) (hn : n = ys.length) (hst : InW w b 1 (ys.map fun y => [f y])) (hlen : xs.length + ys.length ≤ 1000000)
    (h : ∀ v' w', w'.ownsRow 0 e 1 v' (xs ++ ys).length ((xs ++ ys).map f) → Fr (fun b => v.ownBlock = some b) w w' → Hence v v' w → wpList P ops Q rest (a.put o.dst v') w') : wpList P ops Q (o :: rest) a w := by
  subst hn
  refine wpList_plain hgd fun _ hK => ?_
  obtain ⟨v', w', hr, h2, h3, h4⟩ := run_append_any f hf (P := P) w t o.type e i z bytes ht hi hz hsize hby hzs h16 v xs ys hown b c hst hlen
  unfold Oper.wp execOp
  simp only [ho, resolve, invoke, builtin, Sem.run_bind, Sem.run_pure, Result.andThen_ok, List.map_toArray, List.map_cons, List.map_nil, hs, hx, hr]
  exact hK _ _ (h v' w' h2 h3 h4)
omit hf
/-- a row of the call's own, read -/
theorem inw_of_row {w : World} {e : TypeId} {v : Value} {xs : List α} {n : Nat} (h : w.ownsRow 0 e 1 v n (xs.map f)) : ∃ b cap, v = .slice b xs.length cap ∧ xs.length ≤ cap ∧ cap ≤ maxLen ∧ InW w b 1 (xs.map fun x => [f x]) ∧ n = xs.length := by
  obtain ⟨hl, h1 | ⟨r, cap, cs, rfl, h2, h3, h4, h5, h6⟩⟩ := bk_of_row h
  · obtain ⟨rfl, rfl, hx⟩ := h1
    have : xs = [] := List.map_eq_nil_iff.1 hx
    subst this
    exact ⟨none, 0, rfl, Nat.le_refl _, Nat.zero_le _, Or.inl rfl, rfl⟩
  · rw [List.length_map] at hl
    subst hl
    refine ⟨some ⟨r, 0, none⟩, cap, rfl, h4, h5, .inr ⟨r, 0, rfl, h2.lt, fun i c hi j u hj => ?_⟩, rfl⟩
    rw [List.getElem?_map] at hi
    obtain ⟨x, hx, rfl⟩ := Option.map_eq_some_iff.1 hi
    match j, hj with
    | 0, hj =>
      cases hj
      have h7 : (xs.map f)[i]? = some (f x) := by rw [List.getElem?_map, hx]; rfl
      rw [← h6, List.getElem?_take] at h7
      split at h7
      · have := h2.cell i
        rw [h7] at this
        simpa using this
      · cases h7
    | j + 1, hj => simp at hj
/-- one element of one cell -/
theorem inw_at {w : World} {b : Option Addr} {xs : List α} (h : InW w b 1 (xs.map fun x => [f x])) {i : Nat} {x : α} (hi : xs[i]? = some x) : ∃ B off, b = some ⟨B, off, none⟩ ∧ B < w.heap.size ∧ w.cell? ⟨B, off + i, none⟩ = some (f x) := by
  rcases h with h | ⟨B, off, hb, hl, hc⟩
  · rw [List.map_eq_nil_iff.1 h] at hi; cases hi
  · refine ⟨B, off, hb, hl, ?_⟩
    have := hc i [f x] (by rw [List.getElem?_map, hi]; rfl) 0 _ rfl
    simpa using this
end
/-- those from the n-th on -/
theorem Strs.drop {w : World} {B off : Nat} {xs : List ByteArray} (h : Strs w (some ⟨B, off, none⟩) xs) (n : Nat) : Strs w (some ⟨B, off + n, none⟩) (xs.drop n) := by
  rcases h with h | ⟨B', off', hb, hl, hc⟩
  · rw [List.map_eq_nil_iff.1 h]; left; simp
  · cases hb
    refine .inr ⟨B, off + n, rfl, hl, fun i c hi j u hj => ?_⟩
    rw [List.map_drop, List.getElem?_drop] at hi
    have := hc (n + i) c hi j u hj
    rw [← this]
    congr 2
    omega
section
variable {H : Type} {enc : TypeId × Value → H} {P : Program} {W : World}
theorem open_ints {t e : TypeId} {k : IntKind} {r : Reach} {b0 : Nat} {v : Value} {d : DataW H} {p : List MemPlace} (ht : P.underlying t = some (.slice e)) (he : P.underlying e = some (.int k)) (hc : P.cellsOf e = 1)
    (hval : Value.okWide P W r b0 t v) (h : DataW.Trod enc P W 0 (fun _ => true) true t v d p) :
    ∃ (b : Option Addr) (cap : Nat) (xs : List Int), v = .slice b xs.length cap ∧ xs.length ≤ cap ∧ cap ≤ maxLen ∧ InW W b 1 (xs.map fun x => [.int k x]) ∧ ∀ x ∈ xs, (Lit.int k x).wf = true := by
  refine open_slice_as 1 _ _ ht hc (by omega) hval h fun c fuel x hl hx => ?_
  match c, hl with
  | [u], _ =>
    obtain ⟨s, e0, _, hs⟩ := DataW.trod_int he hx
    simp at e0
    subst e0
    exact ⟨s, rfl, hs⟩
end
end Go.Proofs.Ythkdcbmcknndnaa

/- Maps of the call's own: what they hold as a list of pairs, in the order in which they were laid. No program in sight. -/
import Derived.Test.YthkdcbmcknndnaaOwn
import Derived.Maps.Keyed
import Derived.Maps.Own
import Derived.Maps.OwnOps
import Derived.Maps.OwnSet
import Derived.Maps.RangeRun
import Derived.Maps.RangeWalk
namespace Go.Proofs.Ythkdcbmcknndnaa
open Go.RowKit Go.MapKept Go.Maps
open Go.ChangeMaps (setBlock)
set_option linter.unusedVariables false
section
variable {α β : Type} [DecidableEq α]
def mget : List (α × β) → α → Option β
  | [], _ => none
  | p :: m, a => if p.1 = a then some p.2 else mget m a
def mput : List (α × β) → α → β → List (α × β)
  | [], a, v => [(a, v)]
  | p :: m, a, v => if p.1 = a then (a, v) :: m else p :: mput m a v
def mdel : List (α × β) → α → List (α × β)
  | [], _ => []
  | p :: m, a => if p.1 = a then m else p :: mdel m a
def mkeys (m : List (α × β)) : List α := m.map Prod.fst
theorem mget_none {m : List (α × β)} {a : α} (h : ∀ p ∈ m, p.1 ≠ a) : mget m a = none := by
  induction m with
  | nil => rfl
  | cons p m ih => rw [mget, if_neg (h p (by simp)), ih (fun q hq => h q (by simp [hq]))]
theorem mget_at : ∀ {m : List (α × β)} {a : α} {v : β} {j : Nat}, (mkeys m).Nodup → m[j]? = some (a, v) → mget m a = some v
  | [], _, _, _, _, h => by simp at h
  | p :: m, a, v, 0, _, h => by simp at h; subst h; simp [mget]
  | p :: m, a, v, j + 1, hn, h => by
    simp at h
    have hn' := List.nodup_cons.1 hn
    have hne : p.1 ≠ a := fun e => hn'.1 (e ▸ List.mem_map.2 ⟨(a, v), List.mem_of_getElem? h, rfl⟩)
    rw [mget, if_neg hne]
    exact mget_at hn'.2 h
theorem mput_none {m : List (α × β)} {a : α} {v : β} (h : ∀ p ∈ m, p.1 ≠ a) : mput m a v = m ++ [(a, v)] := by
  induction m with
  | nil => rfl
  | cons p m ih => rw [mput, if_neg (h p (by simp)), ih (fun q hq => h q (by simp [hq]))]; rfl
theorem mput_at : ∀ {m : List (α × β)} {a : α} {v u : β} {j : Nat}, (mkeys m).Nodup → m[j]? = some (a, u) → mput m a v = m.set j (a, v)
  | [], _, _, _, _, _, h => by simp at h
  | p :: m, a, v, u, 0, _, h => by simp at h; subst h; simp [mput]
  | p :: m, a, v, u, j + 1, hn, h => by
    simp at h
    have hn' := List.nodup_cons.1 hn
    have hne : p.1 ≠ a := fun e => hn'.1 (e ▸ List.mem_map.2 ⟨(a, u), List.mem_of_getElem? h, rfl⟩)
    rw [mput, if_neg hne, mput_at hn'.2 h]
    rfl
theorem mdel_none {m : List (α × β)} {a : α} (h : ∀ p ∈ m, p.1 ≠ a) : mdel m a = m := by
  induction m with
  | nil => rfl
  | cons p m ih => rw [mdel, if_neg (h p (by simp)), ih (fun q hq => h q (by simp [hq]))]
theorem mdel_at : ∀ {m : List (α × β)} {a : α} {u : β} {j : Nat}, (mkeys m).Nodup → m[j]? = some (a, u) → mdel m a = m.eraseIdx j
  | [], _, _, _, _, h => by simp at h
  | p :: m, a, u, 0, _, h => by simp at h; subst h; simp [mdel]
  | p :: m, a, u, j + 1, hn, h => by
    simp at h
    have hn' := List.nodup_cons.1 hn
    have hne : p.1 ≠ a := fun e => hn'.1 (e ▸ List.mem_map.2 ⟨(a, u), List.mem_of_getElem? h, rfl⟩)
    rw [mdel, if_neg hne, mdel_at hn'.2 h]
    rfl
theorem mkeys_put (m : List (α × β)) (a : α) (v : β) : mkeys (mput m a v) = if a ∈ mkeys m then mkeys m else mkeys m ++ [a] := by
  induction m with
  | nil => simp [mput, mkeys]
  | cons p m ih =>
    rw [mput]
    by_cases h : p.1 = a
    · simp [h, mkeys]
    · rw [if_neg h]
      have h' : ¬ a = p.1 := fun e => h e.symm
      simp only [mkeys, List.map_cons, List.mem_cons, h', false_or] at ih ⊢
      rw [ih]
      by_cases hm : a ∈ List.map Prod.fst m <;> simp [hm]
theorem nodup_put {m : List (α × β)} (h : (mkeys m).Nodup) (a : α) (v : β) : (mkeys (mput m a v)).Nodup := by
  rw [mkeys_put]
  split
  · exact h
  · rename_i hn
    rw [List.nodup_append]
    exact ⟨h, by simp, fun x hx y hy => by simp at hy; subst hy; exact fun e => hn (e ▸ hx)⟩
theorem mem_put {m : List (α × β)} {a : α} {v : β} {p : α × β} (h : p ∈ mput m a v) : p = (a, v) ∨ p ∈ m := by
  induction m with
  | nil => simp [mput] at h; exact .inl h
  | cons q m ih =>
    rw [mput] at h
    split at h
    · rcases List.mem_cons.1 h with h | h
      · exact .inl h
      · exact .inr (by simp [h])
    · rcases List.mem_cons.1 h with h | h
      · exact .inr (by simp [h])
      · exact (ih h).imp id (fun h => by simp [h])
theorem del_sub (m : List (α × β)) (a : α) : (mdel m a).Sublist m := by
  induction m with
  | nil => exact List.Sublist.refl _
  | cons q m ih =>
    rw [mdel]
    split
    · exact List.sublist_cons_self _ _
    · exact ih.cons_cons _
theorem nodup_del {m : List (α × β)} (h : (mkeys m).Nodup) (a : α) : (mkeys (mdel m a)).Nodup := List.Nodup.sublist ((del_sub m a).map _) h
theorem get_put (m : List (α × β)) (a b : α) (v : β) : mget (mput m a v) b = if a = b then some v else mget m b := by
  induction m with
  | nil => simp [mput, mget]
  | cons p m ih =>
    rw [mput]
    by_cases h : p.1 = a
    · rw [if_pos h]; subst h
      simp only [mget]
      split <;> rfl
    · rw [if_neg h]
      simp only [mget, ih]
      by_cases h2 : p.1 = b
      · subst h2
        rw [if_pos rfl, if_neg (fun e => h e.symm), if_pos rfl]
      · rw [if_neg h2, if_neg h2]
theorem get_del {m : List (α × β)} (hn : (mkeys m).Nodup) (a b : α) : mget (mdel m a) b = if a = b then none else mget m b := by
  induction m with
  | nil => simp [mdel, mget]
  | cons p m ih =>
    have hn' := List.nodup_cons.1 hn
    rw [mdel]
    by_cases h : p.1 = a
    · rw [if_pos h]; subst h
      by_cases h2 : p.1 = b
      · rw [if_pos h2, ← h2]
        exact mget_none (fun q hq e => hn'.1 (e ▸ List.mem_map.2 ⟨q, hq, rfl⟩))
      · rw [if_neg h2, mget, if_neg h2]
    · rw [if_neg h]
      simp only [mget, ih hn'.2]
      by_cases h2 : p.1 = b
      · subst h2
        rw [if_pos rfl, if_neg (fun e => h e.symm), if_pos rfl]
      · rw [if_neg h2, if_neg h2]
theorem mem_of_get {m : List (α × β)} {a : α} {v : β} (h : mget m a = some v) : (a, v) ∈ m := by
  induction m with
  | nil => cases h
  | cons p m ih =>
    rw [mget] at h
    split at h
    · rename_i e; cases h; subst e; simp
    · simp [ih h]
theorem get_of_mem {m : List (α × β)} (hn : (mkeys m).Nodup) {a : α} {v : β} (h : (a, v) ∈ m) : mget m a = some v := by
  obtain ⟨j, hj, e⟩ := List.mem_iff_getElem.1 h
  exact mget_at hn (j := j) (by rw [List.getElem?_eq_getElem hj, e])
end

/-- how keys are written, and which may be -/
structure KeyEnc (P : Program) (k : TypeId) {α : Type} (enc : α → Value) (Ok : α → Prop) : Prop where
  law : Keyed P k
  key : ∀ {a}, Ok a → ∃ l, keyOf P k (enc a) = some l
  inj : ∀ {a b}, enc a = enc b → a = b

/-- block r of w is a map that holds m -/
structure Mp {α : Type} (enc : α → Value) (Ok : α → Prop) (w : World) (r : Nat) (m : List (α × Value)) : Prop where
  ok : ∀ p ∈ m, Ok p.1
  nd : (mkeys m).Nodup
  ex : ∃ es clock, w.heap[r]? = some (.map es clock) ∧ Stamped es clock ∧ es.toList.map (fun e => (e.key, e.val)) = m.map (fun p => (enc p.1, p.2))
section
variable {P : Program} {k : TypeId} {α : Type} {enc : α → Value} {Ok : α → Prop} {w : World} {r : Nat} {m : List (α × Value)}
theorem Mp.lt (h : Mp enc Ok w r m) : r < w.heap.size := by
  obtain ⟨es, clock, h1, _⟩ := h.ex
  exact lt_of_at h1
theorem Mp.fr {S : Nat → Prop} {w' : World} (h : Mp enc Ok w r m) (hf : Fr S w w') (hs : ¬ S r) : Mp enc Ok w' r m := by
  obtain ⟨es, clock, h1, h2, h3⟩ := h.ex
  exact ⟨h.ok, h.nd, es, clock, hf.at h1 hs, h2, h3⟩
theorem Mp.bel {w' : World} (h : Mp enc Ok w r m) (hb : Below w.heap.size w w') : Mp enc Ok w' r m := h.fr (Fr.of_bel (S := none') hb) id
theorem Mp.made (w : World) : Mp enc Ok (w.alloc (.map #[] 0)) w.heap.size [] :=
  ⟨(fun p h => by cases h), List.nodup_nil, #[], 0, (heap_alloc w _).1, stamped_empty 0, rfl⟩
/-- the map's block is written -/
theorem fr_setBlock (w : World) (r : Nat) (o : Obj) : Fr (fun b => b = r) w (setBlock w r o) := by
  refine ⟨rfl, rfl, rfl, by simp [setBlock], fun i hi hS => ?_⟩
  simp only [setBlock]
  rw [Array.getElem?_setIfInBounds_ne (fun e => hS e.symm)]
theorem at_setBlock {w : World} {r : Nat} (h : r < w.heap.size) (o : Obj) : (setBlock w r o).heap[r]? = some o := by
  simp [setBlock, h]
theorem ent_at {es : List MapEntry} (he : es.map (fun e => (e.key, e.val)) = m.map (fun p => (enc p.1, p.2))) {j : Nat} {e : MapEntry} (hj : es[j]? = some e) : ∃ p, m[j]? = some p ∧ e.key = enc p.1 ∧ e.val = p.2 := by
  have h1 : (es.map (fun e => (e.key, e.val)))[j]? = some (e.key, e.val) := by rw [List.getElem?_map, hj]; rfl
  rw [he, List.getElem?_map] at h1
  obtain ⟨p, hp, h2⟩ := Option.map_eq_some_iff.1 h1
  have h3 := Prod.mk.inj h2
  exact ⟨p, hp, h3.1.symm, h3.2.symm⟩
theorem ent_of {es : List MapEntry} (he : es.map (fun e => (e.key, e.val)) = m.map (fun p => (enc p.1, p.2))) {p : α × Value} (hp : p ∈ m) : ∃ e ∈ es, e.key = enc p.1 ∧ e.val = p.2 := by
  have h1 : (enc p.1, p.2) ∈ es.map (fun e => (e.key, e.val)) := by rw [he]; exact List.mem_map.2 ⟨p, hp, rfl⟩
  obtain ⟨e, h2, h3⟩ := List.mem_map.1 h1
  have h4 := Prod.mk.inj h3
  exact ⟨e, h2, h4.1, h4.2⟩
end
end Go.Proofs.Ythkdcbmcknndnaa

/- Memory of the call's own: what a step may change, rows that are owned and how an append leaves them. No program in sight. Maps of the call's own: what they hold as a list of pairs, in the order in which they were laid. No program in sight. The operations on a map of the call's own, for the walk. No program in sight. 'for k, v := range m' over a map of the call's own that the loop leaves alone. No program in sight. Cells of one block written one behind the other; the builtin copy at the operation. No program in sight. Slices that came in, opened: a list of elements, each a row of cells. No program in sight. Slices of texts that came in. No walk here. Rows of texts of the call's own, and texts that are appended to them. No program in sight. Rows of one-cell elements of the call's own, and elements that came in, appended to them; a part of a slice that came in. No program in sight. Rows of elements of several cells, of the call's own: read, and appended to. No program in sight. A part of a slice, 's[k:]' and 's[:k]', whatever slice it is. No program in sight. An element put into a row: 'append(append(append([]T{}, l[:k]...), x), l[k:]...)'. No program in sight. Texts, rising. No program in sight. A text put into rising texts: plain laws. No program in sight. Things of the call's own beside one another: one word for all that is there. No program in sight. What all chapters' memory shares: maps with texts for keys, rows of texts, small facts. Rows that a call is making, of elements of whatever kind. No program in sight. Blocks of two cells of the call's own, and what a call leaves of them. -/
import Derived.WalkKit
import Derived.Lib.Hide
import Derived.WalkSmall
import Derived.Maps.Keyed
import Derived.Maps.Own
import Derived.Maps.OwnOps
import Derived.Maps.OwnSet
import Derived.Maps.RangeRun
import Derived.Maps.RangeWalk
import Derived.Laws.IdiomCopy
import Derived.Deep.RegionLaw
import Derived.ProofKit
import Derived.OpenShut
import Derived.Deep.Slices
import Derived.Lib.SmallJoins
import Derived.Sort.OwnSorted
import Derived.Sort.Walk0
import Derived.Laws.Strings
import Derived.Test.YtbhghelegonbbaaDoorProg
import Derived.KernelRfl
import Derived.IntWalk
import Derived.LoopTactic
import Derived.Deep.LoopGhost
import Derived.Deep.QuietTactic
import Derived.BigQuiet
import Derived.StillTailTactics
import Derived.Deep.RegionHeld3
import Derived.Deep.RegionWith
import Derived.Outline
import Derived.WalkLawsBesides
import Derived.WalkSpells
namespace Go.Proofs.YtbhghelegonbbaaDoor
open Go.RowKit

/-- blocks of w outside S are as they were, and nothing has gone -/
structure Fr (S : Nat → Prop) (w w' : World) : Prop where
  os : w'.os = w.os
  tape : w'.tape = w.tape
  output : w'.output = w.output
  size : w.heap.size ≤ w'.heap.size
  block : ∀ k, k < w.heap.size → ¬ S k → w'.heap[k]? = w.heap[k]?
def none' : Nat → Prop := fun _ => False
theorem Fr.refl (S : Nat → Prop) (w : World) : Fr S w w := ⟨rfl, rfl, rfl, Nat.le_refl _, fun _ _ _ => rfl⟩
theorem Fr.trans {S T : Nat → Prop} {a b c : World} (h : Fr S a b) (k : Fr T b c) (hT : ∀ i, i < a.heap.size → T i → S i) : Fr S a c :=
  ⟨k.os.trans h.os, k.tape.trans h.tape, k.output.trans h.output, Nat.le_trans h.size k.size, fun i hi hs => (k.block i (Nat.lt_of_lt_of_le hi h.size) (fun ht => hs (hT i hi ht))).trans (h.block i hi hs)⟩
theorem Fr.mono {S T : Nat → Prop} {a b : World} (h : Fr S a b) (hT : ∀ i, i < a.heap.size → S i → T i) : Fr T a b :=
  ⟨h.os, h.tape, h.output, h.size, fun i hi hs => h.block i hi (fun k => hs (hT i hi k))⟩
theorem Fr.drew {S : Nat → Prop} {a w : World} (h : Fr S a w) : Fr S a w.drew := ⟨h.os, h.tape, h.output, h.size, h.block⟩
theorem Fr.drewN {S : Nat → Prop} {a w : World} (h : Fr S a w) (n : Nat) : Fr S a (w.drewN n) := ⟨h.os, h.tape, h.output, h.size, h.block⟩
theorem Fr.alloc {S : Nat → Prop} {a w : World} (h : Fr S a w) (o : Obj) : Fr S a (w.alloc o) :=
  h.trans (T := none') ⟨rfl, rfl, rfl, by simp, fun k hk _ => Below.heap_alloc _ _ _ hk⟩ (fun _ _ h => h.elim)
theorem Fr.setCell {S : Nat → Prop} {a w : World} (h : Fr S a w) (g i : Nat) (u : Value) (hg : a.heap.size ≤ g ∨ S g) : Fr S a (w.setCell ⟨g, i, none⟩ u) :=
  h.trans (T := fun b => b = g) ⟨rfl, rfl, rfl, by simp [World.setCell], fun k _ hs => Below.heap_setCell _ _ _ _ hs⟩ (fun i hi e => by subst e; rcases hg with h | h; omega; exact h)
theorem Fr.bel {S : Nat → Prop} {a w w' : World} (h : Fr S a w) (hb : Below w.heap.size w w') : Fr S a w' :=
  h.trans (T := none') ⟨hb.os, hb.tape, hb.output, hb.size, fun k hk _ => hb.block k hk⟩ (fun _ _ h => h.elim)
theorem Fr.of_bel {S : Nat → Prop} {w w' : World} (hb : Below w.heap.size w w') : Fr S w w' := (Fr.refl S w).bel hb
theorem Fr.of_grown {w w' : World} {r : Option Nat} (h : w.grownBy w' r) : Fr (fun b => r = some b) w w' :=
  ⟨h.os, h.tape, h.output, h.size, fun k hk hs => h.block k hk (fun e => hs e.symm)⟩
theorem Fr.below {S : Nat → Prop} {w w' : World} {B : Nat} (h : Fr S w w') (hB : B ≤ w.heap.size) (hS : ∀ b, S b → B ≤ b) : Below B w w' :=
  ⟨h.os, h.tape, h.output, h.size, fun k hk => h.block k (by omega) (fun s => by have := hS k s; omega)⟩
theorem Fr.at {S : Nat → Prop} {w w' : World} {g : Nat} {o : Obj} (h : Fr S w w') (ha : w.heap[g]? = some o) (hs : ¬ S g) : w'.heap[g]? = some o := by
  rw [h.block g (Array.getElem?_eq_some_iff.1 ha).1 hs]; exact ha
theorem Fr.row {S : Nat → Prop} {w w' : World} {e : TypeId} {sz : Nat} {v : Value} {n : Nat} {xs : List Value} (h : Fr S w w') (hr : w.ownsRow 0 e sz v n xs) (hs : ∀ b, v.ownBlock = some b → ¬ S b) : w'.ownsRow 0 e sz v n xs := by
  refine ⟨hr.1, ?_⟩
  rcases hr.2 with hn | ⟨g, cap, cur, rfl, hb, hg, r⟩
  · exact .inl hn
  · exact .inr ⟨g, cap, cur, rfl, hb, h.at hg (hs g rfl), r⟩
theorem lt_of_at {w : World} {g : Nat} {o : Obj} (h : w.heap[g]? = some o) : g < w.heap.size := (Array.getElem?_eq_some_iff.1 h).1

/-- a block of cells that nobody may not write -/
def Bk (w : World) (g : Nat) (cs : List Value) (t : TypeId) : Prop := w.heap[g]? = some (.cells cs.toArray t (0, 0))
theorem Bk.lt {w : World} {g : Nat} {cs : List Value} {t : TypeId} (h : Bk w g cs t) : g < w.heap.size := lt_of_at h
theorem Bk.cell {w : World} {g : Nat} {cs : List Value} {t : TypeId} (h : Bk w g cs t) (i : Nat) : w.cell? ⟨g, i, none⟩ = cs[i]? := by
  rw [cell_of_row _ _ _ _ _ _ h]; simp
theorem Bk.free {w : World} {g : Nat} {cs : List Value} {t : TypeId} (h : Bk w g cs t) (i : Nat) : w.frozen? ⟨g, i, none⟩ = false := frozen_of_row _ _ _ _ _ h
theorem Bk.fr {S : Nat → Prop} {w w' : World} {g : Nat} {cs : List Value} {t : TypeId} (h : Bk w g cs t) (hf : Fr S w w') (hs : ¬ S g) : Bk w' g cs t := hf.at h hs
theorem Bk.bel {w w' : World} {g : Nat} {cs : List Value} {t : TypeId} (h : Bk w g cs t) (hb : Below w.heap.size w w') : Bk w' g cs t := (hb.block g h.lt).trans h
theorem Bk.old {w : World} {g : Nat} {cs : List Value} {t : TypeId} (h : Bk w g cs t) (o : Obj) : Bk (w.alloc o) g cs t := (Below.heap_alloc w o g h.lt).trans h
theorem Bk.new (w : World) (cs : List Value) (t : TypeId) : Bk (w.alloc (.cells cs.toArray t)) w.heap.size cs t := heap_alloc_new w _
theorem Bk.set {w : World} {g : Nat} {cs : List Value} {t : TypeId} (h : Bk w g cs t) (i : Nat) (u : Value) : Bk (w.setCell ⟨g, i, none⟩ u) g (cs.set i u) t := by
  have h1 := heap_setCell_same w g i _ t u h
  unfold Bk
  rw [h1]
  simp
theorem Bk.other {w : World} {g : Nat} {cs : List Value} {t : TypeId} (h : Bk w g cs t) (k i : Nat) (u : Value) (hk : g ≠ k) : Bk (w.setCell ⟨k, i, none⟩ u) g cs t := by
  unfold Bk; rw [heap_setCell_other _ _ _ _ hk]; exact h

/-- where a row lies behind an append: where it lay, or in a new block -/
def Hence (v v' : Value) (w : World) : Prop := v'.ownBlock = v.ownBlock ∨ v'.ownBlock = some w.heap.size

section
variable {P : Program}
theorem run_append_row (w : World) (t ty e : TypeId) (i : TypeInfo) (z : Value) (size bytes : Nat) (ht : P.underlying t = some (.slice e)) (hi : P.info? e = some i) (hz : i.zero = some z)
    (hsize : i.size = size) (hby : i.bytes = bytes) (hzs : z.cells.size = size) (hsz : 0 < size)
    (v : Value) (n : Nat) (xs : List Value) (hown : w.ownsRow 0 e size v n xs)
    (a : Addr) (m c : Nat) (news : List Value) (hl : news.length = m * size) (hnews : ∀ j u, news[j]? = some u → w.cell? (a.add j) = some u) (h1 : ∀ u ∈ news, u.oneCell' = true)
    (h63 : n + m ≤ maxLen) (hbytes : (n + m) * bytes ≤ 140737488355328) :
    ∃ v' w', (Builtin.append_ #[t, t] ty #[v, .slice (some a) m c]).run P w = .ok v' w' ∧ w'.ownsRow 0 e size v' (n + m) (xs ++ news) ∧ Fr (fun b => v.ownBlock = some b) w w' ∧ Hence v v' w := by
  obtain ⟨v', w', hr, h2, h3, h4⟩ := run_append_own (P := P) w 0 t ty e i z size bytes ht hi hz hsize hby hzs hsz v n xs hown a m c news hl hnews h1 h63 hbytes (Nat.zero_le _)
  refine ⟨v', w', hr, h2, Fr.of_grown h3, ?_⟩
  subst hsize
  subst hby
  rcases hown.2 with ⟨rfl, rfl⟩ | ⟨g, cap, cur, rfl, hbg, hg, hnc, hcm, hcs, htake⟩
  · by_cases hm : m = 0
    · have := h4.2 ⟨rfl, hm⟩
      rw [this]; exact .inl rfl
    · have hr2 := run_append_nil (P := P) w t ty e i z ht hi hz a m c news hl hnews (by omega) (by unfold maxLen at h63; omega) (by have hb := hbytes; simp only [Nat.zero_add] at hb; omega)
      rw [hr2] at hr
      cases hr
      exact .inr rfl
  · by_cases hroom : n + m ≤ cap
    · have hfit : n * i.size + news.length ≤ cur.size := by rw [hl, hcs, ← Nat.add_mul]; exact Nat.mul_le_mul_right _ hroom
      have hr2 := run_append_room (P := P) w t ty e i ht hi g n cap cur hg a m c news hl hnews h1 hroom hfit
      rw [hr2] at hr
      cases hr
      exact .inl rfl
    · have holds : ∀ j u, xs[j]? = some u → w.cell? ((⟨g, 0, none⟩ : Addr).add j) = some u := hown.cells (g := g) rfl
      have hr2 := run_append_grow (P := P) w t ty e i z ht hi hz ⟨g, 0, none⟩ n cap xs hown.1 holds a m c news hl hnews (by omega) (by unfold maxLen at h63; omega) (growslice_fits (by omega) hbytes)
      rw [hr2] at hr
      cases hr
      exact .inr rfl
/-- an append at the operation, for the walk -/
theorem wpList_append_row (w : World) {ops : Array Oper} {rest : List Oper} {o : Oper} {a : Act} {Q : Exit → Act → World → Prop} (hgd : o.guard = none) (s x : Operand) (t : TypeId)
    (ho : o.op = .call { callee := .builtin .append, args := #[s, x], argTypes := #[t, t] })
    (e : TypeId) (i : TypeInfo) (z : Value) (size bytes : Nat) (ht : P.underlying t = some (.slice e)) (hi : P.info? e = some i) (hz : i.zero = some z)
    (hsize : i.size = size) (hby : i.bytes = bytes) (hzs : z.cells.size = size) (hsz : 0 < size)
    (v : Value) (n : Nat) (xs : List Value) (hs : a.eval s = v) (hown : w.ownsRow 0 e size v n xs)
    (ad : Addr) (m c : Nat) (news : List Value) (hx : a.eval x = .slice (some ad) m c) (hl : news.length = m * size) (hnews : ∀ j u, news[j]? = some u → w.cell? (ad.add j) = some u) (h1 : ∀ u ∈ news, u.oneCell' = true)
    (h63 : n + m ≤ maxLen) (hbytes : (n + m) * bytes ≤ 140737488355328)
    (h : ∀ v' w', w'.ownsRow 0 e size v' (n + m) (xs ++ news) → Fr (fun b => v.ownBlock = some b) w w' → Hence v v' w → wpList P ops Q rest (a.put o.dst v') w') : wpList P ops Q (o :: rest) a w := by
  refine wpList_plain hgd fun _ hK => ?_
  obtain ⟨v', w', hr, h2, h3, h4⟩ := run_append_row (P := P) w t o.type e i z size bytes ht hi hz hsize hby hzs hsz v n xs hown ad m c news hl hnews h1 h63 hbytes
  unfold Oper.wp execOp
  simp only [ho, resolve, invoke, builtin, Sem.run_bind, Sem.run_pure, Result.andThen_ok, List.map_toArray, List.map_cons, List.map_nil, hs, hx, hr]
  exact hK _ _ (h v' w' h2 h3 h4)
end
end Go.Proofs.YtbhghelegonbbaaDoor
namespace Go.Proofs.YtbhghelegonbbaaDoor
open Go.RowKit Go.MapKept Go.Maps
open Go.ChangeMaps (setBlock)
set_option linter.unusedVariables false
section
variable {α β : Type} [DecidableEq α]
def mget : List (α × β) → α → Option β
  | [], _ => none
  | p :: m, a => if p.1 = a then some p.2 else mget m a
def mput : List (α × β) → α → β → List (α × β)
  | [], a, v => [(a, v)]
  | p :: m, a, v => if p.1 = a then (a, v) :: m else p :: mput m a v
def mdel : List (α × β) → α → List (α × β)
  | [], _ => []
  | p :: m, a => if p.1 = a then m else p :: mdel m a
def mkeys (m : List (α × β)) : List α := m.map Prod.fst
theorem mget_none {m : List (α × β)} {a : α} (h : ∀ p ∈ m, p.1 ≠ a) : mget m a = none := by
  induction m with
  | nil => rfl
  | cons p m ih => rw [mget, if_neg (h p (by simp)), ih (fun q hq => h q (by simp [hq]))]
theorem mget_at : ∀ {m : List (α × β)} {a : α} {v : β} {j : Nat}, (mkeys m).Nodup → m[j]? = some (a, v) → mget m a = some v
  | [], _, _, _, _, h => by simp at h
  | p :: m, a, v, 0, _, h => by simp at h; subst h; simp [mget]
  | p :: m, a, v, j + 1, hn, h => by
    simp at h
    have hn' := List.nodup_cons.1 hn
    have hne : p.1 ≠ a := fun e => hn'.1 (e ▸ List.mem_map.2 ⟨(a, v), List.mem_of_getElem? h, rfl⟩)
    rw [mget, if_neg hne]
    exact mget_at hn'.2 h
theorem mput_none {m : List (α × β)} {a : α} {v : β} (h : ∀ p ∈ m, p.1 ≠ a) : mput m a v = m ++ [(a, v)] := by
  induction m with
  | nil => rfl
  | cons p m ih => rw [mput, if_neg (h p (by simp)), ih (fun q hq => h q (by simp [hq]))]; rfl
theorem mput_at : ∀ {m : List (α × β)} {a : α} {v u : β} {j : Nat}, (mkeys m).Nodup → m[j]? = some (a, u) → mput m a v = m.set j (a, v)
  | [], _, _, _, _, _, h => by simp at h
  | p :: m, a, v, u, 0, _, h => by simp at h; subst h; simp [mput]
  | p :: m, a, v, u, j + 1, hn, h => by
    simp at h
    have hn' := List.nodup_cons.1 hn
    have hne : p.1 ≠ a := fun e => hn'.1 (e ▸ List.mem_map.2 ⟨(a, u), List.mem_of_getElem? h, rfl⟩)
    rw [mput, if_neg hne, mput_at hn'.2 h]
    rfl
theorem mdel_none {m : List (α × β)} {a : α} (h : ∀ p ∈ m, p.1 ≠ a) : mdel m a = m := by
  induction m with
  | nil => rfl
  | cons p m ih => rw [mdel, if_neg (h p (by simp)), ih (fun q hq => h q (by simp [hq]))]
theorem mdel_at : ∀ {m : List (α × β)} {a : α} {u : β} {j : Nat}, (mkeys m).Nodup → m[j]? = some (a, u) → mdel m a = m.eraseIdx j
  | [], _, _, _, _, h => by simp at h
  | p :: m, a, u, 0, _, h => by simp at h; subst h; simp [mdel]
  | p :: m, a, u, j + 1, hn, h => by
    simp at h
    have hn' := List.nodup_cons.1 hn
    have hne : p.1 ≠ a := fun e => hn'.1 (e ▸ List.mem_map.2 ⟨(a, u), List.mem_of_getElem? h, rfl⟩)
    rw [mdel, if_neg hne, mdel_at hn'.2 h]
    rfl
theorem mkeys_put (m : List (α × β)) (a : α) (v : β) : mkeys (mput m a v) = if a ∈ mkeys m then mkeys m else mkeys m ++ [a] := by
  induction m with
  | nil => simp [mput, mkeys]
  | cons p m ih =>
    rw [mput]
    by_cases h : p.1 = a
    · simp [h, mkeys]
    · rw [if_neg h]
      have h' : ¬ a = p.1 := fun e => h e.symm
      simp only [mkeys, List.map_cons, List.mem_cons, h', false_or] at ih ⊢
      rw [ih]
      by_cases hm : a ∈ List.map Prod.fst m <;> simp [hm]
theorem nodup_put {m : List (α × β)} (h : (mkeys m).Nodup) (a : α) (v : β) : (mkeys (mput m a v)).Nodup := by
  rw [mkeys_put]
  split
  · exact h
  · rename_i hn
    rw [List.nodup_append]
    exact ⟨h, by simp, fun x hx y hy => by simp at hy; subst hy; exact fun e => hn (e ▸ hx)⟩
theorem mem_put {m : List (α × β)} {a : α} {v : β} {p : α × β} (h : p ∈ mput m a v) : p = (a, v) ∨ p ∈ m := by
  induction m with
  | nil => simp [mput] at h; exact .inl h
  | cons q m ih =>
    rw [mput] at h
    split at h
    · rcases List.mem_cons.1 h with h | h
      · exact .inl h
      · exact .inr (by simp [h])
    · rcases List.mem_cons.1 h with h | h
      · exact .inr (by simp [h])
      · exact (ih h).imp id (fun h => by simp [h])
theorem del_sub (m : List (α × β)) (a : α) : (mdel m a).Sublist m := by
  induction m with
  | nil => exact List.Sublist.refl _
  | cons q m ih =>
    rw [mdel]
    split
    · exact List.sublist_cons_self _ _
    · exact ih.cons_cons _
theorem nodup_del {m : List (α × β)} (h : (mkeys m).Nodup) (a : α) : (mkeys (mdel m a)).Nodup := List.Nodup.sublist ((del_sub m a).map _) h
theorem get_put (m : List (α × β)) (a b : α) (v : β) : mget (mput m a v) b = if a = b then some v else mget m b := by
  induction m with
  | nil => simp [mput, mget]
  | cons p m ih =>
    rw [mput]
    by_cases h : p.1 = a
    · rw [if_pos h]; subst h
      simp only [mget]
      split <;> rfl
    · rw [if_neg h]
      simp only [mget, ih]
      by_cases h2 : p.1 = b
      · subst h2
        rw [if_pos rfl, if_neg (fun e => h e.symm), if_pos rfl]
      · rw [if_neg h2, if_neg h2]
theorem get_del {m : List (α × β)} (hn : (mkeys m).Nodup) (a b : α) : mget (mdel m a) b = if a = b then none else mget m b := by
  induction m with
  | nil => simp [mdel, mget]
  | cons p m ih =>
    have hn' := List.nodup_cons.1 hn
    rw [mdel]
    by_cases h : p.1 = a
    · rw [if_pos h]; subst h
      by_cases h2 : p.1 = b
      · rw [if_pos h2, ← h2]
        exact mget_none (fun q hq e => hn'.1 (e ▸ List.mem_map.2 ⟨q, hq, rfl⟩))
      · rw [if_neg h2, mget, if_neg h2]
    · rw [if_neg h]
      simp only [mget, ih hn'.2]
      by_cases h2 : p.1 = b
      · subst h2
        rw [if_pos rfl, if_neg (fun e => h e.symm), if_pos rfl]
      · rw [if_neg h2, if_neg h2]
theorem mem_of_get {m : List (α × β)} {a : α} {v : β} (h : mget m a = some v) : (a, v) ∈ m := by
  induction m with
  | nil => cases h
  | cons p m ih =>
    rw [mget] at h
    split at h
    · rename_i e; cases h; subst e; simp
    · simp [ih h]
theorem get_of_mem {m : List (α × β)} (hn : (mkeys m).Nodup) {a : α} {v : β} (h : (a, v) ∈ m) : mget m a = some v := by
  obtain ⟨j, hj, e⟩ := List.mem_iff_getElem.1 h
  exact mget_at hn (j := j) (by rw [List.getElem?_eq_getElem hj, e])
end

/-- how keys are written, and which may be -/
structure KeyEnc (P : Program) (k : TypeId) {α : Type} (enc : α → Value) (Ok : α → Prop) : Prop where
  law : Keyed P k
  key : ∀ {a}, Ok a → ∃ l, keyOf P k (enc a) = some l
  inj : ∀ {a b}, enc a = enc b → a = b

/-- block r of w is a map that holds m -/
structure Mp {α : Type} (enc : α → Value) (Ok : α → Prop) (w : World) (r : Nat) (m : List (α × Value)) : Prop where
  ok : ∀ p ∈ m, Ok p.1
  nd : (mkeys m).Nodup
  ex : ∃ es clock, w.heap[r]? = some (.map es clock) ∧ Stamped es clock ∧ es.toList.map (fun e => (e.key, e.val)) = m.map (fun p => (enc p.1, p.2))
section
variable {P : Program} {k : TypeId} {α : Type} {enc : α → Value} {Ok : α → Prop} {w : World} {r : Nat} {m : List (α × Value)}
theorem Mp.lt (h : Mp enc Ok w r m) : r < w.heap.size := by
  obtain ⟨es, clock, h1, _⟩ := h.ex
  exact lt_of_at h1
theorem Mp.fr {S : Nat → Prop} {w' : World} (h : Mp enc Ok w r m) (hf : Fr S w w') (hs : ¬ S r) : Mp enc Ok w' r m := by
  obtain ⟨es, clock, h1, h2, h3⟩ := h.ex
  exact ⟨h.ok, h.nd, es, clock, hf.at h1 hs, h2, h3⟩
theorem Mp.bel {w' : World} (h : Mp enc Ok w r m) (hb : Below w.heap.size w w') : Mp enc Ok w' r m := h.fr (Fr.of_bel (S := none') hb) id
theorem Mp.made (w : World) : Mp enc Ok (w.alloc (.map #[] 0)) w.heap.size [] :=
  ⟨(fun p h => by cases h), List.nodup_nil, #[], 0, (heap_alloc w _).1, stamped_empty 0, rfl⟩
/-- the map's block is written -/
theorem fr_setBlock (w : World) (r : Nat) (o : Obj) : Fr (fun b => b = r) w (setBlock w r o) := by
  refine ⟨rfl, rfl, rfl, by simp [setBlock], fun i hi hS => ?_⟩
  simp only [setBlock]
  rw [Array.getElem?_setIfInBounds_ne (fun e => hS e.symm)]
theorem at_setBlock {w : World} {r : Nat} (h : r < w.heap.size) (o : Obj) : (setBlock w r o).heap[r]? = some o := by
  simp [setBlock, h]
theorem ent_at {es : List MapEntry} (he : es.map (fun e => (e.key, e.val)) = m.map (fun p => (enc p.1, p.2))) {j : Nat} {e : MapEntry} (hj : es[j]? = some e) : ∃ p, m[j]? = some p ∧ e.key = enc p.1 ∧ e.val = p.2 := by
  have h1 : (es.map (fun e => (e.key, e.val)))[j]? = some (e.key, e.val) := by rw [List.getElem?_map, hj]; rfl
  rw [he, List.getElem?_map] at h1
  obtain ⟨p, hp, h2⟩ := Option.map_eq_some_iff.1 h1
  have h3 := Prod.mk.inj h2
  exact ⟨p, hp, h3.1.symm, h3.2.symm⟩
theorem ent_of {es : List MapEntry} (he : es.map (fun e => (e.key, e.val)) = m.map (fun p => (enc p.1, p.2))) {p : α × Value} (hp : p ∈ m) : ∃ e ∈ es, e.key = enc p.1 ∧ e.val = p.2 := by
  have h1 : (enc p.1, p.2) ∈ es.map (fun e => (e.key, e.val)) := by rw [he]; exact List.mem_map.2 ⟨p, hp, rfl⟩
  obtain ⟨e, h2, h3⟩ := List.mem_map.1 h1
  have h4 := Prod.mk.inj h3
  exact ⟨e, h2, h4.1, h4.2⟩
end
end Go.Proofs.YtbhghelegonbbaaDoor
namespace Go.Proofs.YtbhghelegonbbaaDoor
open Go.RowKit Go.MapKept Go.Maps
open Go.ChangeMaps (setBlock)
set_option linter.unusedVariables false
set_option linter.unusedSectionVars false
section
variable {P : Program} {k t e : TypeId} {α : Type} [DecidableEq α] {enc : α → Value} {Ok : α → Prop} {w : World} {r : Nat} {m : List (α × Value)}
theorem Mp.find (h : Mp enc Ok w r m) (K : KeyEnc P k enc Ok) {a : α} (ha : Ok a) {es : Array MapEntry} (he : es.toList.map (fun e => (e.key, e.val)) = m.map (fun p => (enc p.1, p.2))) (w' : World) :
    ((Instr.findKey k (enc a) es.toList).run P w' = .ok none w' ∧ (∀ x ∈ es.toList, x.key ≠ enc a) ∧ ∀ p ∈ m, p.1 ≠ a) ∨
    ∃ j e0 v, (Instr.findKey k (enc a) es.toList).run P w' = .ok (some (j, v)) w' ∧ es.toList[j]? = some e0 ∧ e0.key = enc a ∧ m[j]? = some (a, v) := by
  obtain ⟨l, hl⟩ := K.key ha
  rcases K.law.find w' hl es.toList (fun x hx => by
    obtain ⟨j, hj, ej⟩ := List.mem_iff_getElem.1 hx
    obtain ⟨p, hp, h1, h2⟩ := ent_at he (j := j) (e := x) (by rw [List.getElem?_eq_getElem hj, ej])
    rw [h1]
    exact K.key (h.ok p (List.mem_of_getElem? hp))) with ⟨h1, h2⟩ | ⟨j, e0, h1, h2, h3⟩
  · refine .inl ⟨h1, h2, fun p hp ea => ?_⟩
    obtain ⟨x, hx, hk, _⟩ := ent_of he hp
    exact h2 x hx (by rw [hk, ea])
  · obtain ⟨p, hp, h4, h5⟩ := ent_at he h2
    have : p.1 = a := K.inj (h4.symm.trans h3)
    exact .inr ⟨j, e0, p.2, by rw [h1, h5], h2, h3, by rw [hp, ← this]⟩
/-- 'm[a]', 'v, ok := m[a]' -/
theorem Mp.look (h : Mp enc Ok w r m) (K : KeyEnc P k enc Ok) (ht : P.underlying t = some (.map k e)) {z : Value} (hz : (zeroValue e).run P w = .ok z w) {a : α} (ha : Ok a) (c : Bool) :
    (Instr.lookup t (.map (some r)) (enc a) c).run P w = .ok (if c then .tuple #[(mget m a).getD z, .bool (mget m a).isSome] else (mget m a).getD z) w := by
  obtain ⟨es, clock, hb, hs, he⟩ := h.ex
  obtain ⟨l, hl⟩ := K.key ha
  rcases h.find K ha he w with ⟨h1, h2, h3⟩ | ⟨j, e0, v, h1, h2, h3, h4⟩
  · rw [mget_none h3]
    simp [Instr.lookup, run_underlying ht, Go.MapKept.run_getObj_map hb, K.law.check w _ hl, h1, hz, Result.andThen]
  · rw [mget_at h.nd h4]
    simp [Instr.lookup, run_underlying ht, Go.MapKept.run_getObj_map hb, K.law.check w _ hl, h1, Result.andThen]
/-- 'm[a] = v' -/
theorem Mp.store (h : Mp enc Ok w r m) (K : KeyEnc P k enc Ok) (ht : P.underlying t = some (.map k e)) {a : α} (ha : Ok a) (v : Value) :
    ∃ w', (Instr.mapUpdate t (.map (some r)) (enc a) v).run P w = .ok () w' ∧ Mp enc Ok w' r (mput m a v) ∧ Fr (fun b => b = r) w w' ∧ w'.heap.size = w.heap.size := by
  have hlt := h.lt
  have hok : ∀ p ∈ mput m a v, Ok p.1 := fun p hp => by
    rcases mem_put hp with rfl | hp
    · exact ha
    · exact h.ok p hp
  obtain ⟨es, clock, hb, hs, he⟩ := h.ex
  obtain ⟨l, hl⟩ := K.key ha
  rcases h.find K ha he w with ⟨h1, h2, h3⟩ | ⟨j, e0, u, h1, h2, h3, h4⟩
  · refine ⟨setBlock w r (.map (es.push ⟨enc a, v, clock⟩) (clock + 1)), ?_, ⟨hok, nodup_put h.nd a v, _, _, at_setBlock hlt _, stamped_push hs h2, ?_⟩, fr_setBlock _ _ _, by simp [setBlock]⟩
    · simp [Instr.mapUpdate, run_underlying ht, Go.MapKept.run_getObj_map hb, K.law.check w false hl, h1, Go.MapKept.run_setObj_map _ hb, Result.andThen, setBlock]
    · rw [mput_none h3, Array.toList_push, List.map_append, List.map_append, he]; rfl
  · have hj : es[j]? = some e0 := by simpa using h2
    have hkeyf : ∀ e', es[j]? = some e' → ({ e' with key := enc a, val := v } : MapEntry).key = e'.key := fun e' he' => by rw [hj] at he'; cases he'; exact h3.symm
    have hlist : (es.modify j (fun e' => { e' with key := enc a, val := v })).toList = es.toList.set j { e0 with key := enc a, val := v } := by rw [Array.toList_modify, Go.ChangeMaps.modify_eq_set _ _ _ _ h2]
    refine ⟨setBlock w r (.map (es.modify j (fun e' => { e' with key := enc a, val := v })) clock), ?_, ⟨hok, nodup_put h.nd a v, _, _, at_setBlock hlt _, stamped_modify hs _ _ (fun _ _ => rfl) (fun e' _ he' => hkeyf e' he'), ?_⟩, fr_setBlock _ _ _, by simp [setBlock]⟩
    · simp [Instr.mapUpdate, run_underlying ht, Go.MapKept.run_getObj_map hb, K.law.check w false hl, h1, hj, h3, K.law.stays w hl, Go.MapKept.run_setObj_map _ hb, Result.andThen, setBlock]
    · rw [hlist, mput_at h.nd h4, List.map_set, List.map_set, he]
/-- 'delete(m, a)' -/
theorem Mp.drop (h : Mp enc Ok w r m) (K : KeyEnc P k enc Ok) (ht : P.underlying t = some (.map k e)) {a : α} (ha : Ok a) (ty : TypeId) :
    ∃ w', (Builtin.delete_ #[t, k] ty #[.map (some r), enc a]).run P w = .ok (.tuple #[]) w' ∧ Mp enc Ok w' r (mdel m a) ∧ Fr (fun b => b = r) w w' ∧ w'.heap.size = w.heap.size := by
  have hlt := h.lt
  have hok : ∀ p ∈ mdel m a, Ok p.1 := fun p hp => h.ok p ((del_sub m a).subset hp)
  obtain ⟨es, clock, hb, hs, he⟩ := h.ex
  obtain ⟨l, hl⟩ := K.key ha
  rcases h.find K ha he w with ⟨h1, h2, h3⟩ | ⟨j, e0, u, h1, h2, h3, h4⟩
  · refine ⟨setBlock w r (.map es clock), ?_, ⟨hok, nodup_del h.nd a, es, clock, at_setBlock hlt _, hs, ?_⟩, fr_setBlock _ _ _, by simp [setBlock]⟩
    · simp [Builtin.delete_, run_underlying ht, Go.MapKept.run_getObj_map hb, K.law.check w _ hl, h1, Go.MapKept.run_setObj_map _ hb, Result.andThen, setBlock]
    · rw [mdel_none h3, he]
  · have hjl : j < es.toList.length := (List.getElem?_eq_some_iff.1 h2).1
    have hjs : j < es.size := by simpa using hjl
    have hsub : (es.eraseIdxIfInBounds j).toList = es.toList.eraseIdx j := by
      unfold Array.eraseIdxIfInBounds
      rw [dif_pos hjs]
      simp
    refine ⟨setBlock w r (.map (es.eraseIdxIfInBounds j) clock), ?_, ⟨hok, nodup_del h.nd a, _, clock, at_setBlock hlt _, stamped_erase hs j, ?_⟩, fr_setBlock _ _ _, by simp [setBlock]⟩
    · simp [Builtin.delete_, run_underlying ht, Go.MapKept.run_getObj_map hb, K.law.check w _ hl, h1, Go.MapKept.run_setObj_map _ hb, Result.andThen, setBlock]
    · rw [hsub, mdel_at h.nd h4, Go.ChangeMaps.map_eraseIdx, Go.ChangeMaps.map_eraseIdx, he]
variable {ops : Array Oper} {rest : List Oper} {o : Oper} {a : Act} {Q : Exit → Act → World → Prop}
theorem wpList_look (hg : o.guard = none) (om ox : Operand) (hop : o.op = Op.lookup t om ox false) (K : KeyEnc P k enc Ok) (ht : P.underlying t = some (.map k e)) {z : Value} (hz : (zeroValue e).run P w = .ok z w)
    (h : Mp enc Ok w r m) (hm : a.eval om = .map (some r)) (x : α) (hx : a.eval ox = enc x) (hk : Ok x)
    (v : Value) (hv : (mget m x).getD z = v) (hK : wpList P ops Q rest (a.put o.dst v) w) : wpList P ops Q (o :: rest) a w := by
  refine wpList_plain hg fun K' hK' => ?_
  have hr := h.look K ht hz hk false
  rw [hv] at hr
  unfold Oper.wp
  simp [execOp, hop, hm, hx, hr, Result.andThen]
  exact hK' _ _ hK
theorem wpList_look_ok (hg : o.guard = none) (om ox : Operand) (hop : o.op = Op.lookup t om ox true) (K : KeyEnc P k enc Ok) (ht : P.underlying t = some (.map k e)) {z : Value} (hz : (zeroValue e).run P w = .ok z w)
    (h : Mp enc Ok w r m) (hm : a.eval om = .map (some r)) (x : α) (hx : a.eval ox = enc x) (hk : Ok x)
    (v : Value) (hv : (mget m x).getD z = v) (b : Bool) (hb : (mget m x).isSome = b) (hK : wpList P ops Q rest (a.put o.dst (.tuple #[v, .bool b])) w) : wpList P ops Q (o :: rest) a w := by
  refine wpList_plain hg fun K' hK' => ?_
  have hr := h.look K ht hz hk true
  rw [hv, hb] at hr
  unfold Oper.wp
  simp [execOp, hop, hm, hx, hr, Result.andThen]
  exact hK' _ _ hK
theorem wpList_store (hg : o.guard = none) (om ox ov : Operand) (hop : o.op = Op.mapUpdate t om ox ov) (K : KeyEnc P k enc Ok) (ht : P.underlying t = some (.map k e))
    (h : Mp enc Ok w r m) (hm : a.eval om = .map (some r)) (x : α) (hx : a.eval ox = enc x) (hk : Ok x) (v : Value) (hv : a.eval ov = v)
    (hK : ∀ w', Mp enc Ok w' r (mput m x v) → Fr (fun b => b = r) w w' → w'.heap.size = w.heap.size → wpList P ops Q rest (a.put o.dst undef) w') : wpList P ops Q (o :: rest) a w := by
  refine wpList_plain hg fun K' hK' => ?_
  obtain ⟨w', hrun, r1, r2, r3⟩ := h.store K ht hk v
  unfold Oper.wp
  simp [execOp, hop, hm, hx, hv, hrun, Result.andThen]
  exact hK' _ _ (hK w' r1 r2 r3)
theorem wpList_drop (hg : o.guard = none) (om ox : Operand) (hop : o.op = Op.call { callee := Callee.builtin Builtin.delete, args := #[om, ox], argTypes := #[t, k] }) (K : KeyEnc P k enc Ok) (ht : P.underlying t = some (.map k e))
    (h : Mp enc Ok w r m) (hm : a.eval om = .map (some r)) (x : α) (hx : a.eval ox = enc x) (hk : Ok x)
    (hK : ∀ w', Mp enc Ok w' r (mdel m x) → Fr (fun b => b = r) w w' → w'.heap.size = w.heap.size → wpList P ops Q rest (a.put o.dst (.tuple #[])) w') : wpList P ops Q (o :: rest) a w := by
  refine wpList_plain hg fun K' hK' => ?_
  obtain ⟨w', hrun, r1, r2, r3⟩ := h.drop K ht hk o.type
  unfold Oper.wp
  simp [execOp, hop, resolve, invoke, builtin, hm, hx, hrun, Result.andThen]
  exact hK' _ _ (hK w' r1 r2 r3)
end
end Go.Proofs.YtbhghelegonbbaaDoor
namespace Go.Proofs.YtbhghelegonbbaaDoor
open Go.RowKit Go.MapKept Go.Maps
open Go.ChangeMaps (setBlock)
set_option linter.unusedVariables false
set_option linter.unusedSectionVars false
set_option linter.unnecessarySimpa false
/-- block it of w is an iterator over the map in block r, which holds m; left is still to come -/
structure Rg {α : Type} (enc : α → Value) (Ok : α → Prop) (w : World) (r it : Nat) (m left : List (α × Value)) : Prop where
  mp : Mp enc Ok w r m
  sub : ∀ p ∈ left, p ∈ m
  ex : ∃ es clock since seen c0, w.heap[r]? = some (.map es clock) ∧ w.heap[it]? = some (.mapIter (some r) since seen c0) ∧ (∀ x ∈ es.toList, x.born < since) ∧ since ≤ c0 ∧ since ≤ clock ∧ (es.toList.map (·.born)).Nodup ∧
    ((leftOf es seen).toList.map (fun e => (e.key, e.val))).Perm (left.map (fun p => (enc p.1, p.2)))
section
variable {P : Program} {k t e : TypeId} {α : Type} [DecidableEq α] {enc : α → Value} {Ok : α → Prop} {w : World} {r it : Nat} {m left : List (α × Value)}
theorem Rg.ne (h : Rg enc Ok w r it m left) : it ≠ r := by
  obtain ⟨es, clock, since, seen, c0, hb, hi, _⟩ := h.ex
  intro e
  rw [e, hb] at hi
  cases hi
theorem Rg.lt (h : Rg enc Ok w r it m left) : it < w.heap.size := by
  obtain ⟨es, clock, since, seen, c0, hb, hi, _⟩ := h.ex
  exact lt_of_at hi
theorem Rg.fr {S : Nat → Prop} {w' : World} (h : Rg enc Ok w r it m left) (hf : Fr S w w') (hs : ¬ S r) (hi : ¬ S it) : Rg enc Ok w' r it m left := by
  obtain ⟨es, clock, since, seen, c0, hb, h1, h2⟩ := h.ex
  exact ⟨h.mp.fr hf hs, h.sub, es, clock, since, seen, c0, hf.at hb hs, hf.at h1 hi, h2⟩
theorem Rg.bel {w' : World} (h : Rg enc Ok w r it m left) (hb : Below w.heap.size w w') : Rg enc Ok w' r it m left := h.fr (Fr.of_bel (S := none') hb) id id
theorem Rg.left_eq (h : Rg enc Ok w r it m left) : w.rangeLeft r it = left.length := by
  obtain ⟨es, clock, since, seen, c0, hb, hi, _, _, _, _, hp⟩ := h.ex
  simp only [World.rangeLeft, hb, hi]
  have := hp.length_eq
  simpa using this
theorem stamped_nodup {es : Array MapEntry} {clock : Nat} (h : Stamped es clock) : (es.toList.map (·.born)).Nodup := ((stamped_iff es clock).1 h).2.1
/-- 'range m' -/
theorem Mp.range (h : Mp enc Ok w r m) (ht : P.underlying t = some (.map k e)) :
    ∃ w', (Instr.range t (.map (some r))).run P w = .ok (.pointer (some ⟨w.heap.size, 0, none⟩)) w' ∧ Rg enc Ok w' r w.heap.size m m ∧ Below w.heap.size w w' ∧ w'.heap.size = w.heap.size + 1 := by
  have hlt := h.lt
  obtain ⟨es, clock, hb, hs, he⟩ := h.ex
  have hbel := (Below.refl w.heap.size w).alloc (Nat.le_refl _) (.mapIter (some r) clock #[] clock)
  refine ⟨_, run_range_map w t k e r es clock ht hb, ⟨h.bel hbel, fun _ h => h, es, clock, clock, #[], clock, ((MapKept.heap_alloc w _).2 r hlt).trans hb, (MapKept.heap_alloc w _).1, hs.1, Nat.le_refl _, Nat.le_refl _, stamped_nodup hs, ?_⟩, hbel, by simp⟩
  have : leftOf es #[] = es := by simp [leftOf]
  rw [this, he]
theorem leftOf_push {es : Array MapEntry} {seen : Array Nat} (hn : (es.toList.map (·.born)).Nodup) {e : MapEntry} (he : e ∈ (leftOf es seen).toList) :
    ∃ l1 l2, (leftOf es seen).toList = l1 ++ e :: l2 ∧ (leftOf es (seen.push e.born)).toList = l1 ++ l2 := by
  have hsub : ((leftOf es seen).toList.map (·.born)).Nodup := by
    unfold leftOf
    rw [Array.toList_filter]
    exact List.Nodup.sublist (List.Sublist.map _ List.filter_sublist) hn
  have h2 : (leftOf es (seen.push e.born)).toList = (leftOf es seen).toList.filter (fun x => !(x.born == e.born)) := by
    unfold leftOf
    rw [Array.toList_filter, Array.toList_filter, List.filter_filter]
    refine List.filter_congr fun x _ => ?_
    rw [Bool.eq_iff_iff]
    simp [and_comm]
  obtain ⟨l1, l2, hl⟩ := List.append_of_mem he
  refine ⟨l1, l2, hl, ?_⟩
  rw [h2, hl]
  rw [hl, List.map_append, List.map_cons, List.nodup_append] at hsub
  obtain ⟨n1, n2, n3⟩ := hsub
  have n2' := List.nodup_cons.1 n2
  have f1 : l1.filter (fun x => !(x.born == e.born)) = l1 := List.filter_eq_self.2 fun x hx => by
    have := n3 x.born (List.mem_map.2 ⟨x, hx, rfl⟩) e.born (by simp)
    simpa using this
  have f2 : l2.filter (fun x => !(x.born == e.born)) = l2 := List.filter_eq_self.2 fun x hx => by
    have : x.born ≠ e.born := fun h => n2'.1 (h ▸ List.mem_map.2 ⟨x, hx, rfl⟩)
    simpa using this
  rw [List.filter_append, List.filter_cons, f1, f2]
  simp
/-- the step -/
theorem Rg.next (h : Rg enc Ok w r it m left) (ty : TypeId) :
    (left = [] ∧ (Instr.next (.pointer (some ⟨it, 0, none⟩)) false ty).run P w = .ok (.tuple #[.bool false]) w) ∨
    ∃ a v rest w', left.Perm ((a, v) :: rest) ∧ Ok a ∧ (a, v) ∈ m ∧ (Instr.next (.pointer (some ⟨it, 0, none⟩)) false ty).run P w = .ok (.tuple #[.bool true, enc a, v]) w' ∧
      Rg enc Ok w' r it m rest ∧ Fr (fun b => b = it) w w' ∧ w'.heap.size = w.heap.size ∧ (Instr.entry (.pointer (some ⟨it, 0, none⟩))).run P w' = .ok (.tuple #[enc a, v]) w' := by
  have hne := h.ne
  have hlt := h.lt
  obtain ⟨es, clock, since, seen, c0, hb, hi, hold, hsc, hsk, hnd, hp⟩ := h.ex
  rcases run_next_at (P := P) w ty it r since c0 seen es clock hi hb hold hsc with ⟨h0, hrun⟩ | ⟨x, hx, w1, hal, hrun⟩
  · refine .inl ⟨?_, hrun⟩
    have := hp.length_eq
    simp [h0] at this
    exact List.eq_nil_of_length_eq_zero this.symm
  · obtain ⟨l1, l2, hl, hl'⟩ := leftOf_push hnd hx
    have hm : (x.key, x.val) ∈ left.map (fun p => (enc p.1, p.2)) := hp.mem_iff.1 (List.mem_map.2 ⟨x, hx, rfl⟩)
    obtain ⟨p, hpl, hpe⟩ := List.mem_map.1 hm
    obtain ⟨q1, q2, hq⟩ := List.append_of_mem hpl
    have e1 : enc p.1 = x.key := (Prod.mk.inj hpe).1
    have e2 : p.2 = x.val := (Prod.mk.inj hpe).2
    have f1 : Fr (fun b => b = it) w w1 := by
      rcases hal with rfl | rfl
      · exact Fr.refl _ _
      · exact (Fr.refl _ _).drew
    have hs1 : w1.heap.size = w.heap.size := by rcases hal with rfl | rfl <;> rfl
    have f2 := f1.trans (fr_setBlock w1 it (.mapIter (some r) since (seen.push x.born) clock)) (fun _ _ h => h)
    have hit : (setBlock w1 it (.mapIter (some r) since (seen.push x.born) clock)).heap[it]? = some (.mapIter (some r) since (seen.push x.born) clock) := at_setBlock (by omega) _
    have hmr : (setBlock w1 it (.mapIter (some r) since (seen.push x.born) clock)).heap[r]? = some (.map es clock) := f2.at hb (fun e => hne e.symm)
    have hxm : x ∈ es.toList := by
      unfold leftOf at hx
      rw [Array.toList_filter] at hx
      exact (List.mem_filter.1 hx).1
    refine .inr ⟨p.1, p.2, q1 ++ q2, _, ?_, h.mp.ok p (h.sub p hpl), h.sub p hpl, ?_, ⟨h.mp.fr f2 (fun e => hne e.symm), fun q hq' => h.sub q (by rw [hq]; rcases List.mem_append.1 hq' with h | h <;> simp [h]), es, clock, since, seen.push x.born, clock, hmr, hit, hold, hsk, hsk, hnd, ?_⟩, f2, by simp [setBlock, hs1], ?_⟩
    · rw [hq]; exact List.perm_middle
    · rw [e1, e2]; exact hrun
    · rw [hl']
      rw [hl, hq] at hp
      have h3 : ((x.key, x.val) :: (l1 ++ l2).map (fun e => (e.key, e.val))).Perm ((enc p.1, p.2) :: (q1 ++ q2).map (fun p => (enc p.1, p.2))) := by
        refine (List.Perm.trans ?_ hp).trans ?_
        · simpa using (List.perm_middle (a := (x.key, x.val)) (l₁ := l1.map (fun e => (e.key, e.val))) (l₂ := l2.map (fun e => (e.key, e.val)))).symm
        · simpa using (List.perm_middle (a := (enc p.1, p.2)) (l₁ := q1.map (fun p => (enc p.1, p.2))) (l₂ := q2.map (fun p => (enc p.1, p.2))))
      rw [e1, e2] at h3
      exact h3.cons_inv
    · rw [e1, e2]; exact run_entry_at _ it r since seen es clock x hit hmr hxm hnd
variable {ops : Array Oper} {rest : List Oper} {o : Oper} {a : Act} {Q : Exit → Act → World → Prop}
theorem wpList_range (hg : o.guard = none) (om : Operand) (hop : o.op = Op.range t om) (ht : P.underlying t = some (.map k e)) (h : Mp enc Ok w r m) (hm : a.eval om = .map (some r))
    (hK : ∀ w', Rg enc Ok w' r w.heap.size m m → Below w.heap.size w w' → w'.heap.size = w.heap.size + 1 → wpList P ops Q rest (a.put o.dst (.pointer (some ⟨w.heap.size, 0, none⟩))) w') : wpList P ops Q (o :: rest) a w := by
  refine wpList_plain hg fun K' hK' => ?_
  obtain ⟨w', hrun, r1, r2, r3⟩ := h.range (P := P) ht
  unfold Oper.wp
  simp [execOp, hop, hm, hrun, Result.andThen]
  exact hK' _ _ (hK w' r1 r2 r3)
theorem wpList_next (hg : o.guard = none) (oi : Operand) (hop : o.op = Op.next oi false) (h : Rg enc Ok w r it m left) (hm : a.eval oi = .pointer (some ⟨it, 0, none⟩))
    (hDone : left = [] → wpList P ops Q rest (a.put o.dst (.tuple #[.bool false])) w)
    (hMore : ∀ x v more w', left.Perm ((x, v) :: more) → Ok x → (x, v) ∈ m → Rg enc Ok w' r it m more → Fr (fun b => b = it) w w' → w'.heap.size = w.heap.size → (Instr.entry (.pointer (some ⟨it, 0, none⟩))).run P w' = .ok (.tuple #[enc x, v]) w' →
      wpList P ops Q rest (a.put o.dst (.tuple #[.bool true, enc x, v])) w') : wpList P ops Q (o :: rest) a w := by
  refine wpList_plain hg fun K' hK' => ?_
  unfold Oper.wp
  rcases h.next (P := P) o.type with ⟨h0, hrun⟩ | ⟨x, v, more, w', h1, h2, h3, hrun, h4, h5, h6, h7⟩
  · simp [execOp, hop, hm, hrun, Result.andThen]
    exact hK' _ _ (hDone h0)
  · simp [execOp, hop, hm, hrun, Result.andThen]
    exact hK' _ _ (hMore x v more w' h1 h2 h3 h4 h5 h6 h7)
/-- the step, the key's value as it is written -/
theorem wpList_next' (kv : α → Value) (hkv : ∀ x, enc x = kv x) (hg : o.guard = none) (oi : Operand) (hop : o.op = Op.next oi false) (h : Rg enc Ok w r it m left) (hm : a.eval oi = .pointer (some ⟨it, 0, none⟩))
    (hDone : left = [] → wpList P ops Q rest (a.put o.dst (.tuple #[.bool false])) w)
    (hMore : ∀ x v more w', left.Perm ((x, v) :: more) → Ok x → (x, v) ∈ m → Rg enc Ok w' r it m more → Fr (fun b => b = it) w w' → w'.heap.size = w.heap.size → (Instr.entry (.pointer (some ⟨it, 0, none⟩))).run P w' = .ok (.tuple #[kv x, v]) w' →
      wpList P ops Q rest (a.put o.dst (.tuple #[.bool true, kv x, v])) w') : wpList P ops Q (o :: rest) a w :=
  wpList_next hg oi hop h hm hDone (fun x v more w' h1 h2 h3 h4 h5 h6 h7 => by rw [hkv] at h7 ⊢; exact hMore x v more w' h1 h2 h3 h4 h5 h6 h7)
/-- 'len(m)' -/
theorem Mp.len (h : Mp enc Ok w r m) (ht : P.underlying t = some (.map k e)) (ty : TypeId) : (Builtin.len_ #[t] ty #[.map (some r)]).run P w = .ok (.int .i64 m.length) w := by
  obtain ⟨es, clock, hb, hs, he⟩ := h.ex
  have h1 : es.size = m.length := by have := congrArg List.length he; simpa using this
  simp [Builtin.len_, run_underlying ht, Go.MapKept.run_getObj_map hb, Result.andThen, h1, goInt]
end
end Go.Proofs.YtbhghelegonbbaaDoor
namespace Go.Proofs.YtbhghelegonbbaaDoor
open Go.RowKit

/-- a list with some of its places written -/
def putAt : List Value → Nat → List Value → List Value
  | cs, _, [] => cs
  | cs, o, v :: r => putAt (cs.set o v) (o + 1) r
theorem putAt_length : ∀ (vs cs : List Value) (o : Nat), (putAt cs o vs).length = cs.length
  | [], _, _ => rfl
  | v :: r, cs, o => by rw [putAt, putAt_length r]; simp
theorem putAt_eq : ∀ (vs cs : List Value) (o : Nat), o + vs.length ≤ cs.length → putAt cs o vs = cs.take o ++ vs ++ cs.drop (o + vs.length)
  | [], cs, o, _ => by simp [putAt]
  | v :: r, cs, o, h => by
    simp only [List.length_cons] at h
    rw [putAt, putAt_eq r _ _ (by simp; omega)]
    have ho : o < cs.length := by omega
    rw [List.take_set, List.drop_set_of_lt (by omega), List.take_succ_eq_append_getElem ho, List.set_append_right o v (by simp; omega)]
    simp [Nat.min_eq_left (Nat.le_of_lt ho)]
    omega
theorem Bk.setCells {g : Nat} {t : TypeId} : ∀ (vs cs : List Value) (o : Nat) {w : World}, Bk w g cs t → Bk (w.setCells g o vs) g (putAt cs o vs) t
  | [], _, _, _, h => h
  | v :: r, cs, o, _, h => Bk.setCells r (cs.set o v) (o + 1) (h.set o v)
theorem Bk.setCells_other {g k : Nat} {t : TypeId} {cs : List Value} (hk : g ≠ k) : ∀ (vs : List Value) (o : Nat) {w : World}, Bk w g cs t → Bk (w.setCells k o vs) g cs t
  | [], _, _, h => h
  | v :: r, o, _, h => Bk.setCells_other hk r (o + 1) (h.other k o v hk)
theorem Fr.setCells {S : Nat → Prop} {a : World} {g : Nat} (hg : a.heap.size ≤ g ∨ S g) : ∀ (vs : List Value) (o : Nat) {w : World}, Fr S a w → Fr S a (w.setCells g o vs)
  | [], _, _, h => h
  | v :: r, o, _, h => Fr.setCells hg r (o + 1) (h.setCell g o v hg)
/-- a row of one-cell elements, out of its block -/
theorem row_of_bk {w : World} {g n cap : Nat} {cs xs : List Value} {e : TypeId} (h : Bk w g cs e) (hc : cs.length = cap) (hn : n ≤ cap) (hm : cap ≤ maxLen) (hx : cs.take n = xs) : w.ownsRow 0 e 1 (.slice (some ⟨g, 0, none⟩) n cap) n xs := by
  refine ⟨?_, .inr ⟨g, cap, cs.toArray, rfl, Nat.zero_le _, h, hn, hm, by simp [hc], by simpa using hx⟩⟩
  rw [← hx, List.length_take]; omega
theorem bk_of_row {w : World} {n : Nat} {xs : List Value} {v : Value} {e : TypeId} (h : w.ownsRow 0 e 1 v n xs) :
    xs.length = n ∧ ((v = .slice none 0 0 ∧ n = 0 ∧ xs = []) ∨ ∃ g cap cs, v = .slice (some ⟨g, 0, none⟩) n cap ∧ Bk w g cs e ∧ cs.length = cap ∧ n ≤ cap ∧ cap ≤ maxLen ∧ cs.take n = xs) := by
  have hl : xs.length = n := by simpa using h.1
  refine ⟨hl, ?_⟩
  rcases h.2 with ⟨rfl, rfl⟩ | ⟨g, cap, cur, rfl, _, hg, hn, hm, hs, ht⟩
  · exact .inl ⟨rfl, rfl, List.eq_nil_of_length_eq_zero hl⟩
  · refine .inr ⟨g, cap, cur.toList, rfl, by simpa [Bk] using hg, by simpa using hs, hn, hm, by simpa using ht⟩
section
variable {P : Program}
theorem wp_copy_run' (w : World) {o : Oper} {a : Act} {K : Act → World → Prop} {Q : Exit → Act → World → Prop} (d s : Operand) (t t' : TypeId)
    (ho : o.op = .call { callee := .builtin .copy, args := #[d, s], argTypes := #[t, t'] }) (v u : Value) (hd : a.eval d = v) (hs : a.eval s = u) {v' : Value} {w' : World}
    (hr : (Builtin.copy_ #[t, t'] o.type #[v, u]).run P w = .ok v' w') (h : K (a.put o.dst v') w') : o.wp P a w K Q := by
  unfold Oper.wp execOp
  simp only [ho, resolve, invoke, builtin, Sem.run_bind, Sem.run_pure, Result.andThen_ok, List.map_toArray, List.map_cons, List.map_nil, hd, hs, hr]
  exact h
theorem wpList_copy_run' (w : World) {ops : Array Oper} {rest : List Oper} {o : Oper} {a : Act} {Q : Exit → Act → World → Prop} (hgd : o.guard = none) (d s : Operand) (t t' : TypeId)
    (ho : o.op = .call { callee := .builtin .copy, args := #[d, s], argTypes := #[t, t'] }) (v u : Value) (hd : a.eval d = v) (hs : a.eval s = u) {v' : Value} {w' : World}
    (hr : (Builtin.copy_ #[t, t'] o.type #[v, u]).run P w = .ok v' w') (h : wpList P ops Q rest (a.put o.dst v') w') : wpList P ops Q (o :: rest) a w :=
  wpList_plain hgd fun _ hK => wp_copy_run' w d s t t' ho v u hd hs hr (hK _ _ h)
theorem step_copy_run' {ops : Array Oper} {o : Oper} {a : Act} {w : World} {K : Act → World → Prop} {Q : Exit → Act → World → Prop} {E : Prop}
    (hg : o.guard = none) (d x : Operand) (dT sT : TypeId) (hop : o.op = Op.call { callee := Callee.builtin Builtin.copy, args := #[d, x], argTypes := #[dT, sT] })
    (v u : Value) (hd : a.eval d = v) (hx : a.eval x = u) {v' : Value} {w' : World} (hr : (Builtin.copy_ #[dT, sT] o.type #[v, u]).run P w = .ok v' w') (hK : K (a.put o.dst v') w') :
    if Region.wanted o (yielded ops a.tmps) = true then Oper.wp P o a w K Q else E := by
  have hw : Region.wanted o (yielded ops a.tmps) = true := by simp [Region.wanted, hg]
  rw [if_pos hw]
  exact wp_copy_run' w d x dT sT hop v u hd hx hr hK
end
end Go.Proofs.YtbhghelegonbbaaDoor
namespace Go.Proofs.YtbhghelegonbbaaDoor
open Go.ChangeShapes Go.WideShapes Go.RowKit Go.Deep

/-- the cells of a slice's elements, sz each, in W: nothing is asked of an empty one -/
def InW (W : World) (b : Option Addr) (sz : Nat) (css : List (List Value)) : Prop :=
  css = [] ∨ ∃ B off, b = some ⟨B, off, none⟩ ∧ B < W.heap.size ∧ ∀ i c, css[i]? = some c → ∀ j u, c[j]? = some u → W.cell? ⟨B, off + i * sz + j, none⟩ = some u
theorem InW.bel {W W' : World} {b : Option Addr} {sz : Nat} {css : List (List Value)} (h : InW W b sz css) (hb : Below W.heap.size W W') : InW W' b sz css := by
  rcases h with h | ⟨B, off, hB, hl, hc⟩
  · exact .inl h
  · exact .inr ⟨B, off, hB, Nat.lt_of_lt_of_le hl hb.size, fun i c hi j u hj => by rw [hb.cell (p := ⟨B, _, none⟩) hl]; exact hc i c hi j u hj⟩

section
variable {H : Type} {enc : TypeId × Value → H} {P : Program} {W : World}
theorem list_choose {α β : Type} (f : α → β) (Ok : α → Prop) : ∀ (l : List β), (∀ x ∈ l, ∃ a, x = f a ∧ Ok a) → ∃ xs : List α, l = xs.map f ∧ ∀ a ∈ xs, Ok a
  | [], _ => ⟨[], rfl, fun _ h => by cases h⟩
  | y :: l, h => by
    obtain ⟨a, ha, hk⟩ := h y (by simp)
    obtain ⟨xs, hx, hs⟩ := list_choose f Ok l (fun x hx => h x (by simp [hx]))
    refine ⟨a :: xs, by simp [ha, hx], fun b hb => ?_⟩
    rcases List.mem_cons.1 hb with rfl | hb
    · exact hk
    · exact hs b hb
theorem add_lit' (B off i j : Nat) : ((⟨B, off, none⟩ : Addr).add i).add j = ⟨B, off + i + j, none⟩ := by
  rw [add_add]
  unfold Addr.add
  split
  · rename_i h
    have h1 : i = 0 := by omega
    have h2 : j = 0 := by omega
    subst h1 h2; rfl
  · simp; omega
/-- a slice of elements of a plain type, whatever slice came in -/
theorem open_slice_as {α : Type} {t e : TypeId} {r : Reach} {b0 : Nat} {v : Value} {d : DataW H} {p : List MemPlace} (sz : Nat) (f : α → List Value) (Ok : α → Prop) (ht : P.underlying t = some (.slice e)) (he : P.cellsOf e = sz) (hsz : 0 < sz)
    (hval : Value.okWide P W r b0 t v) (h : DataW.Trod enc P W 0 (fun _ => true) true t v d p)
    (hf : ∀ c fuel x, c.length = sz → DataW.trod enc P W 0 (fun _ => true) true fuel e c = some x → ∃ a, c = f a ∧ Ok a) :
    ∃ (b : Option Addr) (cap : Nat) (xs : List α), v = .slice b xs.length cap ∧ xs.length ≤ cap ∧ cap ≤ maxLen ∧ InW W b sz (xs.map f) ∧ ∀ a ∈ xs, Ok a := by
  obtain ⟨b, n, cap, rfl⟩ := okWide_slice ht hval
  obtain ⟨fuel, hf0⟩ := h
  rcases open_slice ht hf0 with ⟨hcs, _⟩ | ⟨a, len, cap', m, k, D, Pl, hcs, _, hl, hm, hmm, _, hx⟩
  · simp only [Value.cells, List.cons.injEq, and_true] at hcs
    cases hcs
    exact ⟨none, 0, [], rfl, Nat.le_refl _, Nat.zero_le _, .inl rfl, fun _ h => by cases h⟩
  · simp only [Value.cells, List.cons.injEq, and_true] at hcs
    cases hcs
    simp only [if_true] at hmm
    subst hmm
    have each : ∀ i, ∃ c : List Value, i < n → c.length = sz ∧ (∃ x, DataW.trod enc P W 0 (fun _ => true) true k e c = some x) ∧ ∀ j, j < sz → W.cell? ((a.add (i * sz)).add j) = c[j]? := fun i => by
      by_cases hi : i < n
      · obtain ⟨cs', h1, h2⟩ := hx i (by omega)
        rw [he] at h1
        obtain ⟨_, hlen, hcell⟩ := World.cells?_some h1
        exact ⟨cs', fun _ => ⟨hlen, ⟨_, h2⟩, hcell⟩⟩
      · exact ⟨[], fun h => absurd h hi⟩
    have ⟨c, hc⟩ := Classical.axiomOfChoice each
    obtain ⟨xs, hxs, hok⟩ := list_choose f Ok ((List.range n).map c) (fun x hx => by
      obtain ⟨i, hi, rfl⟩ := List.mem_map.1 hx
      obtain ⟨q1, ⟨x, q2⟩, _⟩ := hc i (List.mem_range.1 hi)
      exact hf _ _ _ q1 q2)
    have hlen : xs.length = n := by
      have := congrArg List.length hxs
      simpa using this.symm
    subst hlen
    refine ⟨some a, m, xs, rfl, hl, hm, ?_, hok⟩
    by_cases hn : xs.length = 0
    · left
      rw [List.length_eq_zero_iff.1 hn]; rfl
    · right
      obtain ⟨q1, _, q3⟩ := hc 0 (by omega)
      have hs : a.spot = none := by
        have h0 := q3 0 hsz
        simp only [Nat.zero_mul, Addr.add, if_true] at h0
        rw [List.getElem?_eq_getElem (by omega)] at h0
        exact World.cell?_spot h0
      obtain ⟨B, off, spot⟩ := a
      simp only at hs
      subst hs
      refine ⟨B, off, rfl, ?_, ?_⟩
      · have h0 := q3 0 hsz
        simp only [Nat.zero_mul, Addr.add, if_true] at h0
        rw [List.getElem?_eq_getElem (by omega)] at h0
        exact World.block_lt_of_cell? _ _ h0
      · intro i c' hi j u hj
        rw [← hxs, List.getElem?_map] at hi
        obtain ⟨i', hi', e1⟩ := Option.map_eq_some_iff.1 hi
        obtain ⟨hi3, e3⟩ := List.getElem?_eq_some_iff.1 hi'
        simp only [List.getElem_range] at e3
        subst e3
        obtain ⟨p1, _, p3⟩ := hc i (by simpa using hi3)
        rw [e1] at p1 p3
        have hj2 : j < sz := by rw [← p1]; exact (List.getElem?_eq_some_iff.1 hj).1
        have := p3 j hj2
        rw [add_lit', hj] at this
        exact this
end
end Go.Proofs.YtbhghelegonbbaaDoor
namespace Go.Proofs.YtbhghelegonbbaaDoor
open Go.RowKit Go.ChangeShapes Go.WideShapes
/-- the texts of a slice -/
def Strs (w : World) (b : Option Addr) (xs : List ByteArray) : Prop := InW w b 1 (xs.map fun s => [.string s])
theorem Strs.bel {w w' : World} {b : Option Addr} {xs : List ByteArray} (h : Strs w b xs) (hb : Below w.heap.size w w') : Strs w' b xs := InW.bel h hb
theorem Strs.at {w : World} {b : Option Addr} {xs : List ByteArray} (h : Strs w b xs) {i : Nat} {s : ByteArray} (hi : xs[i]? = some s) : ∃ B off, b = some ⟨B, off, none⟩ ∧ B < w.heap.size ∧ w.cell? ⟨B, off + i, none⟩ = some (.string s) := by
  rcases h with h | ⟨B, off, hb, hl, hc⟩
  · rw [List.map_eq_nil_iff.1 h] at hi; cases hi
  · refine ⟨B, off, hb, hl, ?_⟩
    have := hc i [.string s] (by rw [List.getElem?_map, hi]; rfl) 0 _ rfl
    simpa using this
/-- the first ones -/
theorem Strs.take {w : World} {b : Option Addr} {xs : List ByteArray} (h : Strs w b xs) (n : Nat) : Strs w b (xs.take n) := by
  rcases h with h | ⟨B, off, hb, hl, hc⟩
  · rw [List.map_eq_nil_iff.1 h]; left; simp
  · refine .inr ⟨B, off, hb, hl, fun i c hi => ?_⟩
    rw [List.map_take, List.getElem?_take] at hi
    split at hi
    · exact hc i c hi
    · cases hi
section
variable {H : Type} {enc : TypeId × Value → H} {P : Program} {W : World}
theorem open_texts {t e : TypeId} {r : Reach} {b0 : Nat} {v : Value} {d : DataW H} {p : List MemPlace} (ht : P.underlying t = some (.slice e)) (he : P.underlying e = some .string) (hc : P.cellsOf e = 1)
    (hval : Value.okWide P W r b0 t v) (h : DataW.Trod enc P W 0 (fun _ => true) true t v d p) :
    ∃ (b : Option Addr) (cap : Nat) (xs : List ByteArray), v = .slice b xs.length cap ∧ xs.length ≤ cap ∧ cap ≤ maxLen ∧ InW W b 1 (xs.map fun s => [.string s]) ∧ ∀ s ∈ xs, s.size ≤ maxLen := by
  refine open_slice_as 1 _ _ ht hc (by omega) hval h fun c fuel x hl hx => ?_
  match c, hl with
  | [u], _ =>
    obtain ⟨s, e0, _, hs⟩ := DataW.trod_string he hx
    simp at e0
    subst e0
    exact ⟨s, rfl, hs⟩
end
end Go.Proofs.YtbhghelegonbbaaDoor
namespace Go.Proofs.YtbhghelegonbbaaDoor
open Go.RowKit
section
variable {P : Program}
/-- an append of nothing -/
theorem run_append_nothing (w : World) (t ty e : TypeId) (i : TypeInfo) (ht : P.underlying t = some (.slice e)) (hi : P.info? e = some i) (size : Nat)
    (v : Value) (n : Nat) (xs : List Value) (hown : w.ownsRow 0 e size v n xs) (b : Option Addr) (c : Nat) :
    (Builtin.append_ #[t, t] ty #[v, .slice b 0 c]).run P w = .ok v w := by
  rcases hown.2 with ⟨rfl, rfl⟩ | ⟨g, cap, cur, rfl, _, hg, hnc, _⟩
  · cases b <;> simp [Builtin.append_, run_underlying ht, sizeOf, typeInfo, hi, Builtin.lenOf, Builtin.firstCells, loadCells, loadCellsFrom]
  · cases b <;> simp [Builtin.append_, run_underlying ht, sizeOf, typeInfo, hi, Builtin.lenOf, Builtin.firstCells, loadCells, loadCellsFrom, hnc, storeCells]
theorem one_text (xs : List ByteArray) : ∀ u ∈ xs.map Value.string, u.oneCell' = true := fun u hu => by
  obtain ⟨s, _, rfl⟩ := List.mem_map.1 hu
  rfl
theorem run_append_texts (w : World) (t ty e : TypeId) (i : TypeInfo) (ht : P.underlying t = some (.slice e)) (hi : P.info? e = some i) (hz : i.zero = some (.string ⟨#[]⟩)) (hsize : i.size = 1) (hby : i.bytes = 16)
    (v : Value) (xs ys : List ByteArray) (hown : w.ownsRow 0 e 1 v xs.length (xs.map Value.string)) (b : Option Addr) (c : Nat) (hs : Strs w b ys) (hlen : xs.length + ys.length ≤ 1000000) :
    ∃ v' w', (Builtin.append_ #[t, t] ty #[v, .slice b ys.length c]).run P w = .ok v' w' ∧ w'.ownsRow 0 e 1 v' (xs ++ ys).length ((xs ++ ys).map Value.string) ∧ Fr (fun b => v.ownBlock = some b) w w' ∧ Hence v v' w := by
  rcases hs with h | ⟨B, off, rfl, _, hc⟩
  · have : ys = [] := List.map_eq_nil_iff.1 h
    subst this
    exact ⟨v, w, run_append_nothing w t ty e i ht hi 1 v _ _ hown b c, by simpa using hown, Fr.refl _ _, .inl rfl⟩
  · have := run_append_row (P := P) w t ty e i (.string ⟨#[]⟩) 1 16 ht hi hz hsize hby rfl (by decide) v xs.length (xs.map Value.string) hown ⟨B, off, none⟩ ys.length c (ys.map Value.string) (by simp)
      (fun j u hj => by
        rw [List.getElem?_map] at hj
        obtain ⟨s, hs, rfl⟩ := Option.map_eq_some_iff.1 hj
        rw [Addr.add_lit]
        have := hc j [.string s] (by rw [List.getElem?_map, hs]; rfl) 0 _ rfl
        simpa using this) (one_text ys) (by unfold maxLen; omega) (by omega)
    obtain ⟨v', w', h1, h2, h3, h4⟩ := this
    exact ⟨v', w', h1, by simpa using h2, h3, h4⟩
theorem wpList_append_texts (w : World) {ops : Array Oper} {rest : List Oper} {o : Oper} {a : Act} {Q : Exit → Act → World → Prop} (hgd : o.guard = none) (s x : Operand) (t : TypeId)
    (ho : o.op = .call { callee := .builtin .append, args := #[s, x], argTypes := #[t, t] })
    (e : TypeId) (i : TypeInfo) (ht : P.underlying t = some (.slice e)) (hi : P.info? e = some i) (hz : i.zero = some (.string ⟨#[]⟩)) (hsize : i.size = 1) (hby : i.bytes = 16)
    (v : Value) (xs ys : List ByteArray) (hs : a.eval s = v) (hown : w.ownsRow 0 e 1 v xs.length (xs.map Value.string)) (b : Option Addr) (n c : Nat) (hx : a.eval x = .slice b n c) (hn : n = ys.length) (hst : Strs w b ys) (hlen : xs.length + ys.length ≤ 1000000)
    (h : ∀ v' w', w'.ownsRow 0 e 1 v' (xs ++ ys).length ((xs ++ ys).map Value.string) → Fr (fun b => v.ownBlock = some b) w w' → Hence v v' w → wpList P ops Q rest (a.put o.dst v') w') : wpList P ops Q (o :: rest) a w := by
  subst hn
  refine wpList_plain hgd fun _ hK => ?_
  obtain ⟨v', w', hr, h2, h3, h4⟩ := run_append_texts (P := P) w t o.type e i ht hi hz hsize hby v xs ys hown b c hst hlen
  unfold Oper.wp execOp
  simp only [ho, resolve, invoke, builtin, Sem.run_bind, Sem.run_pure, Result.andThen_ok, List.map_toArray, List.map_cons, List.map_nil, hs, hx, hr]
  exact hK _ _ (h v' w' h2 h3 h4)
end
/-- a row of texts, read -/
theorem strs_of_row {w : World} {e : TypeId} {v : Value} {xs : List ByteArray} {n : Nat} (h : w.ownsRow 0 e 1 v n (xs.map Value.string)) : ∃ b cap, v = .slice b xs.length cap ∧ xs.length ≤ cap ∧ cap ≤ maxLen ∧ Strs w b xs ∧ n = xs.length := by
  obtain ⟨hl, h1 | ⟨r, cap, cs, rfl, h2, h3, h4, h5, h6⟩⟩ := bk_of_row h
  · obtain ⟨rfl, rfl, hx⟩ := h1
    have : xs = [] := List.map_eq_nil_iff.1 hx
    subst this
    exact ⟨none, 0, rfl, Nat.le_refl _, Nat.zero_le _, Or.inl rfl, rfl⟩
  · rw [List.length_map] at hl
    subst hl
    refine ⟨some ⟨r, 0, none⟩, cap, rfl, h4, h5, .inr ⟨r, 0, rfl, h2.lt, fun i c hi j u hj => ?_⟩, rfl⟩
    rw [List.getElem?_map] at hi
    obtain ⟨x, hx, rfl⟩ := Option.map_eq_some_iff.1 hi
    match j, hj with
    | 0, hj =>
      cases hj
      have h7 : (xs.map Value.string)[i]? = some (.string x) := by rw [List.getElem?_map, hx]; rfl
      rw [← h6, List.getElem?_take] at h7
      split at h7
      · have := h2.cell i
        rw [h7] at this
        simpa using this
      · cases h7
    | j + 1, hj => simp at hj
theorem texts_empty (w : World) (e : TypeId) : (w.alloc (.cells #[] e)).ownsRow 0 e 1 (.slice (some ⟨w.heap.size, 0, none⟩) 0 0) ([] : List ByteArray).length (([] : List ByteArray).map Value.string) :=
  World.ownsRow_made w #[] 0 (Nat.zero_le _) (by unfold maxLen; omega) rfl
end Go.Proofs.YtbhghelegonbbaaDoor
namespace Go.Proofs.YtbhghelegonbbaaDoor
open Go.RowKit Go.ChangeShapes Go.WideShapes
section
variable {P : Program} {α : Type} (f : α → Value) (hf : ∀ a, (f a).oneCell' = true)
include hf
theorem one_any (xs : List α) : ∀ u ∈ xs.map f, u.oneCell' = true := fun u hu => by
  obtain ⟨s, _, rfl⟩ := List.mem_map.1 hu
  exact hf s
theorem run_append_any (w : World) (t ty e : TypeId) (i : TypeInfo) (z : Value) (bytes : Nat) (ht : P.underlying t = some (.slice e)) (hi : P.info? e = some i) (hz : i.zero = some z) (hsize : i.size = 1) (hby : i.bytes = bytes) (hzs : z.cells.size = 1) (h16 : bytes ≤ 16)
    (v : Value) (xs ys : List α) (hown : w.ownsRow 0 e 1 v xs.length (xs.map f)) (b : Option Addr) (c : Nat) (hs : InW w b 1 (ys.map fun y => [f y])) (hlen : xs.length + ys.length ≤ 1000000) :
    ∃ v' w', (Builtin.append_ #[t, t] ty #[v, .slice b ys.length c]).run P w = .ok v' w' ∧ w'.ownsRow 0 e 1 v' (xs ++ ys).length ((xs ++ ys).map f) ∧ Fr (fun b => v.ownBlock = some b) w w' ∧ Hence v v' w := by
  rcases hs with h | ⟨B, off, rfl, _, hc⟩
  · have : ys = [] := List.map_eq_nil_iff.1 h
    subst this
    exact ⟨v, w, run_append_nothing w t ty e i ht hi 1 v _ _ hown b c, by simpa using hown, Fr.refl _ _, .inl rfl⟩
  · have := run_append_row (P := P) w t ty e i z 1 bytes ht hi hz hsize hby hzs (by decide) v xs.length (xs.map f) hown ⟨B, off, none⟩ ys.length c (ys.map f) (by simp)
      (fun j u hj => by
        rw [List.getElem?_map] at hj
        obtain ⟨s, hs, rfl⟩ := Option.map_eq_some_iff.1 hj
        rw [Addr.add_lit]
        have := hc j [f s] (by rw [List.getElem?_map, hs]; rfl) 0 _ rfl
        simpa using this) (one_any f hf ys) (by unfold maxLen; omega) (by have := Nat.mul_le_mul hlen h16; omega)
    obtain ⟨v', w', h1, h2, h3, h4⟩ := this
    exact ⟨v', w', h1, by simpa using h2, h3, h4⟩
theorem wpList_append_any (w : World) {ops : Array Oper} {rest : List Oper} {o : Oper} {a : Act} {Q : Exit → Act → World → Prop} (hgd : o.guard = none) (s x : Operand) (t : TypeId)
    (ho : o.op = .call { callee := .builtin .append, args := #[s, x], argTypes := #[t, t] })
    (e : TypeId) (i : TypeInfo) (z : Value) (bytes : Nat) (ht : P.underlying t = some (.slice e)) (hi : P.info? e = some i) (hz : i.zero = some z) (hsize : i.size = 1) (hby : i.bytes = bytes) (hzs : z.cells.size = 1) (h16 : bytes ≤ 16)
    (v : Value) (xs ys : List α) (hs : a.eval s = v) (hown : w.ownsRow 0 e 1 v xs.length (xs.map f)) (b : Option Addr) (n c : Nat) (hx : a.eval x = .slice b n c) (hn : n = ys.length) (hst : InW w b 1 (ys.map fun y => [f y])) (hlen : xs.length + ys.length ≤ 1000000)
    (h : ∀ v' w', w'.ownsRow 0 e 1 v' (xs ++ ys).length ((xs ++ ys).map f) → Fr (fun b => v.ownBlock = some b) w w' → Hence v v' w → wpList P ops Q rest (a.put o.dst v') w') : wpList P ops Q (o :: rest) a w := by
  subst hn
  refine wpList_plain hgd fun _ hK => ?_
  obtain ⟨v', w', hr, h2, h3, h4⟩ := run_append_any f hf (P := P) w t o.type e i z bytes ht hi hz hsize hby hzs h16 v xs ys hown b c hst hlen
  unfold Oper.wp execOp
  simp only [ho, resolve, invoke, builtin, Sem.run_bind, Sem.run_pure, Result.andThen_ok, List.map_toArray, List.map_cons, List.map_nil, hs, hx, hr]
  exact hK _ _ (h v' w' h2 h3 h4)
omit hf
/-- a row of the call's own, read -/
theorem inw_of_row {w : World} {e : TypeId} {v : Value} {xs : List α} {n : Nat} (h : w.ownsRow 0 e 1 v n (xs.map f)) : ∃ b cap, v = .slice b xs.length cap ∧ xs.length ≤ cap ∧ cap ≤ maxLen ∧ InW w b 1 (xs.map fun x => [f x]) ∧ n = xs.length := by
  obtain ⟨hl, h1 | ⟨r, cap, cs, rfl, h2, h3, h4, h5, h6⟩⟩ := bk_of_row h
  · obtain ⟨rfl, rfl, hx⟩ := h1
    have : xs = [] := List.map_eq_nil_iff.1 hx
    subst this
    exact ⟨none, 0, rfl, Nat.le_refl _, Nat.zero_le _, Or.inl rfl, rfl⟩
  · rw [List.length_map] at hl
    subst hl
    refine ⟨some ⟨r, 0, none⟩, cap, rfl, h4, h5, .inr ⟨r, 0, rfl, h2.lt, fun i c hi j u hj => ?_⟩, rfl⟩
    rw [List.getElem?_map] at hi
    obtain ⟨x, hx, rfl⟩ := Option.map_eq_some_iff.1 hi
    match j, hj with
    | 0, hj =>
      cases hj
      have h7 : (xs.map f)[i]? = some (f x) := by rw [List.getElem?_map, hx]; rfl
      rw [← h6, List.getElem?_take] at h7
      split at h7
      · have := h2.cell i
        rw [h7] at this
        simpa using this
      · cases h7
    | j + 1, hj => simp at hj
/-- one element of one cell -/
theorem inw_at {w : World} {b : Option Addr} {xs : List α} (h : InW w b 1 (xs.map fun x => [f x])) {i : Nat} {x : α} (hi : xs[i]? = some x) : ∃ B off, b = some ⟨B, off, none⟩ ∧ B < w.heap.size ∧ w.cell? ⟨B, off + i, none⟩ = some (f x) := by
  rcases h with h | ⟨B, off, hb, hl, hc⟩
  · rw [List.map_eq_nil_iff.1 h] at hi; cases hi
  · refine ⟨B, off, hb, hl, ?_⟩
    have := hc i [f x] (by rw [List.getElem?_map, hi]; rfl) 0 _ rfl
    simpa using this
end
/-- those from the n-th on -/
theorem Strs.drop {w : World} {B off : Nat} {xs : List ByteArray} (h : Strs w (some ⟨B, off, none⟩) xs) (n : Nat) : Strs w (some ⟨B, off + n, none⟩) (xs.drop n) := by
  rcases h with h | ⟨B', off', hb, hl, hc⟩
  · rw [List.map_eq_nil_iff.1 h]; left; simp
  · cases hb
    refine .inr ⟨B, off + n, rfl, hl, fun i c hi j u hj => ?_⟩
    rw [List.map_drop, List.getElem?_drop] at hi
    have := hc (n + i) c hi j u hj
    rw [← this]
    congr 2
    omega
section
variable {H : Type} {enc : TypeId × Value → H} {P : Program} {W : World}
theorem open_ints {t e : TypeId} {k : IntKind} {r : Reach} {b0 : Nat} {v : Value} {d : DataW H} {p : List MemPlace} (ht : P.underlying t = some (.slice e)) (he : P.underlying e = some (.int k)) (hc : P.cellsOf e = 1)
    (hval : Value.okWide P W r b0 t v) (h : DataW.Trod enc P W 0 (fun _ => true) true t v d p) :
    ∃ (b : Option Addr) (cap : Nat) (xs : List Int), v = .slice b xs.length cap ∧ xs.length ≤ cap ∧ cap ≤ maxLen ∧ InW W b 1 (xs.map fun x => [.int k x]) ∧ ∀ x ∈ xs, (Lit.int k x).wf = true := by
  refine open_slice_as 1 _ _ ht hc (by omega) hval h fun c fuel x hl hx => ?_
  match c, hl with
  | [u], _ =>
    obtain ⟨s, e0, _, hs⟩ := DataW.trod_int he hx
    simp at e0
    subst e0
    exact ⟨s, rfl, hs⟩
end
end Go.Proofs.YtbhghelegonbbaaDoor
namespace Go.Proofs.YtbhghelegonbbaaDoor
open Go.RowKit Go.ChangeShapes Go.WideShapes
section
variable {α : Type} {f : α → List Value} {sz : Nat}
theorem flat_len (hf : ∀ a, (f a).length = sz) (xs : List α) : (xs.flatMap f).length = xs.length * sz := by
  induction xs with
  | nil => simp
  | cons x xs ih => rw [List.flatMap_cons, List.length_append, ih, hf, List.length_cons, Nat.add_mul]; omega
theorem flat_at (hf : ∀ a, (f a).length = sz) : ∀ {xs : List α} {i : Nat} {x : α} {j : Nat} {u : Value}, xs[i]? = some x → (f x)[j]? = some u → (xs.flatMap f)[i * sz + j]? = some u
  | [], _, _, _, _, h, _ => by simp at h
  | y :: xs, 0, x, j, u, h, hu => by
    simp at h
    subst h
    have hj := (List.getElem?_eq_some_iff.1 hu).1
    rw [List.flatMap_cons, Nat.zero_mul, Nat.zero_add, List.getElem?_append_left hj]
    exact hu
  | y :: xs, i + 1, x, j, u, h, hu => by
    simp at h
    have ih := flat_at hf (xs := xs) h hu
    rw [List.flatMap_cons, List.getElem?_append_right (by rw [hf, Nat.add_mul]; omega), hf, show (i + 1) * sz + j - sz = i * sz + j by rw [Nat.add_mul]; omega]
    exact ih
theorem flat_inv (hf : ∀ a, (f a).length = sz) : ∀ {xs : List α} {j : Nat} {u : Value}, (xs.flatMap f)[j]? = some u → ∃ i x r, xs[i]? = some x ∧ (f x)[r]? = some u ∧ j = i * sz + r
  | [], _, _, h => by simp at h
  | y :: xs, j, u, h => by
    rw [List.flatMap_cons] at h
    by_cases hj : j < (f y).length
    · rw [List.getElem?_append_left hj] at h
      exact ⟨0, y, j, rfl, h, by omega⟩
    · rw [List.getElem?_append_right (by omega)] at h
      obtain ⟨i, x, r, h1, h2, h3⟩ := flat_inv hf h
      rw [hf] at h3 hj
      exact ⟨i + 1, x, r, by simpa using h1, h2, by rw [Nat.add_mul]; omega⟩
variable {P : Program} (hf : ∀ a, (f a).length = sz) (h1 : ∀ a, ∀ u ∈ f a, u.oneCell' = true)
include hf h1
theorem run_append_m (w : World) (t ty e : TypeId) (i : TypeInfo) (z : Value) (bytes : Nat) (ht : P.underlying t = some (.slice e)) (hi : P.info? e = some i) (hz : i.zero = some z) (hsize : i.size = sz) (hby : i.bytes = bytes) (hzs : z.cells.size = sz) (hsz : 0 < sz) (h16 : bytes ≤ 1000)
    (v : Value) (xs ys : List α) (hown : w.ownsRow 0 e sz v xs.length (xs.flatMap f)) (b : Option Addr) (c : Nat) (hs : InW w b sz (ys.map f)) (hlen : xs.length + ys.length ≤ 1000000) :
    ∃ v' w', (Builtin.append_ #[t, t] ty #[v, .slice b ys.length c]).run P w = .ok v' w' ∧ w'.ownsRow 0 e sz v' (xs ++ ys).length ((xs ++ ys).flatMap f) ∧ Fr (fun b => v.ownBlock = some b) w w' ∧ Hence v v' w := by
  rcases hs with h | ⟨B, off, rfl, _, hc⟩
  · have : ys = [] := List.map_eq_nil_iff.1 h
    subst this
    exact ⟨v, w, run_append_nothing w t ty e i ht hi sz v _ _ hown b c, by simpa using hown, Fr.refl _ _, .inl rfl⟩
  · have := run_append_row (P := P) w t ty e i z sz bytes ht hi hz hsize hby hzs hsz v xs.length (xs.flatMap f) hown ⟨B, off, none⟩ ys.length c (ys.flatMap f) (flat_len hf ys)
      (fun j u hj => by
        obtain ⟨k, x, r, e1, e2, e3⟩ := flat_inv hf hj
        have := hc k (f x) (by rw [List.getElem?_map, e1]; rfl) r u e2
        rw [Addr.add_lit, e3, ← Nat.add_assoc]
        exact this) (fun u hu => by obtain ⟨x, _, hx⟩ := List.mem_flatMap.1 hu; exact h1 x u hx) (by unfold maxLen; omega) (by have := Nat.mul_le_mul hlen h16; omega)
    obtain ⟨v', w', h1, h2, h3, h4⟩ := this
    exact ⟨v', w', h1, by simpa using h2, h3, h4⟩
theorem wpList_append_m (w : World) {ops : Array Oper} {rest : List Oper} {o : Oper} {a : Act} {Q : Exit → Act → World → Prop} (hgd : o.guard = none) (s x : Operand) (t : TypeId)
    (ho : o.op = .call { callee := .builtin .append, args := #[s, x], argTypes := #[t, t] })
    (e : TypeId) (i : TypeInfo) (z : Value) (bytes : Nat) (ht : P.underlying t = some (.slice e)) (hi : P.info? e = some i) (hz : i.zero = some z) (hsize : i.size = sz) (hby : i.bytes = bytes) (hzs : z.cells.size = sz) (hsz : 0 < sz) (h16 : bytes ≤ 1000)
    (v : Value) (xs ys : List α) (hs : a.eval s = v) (hown : w.ownsRow 0 e sz v xs.length (xs.flatMap f)) (b : Option Addr) (n c : Nat) (hx : a.eval x = .slice b n c) (hn : n = ys.length) (hst : InW w b sz (ys.map f)) (hlen : xs.length + ys.length ≤ 1000000)
    (h : ∀ v' w', w'.ownsRow 0 e sz v' (xs ++ ys).length ((xs ++ ys).flatMap f) → Fr (fun b => v.ownBlock = some b) w w' → Hence v v' w → wpList P ops Q rest (a.put o.dst v') w') : wpList P ops Q (o :: rest) a w := by
  subst hn
  refine wpList_plain hgd fun _ hK => ?_
  obtain ⟨v', w', hr, h2, h3, h4⟩ := run_append_m hf h1 (P := P) w t o.type e i z bytes ht hi hz hsize hby hzs hsz h16 v xs ys hown b c hst hlen
  unfold Oper.wp execOp
  simp only [ho, resolve, invoke, builtin, Sem.run_bind, Sem.run_pure, Result.andThen_ok, List.map_toArray, List.map_cons, List.map_nil, hs, hx, hr]
  exact hK _ _ (h v' w' h2 h3 h4)
theorem step_append_m {ops : Array Oper} {o : Oper} {a : Act} {w : World} {K : Act → World → Prop} {Q : Exit → Act → World → Prop} {E : Prop} (hgd : o.guard = none) (s x : Operand) (t : TypeId)
    (ho : o.op = .call { callee := .builtin .append, args := #[s, x], argTypes := #[t, t] })
    (e : TypeId) (i : TypeInfo) (z : Value) (bytes : Nat) (ht : P.underlying t = some (.slice e)) (hi : P.info? e = some i) (hz : i.zero = some z) (hsize : i.size = sz) (hby : i.bytes = bytes) (hzs : z.cells.size = sz) (hsz : 0 < sz) (h16 : bytes ≤ 1000)
    (v : Value) (xs ys : List α) (hs : a.eval s = v) (hown : w.ownsRow 0 e sz v xs.length (xs.flatMap f)) (b : Option Addr) (n c : Nat) (hx : a.eval x = .slice b n c) (hn : n = ys.length) (hst : InW w b sz (ys.map f)) (hlen : xs.length + ys.length ≤ 1000000)
    (h : ∀ v' w', w'.ownsRow 0 e sz v' (xs ++ ys).length ((xs ++ ys).flatMap f) → Fr (fun b => v.ownBlock = some b) w w' → Hence v v' w → K (a.put o.dst v') w') : if Region.wanted o (yielded ops a.tmps) = true then Oper.wp P o a w K Q else E := by
  subst hn
  have hw : Region.wanted o (yielded ops a.tmps) = true := by simp [Region.wanted, hgd]
  rw [if_pos hw]
  obtain ⟨v', w', hr, h2, h3, h4⟩ := run_append_m hf h1 (P := P) w t o.type e i z bytes ht hi hz hsize hby hzs hsz h16 v xs ys hown b c hst hlen
  unfold Oper.wp execOp
  simp only [ho, resolve, invoke, builtin, Sem.run_bind, Sem.run_pure, Result.andThen_ok, List.map_toArray, List.map_cons, List.map_nil, hs, hx, hr]
  exact h v' w' h2 h3 h4
omit h1
/-- a row of the call's own, read -/
theorem inw_of_rowm {w : World} {e : TypeId} {v : Value} {xs : List α} {n : Nat} (hsz : 0 < sz) (h : w.ownsRow 0 e sz v n (xs.flatMap f)) : ∃ b cap, v = .slice b xs.length cap ∧ xs.length ≤ cap ∧ cap ≤ maxLen ∧ InW w b sz (xs.map f) ∧ n = xs.length := by
  have hl : xs.length * sz = n * sz := by rw [← flat_len hf]; exact h.1
  have hl' : xs.length = n := Nat.eq_of_mul_eq_mul_right hsz hl
  subst hl'
  have hcs := h
  rcases h.2 with ⟨rfl, h0⟩ | ⟨g, cap, cur, rfl, _, hg, hn, hm, hs, ht⟩
  · have : xs = [] := List.eq_nil_of_length_eq_zero h0
    subst this
    exact ⟨none, 0, rfl, Nat.le_refl _, Nat.zero_le _, Or.inl rfl, rfl⟩
  · refine ⟨some ⟨g, 0, none⟩, cap, rfl, hn, hm, .inr ⟨g, 0, rfl, lt_of_at hg, fun i c hi j u hj => ?_⟩, rfl⟩
    rw [List.getElem?_map] at hi
    obtain ⟨x, hx, rfl⟩ := Option.map_eq_some_iff.1 hi
    have h2 := hcs.cells (g := g) rfl (i * sz + j) u (flat_at hf hx hj)
    rw [Addr.add_lit] at h2
    rw [Nat.add_assoc]
    exact h2
omit hf
/-- a part of a slice -/
theorem InW.take {w : World} {b : Option Addr} {css : List (List Value)} (h : InW w b sz css) (n : Nat) : InW w b sz (css.take n) := by
  rcases h with h | ⟨B, off, hb, hl, hc⟩
  · left; rw [h]; simp
  · refine .inr ⟨B, off, hb, hl, fun i c hi => ?_⟩
    rw [List.getElem?_take] at hi
    split at hi
    · exact hc i c hi
    · cases hi
theorem InW.drop {w : World} {B off : Nat} {css : List (List Value)} (h : InW w (some ⟨B, off, none⟩) sz css) (n : Nat) : InW w (some ⟨B, off + n * sz, none⟩) sz (css.drop n) := by
  rcases h with h | ⟨B', off', hb, hl, hc⟩
  · left; rw [h]; simp
  · cases hb
    refine .inr ⟨B, off + n * sz, rfl, hl, fun i c hi j u hj => ?_⟩
    rw [List.getElem?_drop] at hi
    have := hc (n + i) c hi j u hj
    rw [Nat.add_mul, ← Nat.add_assoc] at this
    exact this
end
end Go.Proofs.YtbhghelegonbbaaDoor
namespace Go.Proofs.YtbhghelegonbbaaDoor
open Go.RowKit
/-- where 's[k:]' lies -/
def subB (b : Option Addr) (cap k sz : Nat) : Option Addr := if cap = k then b else b.map (·.add (k * sz))
theorem subB_inw {w : World} {b : Option Addr} {cap k sz : Nat} {css : List (List Value)} (h : InW w b sz css) (hc : css.length ≤ cap) : InW w (subB b cap k sz) sz (css.drop k) := by
  unfold subB
  by_cases e : cap = k
  · rw [if_pos e]; left
    rw [List.drop_eq_nil_iff]; omega
  · rw [if_neg e]
    rcases h with h | ⟨B, off, rfl, hl, hx⟩
    · left; rw [h]; simp
    · have h' : InW w (some ⟨B, off, none⟩) sz css := .inr ⟨B, off, rfl, hl, hx⟩
      rw [Option.map_some, Addr.add_lit]
      exact h'.drop k
theorem subB_zero (b : Option Addr) (cap sz : Nat) : subB b cap 0 sz = b := by
  unfold subB
  split
  · rfl
  · cases b <;> simp [Addr.add]
section
variable {P : Program}
theorem run_bound (w : World) (k y : Nat) (c : BoundsCode) (h : k ≤ y) : (Instr.sliceBound (.int .i64 k) y c).run P w = .ok k w := by
  have h' : (0 : Int) ≤ (k : Int) ∧ (k : Int) ≤ (y : Int) := by omega
  simp [Instr.sliceBound, asIntOf, h]
theorem run_slice_from (w : World) (t e : TypeId) (b : Option Addr) (n cap k sz : Nat) (ht : P.underlying t = some (.slice e)) (hinfo : ∃ i, P.info? e = some i ∧ i.size = sz) (hk : k ≤ n) :
    (Instr.slice t (.slice b n cap) (some (.int .i64 k)) none none).run P w = .ok (.slice (subB b cap k sz) (n - k) (cap - k)) w := by
  obtain ⟨i, hi, hsz⟩ := hinfo
  simp [Instr.slice, run_underlying ht, Instr.sliceBounds, run_bound w k n _ hk, sizeOf, typeInfo, hi, hsz, Result.andThen, subB]
theorem run_slice_to (w : World) (t e : TypeId) (b : Option Addr) (n cap k sz : Nat) (ht : P.underlying t = some (.slice e)) (hinfo : ∃ i, P.info? e = some i ∧ i.size = sz) (hk : k ≤ cap) :
    (Instr.slice t (.slice b n cap) none (some (.int .i64 k)) none).run P w = .ok (.slice b k cap) w := by
  obtain ⟨i, hi, hsz⟩ := hinfo
  have h0 := subB_zero b cap sz
  unfold subB at h0
  simp only [Nat.zero_mul] at h0
  simp [Instr.slice, run_underlying ht, Instr.sliceBounds, run_bound w k cap _ hk, sizeOf, typeInfo, hi, Result.andThen, h0]
end
end Go.Proofs.YtbhghelegonbbaaDoor
namespace Go.Proofs.YtbhghelegonbbaaDoor
open Go.RowKit
section
variable {α : Type} {f : α → List Value} {sz : Nat}
/-- an empty row that was made -/
theorem row_empty {W : World} {g : Nat} {e : TypeId} (h : Bk W g [] e) : W.ownsRow 0 e sz (.slice (some ⟨g, 0, none⟩) 0 0) ([] : List α).length (([] : List α).flatMap f) :=
  ⟨by simp, .inr ⟨g, 0, #[], rfl, Nat.zero_le _, h, Nat.le_refl _, Nat.zero_le _, by simp, by simp⟩⟩
/-- one element in a block of its own -/
theorem inw_one {W : World} {g : Nat} {e : TypeId} {x : α} (h : Bk W g (f x) e) : InW W (some ⟨g, 0, none⟩) sz ([x].map f) :=
  .inr ⟨g, 0, rfl, h.lt, fun i c hi j u hj => by
    cases i with
    | zero =>
      simp at hi
      subst hi
      simp only [Nat.zero_mul, Nat.zero_add]
      exact (h.cell j).trans hj
    | succ i => simp at hi⟩
theorem inw_fr {V W : World} {b : Option Addr} {css : List (List Value)} (h : InW V b sz css) (hF : Fr (fun b => V.heap.size ≤ b) V W) : InW W b sz css := InW.bel h (hF.below (Nat.le_refl _) (fun _ h => h))
theorem InW.take' {W : World} {b : Option Addr} {xs : List α} (h : InW W b sz (xs.map f)) (n : Nat) : InW W b sz ((xs.take n).map f) := by rw [List.map_take]; exact h.take n
theorem fr_new (V : World) : Fr (fun b => V.heap.size ≤ b) V V := Fr.refl _ _
/-- what an append to a row of one's own leaves -/
theorem fr_append {V W w' : World} {v v' : Value} (hF : Fr (fun b => V.heap.size ≤ b) V W) (hN : ∀ b, v.ownBlock = some b → V.heap.size ≤ b) (f5 : Fr (fun b => v.ownBlock = some b) W w') (h5 : Hence v v' W) :
    Fr (fun b => V.heap.size ≤ b) V w' ∧ (∀ b, v'.ownBlock = some b → V.heap.size ≤ b) := by
  refine ⟨hF.trans f5 (fun b _ e => hN b e), fun b hb => ?_⟩
  rcases h5 with h | h
  · exact hN b (by rw [← h]; exact hb)
  · have := Option.some.inj (h.symm.trans hb)
    have := hF.size
    omega
theorem own_at {g n c : Nat} {N : Nat} (h : N ≤ g) : ∀ b, (Value.slice (some ⟨g, 0, none⟩) n c).ownBlock = some b → N ≤ b := fun b hb => by
  have hb' : g = b := by simpa [Value.ownBlock] using hb
  omega
end
theorem Bk.new' (V : World) (o : Obj) (cs : List Value) (t : TypeId) : Bk ((V.alloc o).alloc (.cells cs.toArray t)) (V.heap.size + 1) cs t := by
  have h := Bk.new (V.alloc o) cs t
  simpa using h
theorem ins_len1 {α : Type} {xs : List α} {k : Nat} (h : xs.length ≤ 900000) : ([] : List α).length + (xs.take k).length ≤ 1000000 := by simp; omega
theorem ins_len2 {α : Type} {xs : List α} {k : Nat} {x : α} (h : xs.length ≤ 900000) : ([] ++ xs.take k).length + [x].length ≤ 1000000 := by simp; omega
theorem ins_len3 {α : Type} {xs : List α} {k : Nat} {x : α} (h : xs.length ≤ 900000) : (([] ++ xs.take k) ++ [x]).length + (xs.drop k).length ≤ 1000000 := by simp; omega
theorem bdrewN {N : Nat} {w W : World} (h : Below N w W) (n : Nat) : Below N w (W.drewN n) := ⟨h.os, h.tape, h.output, h.size, h.block⟩
theorem text_flat (ks : List ByteArray) : ks.flatMap (fun s => [Value.string s]) = ks.map Value.string := by
  induction ks with
  | nil => rfl
  | cons k ks ih => simp [ih]
def tC (s : ByteArray) : List Value := [.string s]
theorem tLen (s : ByteArray) : (tC s).length = 1 := rfl
theorem tOne (s : ByteArray) : ∀ u ∈ tC s, u.oneCell' = true := fun u hu => by
  simp only [tC, List.mem_cons, List.not_mem_nil, or_false] at hu
  subst hu; rfl
theorem tC_flat (ks : List ByteArray) : ks.flatMap tC = ks.map Value.string := text_flat ks
end Go.Proofs.YtbhghelegonbbaaDoor
namespace Go.Proofs.YtbhghelegonbbaaDoor
open Go.RowKit Go.Sort
set_option linter.unusedVariables false
def ltB (a b : ByteArray) : Prop := a.data.toList < b.data.toList
instance (a b : ByteArray) : Decidable (ltB a b) := inferInstanceAs (Decidable (a.data.toList < b.data.toList))
theorem byte_ext {a b : ByteArray} (h : a.data.toList = b.data.toList) : a = b := by
  cases a; cases b
  simp only [ByteArray.mk.injEq]
  exact Array.toList_inj.1 h
theorem ltB_irrefl (a : ByteArray) : ¬ ltB a a := List.lt_irrefl _
theorem ltB_trans {a b c : ByteArray} (h : ltB a b) (k : ltB b c) : ltB a c := List.lt_trans h k
theorem ltB_asymm {a b : ByteArray} (h : ltB a b) : ¬ ltB b a := fun k => ltB_irrefl a (ltB_trans h k)
theorem ltB_total {a b : ByteArray} (h : a ≠ b) : ltB a b ∨ ltB b a := by
  rcases Decidable.em (ltB a b) with h1 | h1
  · exact .inl h1
  rcases Decidable.em (ltB b a) with h2 | h2
  · exact .inr h2
  exact absurd (byte_ext (List.le_antisymm (List.not_lt.1 h2) (List.not_lt.1 h1))) h
theorem bytesLess_lt (a b : ByteArray) : Op.bytesLess a.toList b.toList = decide (ltB a b) := by
  rw [Go.ByteArray.toList_eq, Go.ByteArray.toList_eq, bytesLess_eq]
  exact decide_eq_decide.2 Iff.rfl
theorem bytesEq (a b : ByteArray) : (a.toList == b.toList) = decide (a = b) := by
  rw [Go.ByteArray.toList_eq, Go.ByteArray.toList_eq, Bool.eq_iff_iff]
  simp only [beq_iff_eq, decide_eq_true_eq]
  exact ⟨byte_ext, fun e => by rw [e]⟩
/-- texts, each above the one ahead -/
def Rise (l : List ByteArray) : Prop := l.Pairwise ltB
theorem Rise.nodup {l : List ByteArray} (h : Rise l) : l.Nodup := List.Pairwise.imp (S := fun a b => a ≠ b) (fun {a b} (h : ltB a b) (e : a = b) => ltB_irrefl a (by rw [← e] at h; exact h)) h
theorem Rise.ext {l m : List ByteArray} (hl : Rise l) (hm : Rise m) (h : ∀ x, x ∈ l ↔ x ∈ m) : l = m := by
  have hp : l.Perm m := by
    refine List.perm_ext_iff_of_nodup hl.nodup hm.nodup |>.2 h
  exact hp.eq_of_pairwise (fun a b _ _ h1 h2 => absurd h2 (ltB_asymm h1)) hl hm
def sortB (l : List ByteArray) : List ByteArray := l.mergeSort (fun a b => decide (a.data.toList ≤ b.data.toList))
theorem sortB_perm (l : List ByteArray) : (sortB l).Perm l := List.mergeSort_perm _ _
theorem sortB_rise {l : List ByteArray} (hn : l.Nodup) : Rise (sortB l) := by
  have h1 : (sortB l).Pairwise (fun a b => decide (a.data.toList ≤ b.data.toList) = true) := List.pairwise_mergeSort
    (fun a b c h1 h2 => by simp only [decide_eq_true_eq] at *; exact List.le_trans h1 h2)
    (fun a b => by simp only [Bool.or_eq_true, decide_eq_true_eq]; exact List.le_total _ _) l
  have h2 : (sortB l).Nodup := (sortB_perm l).nodup_iff.2 hn
  refine List.Pairwise.imp (R := fun a b => decide (a.data.toList ≤ b.data.toList) = true ∧ a ≠ b) (fun {a b} h => ?_) (List.Pairwise.and h1 h2)
  rcases ltB_total h.2 with h' | h'
  · exact h'
  · have := List.not_lt.2 (by simpa using h.1 : a.data.toList ≤ b.data.toList)
    exact absurd h' this
end Go.Proofs.YtbhghelegonbbaaDoor
namespace Go.Proofs.YtbhghelegonbbaaDoor
set_option linter.unusedVariables false
/-- how many texts are below one -/
def belowB (ks : List ByteArray) (k : ByteArray) : Nat := (ks.takeWhile fun x => decide (ltB x k)).length
theorem belowB_le (ks : List ByteArray) (k : ByteArray) : belowB ks k ≤ ks.length := by
  unfold belowB
  have := (List.takeWhile_sublist (fun x => decide (ltB x k)) (l := ks)).length_le
  exact this
theorem belowB_lt {ks : List ByteArray} {k : ByteArray} {i : Nat} {x : ByteArray} (hi : i < belowB ks k) (hx : ks[i]? = some x) : ltB x k := by
  induction ks generalizing i with
  | nil => cases hx
  | cons y ks ih =>
    unfold belowB at hi
    rw [List.takeWhile_cons] at hi
    by_cases e : ltB y k
    · rw [if_pos (by simpa using e)] at hi
      cases i with
      | zero => simp at hx; subst hx; exact e
      | succ i => simp at hx hi; exact ih (by unfold belowB; omega) hx
    · rw [if_neg (by simpa using e)] at hi
      simp at hi
theorem belowB_at {ks : List ByteArray} {k x : ByteArray} (hx : ks[belowB ks k]? = some x) : ¬ ltB x k := by
  induction ks with
  | nil => cases hx
  | cons y ks ih =>
    unfold belowB at hx
    rw [List.takeWhile_cons] at hx
    by_cases e : ltB y k
    · rw [if_pos (by simpa using e)] at hx
      simp at hx
      exact ih hx
    · rw [if_neg (by simpa using e)] at hx
      simp at hx
      subst hx; exact e
/-- a text put where it belongs -/
def putB (ks : List ByteArray) (k : ByteArray) : List ByteArray := if ks[belowB ks k]? = some k then ks else ks.take (belowB ks k) ++ k :: ks.drop (belowB ks k)
theorem belowB_ge {ks : List ByteArray} {k : ByteArray} (h : Rise ks) {i : Nat} {x : ByteArray} (hi : belowB ks k ≤ i) (hx : ks[i]? = some x) : ¬ ltB x k := by
  have hil := (List.getElem?_eq_some_iff.1 hx).1
  have hb : belowB ks k < ks.length := by omega
  have hy : ks[belowB ks k]? = some ks[belowB ks k] := List.getElem?_eq_getElem hb
  have h1 := belowB_at hy
  by_cases e : belowB ks k = i
  · subst e
    exact belowB_at hx
  · have h2 := List.pairwise_iff_getElem.1 h (belowB ks k) i hb hil (by omega)
    have h3 := (List.getElem?_eq_some_iff.1 hx).2
    rw [h3] at h2
    exact fun c => h1 (ltB_trans h2 c)
theorem putB_mem (ks : List ByteArray) (k x : ByteArray) : x ∈ putB ks k ↔ x = k ∨ x ∈ ks := by
  unfold putB
  by_cases e : ks[belowB ks k]? = some k
  · rw [if_pos e]
    exact ⟨.inr, fun h => h.elim (fun h => h ▸ List.mem_of_getElem? e) id⟩
  · rw [if_neg e]
    rw [List.mem_append, List.mem_cons]
    have : x ∈ ks ↔ x ∈ ks.take (belowB ks k) ∨ x ∈ ks.drop (belowB ks k) := by
      conv => lhs; rw [← List.take_append_drop (belowB ks k) ks]
      exact List.mem_append
    rw [this]
    constructor
    · rintro (h | h | h)
      · exact .inr (.inl h)
      · exact .inl h
      · exact .inr (.inr h)
    · rintro (h | h | h)
      · exact .inr (.inl h)
      · exact .inl h
      · exact .inr (.inr h)
theorem putB_rise {ks : List ByteArray} (h : Rise ks) (k : ByteArray) : Rise (putB ks k) := by
  unfold putB
  by_cases e : ks[belowB ks k]? = some k
  · rw [if_pos e]; exact h
  · rw [if_neg e]
    have hlow : ∀ x ∈ ks.take (belowB ks k), ltB x k := fun x hx => by
      obtain ⟨i, hi, ei⟩ := List.mem_iff_getElem.1 hx
      have hi' : i < belowB ks k ∧ i < ks.length := by simp at hi; omega
      simp at ei
      exact belowB_lt hi'.1 (by rw [List.getElem?_eq_getElem hi'.2, ei])
    have hhigh : ∀ x ∈ ks.drop (belowB ks k), ltB k x := fun x hx => by
      obtain ⟨i, hi, ei⟩ := List.mem_iff_getElem.1 hx
      have hi' : belowB ks k + i < ks.length := by rw [List.length_drop] at hi; omega
      rw [List.getElem_drop] at ei
      have hx' : ks[belowB ks k + i]? = some x := by rw [List.getElem?_eq_getElem hi', ei]
      have h1 := belowB_ge h (Nat.le_add_right _ i) hx'
      have hne : x ≠ k := fun c => by
        subst c
        by_cases hz : i = 0
        · subst hz; exact e hx'
        · have hb : belowB ks x < ks.length := by omega
          have h2 := List.pairwise_iff_getElem.1 h (belowB ks x) (belowB ks x + i) hb hi' (by omega)
          rw [ei] at h2
          exact belowB_at (List.getElem?_eq_getElem hb) h2
      rcases ltB_total hne with h' | h'
      · exact absurd h' h1
      · exact h'
    unfold Rise
    rw [List.pairwise_append, List.pairwise_cons]
    refine ⟨h.sublist (List.take_sublist _ _), ⟨hhigh, h.sublist (List.drop_sublist _ _)⟩, fun a ha b hb => ?_⟩
    rcases List.mem_cons.1 hb with rfl | hb
    · exact hlow a ha
    · exact ltB_trans (hlow a ha) (hhigh b hb)
end Go.Proofs.YtbhghelegonbbaaDoor
namespace Go.Proofs.YtbhghelegonbbaaDoor
open Go.RowKit
set_option linter.unusedVariables false
theorem below_of_fr {S : Nat → Prop} {w0 w w' : World} (h : Below w0.heap.size w0 w) (hf : Fr S w w') (hS : ∀ b, S b → w0.heap.size ≤ b) : Below w0.heap.size w0 w' := h.trans (hf.below h.size hS)
def Sprd (w : World) (B B' : List Nat) : Prop := ∀ b ∈ B', b ∈ B ∨ w.heap.size ≤ b
def Aprt (B C : List Nat) : Prop := ∀ b ∈ B, b ∉ C
/-- a kind of things: what it means that one is there, in blocks -/
structure Kind (Ob : Type) where
  Holds : World → Ob → List Nat → Prop
  fr : ∀ {S : Nat → Prop} {w w' : World} {o : Ob} {B : List Nat}, Holds w o B → Fr S w w' → (∀ b ∈ B, ¬ S b) → Holds w' o B
  lt : ∀ {w : World} {o : Ob} {B : List Nat}, Holds w o B → ∀ b ∈ B, b < w.heap.size
section
variable {Ob : Type} {K : Kind Ob}
/-- all that a call has made, and nothing that was there has changed -/
structure Here (K : Kind Ob) (w0 w : World) (os : List Ob) : Prop where
  bel : Below w0.heap.size w0 w
  ex : ∃ Bs : Nat → List Nat, (∀ i o, os[i]? = some o → K.Holds w o (Bs i) ∧ ∀ b ∈ Bs i, w0.heap.size ≤ b) ∧ ∀ i j oi oj, i ≠ j → os[i]? = some oi → os[j]? = some oj → Aprt (Bs i) (Bs j)
theorem Here.nil {w0 w : World} (h : Below w0.heap.size w0 w) : Here K w0 w [] := ⟨h, fun _ => [], by simp, by simp⟩
theorem Here.still {w0 w w' : World} {os : List Ob} (h : Here K w0 w os) (hf : Fr none' w w') : Here K w0 w' os := by
  obtain ⟨Bs, h1, h2⟩ := h.ex
  exact ⟨below_of_fr h.bel hf (fun _ e => e.elim), Bs, fun i o hi => ⟨K.fr (h1 i o hi).1 hf (fun _ _ => id), (h1 i o hi).2⟩, h2⟩
theorem Here.step_bel {w0 w w' : World} {os : List Ob} (h : Here K w0 w os) (hb : Below w.heap.size w w') : Here K w0 w' os := h.still (Fr.of_bel hb)
theorem Here.drew {w0 w : World} {os : List Ob} (h : Here K w0 w os) : Here K w0 w.drew os := h.still (Fr.refl _ _).drew
theorem Here.drewN {w0 w : World} {os : List Ob} (h : Here K w0 w os) (n : Nat) : Here K w0 (w.drewN n) os := h.still ((Fr.refl _ _).drewN n)
/-- a new one -/
theorem Here.push {w0 w w' : World} {os : List Ob} (h : Here K w0 w os) (hb : Below w.heap.size w w') {o : Ob} {B : List Nat} (ho : K.Holds w' o B) (hB : ∀ b ∈ B, w.heap.size ≤ b) : Here K w0 w' (os ++ [o]) := by
  have hz := h.bel.size
  have hlt : ∀ i o', os[i]? = some o' → i < os.length := fun i o' hi => (List.getElem?_eq_some_iff.1 hi).1
  obtain ⟨Bs, h1, h2⟩ := h.ex
  have hs := (h.step_bel hb)
  refine ⟨hs.bel, fun i => if i < os.length then Bs i else B, fun i o' hi => ?_, fun i j oi oj hij hi hj => ?_⟩
  · rw [List.getElem?_append] at hi
    dsimp only
    by_cases e : i < os.length
    · rw [if_pos e] at hi ⊢
      exact ⟨K.fr (h1 i o' hi).1 (Fr.of_bel (S := none') hb) (fun _ _ => id), (h1 i o' hi).2⟩
    · rw [if_neg e] at hi ⊢
      have : o' = o := by
        cases hk : i - os.length with
        | zero => rw [hk] at hi; simpa using hi.symm
        | succ k => rw [hk] at hi; simp at hi
      subst this
      exact ⟨ho, fun b hb' => by have := hB b hb'; omega⟩
  · have hlast : ∀ i o', (os ++ [o])[i]? = some o' → ¬ i < os.length → i = os.length := fun i o' hi hn => by
      have := (List.getElem?_eq_some_iff.1 hi).1
      simp at this; omega
    by_cases ei : i < os.length
    · by_cases ej : j < os.length
      · simp only [if_pos ei, if_pos ej]
        rw [List.getElem?_append_left ei] at hi
        rw [List.getElem?_append_left ej] at hj
        exact h2 i j oi oj hij hi hj
      · simp only [if_pos ei, if_neg ej]
        rw [List.getElem?_append_left ei] at hi
        exact fun b hb' hc => by have := K.lt (h1 i oi hi).1 b hb'; have := hB b hc; omega
    · by_cases ej : j < os.length
      · simp only [if_neg ei, if_pos ej]
        rw [List.getElem?_append_left ej] at hj
        exact fun b hb' hc => by have := K.lt (h1 j oj hj).1 b hc; have := hB b hb'; omega
      · exact absurd ((hlast i oi hi ei).trans (hlast j oj hj ej).symm) hij
/-- the first ones -/
theorem Here.init {w0 w : World} {os us : List Ob} (h : Here K w0 w (os ++ us)) : Here K w0 w os := by
  obtain ⟨Bs, h1, h2⟩ := h.ex
  have hup : ∀ i o, os[i]? = some o → (os ++ us)[i]? = some o := fun i o hi => by
    rw [List.getElem?_append_left (List.getElem?_eq_some_iff.1 hi).1]; exact hi
  exact ⟨h.bel, Bs, fun i o hi => h1 i o (hup i o hi), fun i j oi oj hij hi hj => h2 i j oi oj hij (hup i oi hi) (hup j oj hj)⟩
/-- one of them, and how it may be changed -/
theorem Here.use {w0 w : World} {os : List Ob} (h : Here K w0 w os) {i : Nat} {o : Ob} (hi : os[i]? = some o) :
    ∃ B, K.Holds w o B ∧ (∀ b ∈ B, w0.heap.size ≤ b) ∧ (∀ w' o' B', K.Holds w' o' B' → Fr (fun b => b ∈ B) w w' → Sprd w B B' → Here K w0 w' (os.set i o')) ∧ ∀ j oj, j ≠ i → os[j]? = some oj → ∃ C, K.Holds w oj C ∧ Aprt B C := by
  obtain ⟨Bs, h1, h2⟩ := h.ex
  have hil := (List.getElem?_eq_some_iff.1 hi).1
  refine ⟨Bs i, (h1 i o hi).1, (h1 i o hi).2, fun w' o' B' ho hf hs => ?_, fun j oj hj hoj => ⟨Bs j, (h1 j oj hoj).1, h2 i j o oj (fun e => hj e.symm) hi hoj⟩⟩
  have hz := h.bel.size
  refine ⟨below_of_fr h.bel hf (fun b hb => (h1 i o hi).2 b hb), fun j => if j = i then B' else Bs j, fun j oj hj => ?_, fun j k oj ok hjk hj hk => ?_⟩
  · dsimp only
    by_cases e : j = i
    · subst e
      rw [List.getElem?_set_self hil] at hj
      cases hj
      rw [if_pos rfl]
      refine ⟨ho, fun b hb => ?_⟩
      rcases hs b hb with h' | h'
      · exact (h1 j o hi).2 b h'
      · omega
    · rw [List.getElem?_set_ne (fun c => e c.symm)] at hj
      rw [if_neg e]
      exact ⟨K.fr (h1 j oj hj).1 hf (fun b hb hc => h2 j i oj o e hj hi b hb hc), (h1 j oj hj).2⟩
  · dsimp only
    by_cases ej : j = i
    · subst ej
      have ek : ¬ k = j := fun c => hjk c.symm
      rw [List.getElem?_set_ne (fun c => ek c.symm)] at hk
      rw [if_pos rfl, if_neg ek]
      intro b hb hc
      rcases hs b hb with h' | h'
      · exact h2 j k o ok hjk hi hk b h' hc
      · have := K.lt (h1 k ok hk).1 b hc; omega
    · rw [List.getElem?_set_ne (fun c => ej c.symm)] at hj
      by_cases ek : k = i
      · subst ek
        rw [if_neg ej, if_pos rfl]
        intro b hb hc
        rcases hs b hc with h' | h'
        · exact h2 j k oj o hjk hj hi b hb h'
        · have := K.lt (h1 j oj hj).1 b hb; omega
      · rw [List.getElem?_set_ne (fun c => ek c.symm)] at hk
        simp only [if_neg ej, if_neg ek]
        exact h2 j k oj ok hjk hj hk
end
end Go.Proofs.YtbhghelegonbbaaDoor
namespace Go.Proofs.YtbhghelegonbbaaDoor
open Go.RowKit Go.MapKept Go.Maps
set_option linter.unusedVariables false
def encS (s : ByteArray) : Value := .string s
def okS (s : ByteArray) : Prop := s.size ≤ maxLen
theorem keyS : KeyEnc Tryd.prog 9 encS okS where
  law := string_keyed Tryd.underlying9
  key := fun {a} h => ⟨_, WideMaps.keyOf_string_mk Tryd.underlying9 h⟩
  inj := fun {a b} h => by simpa [encS] using h
def I64 (x : Int) : Prop := -9223372036854775808 ≤ x ∧ x ≤ 9223372036854775807
theorem wf64 {q : Int} (h : I64 q) : (Lit.int .i64 q).wf = true := by
  unfold I64 at h
  simp only [Lit.wf, Bool.and_eq_true, decide_eq_true_eq]
  exact h
theorem i64_wf {q : Int} (h : (Lit.int .i64 q).wf = true) : I64 q := by
  simp only [Lit.wf, Bool.and_eq_true, decide_eq_true_eq] at h
  exact h
theorem ret_bool {a b : Bool} (h : a = b) : Ending.returned (.bool a) = .returned (.bool b) := by rw [h]
theorem bk_at {W : World} {n : Nat} (cs : List Value) (t : TypeId) (h : W.heap.size = n) : Bk (W.alloc (.cells cs.toArray t)) n cs t := by subst h; exact Bk.new W cs t
theorem infoText : (Tryd.prog.info? 9).map (fun i => (i.zero, i.size, i.bytes)) = some (some (.string ⟨#[]⟩), 1, 16) := by kernel_rfl
theorem own_nil (w : World) (e : TypeId) : w.ownsRow 0 e 1 (.slice none 0 0) 0 [] := ⟨rfl, .inl ⟨rfl, rfl⟩⟩
theorem own_lt {w : World} {v : Value} {n sz : Nat} {e : TypeId} {xs : List Value} (h : w.ownsRow 0 e sz v n xs) {b : Nat} (hb : v.ownBlock = some b) : b < w.heap.size := by
  rcases h.2 with ⟨rfl, _⟩ | ⟨g, cap, cur, rfl, _, hg, _⟩
  · cases hb
  · have : g = b := by simpa [Value.ownBlock] using hb
    subst this
    exact lt_of_at hg
/-- a row of texts of the call's own -/
def TextsAt (w : World) (v : Value) (ks : List ByteArray) : Prop := w.ownsRow 0 9 1 v ks.length (ks.map Value.string)
theorem TextsAt.strs {w : World} {v : Value} {ks : List ByteArray} (h : TextsAt w v ks) : ∃ b cap, v = .slice b ks.length cap ∧ ks.length ≤ cap ∧ cap ≤ maxLen ∧ Strs w b ks := by
  obtain ⟨b, cap, h1, h2, h3, h4, h5⟩ := inw_of_row Value.string h
  exact ⟨b, cap, h1, h2, h3, h4⟩
theorem TextsAt.fr {S : Nat → Prop} {w w' : World} {v : Value} {ks : List ByteArray} (h : TextsAt w v ks) (hf : Fr S w w') (hs : ∀ b, v.ownBlock = some b → ¬ S b) : TextsAt w' v ks := hf.row h hs
theorem TextsAt.bel {w w' : World} {v : Value} {ks : List ByteArray} (h : TextsAt w v ks) (hb : Below w.heap.size w w') : TextsAt w' v ks := h.fr (Fr.of_bel (S := none') hb) (fun _ _ => id)
theorem TextsAt.flat {w : World} {v : Value} {ks : List ByteArray} (h : TextsAt w v ks) : w.ownsRow 0 9 1 v ks.length (ks.flatMap tC) := by rw [tC_flat]; exact h
/-- a row of texts that a call is making -/
structure MkT (w0 wr : World) (u : Value) (ks : List ByteArray) : Prop where
  tx : TextsAt wr u ks
  nw : ∀ b, u.ownBlock = some b → w0.heap.size ≤ b
  bl : Below w0.heap.size w0 wr
theorem MkT.bel {w0 wr w' : World} {u : Value} {ks : List ByteArray} (h : MkT w0 wr u ks) (hb : Below wr.heap.size wr w') : MkT w0 w' u ks :=
  ⟨h.tx.bel hb, h.nw, h.bl.trans (hb.mono h.bl.size)⟩
theorem MkT.alloc {w0 wr : World} {u : Value} {ks : List ByteArray} (h : MkT w0 wr u ks) (o : Obj) : MkT w0 (wr.alloc o) u ks := h.bel ((Below.refl _ _).alloc (Nat.le_refl _) _)
theorem MkT.drewN {w0 wr : World} {u : Value} {ks : List ByteArray} (h : MkT w0 wr u ks) (n : Nat) : MkT w0 (wr.drewN n) u ks := h.bel (bdrewN (Below.refl _ _) n)
theorem MkT.drew {w0 wr : World} {u : Value} {ks : List ByteArray} (h : MkT w0 wr u ks) : MkT w0 wr.drew u ks := h.drewN 1
/-- behind an append -/
theorem MkT.more {w0 wr w' : World} {u u' : Value} {ks ks' : List ByteArray} (h : MkT w0 wr u ks) (ho : w'.ownsRow 0 9 1 u' ks'.length (ks'.flatMap tC)) (hf : Fr (fun b => u.ownBlock = some b) wr w') (he : Hence u u' wr) : MkT w0 w' u' ks' := by
  refine ⟨by unfold TextsAt; rw [← tC_flat]; exact ho, fun b hb => ?_, h.bl.trans (hf.below h.bl.size (fun b hb => h.nw b hb))⟩
  rcases he with e | e
  · exact h.nw b (by rw [← e]; exact hb)
  · have := Option.some.inj (e.symm.trans hb)
    have := h.bl.size
    omega
theorem MkT.empty (w : World) : MkT w (w.alloc (.cells #[] 9)) (.slice (some ⟨w.heap.size, 0, none⟩) 0 0) [] := ⟨texts_empty w 9, own_at (Nat.le_refl _), (Below.refl _ _).alloc (Nat.le_refl _) _⟩
theorem MkT.nil (w : World) : MkT w w (.slice none 0 0) [] := ⟨own_nil w _, by simp [Value.ownBlock], Below.refl _ _⟩
section
variable {α β γ : Type} [DecidableEq α]
theorem mget_map (f : β → γ) (m : List (α × β)) (a : α) : mget (m.map fun x => (x.1, f x.2)) a = (mget m a).map f := by
  induction m with
  | nil => rfl
  | cons p m ih =>
    simp only [List.map_cons, mget, ih]
    split <;> rfl
theorem mput_map (f : β → γ) (m : List (α × β)) (a : α) (v : β) : mput (m.map fun x => (x.1, f x.2)) a (f v) = (mput m a v).map fun x => (x.1, f x.2) := by
  induction m with
  | nil => rfl
  | cons p m ih =>
    simp only [List.map_cons, mput, ih]
    split <;> rfl
theorem mdel_map (f : β → γ) (m : List (α × β)) (a : α) : mdel (m.map fun x => (x.1, f x.2)) a = (mdel m a).map fun x => (x.1, f x.2) := by
  induction m with
  | nil => rfl
  | cons p m ih =>
    simp only [List.map_cons, mdel, ih]
    split <;> rfl
omit [DecidableEq α] in
theorem mkeys_map (f : β → γ) (m : List (α × β)) : mkeys (m.map fun x => (x.1, f x.2)) = mkeys m := by
  unfold mkeys; rw [List.map_map]; rfl
end
/-- what a call has made joins what is here -/
theorem Here.adopt {Ob : Type} {K : Kind Ob} {w0 w w' : World} {os : List Ob} {o : Ob} (h : Here K w0 w os) (g : Here K w w' [o]) : Here K w0 w' (os ++ [o]) := by
  obtain ⟨B, h1, h2, _⟩ := g.use (i := 0) rfl
  exact h.push g.bel h1 h2
/-- rows are alike -/
def memB (ks : List ByteArray) (k : ByteArray) : Bool := ks.any fun x => decide (x = k)
theorem memB_iff (ks : List ByteArray) (k : ByteArray) : memB ks k = true ↔ k ∈ ks := by
  unfold memB
  rw [List.any_eq_true]
  constructor
  · rintro ⟨x, h1, h2⟩
    have := of_decide_eq_true h2
    exact this ▸ h1
  · exact fun h => ⟨k, h, decide_eq_true rfl⟩
theorem memB_no {ks : List ByteArray} {k : ByteArray} (h : k ∉ ks) : memB ks k = false := by
  cases e : memB ks k with
  | false => rfl
  | true => exact absurd ((memB_iff ks k).1 e) h
end Go.Proofs.YtbhghelegonbbaaDoor
namespace Go.Proofs.YtbhghelegonbbaaDoor
open Go.RowKit
structure MkG {α : Type} (t : TypeId) (sz : Nat) (f : α → List Value) (w0 wr : World) (u : Value) (xs : List α) : Prop where
  tx : wr.ownsRow 0 t sz u xs.length (xs.flatMap f)
  nw : ∀ b, u.ownBlock = some b → w0.heap.size ≤ b
  bl : Below w0.heap.size w0 wr
section
variable {α : Type} {t : TypeId} {sz : Nat} {f : α → List Value} {w0 wr w' : World} {u u' : Value} {xs xs' : List α}
theorem MkG.bel (h : MkG t sz f w0 wr u xs) (hb : Below wr.heap.size wr w') : MkG t sz f w0 w' u xs :=
  ⟨(Fr.of_bel (S := none') hb).row h.tx (fun _ _ => id), h.nw, h.bl.trans (hb.mono h.bl.size)⟩
theorem MkG.alloc (h : MkG t sz f w0 wr u xs) (o : Obj) : MkG t sz f w0 (wr.alloc o) u xs := h.bel ((Below.refl _ _).alloc (Nat.le_refl _) _)
theorem MkG.drewN (h : MkG t sz f w0 wr u xs) (n : Nat) : MkG t sz f w0 (wr.drewN n) u xs := h.bel (bdrewN (Below.refl _ _) n)
theorem MkG.drew (h : MkG t sz f w0 wr u xs) : MkG t sz f w0 wr.drew u xs := h.drewN 1
theorem MkG.more (h : MkG t sz f w0 wr u xs) (ho : w'.ownsRow 0 t sz u' xs'.length (xs'.flatMap f)) (hf : Fr (fun b => u.ownBlock = some b) wr w') (he : Hence u u' wr) : MkG t sz f w0 w' u' xs' := by
  refine ⟨ho, fun b hb => ?_, h.bl.trans (hf.below h.bl.size (fun b hb => h.nw b hb))⟩
  rcases he with e | e
  · exact h.nw b (by rw [← e]; exact hb)
  · have := Option.some.inj (e.symm.trans hb)
    have := h.bl.size
    omega
theorem MkG.empty (w : World) : MkG t sz f w (w.alloc (.cells #[] t)) (.slice (some ⟨w.heap.size, 0, none⟩) 0 0) [] :=
  ⟨row_empty (f := f) (Bk.new w [] t), own_at (Nat.le_refl _), (Below.refl _ _).alloc (Nat.le_refl _) _⟩
theorem MkG.nil (w : World) : MkG t sz f w w (.slice none 0 0) [] := ⟨⟨by simp, .inl ⟨rfl, rfl⟩⟩, by simp [Value.ownBlock], Below.refl _ _⟩
/-- begun later -/
theorem MkG.from {w : World} (h : MkG t sz f w wr u xs) (hb : Below w0.heap.size w0 w) : MkG t sz f w0 wr u xs :=
  ⟨h.tx, fun b hb' => Nat.le_trans hb.size (h.nw b hb'), hb.trans (h.bl.mono hb.size)⟩
theorem MkG.read (hf : ∀ a, (f a).length = sz) (hsz : 0 < sz) (h : MkG t sz f w0 wr u xs) : ∃ b cap, u = .slice b xs.length cap ∧ xs.length ≤ cap ∧ cap ≤ maxLen ∧ InW wr b sz (xs.map f) := by
  obtain ⟨b, cap, h1, h2, h3, h4, _⟩ := inw_of_rowm hf hsz h.tx
  exact ⟨b, cap, h1, h2, h3, h4⟩
end
end Go.Proofs.YtbhghelegonbbaaDoor
namespace Go.Proofs.YtbhghelegonbbaaDoor
open Go.RowKit
theorem bel2 (w : World) (o1 o2 : Obj) : Below w.heap.size w ((w.alloc o1).alloc o2) :=
  ((Below.refl _ _).alloc (Nat.le_refl _) _).alloc (by simp) _

/-- a block of two cells of the call's own -/
def Two (w : World) (g : Nat) (x y : Value) (t : TypeId) : Prop := w.heap[g]? = some (.cells #[x, y] t (0, 0))
theorem Two.c0 {w : World} {g : Nat} {x y : Value} {t : TypeId} (h : Two w g x y t) : w.cell? ⟨g, 0, none⟩ = some x := by rw [cell_of_row _ _ _ _ _ _ h]; rfl
theorem Two.c1 {w : World} {g : Nat} {x y : Value} {t : TypeId} (h : Two w g x y t) : w.cell? ⟨g, 1, none⟩ = some y := by rw [cell_of_row _ _ _ _ _ _ h]; rfl
theorem Two.f {w : World} {g : Nat} {x y : Value} {t : TypeId} (h : Two w g x y t) (i : Nat) : w.frozen? ⟨g, i, none⟩ = false := frozen_of_row _ _ _ _ _ h
theorem Two.lt {w : World} {g : Nat} {x y : Value} {t : TypeId} (h : Two w g x y t) : g < w.heap.size := by
  rcases Nat.lt_or_ge g w.heap.size with k | k
  · exact k
  · simp [Two, Array.getElem?_eq_none k] at h
theorem Two.bel {w w' : World} {g : Nat} {x y : Value} {t : TypeId} (h : Two w g x y t) (hb : Below w.heap.size w w') : Two w' g x y t := (hb.block g h.lt).trans h
theorem Two.set {w : World} {g : Nat} {x y : Value} {t : TypeId} (h : Two w g x y t) (x' y' : Value) : Two ((w.setCell ⟨g, 0, none⟩ x').setCell ⟨g, 1, none⟩ y') g x' y' t := by
  have h1 := heap_setCell_same w g 0 _ t x' h
  have h2 := heap_setCell_same _ g 1 _ t y' h1
  exact h2
theorem Two.other {w : World} {g : Nat} {x y : Value} {t : TypeId} (h : Two w g x y t) (k : Nat) (hk : g ≠ k) (x' y' : Value) : Two ((w.setCell ⟨k, 0, none⟩ x').setCell ⟨k, 1, none⟩ y') g x y t := by
  unfold Two; rw [heap_setCell_other _ _ _ _ hk, heap_setCell_other _ _ _ _ hk]; exact h
theorem Two.new (w : World) (x y : Value) (t : TypeId) : Two (w.alloc (.cells #[x, y] t)) w.heap.size x y t := heap_alloc_new w _
theorem Two.old {w : World} {g : Nat} {x y : Value} {t : TypeId} (h : Two w g x y t) (o : Obj) : Two (w.alloc o) g x y t := (Below.heap_alloc w o g h.lt).trans h
theorem Two.drew {w : World} {g : Nat} {x y : Value} {t : TypeId} (h : Two w g x y t) : Two w.drew g x y t := h

theorem World.size_alloc (w : World) (o : Obj) : (w.alloc o).heap.size = w.heap.size + 1 := by simp
theorem two_facts {w : World} {g : Nat} {x y : Value} {t : TypeId} (h : Two w g x y t) : w.cell? ⟨g, 0, none⟩ = some x ∧ w.cell? ⟨g, 1, none⟩ = some y ∧ w.frozen? ⟨g, 0, none⟩ = false ∧ w.frozen? ⟨g, 1, none⟩ = false ∧ g < w.heap.size :=
  ⟨h.c0, h.c1, h.f 0, h.f 1, h.lt⟩
theorem bel_alloc {V w : World} (h : Below V.heap.size V w) (o : Obj) : Below V.heap.size V (w.alloc o) := h.alloc h.size o
theorem bel_trans {V w w' : World} (h : Below V.heap.size V w) (k : Below w.heap.size w w') : Below V.heap.size V w' := h.trans (k.mono h.size)
theorem bel_set {V w : World} (h : Below V.heap.size V w) (g i : Nat) (v : Value) (hg : V.heap.size ≤ g) : Below V.heap.size V (w.setCell ⟨g, i, none⟩ v) := h.setCell hg v
theorem two_keep {V X : World} {g k : Nat} {x y x' y' : Value} {t t' : TypeId} (i1 : Two V g x y t) (i2 : Two V k x' y' t') (hb : Below V.heap.size V X) :
    X.cell? ⟨g, 0, none⟩ = some x ∧ X.cell? ⟨g, 1, none⟩ = some y ∧ X.cell? ⟨k, 0, none⟩ = some x' ∧ X.cell? ⟨k, 1, none⟩ = some y' :=
  ⟨(i1.bel hb).c0, (i1.bel hb).c1, (i2.bel hb).c0, (i2.bel hb).c1⟩

theorem cell_keep {w w' : World} (hb : Below w.heap.size w w') {g i : Nat} {x : Value} (h : w.cell? ⟨g, i, none⟩ = some x) : w'.cell? ⟨g, i, none⟩ = some x := by
  rw [hb.cell (p := ⟨g, i, none⟩) (block_lt_of_cell h)]; exact h
theorem two_cells_keep {w w' : World} (hb : Below w.heap.size w w') {g k : Nat} {x y x' y' : Value} (h0 : w.cell? ⟨g, 0, none⟩ = some x) (h1 : w.cell? ⟨g, 1, none⟩ = some y) (h2 : w.cell? ⟨k, 0, none⟩ = some x') (h3 : w.cell? ⟨k, 1, none⟩ = some y') :
    w'.cell? ⟨g, 0, none⟩ = some x ∧ w'.cell? ⟨g, 1, none⟩ = some y ∧ w'.cell? ⟨k, 0, none⟩ = some x' ∧ w'.cell? ⟨k, 1, none⟩ = some y' :=
  ⟨cell_keep hb h0, cell_keep hb h1, cell_keep hb h2, cell_keep hb h3⟩

theorem Two.news {w : World} (x y x' y' : Value) (t t' : TypeId) : Two ((w.alloc (.cells #[x, y] t)).alloc (.cells #[x', y'] t')) (w.heap.size + 1) x' y' t' := by
  have h := Two.new (w.alloc (.cells #[x, y] t)) x' y' t'
  rw [World.size_alloc] at h; exact h
end Go.Proofs.YtbhghelegonbbaaDoor

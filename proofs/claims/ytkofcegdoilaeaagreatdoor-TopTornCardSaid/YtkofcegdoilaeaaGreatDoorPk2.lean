/- Memory of the call's own: what a step may change, rows that are owned and how an append leaves them. No program in sight. Cells of one block written one behind the other; the builtin copy at the operation. No program in sight. Texts, rising. No program in sight. A text put into rising texts: plain laws. No program in sight. Maps of the call's own: what they hold as a list of pairs, in the order in which they were laid. No program in sight. Disks: files that rise by name, a fuse, whether it is down: plain laws. No program in sight. -/
import Derived.WalkKit
import Derived.Lib.Hide
import Derived.WalkSmall
import Derived.Laws.IdiomCopy
import Derived.Deep.RegionLaw
import Derived.Sort.OwnSorted
import Derived.Sort.Walk0
import Derived.Laws.Strings
import Derived.Maps.Keyed
import Derived.Maps.Own
import Derived.Maps.OwnOps
import Derived.Maps.OwnSet
import Derived.Maps.RangeRun
import Derived.Maps.RangeWalk
namespace Go.Proofs.YtkofcegdoilaeaaGreatDoor
open Go.RowKit

/-- blocks of w outside S are as they were, and nothing has gone -/
structure Fr (S : Nat → Prop) (w w' : World) : Prop where
  os : w'.os = w.os
  tape : w'.tape = w.tape
  output : w'.output = w.output
  size : w.heap.size ≤ w'.heap.size
  block : ∀ k, k < w.heap.size → ¬ S k → w'.heap[k]? = w.heap[k]?
def none' : Nat → Prop := fun _ => False
theorem Fr.refl (S : Nat → Prop) (w : World) : Fr S w w := ⟨rfl, rfl, rfl, Nat.le_refl _, fun _ _ _ => rfl⟩
theorem Fr.trans {S T : Nat → Prop} {a b c : World} (h : Fr S a b) (k : Fr T b c) (hT : ∀ i, i < a.heap.size → T i → S i) : Fr S a c :=
  ⟨k.os.trans h.os, k.tape.trans h.tape, k.output.trans h.output, Nat.le_trans h.size k.size, fun i hi hs => (k.block i (Nat.lt_of_lt_of_le hi h.size) (fun ht => hs (hT i hi ht))).trans (h.block i hi hs)⟩
theorem Fr.mono {S T : Nat → Prop} {a b : World} (h : Fr S a b) (hT : ∀ i, i < a.heap.size → S i → T i) : Fr T a b :=
  ⟨h.os, h.tape, h.output, h.size, fun i hi hs => h.block i hi (fun k => hs (hT i hi k))⟩
theorem Fr.drew {S : Nat → Prop} {a w : World} (h : Fr S a w) : Fr S a w.drew := ⟨h.os, h.tape, h.output, h.size, h.block⟩
theorem Fr.drewN {S : Nat → Prop} {a w : World} (h : Fr S a w) (n : Nat) : Fr S a (w.drewN n) := ⟨h.os, h.tape, h.output, h.size, h.block⟩
theorem Fr.alloc {S : Nat → Prop} {a w : World} (h : Fr S a w) (o : Obj) : Fr S a (w.alloc o) :=
  h.trans (T := none') ⟨rfl, rfl, rfl, by simp, fun k hk _ => Below.heap_alloc _ _ _ hk⟩ (fun _ _ h => h.elim)
theorem Fr.setCell {S : Nat → Prop} {a w : World} (h : Fr S a w) (g i : Nat) (u : Value) (hg : a.heap.size ≤ g ∨ S g) : Fr S a (w.setCell ⟨g, i, none⟩ u) :=
  h.trans (T := fun b => b = g) ⟨rfl, rfl, rfl, by simp [World.setCell], fun k _ hs => Below.heap_setCell _ _ _ _ hs⟩ (fun i hi e => by subst e; rcases hg with h | h; omega; exact h)
theorem Fr.bel {S : Nat → Prop} {a w w' : World} (h : Fr S a w) (hb : Below w.heap.size w w') : Fr S a w' :=
  h.trans (T := none') ⟨hb.os, hb.tape, hb.output, hb.size, fun k hk _ => hb.block k hk⟩ (fun _ _ h => h.elim)
theorem Fr.of_bel {S : Nat → Prop} {w w' : World} (hb : Below w.heap.size w w') : Fr S w w' := (Fr.refl S w).bel hb
theorem Fr.of_grown {w w' : World} {r : Option Nat} (h : w.grownBy w' r) : Fr (fun b => r = some b) w w' :=
  ⟨h.os, h.tape, h.output, h.size, fun k hk hs => h.block k hk (fun e => hs e.symm)⟩
theorem Fr.below {S : Nat → Prop} {w w' : World} {B : Nat} (h : Fr S w w') (hB : B ≤ w.heap.size) (hS : ∀ b, S b → B ≤ b) : Below B w w' :=
  ⟨h.os, h.tape, h.output, h.size, fun k hk => h.block k (by omega) (fun s => by have := hS k s; omega)⟩
theorem Fr.at {S : Nat → Prop} {w w' : World} {g : Nat} {o : Obj} (h : Fr S w w') (ha : w.heap[g]? = some o) (hs : ¬ S g) : w'.heap[g]? = some o := by
  rw [h.block g (Array.getElem?_eq_some_iff.1 ha).1 hs]; exact ha
theorem Fr.row {S : Nat → Prop} {w w' : World} {e : TypeId} {sz : Nat} {v : Value} {n : Nat} {xs : List Value} (h : Fr S w w') (hr : w.ownsRow 0 e sz v n xs) (hs : ∀ b, v.ownBlock = some b → ¬ S b) : w'.ownsRow 0 e sz v n xs := by
  refine ⟨hr.1, ?_⟩
  rcases hr.2 with hn | ⟨g, cap, cur, rfl, hb, hg, r⟩
  · exact .inl hn
  · exact .inr ⟨g, cap, cur, rfl, hb, h.at hg (hs g rfl), r⟩
theorem lt_of_at {w : World} {g : Nat} {o : Obj} (h : w.heap[g]? = some o) : g < w.heap.size := (Array.getElem?_eq_some_iff.1 h).1

/-- a block of cells that nobody may not write -/
def Bk (w : World) (g : Nat) (cs : List Value) (t : TypeId) : Prop := w.heap[g]? = some (.cells cs.toArray t (0, 0))
theorem Bk.lt {w : World} {g : Nat} {cs : List Value} {t : TypeId} (h : Bk w g cs t) : g < w.heap.size := lt_of_at h
theorem Bk.cell {w : World} {g : Nat} {cs : List Value} {t : TypeId} (h : Bk w g cs t) (i : Nat) : w.cell? ⟨g, i, none⟩ = cs[i]? := by
  rw [cell_of_row _ _ _ _ _ _ h]; simp
theorem Bk.free {w : World} {g : Nat} {cs : List Value} {t : TypeId} (h : Bk w g cs t) (i : Nat) : w.frozen? ⟨g, i, none⟩ = false := frozen_of_row _ _ _ _ _ h
theorem Bk.fr {S : Nat → Prop} {w w' : World} {g : Nat} {cs : List Value} {t : TypeId} (h : Bk w g cs t) (hf : Fr S w w') (hs : ¬ S g) : Bk w' g cs t := hf.at h hs
theorem Bk.bel {w w' : World} {g : Nat} {cs : List Value} {t : TypeId} (h : Bk w g cs t) (hb : Below w.heap.size w w') : Bk w' g cs t := (hb.block g h.lt).trans h
theorem Bk.old {w : World} {g : Nat} {cs : List Value} {t : TypeId} (h : Bk w g cs t) (o : Obj) : Bk (w.alloc o) g cs t := (Below.heap_alloc w o g h.lt).trans h
theorem Bk.new (w : World) (cs : List Value) (t : TypeId) : Bk (w.alloc (.cells cs.toArray t)) w.heap.size cs t := heap_alloc_new w _
theorem Bk.set {w : World} {g : Nat} {cs : List Value} {t : TypeId} (h : Bk w g cs t) (i : Nat) (u : Value) : Bk (w.setCell ⟨g, i, none⟩ u) g (cs.set i u) t := by
  have h1 := heap_setCell_same w g i _ t u h
  unfold Bk
  rw [h1]
  simp
theorem Bk.other {w : World} {g : Nat} {cs : List Value} {t : TypeId} (h : Bk w g cs t) (k i : Nat) (u : Value) (hk : g ≠ k) : Bk (w.setCell ⟨k, i, none⟩ u) g cs t := by
  unfold Bk; rw [heap_setCell_other _ _ _ _ hk]; exact h

/-- where a row lies behind an append: where it lay, or in a new block -/
def Hence (v v' : Value) (w : World) : Prop := v'.ownBlock = v.ownBlock ∨ v'.ownBlock = some w.heap.size

section
variable {P : Program}
theorem run_append_row (w : World) (t ty e : TypeId) (i : TypeInfo) (z : Value) (size bytes : Nat) (ht : P.underlying t = some (.slice e)) (hi : P.info? e = some i) (hz : i.zero = some z)
    (hsize : i.size = size) (hby : i.bytes = bytes) (hzs : z.cells.size = size) (hsz : 0 < size)
    (v : Value) (n : Nat) (xs : List Value) (hown : w.ownsRow 0 e size v n xs)
    (a : Addr) (m c : Nat) (news : List Value) (hl : news.length = m * size) (hnews : ∀ j u, news[j]? = some u → w.cell? (a.add j) = some u) (h1 : ∀ u ∈ news, u.oneCell' = true)
    (h63 : n + m ≤ maxLen) (hbytes : (n + m) * bytes ≤ 140737488355328) :
    ∃ v' w', (Builtin.append_ #[t, t] ty #[v, .slice (some a) m c]).run P w = .ok v' w' ∧ w'.ownsRow 0 e size v' (n + m) (xs ++ news) ∧ Fr (fun b => v.ownBlock = some b) w w' ∧ Hence v v' w := by
  obtain ⟨v', w', hr, h2, h3, h4⟩ := run_append_own (P := P) w 0 t ty e i z size bytes ht hi hz hsize hby hzs hsz v n xs hown a m c news hl hnews h1 h63 hbytes (Nat.zero_le _)
  refine ⟨v', w', hr, h2, Fr.of_grown h3, ?_⟩
  subst hsize
  subst hby
  rcases hown.2 with ⟨rfl, rfl⟩ | ⟨g, cap, cur, rfl, hbg, hg, hnc, hcm, hcs, htake⟩
  · by_cases hm : m = 0
    · have := h4.2 ⟨rfl, hm⟩
      rw [this]; exact .inl rfl
    · have hr2 := run_append_nil (P := P) w t ty e i z ht hi hz a m c news hl hnews (by omega) (by unfold maxLen at h63; omega) (by have hb := hbytes; simp only [Nat.zero_add] at hb; omega)
      rw [hr2] at hr
      cases hr
      exact .inr rfl
  · by_cases hroom : n + m ≤ cap
    · have hfit : n * i.size + news.length ≤ cur.size := by rw [hl, hcs, ← Nat.add_mul]; exact Nat.mul_le_mul_right _ hroom
      have hr2 := run_append_room (P := P) w t ty e i ht hi g n cap cur hg a m c news hl hnews h1 hroom hfit
      rw [hr2] at hr
      cases hr
      exact .inl rfl
    · have holds : ∀ j u, xs[j]? = some u → w.cell? ((⟨g, 0, none⟩ : Addr).add j) = some u := hown.cells (g := g) rfl
      have hr2 := run_append_grow (P := P) w t ty e i z ht hi hz ⟨g, 0, none⟩ n cap xs hown.1 holds a m c news hl hnews (by omega) (by unfold maxLen at h63; omega) (growslice_fits (by omega) hbytes)
      rw [hr2] at hr
      cases hr
      exact .inr rfl
/-- an append at the operation, for the walk -/
theorem wpList_append_row (w : World) {ops : Array Oper} {rest : List Oper} {o : Oper} {a : Act} {Q : Exit → Act → World → Prop} (hgd : o.guard = none) (s x : Operand) (t : TypeId)
    (ho : o.op = .call { callee := .builtin .append, args := #[s, x], argTypes := #[t, t] })
    (e : TypeId) (i : TypeInfo) (z : Value) (size bytes : Nat) (ht : P.underlying t = some (.slice e)) (hi : P.info? e = some i) (hz : i.zero = some z)
    (hsize : i.size = size) (hby : i.bytes = bytes) (hzs : z.cells.size = size) (hsz : 0 < size)
    (v : Value) (n : Nat) (xs : List Value) (hs : a.eval s = v) (hown : w.ownsRow 0 e size v n xs)
    (ad : Addr) (m c : Nat) (news : List Value) (hx : a.eval x = .slice (some ad) m c) (hl : news.length = m * size) (hnews : ∀ j u, news[j]? = some u → w.cell? (ad.add j) = some u) (h1 : ∀ u ∈ news, u.oneCell' = true)
    (h63 : n + m ≤ maxLen) (hbytes : (n + m) * bytes ≤ 140737488355328)
    (h : ∀ v' w', w'.ownsRow 0 e size v' (n + m) (xs ++ news) → Fr (fun b => v.ownBlock = some b) w w' → Hence v v' w → wpList P ops Q rest (a.put o.dst v') w') : wpList P ops Q (o :: rest) a w := by
  refine wpList_plain hgd fun _ hK => ?_
  obtain ⟨v', w', hr, h2, h3, h4⟩ := run_append_row (P := P) w t o.type e i z size bytes ht hi hz hsize hby hzs hsz v n xs hown ad m c news hl hnews h1 h63 hbytes
  unfold Oper.wp execOp
  simp only [ho, resolve, invoke, builtin, Sem.run_bind, Sem.run_pure, Result.andThen_ok, List.map_toArray, List.map_cons, List.map_nil, hs, hx, hr]
  exact hK _ _ (h v' w' h2 h3 h4)
end
end Go.Proofs.YtkofcegdoilaeaaGreatDoor
namespace Go.Proofs.YtkofcegdoilaeaaGreatDoor
open Go.RowKit

/-- a list with some of its places written -/
def putAt : List Value → Nat → List Value → List Value
  | cs, _, [] => cs
  | cs, o, v :: r => putAt (cs.set o v) (o + 1) r
theorem putAt_length : ∀ (vs cs : List Value) (o : Nat), (putAt cs o vs).length = cs.length
  | [], _, _ => rfl
  | v :: r, cs, o => by rw [putAt, putAt_length r]; simp
theorem putAt_eq : ∀ (vs cs : List Value) (o : Nat), o + vs.length ≤ cs.length → putAt cs o vs = cs.take o ++ vs ++ cs.drop (o + vs.length)
  | [], cs, o, _ => by simp [putAt]
  | v :: r, cs, o, h => by
    simp only [List.length_cons] at h
    rw [putAt, putAt_eq r _ _ (by simp; omega)]
    have ho : o < cs.length := by omega
    rw [List.take_set, List.drop_set_of_lt (by omega), List.take_succ_eq_append_getElem ho, List.set_append_right o v (by simp; omega)]
    simp [Nat.min_eq_left (Nat.le_of_lt ho)]
    omega
theorem Bk.setCells {g : Nat} {t : TypeId} : ∀ (vs cs : List Value) (o : Nat) {w : World}, Bk w g cs t → Bk (w.setCells g o vs) g (putAt cs o vs) t
  | [], _, _, _, h => h
  | v :: r, cs, o, _, h => Bk.setCells r (cs.set o v) (o + 1) (h.set o v)
theorem Bk.setCells_other {g k : Nat} {t : TypeId} {cs : List Value} (hk : g ≠ k) : ∀ (vs : List Value) (o : Nat) {w : World}, Bk w g cs t → Bk (w.setCells k o vs) g cs t
  | [], _, _, h => h
  | v :: r, o, _, h => Bk.setCells_other hk r (o + 1) (h.other k o v hk)
theorem Fr.setCells {S : Nat → Prop} {a : World} {g : Nat} (hg : a.heap.size ≤ g ∨ S g) : ∀ (vs : List Value) (o : Nat) {w : World}, Fr S a w → Fr S a (w.setCells g o vs)
  | [], _, _, h => h
  | v :: r, o, _, h => Fr.setCells hg r (o + 1) (h.setCell g o v hg)
/-- a row of one-cell elements, out of its block -/
theorem row_of_bk {w : World} {g n cap : Nat} {cs xs : List Value} {e : TypeId} (h : Bk w g cs e) (hc : cs.length = cap) (hn : n ≤ cap) (hm : cap ≤ maxLen) (hx : cs.take n = xs) : w.ownsRow 0 e 1 (.slice (some ⟨g, 0, none⟩) n cap) n xs := by
  refine ⟨?_, .inr ⟨g, cap, cs.toArray, rfl, Nat.zero_le _, h, hn, hm, by simp [hc], by simpa using hx⟩⟩
  rw [← hx, List.length_take]; omega
theorem bk_of_row {w : World} {n : Nat} {xs : List Value} {v : Value} {e : TypeId} (h : w.ownsRow 0 e 1 v n xs) :
    xs.length = n ∧ ((v = .slice none 0 0 ∧ n = 0 ∧ xs = []) ∨ ∃ g cap cs, v = .slice (some ⟨g, 0, none⟩) n cap ∧ Bk w g cs e ∧ cs.length = cap ∧ n ≤ cap ∧ cap ≤ maxLen ∧ cs.take n = xs) := by
  have hl : xs.length = n := by simpa using h.1
  refine ⟨hl, ?_⟩
  rcases h.2 with ⟨rfl, rfl⟩ | ⟨g, cap, cur, rfl, _, hg, hn, hm, hs, ht⟩
  · exact .inl ⟨rfl, rfl, List.eq_nil_of_length_eq_zero hl⟩
  · refine .inr ⟨g, cap, cur.toList, rfl, by simpa [Bk] using hg, by simpa using hs, hn, hm, by simpa using ht⟩
section
variable {P : Program}
theorem wp_copy_run' (w : World) {o : Oper} {a : Act} {K : Act → World → Prop} {Q : Exit → Act → World → Prop} (d s : Operand) (t t' : TypeId)
    (ho : o.op = .call { callee := .builtin .copy, args := #[d, s], argTypes := #[t, t'] }) (v u : Value) (hd : a.eval d = v) (hs : a.eval s = u) {v' : Value} {w' : World}
    (hr : (Builtin.copy_ #[t, t'] o.type #[v, u]).run P w = .ok v' w') (h : K (a.put o.dst v') w') : o.wp P a w K Q := by
  unfold Oper.wp execOp
  simp only [ho, resolve, invoke, builtin, Sem.run_bind, Sem.run_pure, Result.andThen_ok, List.map_toArray, List.map_cons, List.map_nil, hd, hs, hr]
  exact h
theorem wpList_copy_run' (w : World) {ops : Array Oper} {rest : List Oper} {o : Oper} {a : Act} {Q : Exit → Act → World → Prop} (hgd : o.guard = none) (d s : Operand) (t t' : TypeId)
    (ho : o.op = .call { callee := .builtin .copy, args := #[d, s], argTypes := #[t, t'] }) (v u : Value) (hd : a.eval d = v) (hs : a.eval s = u) {v' : Value} {w' : World}
    (hr : (Builtin.copy_ #[t, t'] o.type #[v, u]).run P w = .ok v' w') (h : wpList P ops Q rest (a.put o.dst v') w') : wpList P ops Q (o :: rest) a w :=
  wpList_plain hgd fun _ hK => wp_copy_run' w d s t t' ho v u hd hs hr (hK _ _ h)
theorem step_copy_run' {ops : Array Oper} {o : Oper} {a : Act} {w : World} {K : Act → World → Prop} {Q : Exit → Act → World → Prop} {E : Prop}
    (hg : o.guard = none) (d x : Operand) (dT sT : TypeId) (hop : o.op = Op.call { callee := Callee.builtin Builtin.copy, args := #[d, x], argTypes := #[dT, sT] })
    (v u : Value) (hd : a.eval d = v) (hx : a.eval x = u) {v' : Value} {w' : World} (hr : (Builtin.copy_ #[dT, sT] o.type #[v, u]).run P w = .ok v' w') (hK : K (a.put o.dst v') w') :
    if Region.wanted o (yielded ops a.tmps) = true then Oper.wp P o a w K Q else E := by
  have hw : Region.wanted o (yielded ops a.tmps) = true := by simp [Region.wanted, hg]
  rw [if_pos hw]
  exact wp_copy_run' w d x dT sT hop v u hd hx hr hK
end
end Go.Proofs.YtkofcegdoilaeaaGreatDoor
namespace Go.Proofs.YtkofcegdoilaeaaGreatDoor
open Go.RowKit Go.Sort
set_option linter.unusedVariables false
def ltB (a b : ByteArray) : Prop := a.data.toList < b.data.toList
instance (a b : ByteArray) : Decidable (ltB a b) := inferInstanceAs (Decidable (a.data.toList < b.data.toList))
theorem byte_ext {a b : ByteArray} (h : a.data.toList = b.data.toList) : a = b := by
  cases a; cases b
  simp only [ByteArray.mk.injEq]
  exact Array.toList_inj.1 h
theorem ltB_irrefl (a : ByteArray) : ¬ ltB a a := List.lt_irrefl _
theorem ltB_trans {a b c : ByteArray} (h : ltB a b) (k : ltB b c) : ltB a c := List.lt_trans h k
theorem ltB_asymm {a b : ByteArray} (h : ltB a b) : ¬ ltB b a := fun k => ltB_irrefl a (ltB_trans h k)
theorem ltB_total {a b : ByteArray} (h : a ≠ b) : ltB a b ∨ ltB b a := by
  rcases Decidable.em (ltB a b) with h1 | h1
  · exact .inl h1
  rcases Decidable.em (ltB b a) with h2 | h2
  · exact .inr h2
  exact absurd (byte_ext (List.le_antisymm (List.not_lt.1 h2) (List.not_lt.1 h1))) h
theorem bytesLess_lt (a b : ByteArray) : Op.bytesLess a.toList b.toList = decide (ltB a b) := by
  rw [Go.ByteArray.toList_eq, Go.ByteArray.toList_eq, bytesLess_eq]
  exact decide_eq_decide.2 Iff.rfl
theorem bytesEq (a b : ByteArray) : (a.toList == b.toList) = decide (a = b) := by
  rw [Go.ByteArray.toList_eq, Go.ByteArray.toList_eq, Bool.eq_iff_iff]
  simp only [beq_iff_eq, decide_eq_true_eq]
  exact ⟨byte_ext, fun e => by rw [e]⟩
/-- texts, each above the one ahead -/
def Rise (l : List ByteArray) : Prop := l.Pairwise ltB
theorem Rise.nodup {l : List ByteArray} (h : Rise l) : l.Nodup := List.Pairwise.imp (S := fun a b => a ≠ b) (fun {a b} (h : ltB a b) (e : a = b) => ltB_irrefl a (by rw [← e] at h; exact h)) h
theorem Rise.ext {l m : List ByteArray} (hl : Rise l) (hm : Rise m) (h : ∀ x, x ∈ l ↔ x ∈ m) : l = m := by
  have hp : l.Perm m := by
    refine List.perm_ext_iff_of_nodup hl.nodup hm.nodup |>.2 h
  exact hp.eq_of_pairwise (fun a b _ _ h1 h2 => absurd h2 (ltB_asymm h1)) hl hm
def sortB (l : List ByteArray) : List ByteArray := l.mergeSort (fun a b => decide (a.data.toList ≤ b.data.toList))
theorem sortB_perm (l : List ByteArray) : (sortB l).Perm l := List.mergeSort_perm _ _
theorem sortB_rise {l : List ByteArray} (hn : l.Nodup) : Rise (sortB l) := by
  have h1 : (sortB l).Pairwise (fun a b => decide (a.data.toList ≤ b.data.toList) = true) := List.pairwise_mergeSort
    (fun a b c h1 h2 => by simp only [decide_eq_true_eq] at *; exact List.le_trans h1 h2)
    (fun a b => by simp only [Bool.or_eq_true, decide_eq_true_eq]; exact List.le_total _ _) l
  have h2 : (sortB l).Nodup := (sortB_perm l).nodup_iff.2 hn
  refine List.Pairwise.imp (R := fun a b => decide (a.data.toList ≤ b.data.toList) = true ∧ a ≠ b) (fun {a b} h => ?_) (List.Pairwise.and h1 h2)
  rcases ltB_total h.2 with h' | h'
  · exact h'
  · have := List.not_lt.2 (by simpa using h.1 : a.data.toList ≤ b.data.toList)
    exact absurd h' this
end Go.Proofs.YtkofcegdoilaeaaGreatDoor
namespace Go.Proofs.YtkofcegdoilaeaaGreatDoor
set_option linter.unusedVariables false
/-- how many texts are below one -/
def belowB (ks : List ByteArray) (k : ByteArray) : Nat := (ks.takeWhile fun x => decide (ltB x k)).length
theorem belowB_le (ks : List ByteArray) (k : ByteArray) : belowB ks k ≤ ks.length := by
  unfold belowB
  have := (List.takeWhile_sublist (fun x => decide (ltB x k)) (l := ks)).length_le
  exact this
theorem belowB_lt {ks : List ByteArray} {k : ByteArray} {i : Nat} {x : ByteArray} (hi : i < belowB ks k) (hx : ks[i]? = some x) : ltB x k := by
  induction ks generalizing i with
  | nil => cases hx
  | cons y ks ih =>
    unfold belowB at hi
    rw [List.takeWhile_cons] at hi
    by_cases e : ltB y k
    · rw [if_pos (by simpa using e)] at hi
      cases i with
      | zero => simp at hx; subst hx; exact e
      | succ i => simp at hx hi; exact ih (by unfold belowB; omega) hx
    · rw [if_neg (by simpa using e)] at hi
      simp at hi
theorem belowB_at {ks : List ByteArray} {k x : ByteArray} (hx : ks[belowB ks k]? = some x) : ¬ ltB x k := by
  induction ks with
  | nil => cases hx
  | cons y ks ih =>
    unfold belowB at hx
    rw [List.takeWhile_cons] at hx
    by_cases e : ltB y k
    · rw [if_pos (by simpa using e)] at hx
      simp at hx
      exact ih hx
    · rw [if_neg (by simpa using e)] at hx
      simp at hx
      subst hx; exact e
/-- a text put where it belongs -/
def putB (ks : List ByteArray) (k : ByteArray) : List ByteArray := if ks[belowB ks k]? = some k then ks else ks.take (belowB ks k) ++ k :: ks.drop (belowB ks k)
theorem belowB_ge {ks : List ByteArray} {k : ByteArray} (h : Rise ks) {i : Nat} {x : ByteArray} (hi : belowB ks k ≤ i) (hx : ks[i]? = some x) : ¬ ltB x k := by
  have hil := (List.getElem?_eq_some_iff.1 hx).1
  have hb : belowB ks k < ks.length := by omega
  have hy : ks[belowB ks k]? = some ks[belowB ks k] := List.getElem?_eq_getElem hb
  have h1 := belowB_at hy
  by_cases e : belowB ks k = i
  · subst e
    exact belowB_at hx
  · have h2 := List.pairwise_iff_getElem.1 h (belowB ks k) i hb hil (by omega)
    have h3 := (List.getElem?_eq_some_iff.1 hx).2
    rw [h3] at h2
    exact fun c => h1 (ltB_trans h2 c)
theorem putB_mem (ks : List ByteArray) (k x : ByteArray) : x ∈ putB ks k ↔ x = k ∨ x ∈ ks := by
  unfold putB
  by_cases e : ks[belowB ks k]? = some k
  · rw [if_pos e]
    exact ⟨.inr, fun h => h.elim (fun h => h ▸ List.mem_of_getElem? e) id⟩
  · rw [if_neg e]
    rw [List.mem_append, List.mem_cons]
    have : x ∈ ks ↔ x ∈ ks.take (belowB ks k) ∨ x ∈ ks.drop (belowB ks k) := by
      conv => lhs; rw [← List.take_append_drop (belowB ks k) ks]
      exact List.mem_append
    rw [this]
    constructor
    · rintro (h | h | h)
      · exact .inr (.inl h)
      · exact .inl h
      · exact .inr (.inr h)
    · rintro (h | h | h)
      · exact .inr (.inl h)
      · exact .inl h
      · exact .inr (.inr h)
theorem putB_rise {ks : List ByteArray} (h : Rise ks) (k : ByteArray) : Rise (putB ks k) := by
  unfold putB
  by_cases e : ks[belowB ks k]? = some k
  · rw [if_pos e]; exact h
  · rw [if_neg e]
    have hlow : ∀ x ∈ ks.take (belowB ks k), ltB x k := fun x hx => by
      obtain ⟨i, hi, ei⟩ := List.mem_iff_getElem.1 hx
      have hi' : i < belowB ks k ∧ i < ks.length := by simp at hi; omega
      simp at ei
      exact belowB_lt hi'.1 (by rw [List.getElem?_eq_getElem hi'.2, ei])
    have hhigh : ∀ x ∈ ks.drop (belowB ks k), ltB k x := fun x hx => by
      obtain ⟨i, hi, ei⟩ := List.mem_iff_getElem.1 hx
      have hi' : belowB ks k + i < ks.length := by rw [List.length_drop] at hi; omega
      rw [List.getElem_drop] at ei
      have hx' : ks[belowB ks k + i]? = some x := by rw [List.getElem?_eq_getElem hi', ei]
      have h1 := belowB_ge h (Nat.le_add_right _ i) hx'
      have hne : x ≠ k := fun c => by
        subst c
        by_cases hz : i = 0
        · subst hz; exact e hx'
        · have hb : belowB ks x < ks.length := by omega
          have h2 := List.pairwise_iff_getElem.1 h (belowB ks x) (belowB ks x + i) hb hi' (by omega)
          rw [ei] at h2
          exact belowB_at (List.getElem?_eq_getElem hb) h2
      rcases ltB_total hne with h' | h'
      · exact absurd h' h1
      · exact h'
    unfold Rise
    rw [List.pairwise_append, List.pairwise_cons]
    refine ⟨h.sublist (List.take_sublist _ _), ⟨hhigh, h.sublist (List.drop_sublist _ _)⟩, fun a ha b hb => ?_⟩
    rcases List.mem_cons.1 hb with rfl | hb
    · exact hlow a ha
    · exact ltB_trans (hlow a ha) (hhigh b hb)
end Go.Proofs.YtkofcegdoilaeaaGreatDoor
namespace Go.Proofs.YtkofcegdoilaeaaGreatDoor
open Go.RowKit Go.MapKept Go.Maps
open Go.ChangeMaps (setBlock)
set_option linter.unusedVariables false
section
variable {α β : Type} [DecidableEq α]
def mget : List (α × β) → α → Option β
  | [], _ => none
  | p :: m, a => if p.1 = a then some p.2 else mget m a
def mput : List (α × β) → α → β → List (α × β)
  | [], a, v => [(a, v)]
  | p :: m, a, v => if p.1 = a then (a, v) :: m else p :: mput m a v
def mdel : List (α × β) → α → List (α × β)
  | [], _ => []
  | p :: m, a => if p.1 = a then m else p :: mdel m a
def mkeys (m : List (α × β)) : List α := m.map Prod.fst
theorem mget_none {m : List (α × β)} {a : α} (h : ∀ p ∈ m, p.1 ≠ a) : mget m a = none := by
  induction m with
  | nil => rfl
  | cons p m ih => rw [mget, if_neg (h p (by simp)), ih (fun q hq => h q (by simp [hq]))]
theorem mget_at : ∀ {m : List (α × β)} {a : α} {v : β} {j : Nat}, (mkeys m).Nodup → m[j]? = some (a, v) → mget m a = some v
  | [], _, _, _, _, h => by simp at h
  | p :: m, a, v, 0, _, h => by simp at h; subst h; simp [mget]
  | p :: m, a, v, j + 1, hn, h => by
    simp at h
    have hn' := List.nodup_cons.1 hn
    have hne : p.1 ≠ a := fun e => hn'.1 (e ▸ List.mem_map.2 ⟨(a, v), List.mem_of_getElem? h, rfl⟩)
    rw [mget, if_neg hne]
    exact mget_at hn'.2 h
theorem mput_none {m : List (α × β)} {a : α} {v : β} (h : ∀ p ∈ m, p.1 ≠ a) : mput m a v = m ++ [(a, v)] := by
  induction m with
  | nil => rfl
  | cons p m ih => rw [mput, if_neg (h p (by simp)), ih (fun q hq => h q (by simp [hq]))]; rfl
theorem mput_at : ∀ {m : List (α × β)} {a : α} {v u : β} {j : Nat}, (mkeys m).Nodup → m[j]? = some (a, u) → mput m a v = m.set j (a, v)
  | [], _, _, _, _, _, h => by simp at h
  | p :: m, a, v, u, 0, _, h => by simp at h; subst h; simp [mput]
  | p :: m, a, v, u, j + 1, hn, h => by
    simp at h
    have hn' := List.nodup_cons.1 hn
    have hne : p.1 ≠ a := fun e => hn'.1 (e ▸ List.mem_map.2 ⟨(a, u), List.mem_of_getElem? h, rfl⟩)
    rw [mput, if_neg hne, mput_at hn'.2 h]
    rfl
theorem mdel_none {m : List (α × β)} {a : α} (h : ∀ p ∈ m, p.1 ≠ a) : mdel m a = m := by
  induction m with
  | nil => rfl
  | cons p m ih => rw [mdel, if_neg (h p (by simp)), ih (fun q hq => h q (by simp [hq]))]
theorem mdel_at : ∀ {m : List (α × β)} {a : α} {u : β} {j : Nat}, (mkeys m).Nodup → m[j]? = some (a, u) → mdel m a = m.eraseIdx j
  | [], _, _, _, _, h => by simp at h
  | p :: m, a, u, 0, _, h => by simp at h; subst h; simp [mdel]
  | p :: m, a, u, j + 1, hn, h => by
    simp at h
    have hn' := List.nodup_cons.1 hn
    have hne : p.1 ≠ a := fun e => hn'.1 (e ▸ List.mem_map.2 ⟨(a, u), List.mem_of_getElem? h, rfl⟩)
    rw [mdel, if_neg hne, mdel_at hn'.2 h]
    rfl
theorem mkeys_put (m : List (α × β)) (a : α) (v : β) : mkeys (mput m a v) = if a ∈ mkeys m then mkeys m else mkeys m ++ [a] := by
  induction m with
  | nil => simp [mput, mkeys]
  | cons p m ih =>
    rw [mput]
    by_cases h : p.1 = a
    · simp [h, mkeys]
    · rw [if_neg h]
      have h' : ¬ a = p.1 := fun e => h e.symm
      simp only [mkeys, List.map_cons, List.mem_cons, h', false_or] at ih ⊢
      rw [ih]
      by_cases hm : a ∈ List.map Prod.fst m <;> simp [hm]
theorem nodup_put {m : List (α × β)} (h : (mkeys m).Nodup) (a : α) (v : β) : (mkeys (mput m a v)).Nodup := by
  rw [mkeys_put]
  split
  · exact h
  · rename_i hn
    rw [List.nodup_append]
    exact ⟨h, by simp, fun x hx y hy => by simp at hy; subst hy; exact fun e => hn (e ▸ hx)⟩
theorem mem_put {m : List (α × β)} {a : α} {v : β} {p : α × β} (h : p ∈ mput m a v) : p = (a, v) ∨ p ∈ m := by
  induction m with
  | nil => simp [mput] at h; exact .inl h
  | cons q m ih =>
    rw [mput] at h
    split at h
    · rcases List.mem_cons.1 h with h | h
      · exact .inl h
      · exact .inr (by simp [h])
    · rcases List.mem_cons.1 h with h | h
      · exact .inr (by simp [h])
      · exact (ih h).imp id (fun h => by simp [h])
theorem del_sub (m : List (α × β)) (a : α) : (mdel m a).Sublist m := by
  induction m with
  | nil => exact List.Sublist.refl _
  | cons q m ih =>
    rw [mdel]
    split
    · exact List.sublist_cons_self _ _
    · exact ih.cons_cons _
theorem nodup_del {m : List (α × β)} (h : (mkeys m).Nodup) (a : α) : (mkeys (mdel m a)).Nodup := List.Nodup.sublist ((del_sub m a).map _) h
theorem get_put (m : List (α × β)) (a b : α) (v : β) : mget (mput m a v) b = if a = b then some v else mget m b := by
  induction m with
  | nil => simp [mput, mget]
  | cons p m ih =>
    rw [mput]
    by_cases h : p.1 = a
    · rw [if_pos h]; subst h
      simp only [mget]
      split <;> rfl
    · rw [if_neg h]
      simp only [mget, ih]
      by_cases h2 : p.1 = b
      · subst h2
        rw [if_pos rfl, if_neg (fun e => h e.symm), if_pos rfl]
      · rw [if_neg h2, if_neg h2]
theorem get_del {m : List (α × β)} (hn : (mkeys m).Nodup) (a b : α) : mget (mdel m a) b = if a = b then none else mget m b := by
  induction m with
  | nil => simp [mdel, mget]
  | cons p m ih =>
    have hn' := List.nodup_cons.1 hn
    rw [mdel]
    by_cases h : p.1 = a
    · rw [if_pos h]; subst h
      by_cases h2 : p.1 = b
      · rw [if_pos h2, ← h2]
        exact mget_none (fun q hq e => hn'.1 (e ▸ List.mem_map.2 ⟨q, hq, rfl⟩))
      · rw [if_neg h2, mget, if_neg h2]
    · rw [if_neg h]
      simp only [mget, ih hn'.2]
      by_cases h2 : p.1 = b
      · subst h2
        rw [if_pos rfl, if_neg (fun e => h e.symm), if_pos rfl]
      · rw [if_neg h2, if_neg h2]
theorem mem_of_get {m : List (α × β)} {a : α} {v : β} (h : mget m a = some v) : (a, v) ∈ m := by
  induction m with
  | nil => cases h
  | cons p m ih =>
    rw [mget] at h
    split at h
    · rename_i e; cases h; subst e; simp
    · simp [ih h]
theorem get_of_mem {m : List (α × β)} (hn : (mkeys m).Nodup) {a : α} {v : β} (h : (a, v) ∈ m) : mget m a = some v := by
  obtain ⟨j, hj, e⟩ := List.mem_iff_getElem.1 h
  exact mget_at hn (j := j) (by rw [List.getElem?_eq_getElem hj, e])
end

/-- how keys are written, and which may be -/
structure KeyEnc (P : Program) (k : TypeId) {α : Type} (enc : α → Value) (Ok : α → Prop) : Prop where
  law : Keyed P k
  key : ∀ {a}, Ok a → ∃ l, keyOf P k (enc a) = some l
  inj : ∀ {a b}, enc a = enc b → a = b

/-- block r of w is a map that holds m -/
structure Mp {α : Type} (enc : α → Value) (Ok : α → Prop) (w : World) (r : Nat) (m : List (α × Value)) : Prop where
  ok : ∀ p ∈ m, Ok p.1
  nd : (mkeys m).Nodup
  ex : ∃ es clock, w.heap[r]? = some (.map es clock) ∧ Stamped es clock ∧ es.toList.map (fun e => (e.key, e.val)) = m.map (fun p => (enc p.1, p.2))
section
variable {P : Program} {k : TypeId} {α : Type} {enc : α → Value} {Ok : α → Prop} {w : World} {r : Nat} {m : List (α × Value)}
theorem Mp.lt (h : Mp enc Ok w r m) : r < w.heap.size := by
  obtain ⟨es, clock, h1, _⟩ := h.ex
  exact lt_of_at h1
theorem Mp.fr {S : Nat → Prop} {w' : World} (h : Mp enc Ok w r m) (hf : Fr S w w') (hs : ¬ S r) : Mp enc Ok w' r m := by
  obtain ⟨es, clock, h1, h2, h3⟩ := h.ex
  exact ⟨h.ok, h.nd, es, clock, hf.at h1 hs, h2, h3⟩
theorem Mp.bel {w' : World} (h : Mp enc Ok w r m) (hb : Below w.heap.size w w') : Mp enc Ok w' r m := h.fr (Fr.of_bel (S := none') hb) id
theorem Mp.made (w : World) : Mp enc Ok (w.alloc (.map #[] 0)) w.heap.size [] :=
  ⟨(fun p h => by cases h), List.nodup_nil, #[], 0, (heap_alloc w _).1, stamped_empty 0, rfl⟩
/-- the map's block is written -/
theorem fr_setBlock (w : World) (r : Nat) (o : Obj) : Fr (fun b => b = r) w (setBlock w r o) := by
  refine ⟨rfl, rfl, rfl, by simp [setBlock], fun i hi hS => ?_⟩
  simp only [setBlock]
  rw [Array.getElem?_setIfInBounds_ne (fun e => hS e.symm)]
theorem at_setBlock {w : World} {r : Nat} (h : r < w.heap.size) (o : Obj) : (setBlock w r o).heap[r]? = some o := by
  simp [setBlock, h]
theorem ent_at {es : List MapEntry} (he : es.map (fun e => (e.key, e.val)) = m.map (fun p => (enc p.1, p.2))) {j : Nat} {e : MapEntry} (hj : es[j]? = some e) : ∃ p, m[j]? = some p ∧ e.key = enc p.1 ∧ e.val = p.2 := by
  have h1 : (es.map (fun e => (e.key, e.val)))[j]? = some (e.key, e.val) := by rw [List.getElem?_map, hj]; rfl
  rw [he, List.getElem?_map] at h1
  obtain ⟨p, hp, h2⟩ := Option.map_eq_some_iff.1 h1
  have h3 := Prod.mk.inj h2
  exact ⟨p, hp, h3.1.symm, h3.2.symm⟩
theorem ent_of {es : List MapEntry} (he : es.map (fun e => (e.key, e.val)) = m.map (fun p => (enc p.1, p.2))) {p : α × Value} (hp : p ∈ m) : ∃ e ∈ es, e.key = enc p.1 ∧ e.val = p.2 := by
  have h1 : (enc p.1, p.2) ∈ es.map (fun e => (e.key, e.val)) := by rw [he]; exact List.mem_map.2 ⟨p, hp, rfl⟩
  obtain ⟨e, h2, h3⟩ := List.mem_map.1 h1
  have h4 := Prod.mk.inj h3
  exact ⟨e, h2, h4.1, h4.2⟩
end
end Go.Proofs.YtkofcegdoilaeaaGreatDoor
namespace Go.Proofs.YtkofcegdoilaeaaGreatDoor
set_option linter.unusedVariables false
structure Fl where
  s : ByteArray
  lasts : Nat
  stays : Bool
abbrev Fs := List (ByteArray × Fl)
structure Dk where
  L : Fs
  fuse : Int
  down : Bool
def emptyF : Fl := ⟨⟨#[]⟩, 0, false⟩
def fnames (L : Fs) : List ByteArray := L.map Prod.fst
/-- a file in its place, as the document puts it -/
def putStep (n : ByteArray) (f : Fl) (r : Fs × Bool) (p : ByteArray × Fl) : Fs × Bool :=
  ((if !r.2 && !decide (ltB p.1 n) then r.1 ++ [(n, f)] else r.1) ++ (if p.1 = n then [] else [p]), r.2 || !decide (ltB p.1 n))
def putFold (n : ByteArray) (f : Fl) (L : Fs) : Fs × Bool := L.foldl (putStep n f) ([], false)
def fput (L : Fs) (n : ByteArray) (f : Fl) : Fs := (putFold n f L).1 ++ (if (putFold n f L).2 then [] else [(n, f)])
theorem putFold_snoc (n : ByteArray) (f : Fl) (L : Fs) (p : ByteArray × Fl) : putFold n f (L ++ [p]) = putStep n f (putFold n f L) p := by
  unfold putFold; rw [List.foldl_append]; rfl
def fputR (n : ByteArray) (f : Fl) : Fs → Fs
  | [] => [(n, f)]
  | p :: L => if ltB p.1 n then p :: fputR n f L else (n, f) :: (p :: L).filter fun q => decide (q.1 ≠ n)
theorem putFold_done (n : ByteArray) (f : Fl) : ∀ (L : Fs) (acc : Fs), L.foldl (putStep n f) (acc, true) = (acc ++ L.filter fun q => decide (q.1 ≠ n), true)
  | [], acc => by simp
  | p :: L, acc => by
    rw [List.foldl_cons]
    have : putStep n f (acc, true) p = (acc ++ (if p.1 = n then [] else [p]), true) := by simp [putStep]
    rw [this, putFold_done n f L]
    by_cases e : p.1 = n
    · simp [e]
    · simp [e]
theorem putFold_go (n : ByteArray) (f : Fl) : ∀ (L : Fs) (acc : Fs), (L.foldl (putStep n f) (acc, false)).1 ++ (if (L.foldl (putStep n f) (acc, false)).2 then [] else [(n, f)]) = acc ++ fputR n f L
  | [], acc => by simp [fputR]
  | p :: L, acc => by
    rw [List.foldl_cons]
    by_cases h : ltB p.1 n
    · have hne : p.1 ≠ n := fun e => ltB_irrefl n (by rw [e] at h; exact h)
      have : putStep n f (acc, false) p = (acc ++ [p], false) := by simp [putStep, h, hne]
      rw [this, putFold_go n f L, fputR, if_pos h]
      simp
    · have : putStep n f (acc, false) p = (acc ++ [(n, f)] ++ (if p.1 = n then [] else [p]), true) := by simp [putStep, h]
      rw [this, putFold_done, fputR, if_neg h]
      by_cases e : p.1 = n
      · simp [e]
      · simp [e]
theorem fput_eq (L : Fs) (n : ByteArray) (f : Fl) : fput L n f = fputR n f L := by
  have := putFold_go n f L []
  rw [List.nil_append] at this
  exact this
def RiseF (L : Fs) : Prop := Rise (fnames L)
theorem RiseF.nil : RiseF [] := by unfold RiseF fnames Rise; simp
theorem RiseF.tail {p : ByteArray × Fl} {L : Fs} (h : RiseF (p :: L)) : RiseF L := (List.pairwise_cons.1 h).2
theorem RiseF.head {p : ByteArray × Fl} {L : Fs} (h : RiseF (p :: L)) {q : ByteArray × Fl} (hq : q ∈ L) : ltB p.1 q.1 := (List.pairwise_cons.1 h).1 q.1 (List.mem_map.2 ⟨q, hq, rfl⟩)
theorem RiseF.nodup {L : Fs} (h : RiseF L) : (mkeys L).Nodup := Rise.nodup h
theorem fputR_mem {n : ByteArray} {f : Fl} {L : Fs} {q : ByteArray × Fl} (h : q ∈ fputR n f L) : q = (n, f) ∨ (q ∈ L ∧ q.1 ≠ n) := by
  induction L with
  | nil => simp [fputR] at h; exact .inl h
  | cons p L ih =>
    rw [fputR] at h
    split at h
    · rename_i hl
      rcases List.mem_cons.1 h with rfl | h
      · exact .inr ⟨by simp, fun e => ltB_irrefl n (by rw [e] at hl; exact hl)⟩
      · exact (ih h).imp id (fun h => ⟨by simp [h.1], h.2⟩)
    · rcases List.mem_cons.1 h with rfl | h
      · exact .inl rfl
      · have := List.mem_filter.1 h
        exact .inr ⟨this.1, by simpa using this.2⟩
theorem fputR_rise {n : ByteArray} {f : Fl} : ∀ {L : Fs}, RiseF L → RiseF (fputR n f L)
  | [], _ => by unfold RiseF fnames Rise fputR; simp
  | p :: L, h => by
    rw [fputR]
    split
    · rename_i hl
      refine List.pairwise_cons.2 ⟨fun x hx => ?_, fputR_rise h.tail⟩
      obtain ⟨q, hq, rfl⟩ := List.mem_map.1 hx
      rcases fputR_mem hq with rfl | hq
      · exact hl
      · exact h.head hq.1
    · rename_i hl
      refine List.pairwise_cons.2 ⟨fun x hx => ?_, ?_⟩
      · obtain ⟨q, hq, rfl⟩ := List.mem_map.1 hx
        have hq' := List.mem_filter.1 hq
        have hne : q.1 ≠ n := by simpa using hq'.2
        have hpq : ¬ ltB q.1 n := by
          rcases List.mem_cons.1 hq'.1 with rfl | hm
          · exact hl
          · exact fun c => hl (ltB_trans (h.head hm) c)
        exact (ltB_total (fun e => hne e.symm)).resolve_right hpq
      · exact List.Pairwise.sublist (List.Sublist.map _ List.filter_sublist) h
theorem fputR_get {n : ByteArray} {f : Fl} : ∀ {L : Fs} (m : ByteArray), RiseF L → mget (fputR n f L) m = if n = m then some f else mget L m
  | [], m, _ => by simp [fputR, mget]
  | p :: L, m, h => by
    rw [fputR]
    split
    · rename_i hl
      have hne : p.1 ≠ n := fun e => ltB_irrefl n (by rw [e] at hl; exact hl)
      simp only [mget, fputR_get m h.tail]
      by_cases e : p.1 = m
      · rw [if_pos e, if_pos e, if_neg (fun c => hne (e.trans c.symm))]
      · rw [if_neg e, if_neg e]
    · rw [mget]
      by_cases e : n = m
      · rw [if_pos e, if_pos e]
      · rw [if_neg e, if_neg e]
        have key : ∀ (K : Fs), mget (K.filter fun q => decide (q.1 ≠ n)) m = mget K m := fun K => by
          induction K with
          | nil => rfl
          | cons q K ih =>
            by_cases c : q.1 = n
            · rw [List.filter_cons_of_neg (by simp [c]), ih, mget, if_neg (fun d => e (c.symm.trans d))]
            · rw [List.filter_cons_of_pos (by simp [c]), mget, mget, ih]
        exact key (p :: L)
theorem fput_rise {L : Fs} (h : RiseF L) (n : ByteArray) (f : Fl) : RiseF (fput L n f) := by rw [fput_eq]; exact fputR_rise h
theorem fput_get {L : Fs} (h : RiseF L) (n : ByteArray) (f : Fl) (m : ByteArray) : mget (fput L n f) m = if n = m then some f else mget L m := by rw [fput_eq]; exact fputR_get m h
theorem fput_mem {L : Fs} {n : ByteArray} {f : Fl} {q : ByteArray × Fl} (h : q ∈ fput L n f) : q = (n, f) ∨ (q ∈ L ∧ q.1 ≠ n) := by rw [fput_eq] at h; exact fputR_mem h
/-- no such file -/
def fdel (L : Fs) (n : ByteArray) : Fs := L.filter fun q => decide (q.1 ≠ n)
theorem fdel_rise {L : Fs} (h : RiseF L) (n : ByteArray) : RiseF (fdel L n) := List.Pairwise.sublist (List.Sublist.map _ List.filter_sublist) h
theorem fdel_get (L : Fs) (n m : ByteArray) : mget (fdel L n) m = if n = m then none else mget L m := by
  induction L with
  | nil => simp [fdel, mget]
  | cons q L ih =>
    unfold fdel at ih ⊢
    by_cases c : q.1 = n
    · rw [List.filter_cons_of_neg (by simp [c]), ih, mget]
      by_cases e : n = m
      · rw [if_pos e, if_pos e]
      · rw [if_neg e, if_neg e, if_neg (fun d => e (c.symm.trans d))]
    · rw [List.filter_cons_of_pos (by simp [c]), mget, mget, ih]
      by_cases e : n = m
      · rw [if_pos e, if_pos e, if_neg (fun d => c (d.trans e.symm))]
      · rw [if_neg e, if_neg e]
/-- files by their names alone -/
theorem fs_ext {L K : Fs} (h : RiseF L) (k : RiseF K) (e : ∀ n, mget L n = mget K n) : L = K := by
  have hm : ∀ (A B : Fs), RiseF A → RiseF B → (∀ n, mget A n = mget B n) → ∀ x ∈ A, x ∈ B := fun A B ha hb hab x hx => by
    have h1 := get_of_mem ha.nodup (a := x.1) (v := x.2) hx
    rw [hab] at h1
    exact mem_of_get h1
  have hn : ∀ {A : Fs}, RiseF A → A.Nodup := fun {A} ha => by
    have := ha.nodup
    unfold mkeys at this
    exact (List.pairwise_map.1 this).imp (fun h e => h (by rw [e]))
  have hp : L.Perm K := List.perm_ext_iff_of_nodup (hn h) (hn k) |>.2 (fun x => ⟨hm L K h k e x, hm K L k h (fun n => (e n).symm) x⟩)
  have h1 : L.Pairwise (fun a b => ltB a.1 b.1) := List.pairwise_map.1 h
  have h2 : K.Pairwise (fun a b => ltB a.1 b.1) := List.pairwise_map.1 k
  exact hp.eq_of_pairwise (fun a b _ _ x y => absurd y (ltB_asymm x)) h1 h2
/-- bytes of files -/
def fsum : Fs → Nat
  | [] => 0
  | p :: L => p.2.s.size + fsum L
def fsumBut (n : ByteArray) : Fs → Nat
  | [] => 0
  | p :: L => (if p.1 = n then 0 else p.2.s.size) + fsumBut n L
def sizeAt (L : Fs) (n : ByteArray) : Nat := match mget L n with | some f => f.s.size | none => 0
theorem fsumBut_none {L : Fs} {n : ByteArray} (h : ∀ p ∈ L, p.1 ≠ n) : fsumBut n L = fsum L := by
  induction L with
  | nil => rfl
  | cons p L ih => rw [fsumBut, fsum, if_neg (h p (by simp)), ih (fun q hq => h q (by simp [hq]))]
theorem fsum_at {L : Fs} (h : (mkeys L).Nodup) (n : ByteArray) : fsum L = fsumBut n L + sizeAt L n := by
  induction L with
  | nil => rfl
  | cons p L ih =>
    have hn := List.nodup_cons.1 h
    unfold sizeAt at ih ⊢
    rw [fsum, fsumBut, mget]
    by_cases e : p.1 = n
    · rw [if_pos e, if_pos e]
      have hno : ∀ q ∈ L, q.1 ≠ n := fun q hq c => hn.1 (by rw [e, ← c]; exact List.mem_map.2 ⟨q, hq, rfl⟩)
      rw [fsumBut_none hno]
      simp; omega
    · rw [if_neg e, if_neg e, ih hn.2]; omega
theorem fsum_filter (n : ByteArray) (L : Fs) : fsum (L.filter fun q => decide (q.1 ≠ n)) = fsumBut n L := by
  induction L with
  | nil => rfl
  | cons p L ih =>
    rw [fsumBut]
    by_cases e : p.1 = n
    · rw [List.filter_cons_of_neg (by simp [e]), ih, if_pos e]; omega
    · rw [List.filter_cons_of_pos (by simp [e]), fsum, ih, if_neg e]
theorem fsum_put {L : Fs} (h : RiseF L) (n : ByteArray) (f : Fl) : fsum (fput L n f) = fsumBut n L + f.s.size := by
  rw [fput_eq]
  induction L with
  | nil => simp [fputR, fsum, fsumBut]
  | cons p L ih =>
    rw [fputR]
    split
    · rename_i hl
      have hne : p.1 ≠ n := fun e => ltB_irrefl n (by rw [e] at hl; exact hl)
      rw [fsum, ih h.tail, fsumBut, if_neg hne]; omega
    · rw [fsum, fsum_filter]; simp only []; omega
theorem fsum_del (L : Fs) (n : ByteArray) : fsum (fdel L n) = fsumBut n L := fsum_filter n L
theorem fput_len {L : Fs} (h : RiseF L) (n : ByteArray) (f : Fl) : (fput L n f).length ≤ L.length + 1 := by
  rw [fput_eq]
  clear h
  induction L with
  | nil => simp [fputR]
  | cons p L ih =>
    rw [fputR]
    split
    · simp; exact ih
    · have := List.length_filter_le (fun q : ByteArray × Fl => decide (q.1 ≠ n)) (p :: L)
      simp at this ⊢; omega
/-- a byte of a file's, taken so many -/
def cutB (s : ByteArray) (n : Nat) : ByteArray := ⟨(s.data.toList.take n).toArray⟩
def catB (s t : ByteArray) : ByteArray := ⟨(s.data.toList ++ t.data.toList).toArray⟩
/-- may a name be? -/
def nameD (n : ByteArray) : Bool := decide (1 ≤ n.size) && decide (n.size ≤ 64)
/-- behind a fuse's step -/
def burn (x : Dk) : Dk := if 0 < x.fuse then { x with fuse := x.fuse - 1 } else x
def getF (L : Fs) (n : ByteArray) : Fl := (mget L n).getD emptyF
def fullB (x : Dk) (n : ByteArray) (size : Nat) : Bool := decide (4194304 < size) || ((mget x.L n).isNone && decide (4096 ≤ x.L.length))
/-- Append -/
def stepA (x : Dk) (n s : ByteArray) : Dk × Int :=
  if x.down then (x, 8)
  else if nameD n = false then (x, 1)
  else if fullB x n (fsum x.L + s.size) then (x, 5)
  else if x.fuse = 0 then ({ x with L := fput x.L n { getF x.L n with s := catB (getF x.L n).s s }, down := true }, 8)
  else ({ burn x with L := fput x.L n { getF x.L n with s := catB (getF x.L n).s s } }, 0)
/-- Sync -/
def stepS (x : Dk) (n : ByteArray) : Dk × Int :=
  if x.down then (x, 8)
  else if nameD n = false then (x, 1)
  else if (mget x.L n).isNone then (x, 6)
  else if x.fuse = 0 then ({ x with down := true }, 8)
  else ({ burn x with L := fput x.L n ⟨(getF x.L n).s, (getF x.L n).s.size, true⟩ }, 0)
/-- Replace -/
def stepR (x : Dk) (n s : ByteArray) : Dk × Int :=
  if x.down then (x, 8)
  else if nameD n = false then (x, 1)
  else if fullB x n (fsumBut n x.L + s.size) then (x, 5)
  else if x.fuse = 0 then ({ x with down := true }, 8)
  else ({ burn x with L := fput x.L n ⟨s, s.size, true⟩ }, 0)
/-- Remove -/
def stepD (x : Dk) (n : ByteArray) : Dk × Int :=
  if x.down then (x, 8)
  else if nameD n = false then (x, 1)
  else if (mget x.L n).isNone then (x, 6)
  else if x.fuse = 0 then ({ x with down := true }, 8)
  else ({ burn x with L := fdel x.L n }, 0)
def readD (x : Dk) (n : ByteArray) : ByteArray × Int :=
  if x.down then (⟨#[]⟩, 8)
  else if nameD n = false then (⟨#[]⟩, 1)
  else match mget x.L n with
    | none => (⟨#[]⟩, 6)
    | some f => (f.s, 0)
/-- how many bytes of a file are left by a crash -/
def keepN (f : Fl) (keep : List Int) (i : Nat) : Nat := min ((keep[i]?).getD 0).toNat (f.s.size - f.lasts)
def crashF (f : Fl) (k : Nat) : Option Fl := if !f.stays && decide (f.lasts + k = 0) then none else some ⟨cutB f.s (f.lasts + k), f.lasts + k, true⟩
def crashL (keep : List Int) : Nat → Fs → Fs
  | _, [] => []
  | i, p :: L => (match crashF p.2 (keepN p.2 keep i) with | some g => [(p.1, g)] | none => []) ++ crashL keep (i + 1) L
def crashD (x : Dk) (keep : List Int) : Dk := ⟨crashL keep 0 x.L, -1, false⟩
def armD (x : Dk) (n : Int) : Dk := { x with fuse := if n < 0 then -1 else n }
def newD : Dk := ⟨[], -1, false⟩
/-- what always holds of a disk -/
structure DkOk (x : Dk) : Prop where
  rise : RiseF x.L
  sum : fsum x.L ≤ 4194304
  last : ∀ p ∈ x.L, p.2.lasts ≤ p.2.s.size
  name : ∀ p ∈ x.L, nameD p.1 = true
  fuse : -1 ≤ x.fuse
  fuse2 : x.fuse ≤ 9223372036854775807
  len : x.L.length ≤ 4096
theorem some_key {β : Type} {A : List (ByteArray × β)} (n : ByteArray) : n ∈ mkeys A ↔ (mget A n).isSome = true := by
  induction A with
  | nil => simp [mkeys, mget]
  | cons p A ih =>
    unfold mkeys at ih ⊢
    rw [List.map_cons, List.mem_cons, mget]
    by_cases e : p.1 = n
    · simp [e]
    · rw [if_neg e, ← ih]
      exact ⟨fun h => h.resolve_left (fun c => e c.symm), .inr⟩
theorem len_of_some {β γ : Type} {A : List (ByteArray × β)} {B : List (ByteArray × γ)} (ha : (mkeys A).Nodup) (hb : (mkeys B).Nodup) (h : ∀ n, (mget A n).isSome = (mget B n).isSome) : A.length = B.length := by
  have : (mkeys A).Perm (mkeys B) := List.perm_ext_iff_of_nodup ha hb |>.2 (fun n => by rw [some_key, some_key, h])
  have := this.length_eq
  simpa [mkeys] using this
theorem fput_len2 {L : Fs} (h : RiseF L) {n : ByteArray} (f : Fl) (hs : (mget L n).isSome = true) : (fput L n f).length = L.length :=
  len_of_some (fput_rise h n f).nodup h.nodup (fun k => by
    rw [fput_get h]
    by_cases e : n = k
    · subst e; rw [if_pos rfl, hs]; rfl
    · rw [if_neg e])
theorem size_cat (s t : ByteArray) : (catB s t).size = s.size + t.size := by
  show (s.data.toList ++ t.data.toList).toArray.size = _
  simp
theorem size_cut (s : ByteArray) (n : Nat) (h : n ≤ s.size) : (cutB s n).size = n := by
  show ((s.data.toList.take n).toArray).size = n
  have : s.data.toList.length = s.size := by simp
  simp; omega
theorem sizeAt_eq (L : Fs) (n : ByteArray) : sizeAt L n = (getF L n).s.size := by
  unfold sizeAt getF
  cases mget L n <;> rfl
theorem getF_last {x : Dk} (h : DkOk x) (n : ByteArray) : (getF x.L n).lasts ≤ (getF x.L n).s.size := by
  unfold getF
  cases e : mget x.L n with
  | none => exact Nat.le_refl 0
  | some f => exact h.last _ (mem_of_get e)
theorem full_of {x : Dk} {n : ByteArray} {k : Nat} (h : fullB x n k = false) : k ≤ 4194304 ∧ ((mget x.L n).isSome = true ∨ x.L.length < 4096) := by
  unfold fullB at h
  simp only [Bool.or_eq_false_iff, Bool.and_eq_false_iff, decide_eq_false_iff_not] at h
  refine ⟨by omega, ?_⟩
  rcases h.2 with h | h
  · left; cases e : mget x.L n <;> simp_all
  · exact .inr (by omega)
theorem burn_fuse (x : Dk) (h : -1 ≤ x.fuse) : (burn x).fuse = (if 0 < x.fuse then x.fuse - 1 else x.fuse) ∧ (burn x).L = x.L ∧ (burn x).down = x.down := by
  unfold burn; split <;> exact ⟨rfl, rfl, rfl⟩
/-- a disk with a file put -/
theorem DkOk.put {x : Dk} (h : DkOk x) {n : ByteArray} {f : Fl} (hn : nameD n = true) (hs : fsumBut n x.L + f.s.size ≤ 4194304) (hl : f.lasts ≤ f.s.size) (hr : (mget x.L n).isSome = true ∨ x.L.length < 4096) {fu : Int} {dn : Bool} (h1 : -1 ≤ fu) (h2 : fu ≤ 9223372036854775807) : DkOk ⟨fput x.L n f, fu, dn⟩ where
  rise := fput_rise h.rise n f
  sum := by show fsum (fput x.L n f) ≤ _; rw [fsum_put h.rise]; exact hs
  last := fun p hp => by
    rcases fput_mem hp with rfl | hp
    · exact hl
    · exact h.last p hp.1
  name := fun p hp => by
    rcases fput_mem hp with rfl | hp
    · exact hn
    · exact h.name p hp.1
  fuse := h1
  fuse2 := h2
  len := by
    show (fput x.L n f).length ≤ _
    rcases hr with hr | hr
    · rw [fput_len2 h.rise f hr]; exact h.len
    · have := fput_len h.rise n f; omega
theorem DkOk.same {x : Dk} (h : DkOk x) {fu : Int} {dn : Bool} (h1 : -1 ≤ fu) (h2 : fu ≤ 9223372036854775807) : DkOk ⟨x.L, fu, dn⟩ := ⟨h.rise, h.sum, h.last, h.name, h1, h2, h.len⟩
theorem DkOk.del {x : Dk} (h : DkOk x) (n : ByteArray) {fu : Int} {dn : Bool} (h1 : -1 ≤ fu) (h2 : fu ≤ 9223372036854775807) : DkOk ⟨fdel x.L n, fu, dn⟩ where
  rise := fdel_rise h.rise n
  sum := by show fsum (fdel x.L n) ≤ _; rw [fsum_del]; have := fsum_at h.rise.nodup n; have := h.sum; omega
  last := fun p hp => h.last p (List.mem_filter.1 hp).1
  name := fun p hp => h.name p (List.mem_filter.1 hp).1
  fuse := h1
  fuse2 := h2
  len := by have := List.length_filter_le (fun q : ByteArray × Fl => decide (q.1 ≠ n)) x.L; have := h.len; show (fdel x.L n).length ≤ _; unfold fdel; omega
theorem burn_in {x : Dk} (h : DkOk x) : -1 ≤ (burn x).fuse ∧ (burn x).fuse ≤ 9223372036854775807 := by
  have h1 := h.fuse; have h2 := h.fuse2
  rw [(burn_fuse x h1).1]
  split <;> omega
theorem burn_eq {x : Dk} (L : Fs) : ({ burn x with L := L } : Dk) = ⟨L, (burn x).fuse, x.down⟩ := by
  unfold burn; split <;> rfl
theorem sum_put {x : Dk} (h : DkOk x) (n s : ByteArray) : fsumBut n x.L + (catB (getF x.L n).s s).size = fsum x.L + s.size := by
  have := fsum_at h.rise.nodup n
  rw [sizeAt_eq] at this
  rw [size_cat]; omega
theorem stepA_ok {x : Dk} (h : DkOk x) (n s : ByteArray) : DkOk (stepA x n s).1 := by
  unfold stepA
  split
  · exact h
  · split
    · exact h
    · rename_i hn
      split
      · exact h
      · rename_i hf
        have hf' := full_of (by simpa using hf)
        have hl := getF_last h n
        have hs := sum_put h n s
        split
        · exact h.put (f := { getF x.L n with s := catB (getF x.L n).s s }) (by simpa using hn) (by show _ + (catB (getF x.L n).s s).size ≤ _; omega) (by show (getF x.L n).lasts ≤ (catB (getF x.L n).s s).size; rw [size_cat]; omega) hf'.2 h.fuse h.fuse2
        · rw [burn_eq]
          exact h.put (f := { getF x.L n with s := catB (getF x.L n).s s }) (by simpa using hn) (by show _ + (catB (getF x.L n).s s).size ≤ _; omega) (by show (getF x.L n).lasts ≤ (catB (getF x.L n).s s).size; rw [size_cat]; omega) hf'.2 (burn_in h).1 (burn_in h).2
theorem stepS_ok {x : Dk} (h : DkOk x) (n : ByteArray) : DkOk (stepS x n).1 := by
  unfold stepS
  split
  · exact h
  · split
    · exact h
    · rename_i hn
      split
      · exact h
      · rename_i hg
        split
        · exact h.same h.fuse h.fuse2
        · rw [burn_eq]
          have hs := fsum_at h.rise.nodup n
          rw [sizeAt_eq] at hs
          have := h.sum
          exact h.put (f := ⟨(getF x.L n).s, (getF x.L n).s.size, true⟩) (by simpa using hn) (by show _ + (getF x.L n).s.size ≤ _; omega) (Nat.le_refl _) (.inl (by cases e : mget x.L n <;> simp_all)) (burn_in h).1 (burn_in h).2
theorem stepR_ok {x : Dk} (h : DkOk x) (n s : ByteArray) : DkOk (stepR x n s).1 := by
  unfold stepR
  split
  · exact h
  · split
    · exact h
    · rename_i hn
      split
      · exact h
      · rename_i hf
        have hf' := full_of (by simpa using hf)
        split
        · exact h.same h.fuse h.fuse2
        · rw [burn_eq]
          exact h.put (f := ⟨s, s.size, true⟩) (by simpa using hn) hf'.1 (Nat.le_refl _) hf'.2 (burn_in h).1 (burn_in h).2
theorem stepD_ok {x : Dk} (h : DkOk x) (n : ByteArray) : DkOk (stepD x n).1 := by
  unfold stepD
  split
  · exact h
  · split
    · exact h
    · split
      · exact h
      · split
        · exact h.same h.fuse h.fuse2
        · rw [burn_eq]
          exact h.del n (burn_in h).1 (burn_in h).2
theorem armD_ok {x : Dk} (h : DkOk x) (n : Int) (hn : n ≤ 9223372036854775807) : DkOk (armD x n) := by
  unfold armD
  exact h.same (by split <;> omega) (by split <;> omega)
end Go.Proofs.YtkofcegdoilaeaaGreatDoor

/- 'for k, v := range m' over a map of the call's own that the loop leaves alone. No program in sight. -/
import Derived.Test.YthkdcbmcknndnaaMapOps
namespace Go.Proofs.Ythkdcbmcknndnaa
open Go.RowKit Go.MapKept Go.Maps
open Go.ChangeMaps (setBlock)
set_option linter.unusedVariables false
set_option linter.unusedSectionVars false
set_option linter.unnecessarySimpa false
/-- block it of w is an iterator over the map in block r, which holds m; left is still to come -/
structure Rg {α : Type} (enc : α → Value) (Ok : α → Prop) (w : World) (r it : Nat) (m left : List (α × Value)) : Prop where
  mp : Mp enc Ok w r m
  sub : ∀ p ∈ left, p ∈ m
  ex : ∃ es clock since seen c0, w.heap[r]? = some (.map es clock) ∧ w.heap[it]? = some (.mapIter (some r) since seen c0) ∧ (∀ x ∈ es.toList, x.born < since) ∧ since ≤ c0 ∧ since ≤ clock ∧ (es.toList.map (·.born)).Nodup ∧
    ((leftOf es seen).toList.map (fun e => (e.key, e.val))).Perm (left.map (fun p => (enc p.1, p.2)))
section
variable {P : Program} {k t e : TypeId} {α : Type} [DecidableEq α] {enc : α → Value} {Ok : α → Prop} {w : World} {r it : Nat} {m left : List (α × Value)}
theorem Rg.ne (h : Rg enc Ok w r it m left) : it ≠ r := by
  obtain ⟨es, clock, since, seen, c0, hb, hi, _⟩ := h.ex
  intro e
  rw [e, hb] at hi
  cases hi
theorem Rg.lt (h : Rg enc Ok w r it m left) : it < w.heap.size := by
  obtain ⟨es, clock, since, seen, c0, hb, hi, _⟩ := h.ex
  exact lt_of_at hi
theorem Rg.fr {S : Nat → Prop} {w' : World} (h : Rg enc Ok w r it m left) (hf : Fr S w w') (hs : ¬ S r) (hi : ¬ S it) : Rg enc Ok w' r it m left := by
  obtain ⟨es, clock, since, seen, c0, hb, h1, h2⟩ := h.ex
  exact ⟨h.mp.fr hf hs, h.sub, es, clock, since, seen, c0, hf.at hb hs, hf.at h1 hi, h2⟩
theorem Rg.bel {w' : World} (h : Rg enc Ok w r it m left) (hb : Below w.heap.size w w') : Rg enc Ok w' r it m left := h.fr (Fr.of_bel (S := none') hb) id id
theorem Rg.left_eq (h : Rg enc Ok w r it m left) : w.rangeLeft r it = left.length := by
  obtain ⟨es, clock, since, seen, c0, hb, hi, _, _, _, _, hp⟩ := h.ex
  simp only [World.rangeLeft, hb, hi]
  have := hp.length_eq
  simpa using this
theorem stamped_nodup {es : Array MapEntry} {clock : Nat} (h : Stamped es clock) : (es.toList.map (·.born)).Nodup := ((stamped_iff es clock).1 h).2.1
/-- 'range m' -/
theorem Mp.range (h : Mp enc Ok w r m) (ht : P.underlying t = some (.map k e)) :
    ∃ w', (Instr.range t (.map (some r))).run P w = .ok (.pointer (some ⟨w.heap.size, 0, none⟩)) w' ∧ Rg enc Ok w' r w.heap.size m m ∧ Below w.heap.size w w' ∧ w'.heap.size = w.heap.size + 1 := by
  have hlt := h.lt
  obtain ⟨es, clock, hb, hs, he⟩ := h.ex
  have hbel := (Below.refl w.heap.size w).alloc (Nat.le_refl _) (.mapIter (some r) clock #[] clock)
  refine ⟨_, run_range_map w t k e r es clock ht hb, ⟨h.bel hbel, fun _ h => h, es, clock, clock, #[], clock, ((MapKept.heap_alloc w _).2 r hlt).trans hb, (MapKept.heap_alloc w _).1, hs.1, Nat.le_refl _, Nat.le_refl _, stamped_nodup hs, ?_⟩, hbel, by simp⟩
  have : leftOf es #[] = es := by simp [leftOf]
  rw [this, he]
theorem leftOf_push {es : Array MapEntry} {seen : Array Nat} (hn : (es.toList.map (·.born)).Nodup) {e : MapEntry} (he : e ∈ (leftOf es seen).toList) :
    ∃ l1 l2, (leftOf es seen).toList = l1 ++ e :: l2 ∧ (leftOf es (seen.push e.born)).toList = l1 ++ l2 := by
  have hsub : ((leftOf es seen).toList.map (·.born)).Nodup := by
    unfold leftOf
    rw [Array.toList_filter]
    exact List.Nodup.sublist (List.Sublist.map _ List.filter_sublist) hn
  have h2 : (leftOf es (seen.push e.born)).toList = (leftOf es seen).toList.filter (fun x => !(x.born == e.born)) := by
    unfold leftOf
    rw [Array.toList_filter, Array.toList_filter, List.filter_filter]
    refine List.filter_congr fun x _ => ?_
    rw [Bool.eq_iff_iff]
    simp [and_comm]
  obtain ⟨l1, l2, hl⟩ := List.append_of_mem he
  refine ⟨l1, l2, hl, ?_⟩
  rw [h2, hl]
  rw [hl, List.map_append, List.map_cons, List.nodup_append] at hsub
  obtain ⟨n1, n2, n3⟩ := hsub
  have n2' := List.nodup_cons.1 n2
  have f1 : l1.filter (fun x => !(x.born == e.born)) = l1 := List.filter_eq_self.2 fun x hx => by
    have := n3 x.born (List.mem_map.2 ⟨x, hx, rfl⟩) e.born (by simp)
    simpa using this
  have f2 : l2.filter (fun x => !(x.born == e.born)) = l2 := List.filter_eq_self.2 fun x hx => by
    have : x.born ≠ e.born := fun h => n2'.1 (h ▸ List.mem_map.2 ⟨x, hx, rfl⟩)
    simpa using this
  rw [List.filter_append, List.filter_cons, f1, f2]
  simp
/-- the step -/
theorem Rg.next (h : Rg enc Ok w r it m left) (ty : TypeId) :
    (left = [] ∧ (Instr.next (.pointer (some ⟨it, 0, none⟩)) false ty).run P w = .ok (.tuple #[.bool false]) w) ∨
    ∃ a v rest w', left.Perm ((a, v) :: rest) ∧ Ok a ∧ (a, v) ∈ m ∧ (Instr.next (.pointer (some ⟨it, 0, none⟩)) false ty).run P w = .ok (.tuple #[.bool true, enc a, v]) w' ∧
      Rg enc Ok w' r it m rest ∧ Fr (fun b => b = it) w w' ∧ w'.heap.size = w.heap.size ∧ (Instr.entry (.pointer (some ⟨it, 0, none⟩))).run P w' = .ok (.tuple #[enc a, v]) w' := by
  have hne := h.ne
  have hlt := h.lt
  obtain ⟨es, clock, since, seen, c0, hb, hi, hold, hsc, hsk, hnd, hp⟩ := h.ex
  rcases run_next_at (P := P) w ty it r since c0 seen es clock hi hb hold hsc with ⟨h0, hrun⟩ | ⟨x, hx, w1, hal, hrun⟩
  · refine .inl ⟨?_, hrun⟩
    have := hp.length_eq
    simp [h0] at this
    exact List.eq_nil_of_length_eq_zero this.symm
  · obtain ⟨l1, l2, hl, hl'⟩ := leftOf_push hnd hx
    have hm : (x.key, x.val) ∈ left.map (fun p => (enc p.1, p.2)) := hp.mem_iff.1 (List.mem_map.2 ⟨x, hx, rfl⟩)
    obtain ⟨p, hpl, hpe⟩ := List.mem_map.1 hm
    obtain ⟨q1, q2, hq⟩ := List.append_of_mem hpl
    have e1 : enc p.1 = x.key := (Prod.mk.inj hpe).1
    have e2 : p.2 = x.val := (Prod.mk.inj hpe).2
    have f1 : Fr (fun b => b = it) w w1 := by
      rcases hal with rfl | rfl
      · exact Fr.refl _ _
      · exact (Fr.refl _ _).drew
    have hs1 : w1.heap.size = w.heap.size := by rcases hal with rfl | rfl <;> rfl
    have f2 := f1.trans (fr_setBlock w1 it (.mapIter (some r) since (seen.push x.born) clock)) (fun _ _ h => h)
    have hit : (setBlock w1 it (.mapIter (some r) since (seen.push x.born) clock)).heap[it]? = some (.mapIter (some r) since (seen.push x.born) clock) := at_setBlock (by omega) _
    have hmr : (setBlock w1 it (.mapIter (some r) since (seen.push x.born) clock)).heap[r]? = some (.map es clock) := f2.at hb (fun e => hne e.symm)
    have hxm : x ∈ es.toList := by
      unfold leftOf at hx
      rw [Array.toList_filter] at hx
      exact (List.mem_filter.1 hx).1
    refine .inr ⟨p.1, p.2, q1 ++ q2, _, ?_, h.mp.ok p (h.sub p hpl), h.sub p hpl, ?_, ⟨h.mp.fr f2 (fun e => hne e.symm), fun q hq' => h.sub q (by rw [hq]; rcases List.mem_append.1 hq' with h | h <;> simp [h]), es, clock, since, seen.push x.born, clock, hmr, hit, hold, hsk, hsk, hnd, ?_⟩, f2, by simp [setBlock, hs1], ?_⟩
    · rw [hq]; exact List.perm_middle
    · rw [e1, e2]; exact hrun
    · rw [hl']
      rw [hl, hq] at hp
      have h3 : ((x.key, x.val) :: (l1 ++ l2).map (fun e => (e.key, e.val))).Perm ((enc p.1, p.2) :: (q1 ++ q2).map (fun p => (enc p.1, p.2))) := by
        refine (List.Perm.trans ?_ hp).trans ?_
        · simpa using (List.perm_middle (a := (x.key, x.val)) (l₁ := l1.map (fun e => (e.key, e.val))) (l₂ := l2.map (fun e => (e.key, e.val)))).symm
        · simpa using (List.perm_middle (a := (enc p.1, p.2)) (l₁ := q1.map (fun p => (enc p.1, p.2))) (l₂ := q2.map (fun p => (enc p.1, p.2))))
      rw [e1, e2] at h3
      exact h3.cons_inv
    · rw [e1, e2]; exact run_entry_at _ it r since seen es clock x hit hmr hxm hnd
variable {ops : Array Oper} {rest : List Oper} {o : Oper} {a : Act} {Q : Exit → Act → World → Prop}
theorem wpList_range (hg : o.guard = none) (om : Operand) (hop : o.op = Op.range t om) (ht : P.underlying t = some (.map k e)) (h : Mp enc Ok w r m) (hm : a.eval om = .map (some r))
    (hK : ∀ w', Rg enc Ok w' r w.heap.size m m → Below w.heap.size w w' → w'.heap.size = w.heap.size + 1 → wpList P ops Q rest (a.put o.dst (.pointer (some ⟨w.heap.size, 0, none⟩))) w') : wpList P ops Q (o :: rest) a w := by
  refine wpList_plain hg fun K' hK' => ?_
  obtain ⟨w', hrun, r1, r2, r3⟩ := h.range (P := P) ht
  unfold Oper.wp
  simp [execOp, hop, hm, hrun, Result.andThen]
  exact hK' _ _ (hK w' r1 r2 r3)
theorem wpList_next (hg : o.guard = none) (oi : Operand) (hop : o.op = Op.next oi false) (h : Rg enc Ok w r it m left) (hm : a.eval oi = .pointer (some ⟨it, 0, none⟩))
    (hDone : left = [] → wpList P ops Q rest (a.put o.dst (.tuple #[.bool false])) w)
    (hMore : ∀ x v more w', left.Perm ((x, v) :: more) → Ok x → (x, v) ∈ m → Rg enc Ok w' r it m more → Fr (fun b => b = it) w w' → w'.heap.size = w.heap.size → (Instr.entry (.pointer (some ⟨it, 0, none⟩))).run P w' = .ok (.tuple #[enc x, v]) w' →
      wpList P ops Q rest (a.put o.dst (.tuple #[.bool true, enc x, v])) w') : wpList P ops Q (o :: rest) a w := by
  refine wpList_plain hg fun K' hK' => ?_
  unfold Oper.wp
  rcases h.next (P := P) o.type with ⟨h0, hrun⟩ | ⟨x, v, more, w', h1, h2, h3, hrun, h4, h5, h6, h7⟩
  · simp [execOp, hop, hm, hrun, Result.andThen]
    exact hK' _ _ (hDone h0)
  · simp [execOp, hop, hm, hrun, Result.andThen]
    exact hK' _ _ (hMore x v more w' h1 h2 h3 h4 h5 h6 h7)
/-- the step, the key's value as it is written -/
theorem wpList_next' (kv : α → Value) (hkv : ∀ x, enc x = kv x) (hg : o.guard = none) (oi : Operand) (hop : o.op = Op.next oi false) (h : Rg enc Ok w r it m left) (hm : a.eval oi = .pointer (some ⟨it, 0, none⟩))
    (hDone : left = [] → wpList P ops Q rest (a.put o.dst (.tuple #[.bool false])) w)
    (hMore : ∀ x v more w', left.Perm ((x, v) :: more) → Ok x → (x, v) ∈ m → Rg enc Ok w' r it m more → Fr (fun b => b = it) w w' → w'.heap.size = w.heap.size → (Instr.entry (.pointer (some ⟨it, 0, none⟩))).run P w' = .ok (.tuple #[kv x, v]) w' →
      wpList P ops Q rest (a.put o.dst (.tuple #[.bool true, kv x, v])) w') : wpList P ops Q (o :: rest) a w :=
  wpList_next hg oi hop h hm hDone (fun x v more w' h1 h2 h3 h4 h5 h6 h7 => by rw [hkv] at h7 ⊢; exact hMore x v more w' h1 h2 h3 h4 h5 h6 h7)
/-- 'len(m)' -/
theorem Mp.len (h : Mp enc Ok w r m) (ht : P.underlying t = some (.map k e)) (ty : TypeId) : (Builtin.len_ #[t] ty #[.map (some r)]).run P w = .ok (.int .i64 m.length) w := by
  obtain ⟨es, clock, hb, hs, he⟩ := h.ex
  have h1 : es.size = m.length := by have := congrArg List.length he; simpa using this
  simp [Builtin.len_, run_underlying ht, Go.MapKept.run_getObj_map hb, Result.andThen, h1, goInt]
end
end Go.Proofs.Ythkdcbmcknndnaa

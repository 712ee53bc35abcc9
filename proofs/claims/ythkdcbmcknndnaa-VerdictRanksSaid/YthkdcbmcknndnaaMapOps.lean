/- The operations on a map of the call's own, for the walk. No program in sight. -/
import Derived.Test.YthkdcbmcknndnaaMap
namespace Go.Proofs.Ythkdcbmcknndnaa
open Go.RowKit Go.MapKept Go.Maps
open Go.ChangeMaps (setBlock)
set_option linter.unusedVariables false
set_option linter.unusedSectionVars false
section
variable {P : Program} {k t e : TypeId} {α : Type} [DecidableEq α] {enc : α → Value} {Ok : α → Prop} {w : World} {r : Nat} {m : List (α × Value)}
theorem Mp.find (h : Mp enc Ok w r m) (K : KeyEnc P k enc Ok) {a : α} (ha : Ok a) {es : Array MapEntry} (he : es.toList.map (fun e => (e.key, e.val)) = m.map (fun p => (enc p.1, p.2))) (w' : World) :
    ((Instr.findKey k (enc a) es.toList).run P w' = .ok none w' ∧ (∀ x ∈ es.toList, x.key ≠ enc a) ∧ ∀ p ∈ m, p.1 ≠ a) ∨
    ∃ j e0 v, (Instr.findKey k (enc a) es.toList).run P w' = .ok (some (j, v)) w' ∧ es.toList[j]? = some e0 ∧ e0.key = enc a ∧ m[j]? = some (a, v) := by
  obtain ⟨l, hl⟩ := K.key ha
  rcases K.law.find w' hl es.toList (fun x hx => by
    obtain ⟨j, hj, ej⟩ := List.mem_iff_getElem.1 hx
    obtain ⟨p, hp, h1, h2⟩ := ent_at he (j := j) (e := x) (by rw [List.getElem?_eq_getElem hj, ej])
    rw [h1]
    exact K.key (h.ok p (List.mem_of_getElem? hp))) with ⟨h1, h2⟩ | ⟨j, e0, h1, h2, h3⟩
  · refine .inl ⟨h1, h2, fun p hp ea => ?_⟩
    obtain ⟨x, hx, hk, _⟩ := ent_of he hp
    exact h2 x hx (by rw [hk, ea])
  · obtain ⟨p, hp, h4, h5⟩ := ent_at he h2
    have : p.1 = a := K.inj (h4.symm.trans h3)
    exact .inr ⟨j, e0, p.2, by rw [h1, h5], h2, h3, by rw [hp, ← this]⟩
/-- 'm[a]', 'v, ok := m[a]' -/
theorem Mp.look (h : Mp enc Ok w r m) (K : KeyEnc P k enc Ok) (ht : P.underlying t = some (.map k e)) {z : Value} (hz : (zeroValue e).run P w = .ok z w) {a : α} (ha : Ok a) (c : Bool) :
    (Instr.lookup t (.map (some r)) (enc a) c).run P w = .ok (if c then .tuple #[(mget m a).getD z, .bool (mget m a).isSome] else (mget m a).getD z) w := by
  obtain ⟨es, clock, hb, hs, he⟩ := h.ex
  obtain ⟨l, hl⟩ := K.key ha
  rcases h.find K ha he w with ⟨h1, h2, h3⟩ | ⟨j, e0, v, h1, h2, h3, h4⟩
  · rw [mget_none h3]
    simp [Instr.lookup, run_underlying ht, Go.MapKept.run_getObj_map hb, K.law.check w _ hl, h1, hz, Result.andThen]
  · rw [mget_at h.nd h4]
    simp [Instr.lookup, run_underlying ht, Go.MapKept.run_getObj_map hb, K.law.check w _ hl, h1, Result.andThen]
/-- 'm[a] = v' -/
theorem Mp.store (h : Mp enc Ok w r m) (K : KeyEnc P k enc Ok) (ht : P.underlying t = some (.map k e)) {a : α} (ha : Ok a) (v : Value) :
    ∃ w', (Instr.mapUpdate t (.map (some r)) (enc a) v).run P w = .ok () w' ∧ Mp enc Ok w' r (mput m a v) ∧ Fr (fun b => b = r) w w' ∧ w'.heap.size = w.heap.size := by
  have hlt := h.lt
  have hok : ∀ p ∈ mput m a v, Ok p.1 := fun p hp => by
    rcases mem_put hp with rfl | hp
    · exact ha
    · exact h.ok p hp
  obtain ⟨es, clock, hb, hs, he⟩ := h.ex
  obtain ⟨l, hl⟩ := K.key ha
  rcases h.find K ha he w with ⟨h1, h2, h3⟩ | ⟨j, e0, u, h1, h2, h3, h4⟩
  · refine ⟨setBlock w r (.map (es.push ⟨enc a, v, clock⟩) (clock + 1)), ?_, ⟨hok, nodup_put h.nd a v, _, _, at_setBlock hlt _, stamped_push hs h2, ?_⟩, fr_setBlock _ _ _, by simp [setBlock]⟩
    · simp [Instr.mapUpdate, run_underlying ht, Go.MapKept.run_getObj_map hb, K.law.check w false hl, h1, Go.MapKept.run_setObj_map _ hb, Result.andThen, setBlock]
    · rw [mput_none h3, Array.toList_push, List.map_append, List.map_append, he]; rfl
  · have hj : es[j]? = some e0 := by simpa using h2
    have hkeyf : ∀ e', es[j]? = some e' → ({ e' with key := enc a, val := v } : MapEntry).key = e'.key := fun e' he' => by rw [hj] at he'; cases he'; exact h3.symm
    have hlist : (es.modify j (fun e' => { e' with key := enc a, val := v })).toList = es.toList.set j { e0 with key := enc a, val := v } := by rw [Array.toList_modify, Go.ChangeMaps.modify_eq_set _ _ _ _ h2]
    refine ⟨setBlock w r (.map (es.modify j (fun e' => { e' with key := enc a, val := v })) clock), ?_, ⟨hok, nodup_put h.nd a v, _, _, at_setBlock hlt _, stamped_modify hs _ _ (fun _ _ => rfl) (fun e' _ he' => hkeyf e' he'), ?_⟩, fr_setBlock _ _ _, by simp [setBlock]⟩
    · simp [Instr.mapUpdate, run_underlying ht, Go.MapKept.run_getObj_map hb, K.law.check w false hl, h1, hj, h3, K.law.stays w hl, Go.MapKept.run_setObj_map _ hb, Result.andThen, setBlock]
    · rw [hlist, mput_at h.nd h4, List.map_set, List.map_set, he]
/-- 'delete(m, a)' -/
theorem Mp.drop (h : Mp enc Ok w r m) (K : KeyEnc P k enc Ok) (ht : P.underlying t = some (.map k e)) {a : α} (ha : Ok a) (ty : TypeId) :
    ∃ w', (Builtin.delete_ #[t, k] ty #[.map (some r), enc a]).run P w = .ok (.tuple #[]) w' ∧ Mp enc Ok w' r (mdel m a) ∧ Fr (fun b => b = r) w w' ∧ w'.heap.size = w.heap.size := by
  have hlt := h.lt
  have hok : ∀ p ∈ mdel m a, Ok p.1 := fun p hp => h.ok p ((del_sub m a).subset hp)
  obtain ⟨es, clock, hb, hs, he⟩ := h.ex
  obtain ⟨l, hl⟩ := K.key ha
  rcases h.find K ha he w with ⟨h1, h2, h3⟩ | ⟨j, e0, u, h1, h2, h3, h4⟩
  · refine ⟨setBlock w r (.map es clock), ?_, ⟨hok, nodup_del h.nd a, es, clock, at_setBlock hlt _, hs, ?_⟩, fr_setBlock _ _ _, by simp [setBlock]⟩
    · simp [Builtin.delete_, run_underlying ht, Go.MapKept.run_getObj_map hb, K.law.check w _ hl, h1, Go.MapKept.run_setObj_map _ hb, Result.andThen, setBlock]
    · rw [mdel_none h3, he]
  · have hjl : j < es.toList.length := (List.getElem?_eq_some_iff.1 h2).1
    have hjs : j < es.size := by simpa using hjl
    have hsub : (es.eraseIdxIfInBounds j).toList = es.toList.eraseIdx j := by
      unfold Array.eraseIdxIfInBounds
      rw [dif_pos hjs]
      simp
    refine ⟨setBlock w r (.map (es.eraseIdxIfInBounds j) clock), ?_, ⟨hok, nodup_del h.nd a, _, clock, at_setBlock hlt _, stamped_erase hs j, ?_⟩, fr_setBlock _ _ _, by simp [setBlock]⟩
    · simp [Builtin.delete_, run_underlying ht, Go.MapKept.run_getObj_map hb, K.law.check w _ hl, h1, Go.MapKept.run_setObj_map _ hb, Result.andThen, setBlock]
    · rw [hsub, mdel_at h.nd h4, Go.ChangeMaps.map_eraseIdx, Go.ChangeMaps.map_eraseIdx, he]
variable {ops : Array Oper} {rest : List Oper} {o : Oper} {a : Act} {Q : Exit → Act → World → Prop}
theorem wpList_look (hg : o.guard = none) (om ox : Operand) (hop : o.op = Op.lookup t om ox false) (K : KeyEnc P k enc Ok) (ht : P.underlying t = some (.map k e)) {z : Value} (hz : (zeroValue e).run P w = .ok z w)
    (h : Mp enc Ok w r m) (hm : a.eval om = .map (some r)) (x : α) (hx : a.eval ox = enc x) (hk : Ok x)
    (v : Value) (hv : (mget m x).getD z = v) (hK : wpList P ops Q rest (a.put o.dst v) w) : wpList P ops Q (o :: rest) a w := by
  refine wpList_plain hg fun K' hK' => ?_
  have hr := h.look K ht hz hk false
  rw [hv] at hr
  unfold Oper.wp
  simp [execOp, hop, hm, hx, hr, Result.andThen]
  exact hK' _ _ hK
theorem wpList_look_ok (hg : o.guard = none) (om ox : Operand) (hop : o.op = Op.lookup t om ox true) (K : KeyEnc P k enc Ok) (ht : P.underlying t = some (.map k e)) {z : Value} (hz : (zeroValue e).run P w = .ok z w)
    (h : Mp enc Ok w r m) (hm : a.eval om = .map (some r)) (x : α) (hx : a.eval ox = enc x) (hk : Ok x)
    (v : Value) (hv : (mget m x).getD z = v) (b : Bool) (hb : (mget m x).isSome = b) (hK : wpList P ops Q rest (a.put o.dst (.tuple #[v, .bool b])) w) : wpList P ops Q (o :: rest) a w := by
  refine wpList_plain hg fun K' hK' => ?_
  have hr := h.look K ht hz hk true
  rw [hv, hb] at hr
  unfold Oper.wp
  simp [execOp, hop, hm, hx, hr, Result.andThen]
  exact hK' _ _ hK
theorem wpList_store (hg : o.guard = none) (om ox ov : Operand) (hop : o.op = Op.mapUpdate t om ox ov) (K : KeyEnc P k enc Ok) (ht : P.underlying t = some (.map k e))
    (h : Mp enc Ok w r m) (hm : a.eval om = .map (some r)) (x : α) (hx : a.eval ox = enc x) (hk : Ok x) (v : Value) (hv : a.eval ov = v)
    (hK : ∀ w', Mp enc Ok w' r (mput m x v) → Fr (fun b => b = r) w w' → w'.heap.size = w.heap.size → wpList P ops Q rest (a.put o.dst undef) w') : wpList P ops Q (o :: rest) a w := by
  refine wpList_plain hg fun K' hK' => ?_
  obtain ⟨w', hrun, r1, r2, r3⟩ := h.store K ht hk v
  unfold Oper.wp
  simp [execOp, hop, hm, hx, hv, hrun, Result.andThen]
  exact hK' _ _ (hK w' r1 r2 r3)
theorem wpList_drop (hg : o.guard = none) (om ox : Operand) (hop : o.op = Op.call { callee := Callee.builtin Builtin.delete, args := #[om, ox], argTypes := #[t, k] }) (K : KeyEnc P k enc Ok) (ht : P.underlying t = some (.map k e))
    (h : Mp enc Ok w r m) (hm : a.eval om = .map (some r)) (x : α) (hx : a.eval ox = enc x) (hk : Ok x)
    (hK : ∀ w', Mp enc Ok w' r (mdel m x) → Fr (fun b => b = r) w w' → w'.heap.size = w.heap.size → wpList P ops Q rest (a.put o.dst (.tuple #[])) w') : wpList P ops Q (o :: rest) a w := by
  refine wpList_plain hg fun K' hK' => ?_
  obtain ⟨w', hrun, r1, r2, r3⟩ := h.drop K ht hk o.type
  unfold Oper.wp
  simp [execOp, hop, resolve, invoke, builtin, hm, hx, hrun, Result.andThen]
  exact hK' _ _ (hK w' r1 r2 r3)
end
end Go.Proofs.Ythkdcbmcknndnaa

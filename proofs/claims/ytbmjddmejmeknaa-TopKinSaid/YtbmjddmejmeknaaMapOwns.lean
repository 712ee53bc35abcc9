/- A map of the call's own with texts for keys, in the library's words. No program in sight. -/
import Derived.Test.YtbmjddmejmeknaaMapRange
import Derived.Sort.KeysCollected
namespace Go.Proofs.Ytbmjddmejmeknaa
open Go.RowKit Go.MapKept Go.Maps Go.WideShapes
open Go.WideElems (Fit rd rg)
set_option linter.unusedVariables false
/-- how a value is read: not at all -/
def blind : Value → Option (DataW Unit × List MemPlace) := fun _ => some (.nil, [])
theorem blind_rg {P : Program} {k : TypeId} (x : MapEntry) : (rg P k blind x).1 = (keyOf P k x.key).getD (.bool false) := by
  unfold rg rd blind
  cases keyOf P k x.key <;> rfl
theorem mp_owns {P : Program} {k : TypeId} (hk : P.underlying k = some .string) {w : World} {r : Nat} {m : List (ByteArray × Value)} (h : Mp Value.string (fun s => s.size ≤ maxLen) w r m) (hm : m.length ≤ maxLen) :
    ∃ D : DataW Unit, w.ownsMap P k blind r m.length D ∧ (strKeys D).Perm (m.map fun p => p.1.data.toList) ∧ Maps.size D = m.length := by
  obtain ⟨es, clock, hb, hs, he⟩ := h.ex
  have hl : es.toList.length = m.length := by have := congrArg List.length he; simpa using this
  have hkey : ∀ x ∈ es.toList, ∃ s : ByteArray, s.size ≤ maxLen ∧ x.key = .string s := fun x hx => by
    obtain ⟨j, hj, ej⟩ := List.mem_iff_getElem.1 hx
    obtain ⟨p, hp, h1, _⟩ := ent_at he (j := j) (e := x) (by rw [List.getElem?_eq_getElem hj, ej])
    exact ⟨p.1, h.ok p (List.mem_of_getElem? hp), h1⟩
  refine ⟨.map ((es.toList.map (rg P k blind)).foldr DataW.insert []), ⟨es, clock, hb, ⟨by simpa using (by omega : es.toList.length ≤ maxLen), hs, fun x hx => ?_⟩, by simpa using Nat.le_of_eq hl, rfl⟩, ?_, ?_⟩
  · obtain ⟨s, hs', e⟩ := hkey x hx
    refine ⟨(.string s.data.toList, .nil), ?_⟩
    unfold rd blind
    rw [e, WideMaps.keyOf_string_mk hk hs']
    rfl
  · show (List.map (fun p : Lit × DataW Unit => strOf p.1) _).Perm _
    refine ((sorted_perm (es.toList.map (rg P k blind))).map _).trans ?_
    rw [List.map_map]
    have e1 : es.toList.map ((fun p : Lit × DataW Unit => strOf p.1) ∘ rg P k blind) = (es.toList.map (fun e => (e.key, e.val))).map (fun q => strOf ((keyOf P k q.1).getD (.bool false))) := by
      rw [List.map_map]
      refine List.map_congr_left fun x _ => ?_
      simp only [Function.comp, blind_rg]
    rw [e1, he, List.map_map]
    refine List.Perm.of_eq (List.map_congr_left fun p hp => ?_)
    simp only [Function.comp, WideMaps.keyOf_string_mk hk (h.ok p hp)]
    rfl
  · show (List.length _) = _
    rw [(sorted_perm _).length_eq, List.length_map, hl]
/-- a map, cloned -/
theorem Mp.cloned {α : Type} {enc : α → Value} {Ok : α → Prop} {w : World} {r : Nat} {m : List (α × Value)} (h : Mp enc Ok w r m) : ∃ es clock, w.heap[r]? = some (.map es clock) ∧ Mp enc Ok (w.alloc (.map es clock)) w.heap.size m := by
  obtain ⟨es, clock, hb, hs, he⟩ := h.ex
  exact ⟨es, clock, hb, h.ok, h.nd, es, clock, (heap_alloc w _).1, hs, he⟩
end Go.Proofs.Ytbmjddmejmeknaa

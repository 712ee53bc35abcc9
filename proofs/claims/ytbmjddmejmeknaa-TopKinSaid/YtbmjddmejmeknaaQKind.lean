/- Chapter 17: tables, boxes and rows beside one another; contracts of New, own, Add's parts, by one word. -/
import Derived.Test.YtbmjddmejmeknaaQCopy
import Derived.Lib.SlicesCompact
namespace Go.Proofs.Ytbmjddmejmeknaa.Pr
open Go.RowKit Go.MapKept Go.Maps Go.ChangeShapes Go.WideShapes Go.Shelf Go.Sort
set_option linter.unusedVariables false
set_option linter.unusedSimpArgs false
inductive Ob17 where
  | box (b : Nat) (cs : List Value) (t : TypeId)
  | row (v : Value) (e : TypeId) (sz : Nat) (n : Nat) (xs : List Value)
  | tab (t : Nat) (C : CF)
def Holds17 (w : World) : Ob17 → List Nat → Prop
  | .box b cs t, B => Bk w b cs t ∧ B = [b]
  | .row v e sz n xs, B => w.ownsRow 0 e sz v n xs ∧ B = v.ownBlock.toList
  | .tab t C, B => TabAt w t B C
theorem Holds17.fr {S : Nat → Prop} {w w' : World} {o : Ob17} {B : List Nat} (h : Holds17 w o B) (hf : Fr S w w') (hs : ∀ b ∈ B, ¬ S b) : Holds17 w' o B := by
  cases o with
  | box b cs t =>
    obtain ⟨h1, rfl⟩ := h
    exact ⟨h1.fr hf (hs b (by simp)), rfl⟩
  | row v e sz n xs =>
    obtain ⟨h1, rfl⟩ := h
    exact ⟨hf.row h1 (fun b hb => hs b (by simp [hb])), rfl⟩
  | tab t C => exact TabAt.fr h hf hs
theorem Holds17.lt {w : World} {o : Ob17} {B : List Nat} (h : Holds17 w o B) : ∀ b ∈ B, b < w.heap.size := by
  cases o with
  | box b cs t =>
    obtain ⟨h1, rfl⟩ := h
    intro b' hb
    simp at hb
    subst hb
    exact h1.lt
  | row v e sz n xs =>
    obtain ⟨h1, rfl⟩ := h
    intro b' hb
    exact own_lt h1 (Option.mem_toList.1 hb)
  | tab t C => exact TabAt.lt h
def K17 : Kind Ob17 := ⟨Holds17, Holds17.fr, Holds17.lt⟩
section
variable {w0 w w' : World} {os : List Ob17} {i j b n sz t : Nat} {cs : List Value} {ty e : TypeId} {v : Value} {xs : List Value} {C : CF}
theorem q_box (h : Here K17 w0 w os) (cs : List Value) (ty : TypeId) : Here K17 w0 (w.alloc (.cells cs.toArray ty)) (os ++ [.box w.heap.size cs ty]) :=
  h.push ((Below.refl _ _).alloc (Nat.le_refl _) _) (o := .box _ _ _) ⟨Bk.new w cs ty, rfl⟩ (fun b hb => by simp at hb; omega)
theorem q_boxAt (h : Here K17 w0 w os) (hi : os[i]? = some (.box b cs ty)) : Bk w b cs ty := by
  obtain ⟨B, h1, _⟩ := h.use hi
  exact h1.1
theorem q_row (h : Here K17 w0 w os) (hb : Below w.heap.size w w') (ht : w'.ownsRow 0 e sz v n xs) (hn : ∀ b, v.ownBlock = some b → w.heap.size ≤ b) : Here K17 w0 w' (os ++ [.row v e sz n xs]) :=
  h.push hb (o := .row _ _ _ _ _) ⟨ht, rfl⟩ (fun b hb => hn b (Option.mem_toList.1 hb))
theorem q_rowAt (h : Here K17 w0 w os) (hi : os[i]? = some (.row v e sz n xs)) : w.ownsRow 0 e sz v n xs := by
  obtain ⟨B, h1, _⟩ := h.use hi
  exact h1.1
theorem q_tabAt (h : Here K17 w0 w os) (hi : os[i]? = some (.tab t C)) : ∃ B, TabAt w t B C := by
  obtain ⟨B, h1, _⟩ := h.use hi
  exact ⟨B, h1⟩
/-- a box's cell that was stored to -/
theorem q_set (h : Here K17 w0 w os) (hi : os[i]? = some (.box b cs ty)) (k : Nat) (u : Value) : Here K17 w0 (w.setCell ⟨b, k, none⟩ u) (os.set i (.box b (cs.set k u) ty)) := by
  obtain ⟨B, h1, _, h3, _⟩ := h.use hi
  obtain ⟨h2, rfl⟩ := h1
  exact h3 _ (.box b (cs.set k u) ty) [b] ⟨h2.set k u, rfl⟩ ((Fr.refl _ _).setCell b k u (.inr (by simp))) (fun b' hb => .inl hb)
/-- a row that grew -/
theorem q_more {n' : Nat} {v' : Value} {xs' : List Value} (h : Here K17 w0 w os) (hi : os[i]? = some (.row v e sz n xs)) (ho : w'.ownsRow 0 e sz v' n' xs') (hf : Fr (fun b => v.ownBlock = some b) w w') (he : Hence v v' w) : Here K17 w0 w' (os.set i (.row v' e sz n' xs')) := by
  obtain ⟨B, h1, _, h3, _⟩ := h.use hi
  obtain ⟨_, rfl⟩ := h1
  refine h3 w' (.row v' e sz n' xs') v'.ownBlock.toList ⟨ho, rfl⟩ (hf.mono fun b _ hb => Option.mem_toList.2 hb) (fun b hb => ?_)
  have hb' := Option.mem_toList.1 hb
  rcases he with e1 | e1
  · exact .inl (Option.mem_toList.2 (by rw [← e1]; exact hb'))
  · have := Option.some.inj (e1.symm.trans hb')
    exact .inr (by omega)
end
/-- Pairs in memory, as they are read -/
def ptr (t : Nat) : Value := .pointer (some ⟨t, 0, none⟩)
def zC : CF := fun _ _ => 0
section
variable {w0 w w' : World} {os : List Ob17} {i j k p t : Nat} {C : CF} {sh : Bool}
set_option maxRecDepth 20000 in
set_option maxHeartbeats 1000000 in
theorem tnew_any (w : World) :
    Calls Try.prog 35 #[] w fun e w' => e = .returned (.pointer (some ⟨w.heap.size + 2, 0, none⟩)) ∧ TabAt w' (w.heap.size + 2) [w.heap.size + 2, w.heap.size, w.heap.size + 1] zC ∧ Below w.heap.size w w' := by
  have H : Hid (TabAt (((w.alloc (.map #[] 0)).alloc (.map #[] 0)).alloc (.cells #[.map (some w.heap.size), .map (some (w.heap.size + 1))] 66)) (w.heap.size + 2) [w.heap.size + 2, w.heap.size, w.heap.size + 1] zC) := Lib.hid (by
    have hm1 : Mp encS okS (w.alloc (.map #[] 0)) w.heap.size (vals vI []) := Mp.made w
    have hm2 : Mp encS okS ((w.alloc (.map #[] 0)).alloc (.map #[] 0)) (w.alloc (.map #[] 0)).heap.size [] := Mp.made _
    have hb := Bk.new ((w.alloc (.map #[] 0)).alloc (.map #[] 0)) [.map (some w.heap.size), .map (some (w.heap.size + 1))] 66
    rw [show ((w.alloc (.map #[] 0)).alloc (.map #[] 0)).heap.size = w.heap.size + 2 by simp] at hb
    rw [show (w.alloc (.map #[] 0)).heap.size = w.heap.size + 1 by simp] at hm2
    refine ⟨⟨w.heap.size, w.heap.size + 1, [], [], fun _ => [], _, tab_made _ hb ((hm1.bel ((Below.refl _ _).alloc (Nat.le_refl _) _)).bel ((Below.refl _ _).alloc (Nat.le_refl _) _)) (hm2.bel ((Below.refl _ _).alloc (Nat.le_refl _) _)) (by omega) (by omega) (by omega), ⟨fun a => rfl, fun a k h => (by cases h), fun a _ b _ => rfl, fun a k h => (by cases h)⟩⟩, fun a b => by unfold zC I64; omega⟩)
  have HB : Hid (Below w.heap.size w (((w.alloc (.map #[] 0)).alloc (.map #[] 0)).alloc (.cells #[.map (some w.heap.size), .map (some (w.heap.size + 1))] 66))) := Lib.hid ((((Below.refl _ _).alloc (Nat.le_refl _) _).alloc (by simp) _).alloc (by simp; omega) _)
  have hh := @run_makeMap Try.prog
  go_enter Try.func35, Try.ntmps35
  go_wp2_with fail
  go_ret
  exact ⟨rfl, H.out, HB.out⟩
set_option maxRecDepth 20000 in
set_option maxHeartbeats 1000000 in
/-- New -/
theorem q_new (h : Here K17 w0 w os) :
    Calls Try.prog 24 #[] w fun e w' => ∃ p t, e = .returned (.pointer (some ⟨p, 0, none⟩)) ∧ Here K17 w0 w' (os ++ [.tab t zC] ++ [.box p [.pointer (some ⟨t, 0, none⟩), .bool false] 69]) := by
  have H := Lib.hid h
  have HN := Lib.hid (tnew_any w)
  clear h
  go_enter Try.func24, Try.ntmps24
  go_wp2_with fail
  refine HN.out.mono ?_
  rintro e w2 ⟨rfl, h2, b2⟩
  have H2 := Lib.hid (q_box (H.out.push b2 (o := .tab _ zC) h2 (fun b hb => by simp at hb; omega)) [.pointer (some ⟨w.heap.size + 2, 0, none⟩), .bool false] 69)
  clear h2 b2 HN
  go_wp2_with fail
  go_ret
  exact ⟨w2.heap.size, w.heap.size + 2, rfl, H2.out⟩
theorem q_copy (h : Here K17 w0 w os) (hi : os[i]? = some (.tab t C)) :
    Calls Try.prog 47 #[.pointer (some ⟨t, 0, none⟩)] w fun e w' => ∃ t2, e = .returned (.pointer (some ⟨t2, 0, none⟩)) ∧ Here K17 w0 w' (os ++ [.tab t2 C]) := by
  obtain ⟨B, h1⟩ := q_tabAt h hi
  refine (copy_any h1).mono ?_
  rintro e w' ⟨t2, B2, rfl, h2, h3, h4⟩
  exact ⟨t2, rfl, h.push h4 (o := .tab t2 C) h2 h3⟩
theorem q_single (h : Here K17 w0 w os) (hi : os[i]? = some (.tab t C)) (a : ByteArray) (n : Int) (ha : a.size ≤ maxLen) (hn : I64 (C a a + n)) :
    Calls Try.prog 48 #[.pointer (some ⟨t, 0, none⟩), .string a, .int .i64 n] w fun e w' => e = .returned (.tuple #[]) ∧ Here K17 w0 w' (os.set i (.tab t (bump C a a n))) := by
  obtain ⟨B, h1, _, h3, _⟩ := h.use hi
  refine (single_any h1 a n ha hn).mono ?_
  rintro e w' ⟨rfl, h2, h4⟩
  exact ⟨rfl, h3 w' (.tab t _) B h2 h4 (fun b hb => .inl hb)⟩
theorem q_pair (h : Here K17 w0 w os) (hi : os[i]? = some (.tab t C)) (a b : ByteArray) (n : Int) (ha : a.size ≤ maxLen) (hb : b.size ≤ maxLen) (hab : b ≠ a) (hn0 : n ≠ 0) (hn : I64 (C a b + n)) :
    Calls Try.prog 49 #[.pointer (some ⟨t, 0, none⟩), .string a, .string b, .int .i64 n] w fun e w' => e = .returned (.tuple #[]) ∧ Here K17 w0 w' (os.set i (.tab t (bump C a b n))) := by
  obtain ⟨B, h1, _, h3, _⟩ := h.use hi
  refine (pair_any h1 a b n ha hb hab hn0 hn).mono ?_
  rintro e w' ⟨rfl, ⟨B', h2, h5⟩, h4⟩
  exact ⟨rfl, h3 w' (.tab t _) B' h2 h4 h5⟩
theorem q_all {b : Option Addr} {cap : Nat} {ks : List ByteArray} (h : Here K17 w0 w os) (hi : os[i]? = some (.tab t C)) (hj : os[j]? = some (.row (.slice b ks.length cap) 9 1 ks.length (ks.map Value.string))) (hij : j ≠ i) (hC : Small C) (ho : ∀ s ∈ ks, s.size ≤ maxLen) (hnd : ks.Nodup) (hk : ks.length ≤ 1000) (n : Int) (hn : n = 1 ∨ n = -1) :
    Calls Try.prog 37 #[.pointer (some ⟨t, 0, none⟩), .slice b ks.length cap, .int .i64 n] w fun e w' => e = .returned (.tuple #[]) ∧ Here K17 w0 w' (os.set i (.tab t (bumpAll C ks n))) := by
  obtain ⟨B, h1, _, h3, h4⟩ := h.use hi
  obtain ⟨B2, ⟨h5, rfl⟩, h6⟩ := h4 j _ hij hj
  have hS : ∀ w', Fr (fun x => x ∈ B) w w' → Strs w' b ks := fun w' hf => by
    have := hf.row h5 (fun x hx hc => h6 x hc (Option.mem_toList.2 hx))
    obtain ⟨b', cap', he, _, _, hst, _⟩ := strs_of_row this
    cases he
    exact hst
  obtain ⟨b', cap', he, hl, hm, hst, _⟩ := strs_of_row h5
  simp only [Value.slice.injEq] at he
  obtain ⟨_, _, rfl⟩ := he
  refine (all_any h1 hC cap hl hm hS ho hnd hk n hn).mono ?_
  rintro e w' ⟨rfl, ⟨B', h7, h8⟩, h9⟩
  exact ⟨rfl, h3 w' (.tab t _) B' h7 h9 h8⟩
set_option maxRecDepth 20000 in
set_option maxHeartbeats 1000000 in
/-- own, of a table that nobody else has -/
theorem q_own_no (h : Here K17 w0 w os) (hi : os[i]? = some (.box p [.pointer (some ⟨t, 0, none⟩), .bool false] 69)) :
    Calls Try.prog 36 #[.pointer (some ⟨p, 0, none⟩)] w fun e w' => e = .returned (.pointer (some ⟨t, 0, none⟩)) ∧ w' = w := by
  have hb := q_boxAt h hi
  have c0 : w.cell? ⟨p, 0, none⟩ = some (.pointer (some ⟨t, 0, none⟩)) := hb.cell 0
  have c1 : w.cell? ⟨p, 1, none⟩ = some (.bool false) := hb.cell 1
  clear h hb
  go_enter Try.func36, Try.ntmps36
  go_wp2_with fail
  go_ret
  exact ⟨rfl, rfl⟩
set_option maxRecDepth 20000 in
set_option maxHeartbeats 1000000 in
/-- own, of a table that others may have -/
theorem q_own_yes (h : Here K17 w0 w os) (hi : os[i]? = some (.box p [.pointer (some ⟨t, 0, none⟩), .bool true] 69)) (hj : os[j]? = some (.tab t C)) :
    Calls Try.prog 36 #[.pointer (some ⟨p, 0, none⟩)] w fun e w' => ∃ t2, e = .returned (.pointer (some ⟨t2, 0, none⟩)) ∧ Here K17 w0 w' (os.set i (.box p [.pointer (some ⟨t2, 0, none⟩), .bool false] 69) ++ [.tab t2 C]) := by
  have hb := q_boxAt h hi
  have c0 : w.cell? ⟨p, 0, none⟩ = some (.pointer (some ⟨t, 0, none⟩)) := hb.cell 0
  have c1 : w.cell? ⟨p, 1, none⟩ = some (.bool true) := hb.cell 1
  have HC := Lib.hid (q_copy h hj)
  have HI := Lib.hid hi
  clear h hb
  go_enter Try.func36, Try.ntmps36
  go_wp2_with fail
  refine HC.out.mono ?_
  rintro e w2 ⟨t2, rfl, h2⟩
  have hlt := (List.getElem?_eq_some_iff.1 HI.out).1
  have hi2 : (os ++ [Ob17.tab t2 C])[i]? = some (.box p [.pointer (some ⟨t, 0, none⟩), .bool true] 69) := by rw [List.getElem?_append_left hlt]; exact HI.out
  have hb2 := q_boxAt h2 hi2
  have d0 : w2.cell? ⟨p, 0, none⟩ = some (.pointer (some ⟨t, 0, none⟩)) := hb2.cell 0
  have d1 : w2.cell? ⟨p, 1, none⟩ = some (.bool true) := hb2.cell 1
  have z0 := hb2.free 0
  have z1 := hb2.free 1
  have h3 := q_set h2 hi2 0 (.pointer (some ⟨t2, 0, none⟩))
  have hi3 : ((os ++ [Ob17.tab t2 C]).set i (.box p [.pointer (some ⟨t2, 0, none⟩), .bool true] 69))[i]? = some (.box p [.pointer (some ⟨t2, 0, none⟩), .bool true] 69) := List.getElem?_set_self (by rw [List.length_append]; omega)
  have hb3 := q_boxAt h3 hi3
  have d03 : (w2.setCell ⟨p, 0, none⟩ (.pointer (some ⟨t2, 0, none⟩))).cell? ⟨p, 1, none⟩ = some (.bool true) := hb3.cell 1
  have z03 := hb3.free 1
  have h4 := q_set h3 hi3 1 (.bool false)
  have hi4 : (((os ++ [Ob17.tab t2 C]).set i (.box p [.pointer (some ⟨t2, 0, none⟩), .bool true] 69)).set i (.box p [.pointer (some ⟨t2, 0, none⟩), .bool false] 69))[i]? = some (.box p [.pointer (some ⟨t2, 0, none⟩), .bool false] 69) := List.getElem?_set_self (by rw [List.length_set, List.length_append]; omega)
  have hb4 := q_boxAt h4 hi4
  have d04 : ((w2.setCell ⟨p, 0, none⟩ (.pointer (some ⟨t2, 0, none⟩))).setCell ⟨p, 1, none⟩ (.bool false)).cell? ⟨p, 0, none⟩ = some (.pointer (some ⟨t2, 0, none⟩)) := hb4.cell 0
  have HH : Hid (Here K17 w0 ((w2.setCell ⟨p, 0, none⟩ (.pointer (some ⟨t2, 0, none⟩))).setCell ⟨p, 1, none⟩ (.bool false)) (os.set i (.box p [.pointer (some ⟨t2, 0, none⟩), .bool false] 69) ++ [.tab t2 C])) := Lib.hid (by
    have := h4
    rw [List.set_set, List.set_append_left _ _ hlt] at this
    exact this)
  clear h2 h3 h4 hb2 hb3 hb4 hi2 hi3 hi4 hlt HC hi hj
  go_wp2_with fail
  go_ret
  exact ⟨t2, rfl, HH.out⟩
end
end Go.Proofs.Ytbmjddmejmeknaa.Pr

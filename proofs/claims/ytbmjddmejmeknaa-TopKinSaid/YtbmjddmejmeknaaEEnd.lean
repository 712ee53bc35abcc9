/- The closure 'end' of Sessions.of: the last session's items are laid. -/
import Derived.Test.YtbmjddmejmeknaaECopy
namespace Go.Proofs.Ytbmjddmejmeknaa
open Go.RowKit Go.MapKept Go.Maps Go.ChangeShapes Go.WideShapes
set_option linter.unusedVariables false
set_option linter.unusedSimpArgs false
structure SV where
  p : ByteArray
  f : Int
  t : Int
  its : List ByteArray
  ib : Option Addr
  ic : Nat
def svC (x : SV) : List Value := [.string x.p, .int .i64 x.f, .int .i64 x.t, .slice x.ib x.its.length x.ic]
def seOf (x : SV) : Se := ⟨x.p, x.f, x.t, x.its⟩
def itsOb (x : SV) : ObM := .row (.slice x.ib x.its.length x.ic) 9 1 x.its.length (x.its.map Value.string)
theorem svLen (a : SV) : (svC a).length = 4 := rfl
theorem svOne (a : SV) : ∀ u ∈ svC a, u.oneCell' = true := fun u hu => by
  simp only [svC, List.mem_cons, List.not_mem_nil, or_false] at hu
  rcases hu with rfl | rfl | rfl | rfl <;> rfl
theorem flat_snoc_len (svs : List SV) (z : SV) : ((svs ++ [z]).flatMap svC).length = svs.length * 4 + 4 := by
  rw [flat_len svLen, List.length_append]; simp; omega
theorem flat_set (svs : List SV) (z : SV) (k : Nat) (u : Value) (hk : k < 4) : ((svs ++ [z]).flatMap svC).set (svs.length * 4 + k) u = svs.flatMap svC ++ (svC z).set k u := by
  have hl : svs.length * 4 ≤ svs.length * 4 + k := Nat.le_add_right _ _
  rw [List.flatMap_append, List.set_append, if_neg (by rw [flat_len svLen]; omega), flat_len svLen, Nat.add_sub_cancel_left]
  simp
theorem sv_at {w : World} {g cap : Nat} {svs : List SV} {z : SV} {n : Nat} (h : w.ownsRow 0 31 4 (.slice (some ⟨g, 0, none⟩) n cap) n ((svs ++ [z]).flatMap svC)) (k : Nat) (hk : k < 4) : w.cell? ⟨g, svs.length * 4 + k, none⟩ = (svC z)[k]? := by
  have hc := h.cells (g := g) rfl (svs.length * 4 + k)
  cases hv : (svC z)[k]? with
  | none => rw [List.getElem?_eq_none_iff] at hv; rw [svLen] at hv; omega
  | some v =>
    have := hc v (flat_at svLen (xs := svs ++ [z]) (i := svs.length) (x := z) (by simp) hv)
    rw [Addr.add_lit, Nat.zero_add] at this
    exact this
theorem row_block {w : World} {v : Value} {e : TypeId} {sz n : Nat} {xs : List Value} (h : w.ownsRow 0 e sz v n xs) (hn : 1 ≤ n) : ∃ g cap, v = .slice (some ⟨g, 0, none⟩) n cap := by
  rcases h.2 with h | ⟨g, cap, cur, hv, _⟩
  · omega
  · exact ⟨g, cap, hv⟩
theorem end_none (bl bi : Nat) (w : World) (u : Value) (hu : ∃ b c, u = .slice b 0 c) (c0 : w.cell? ⟨bl, 0, none⟩ = some u) :
    Calls Try.prog 42 #[.pointer (some ⟨bl, 0, none⟩), .pointer (some ⟨bi, 0, none⟩)] w fun e w' => e = .returned (.tuple #[]) ∧ w = w' := by
  obtain ⟨b, c, rfl⟩ := hu
  go_enter Try.func42, Try.ntmps42
  go_wp2_with fail
  go_end0
  exact ⟨rfl, rfl⟩
def endOs (bl bi ri : Nat) (u : Value) (m : MI) (svs : List SV) (z : SV) : List ObM := [.box bl [u] 25, .mp ri (vals vT m), .box bi [.map (some ri)] 84, .row u 31 4 (svs.length + 1) ((svs ++ [z]).flatMap svC)]
set_option maxRecDepth 20000 in
set_option maxHeartbeats 1000000 in
theorem end_any {w0 w : World} {bl bi ri : Nat} {u : Value} {m : MI} {svs : List SV} {z : SV} {rest : List ObM} (h : Here KM w0 w (endOs bl bi ri u m svs z ++ rest)) (hm : m.length ≤ 1048576) (hn : svs.length ≤ 1000000) :
    Calls Try.prog 42 #[.pointer (some ⟨bl, 0, none⟩), .pointer (some ⟨bi, 0, none⟩)] w fun e w' => e = .returned (.tuple #[]) ∧ ∃ z' : SV, z'.p = z.p ∧ z'.f = z.f ∧ z'.t = z.t ∧ Rise z'.its ∧ (∀ i, i ∈ z'.its ↔ mget m i = some ()) ∧ Here KM w0 w' (endOs bl bi ri u m svs z' ++ (rest ++ [itsOb z'])) := by
  have hrow := m_rowAt h (i := 3) rfl
  obtain ⟨g, cap, rfl⟩ := row_block hrow (by omega)
  obtain ⟨k, hk⟩ : ∃ k, svs.length = k := ⟨_, rfl⟩
  have hb0 := m_boxAt h (i := 0) rfl
  have hb1 := m_boxAt h (i := 2) rfl
  have hmp := m_mapAt h (i := 1) rfl
  have c0 : w.cell? ⟨bl, 0, none⟩ = some (.slice (some ⟨g, 0, none⟩) (svs.length + 1) cap) := hb0.cell 0
  have c1 : w.cell? ⟨bi, 0, none⟩ = some (.map (some ri)) := hb1.cell 0
  have hb : Below w.heap.size w (w.alloc (.cells #[.map (some ri)] 84)).drew := ((Below.refl w.heap.size w).alloc (Nat.le_refl _) _).drew
  have H := Lib.hid (h.step_bel hb)
  have HK := Lib.hid (keysB_fn (some ri) w.drew)
  have HSO := Lib.hid (sortedB_any ri (vals vT m) (w.alloc (.cells #[.map (some ri)] 84)).drew (hmp.bel hb) (by rw [vals_len]; exact hm) w.heap.size (by simp) (by simp))
  have d0 : (w.alloc (.cells #[.map (some ri)] 84)).drew.cell? ⟨bl, 0, none⟩ = some (.slice (some ⟨g, 0, none⟩) (svs.length + 1) cap) := (hb0.bel hb).cell 0
  have d1 : (w.alloc (.cells #[.map (some ri)] 84)).drew.cell? ⟨bi, 0, none⟩ = some (.map (some ri)) := (hb1.bel hb).cell 0
  have HN := Lib.hid hn
  have n0 : ¬ bl = g := m_boxRow h (i := 0) (j := 3) rfl rfl (by omega) rfl
  have n1 : ¬ bi = g := m_boxRow h (i := 2) (j := 3) rfl rfl (by omega) rfl
  have n0' : ¬ g = bl := fun e => n0 e.symm
  have n1' : ¬ g = bi := fun e => n1 e.symm
  have hk0 : (0 : Int) ≤ (k : Int) := by omega
  have hk1 : (k : Int) < (k : Int) + 1 := by omega
  have q1 : IntKind.i64.wrap (k : Int) = (k : Int) := IntWalk.i64_in _ (by omega)
  have HSV := Lib.hid hk
  rw [hk] at c0 d0 hn
  clear h hrow hb0 hb1 hmp hb hm hk
  go_enter Try.func42, Try.ntmps42
  go_wp2_with fail
  go_region_held3 (fun X => X.cell? ⟨bl, 0, none⟩ = some (.slice (some ⟨g, 0, none⟩) (k + 1) cap) ∧ X.cell? ⟨bi, 0, none⟩ = some (.map (some ri))) (first | assumption | go_keep | fail)
    (first
      | (go_at_call 43
         (with_reducible refine HK.out.mono ?_)
         rintro e w1 ⟨rfl, rfl⟩)
      | (go_at_call 21
         (with_reducible refine HSO.out.mono ?_)
         rintro e w2 ⟨v, ks, rfl, r1, r2, r3, r4, r5⟩
         have hks := r3.strs
         obtain ⟨ib, ic, hv, -, -, -⟩ := hks
         have h2 := m_row H.out r5 r3 r4
         have hx0 := m_boxAt h2 (i := 0) rfl
         have hx1 := m_boxAt h2 (i := 2) rfl
         have hx3 := m_rowAt h2 (i := 3) rfl
         have y0 : w2.cell? ⟨bl, 0, none⟩ = some (.slice (some ⟨g, 0, none⟩) (k + 1) cap) := by have := hx0.cell 0; rw [HSV.out] at this; exact this
         have y1 : w2.cell? ⟨bi, 0, none⟩ = some (.map (some ri)) := hx1.cell 0
         have y3 : w2.cell? ⟨g, k * 4 + 3, none⟩ = some (.slice z.ib z.its.length z.ic) := by have := sv_at hx3 3 (by omega); rw [HSV.out] at this; exact this
         have f3 := own_free hx3 (k * 4 + 3)
         obtain ⟨kl, hkl⟩ : ∃ kl, ks.length = kl := ⟨_, rfl⟩
         have HKL := Lib.hid hkl
         have H2 := Lib.hid h2
         have HKS := Lib.hid (And.intro r1 r2)
         have HV := Lib.hid hv
         rw [hkl] at hv
         subst hv
         clear r1 r2 r3 r4 r5 h2 hx0 hx1 hx3 hkl)
      | fail)
  have H3 := Lib.hid (m_rowSet H2.out (i := 3) (k := k * 4 + 3) (u := .slice ib kl ic) rfl (by rw [HSV.out]; omega))
  clear H2 y0 y1 y3 f3 n0 n1 n0' n1' d0 d1 c0 c1
  go_wp2_with fail
  go_end0
  refine ⟨rfl, ⟨z.p, z.f, z.t, ks, ib, ic⟩, rfl, rfl, rfl, HKS.out.1, fun i => by rw [HKS.out.2, vals_keys, unit_get], ?_⟩
  have h4 := H3.out
  rw [← HKL.out, ← HSV.out] at h4
  have e := flat_set svs z 3 (.slice ib ks.length ic) (by omega)
  have e2 : svs.flatMap svC ++ (svC z).set 3 (.slice ib ks.length ic) = (svs ++ [(⟨z.p, z.f, z.t, ks, ib, ic⟩ : SV)]).flatMap svC := by
    rw [List.flatMap_append]; rfl
  rw [e2] at e
  rw [e] at h4
  rw [← HKL.out, ← HSV.out]
  simpa [endOs, itsOb] using h4
end Go.Proofs.Ytbmjddmejmeknaa

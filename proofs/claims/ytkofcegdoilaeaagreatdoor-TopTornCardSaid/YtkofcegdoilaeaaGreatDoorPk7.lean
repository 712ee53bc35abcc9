/- The settings of a tale. The bytes of a tale, one by one. The steps of a tale, and what is known of them. tale.Parse. A region that draws its order, walked by hand: operations that are not wanted, too. No program in sight. -/
import Derived.Test.YtkofcegdoilaeaaGreatDoorPk6
import Derived.Deep.CutBlock
import Derived.Deep.RegionHeld3
namespace Go.Proofs.YtkofcegdoilaeaaGreatDoor
open Go.RowKit Go.MapKept Go.Maps
set_option linter.unusedVariables false
set_option linter.unusedSimpArgs false
namespace Tl
open Es
/-- the eight numbers of settings -/
structure Sg where
  s0 : Int
  s1 : Int
  s2 : Int
  s3 : Int
  s4 : Int
  s5 : Int
  s6 : Int
  s7 : Int
def sgC : Sg → List Value
  | ⟨s0, s1, s2, s3, s4, s5, s6, s7⟩ => [.int .i64 s0, .int .i64 s1, .int .i64 s2, .int .i64 s3, .int .i64 s4, .int .i64 s5, .int .i64 100, .int .i64 100, .int .i64 100, .int .i64 100, .int .i64 100, .int .i64 100, .int .i64 4, .int .i64 2, .int .i64 3, .int .i64 1073741824, .int .i64 0, .int .i64 5, .int .i64 s6, .string ⟨#[115, 116, 111, 99, 107, 62, 48]⟩, .string ⟨#[111, 119, 110]⟩, .int .u64 s7]
/-- where i weights stand at 100 -/
def wts : Nat → Sg → List Value
  | 0, ⟨s0, s1, s2, s3, s4, s5, s6, s7⟩ => [.int .i64 s0, .int .i64 s1, .int .i64 s2, .int .i64 s3, .int .i64 s4, .int .i64 s5, .int .i64 0, .int .i64 0, .int .i64 0, .int .i64 0, .int .i64 0, .int .i64 0, .int .i64 4, .int .i64 2, .int .i64 3, .int .i64 1073741824, .int .i64 0, .int .i64 5, .int .i64 s6, .string ⟨#[115, 116, 111, 99, 107, 62, 48]⟩, .string ⟨#[111, 119, 110]⟩, .int .u64 s7]
  | 1, ⟨s0, s1, s2, s3, s4, s5, s6, s7⟩ => [.int .i64 s0, .int .i64 s1, .int .i64 s2, .int .i64 s3, .int .i64 s4, .int .i64 s5, .int .i64 100, .int .i64 0, .int .i64 0, .int .i64 0, .int .i64 0, .int .i64 0, .int .i64 4, .int .i64 2, .int .i64 3, .int .i64 1073741824, .int .i64 0, .int .i64 5, .int .i64 s6, .string ⟨#[115, 116, 111, 99, 107, 62, 48]⟩, .string ⟨#[111, 119, 110]⟩, .int .u64 s7]
  | 2, ⟨s0, s1, s2, s3, s4, s5, s6, s7⟩ => [.int .i64 s0, .int .i64 s1, .int .i64 s2, .int .i64 s3, .int .i64 s4, .int .i64 s5, .int .i64 100, .int .i64 100, .int .i64 0, .int .i64 0, .int .i64 0, .int .i64 0, .int .i64 4, .int .i64 2, .int .i64 3, .int .i64 1073741824, .int .i64 0, .int .i64 5, .int .i64 s6, .string ⟨#[115, 116, 111, 99, 107, 62, 48]⟩, .string ⟨#[111, 119, 110]⟩, .int .u64 s7]
  | 3, ⟨s0, s1, s2, s3, s4, s5, s6, s7⟩ => [.int .i64 s0, .int .i64 s1, .int .i64 s2, .int .i64 s3, .int .i64 s4, .int .i64 s5, .int .i64 100, .int .i64 100, .int .i64 100, .int .i64 0, .int .i64 0, .int .i64 0, .int .i64 4, .int .i64 2, .int .i64 3, .int .i64 1073741824, .int .i64 0, .int .i64 5, .int .i64 s6, .string ⟨#[115, 116, 111, 99, 107, 62, 48]⟩, .string ⟨#[111, 119, 110]⟩, .int .u64 s7]
  | 4, ⟨s0, s1, s2, s3, s4, s5, s6, s7⟩ => [.int .i64 s0, .int .i64 s1, .int .i64 s2, .int .i64 s3, .int .i64 s4, .int .i64 s5, .int .i64 100, .int .i64 100, .int .i64 100, .int .i64 100, .int .i64 0, .int .i64 0, .int .i64 4, .int .i64 2, .int .i64 3, .int .i64 1073741824, .int .i64 0, .int .i64 5, .int .i64 s6, .string ⟨#[115, 116, 111, 99, 107, 62, 48]⟩, .string ⟨#[111, 119, 110]⟩, .int .u64 s7]
  | 5, ⟨s0, s1, s2, s3, s4, s5, s6, s7⟩ => [.int .i64 s0, .int .i64 s1, .int .i64 s2, .int .i64 s3, .int .i64 s4, .int .i64 s5, .int .i64 100, .int .i64 100, .int .i64 100, .int .i64 100, .int .i64 100, .int .i64 0, .int .i64 4, .int .i64 2, .int .i64 3, .int .i64 1073741824, .int .i64 0, .int .i64 5, .int .i64 s6, .string ⟨#[115, 116, 111, 99, 107, 62, 48]⟩, .string ⟨#[111, 119, 110]⟩, .int .u64 s7]
  | _, s => sgC s
theorem sgLen (s : Sg) : (sgC s).length = 22 := by cases s; rfl
theorem wtsAll (s : Sg) (i : Nat) : (wts i s).all (·.oneCell') = true := by
  cases s
  match i with
  | 0 => rfl
  | 1 => rfl
  | 2 => rfl
  | 3 => rfl
  | 4 => rfl
  | 5 => rfl
  | n + 6 => rfl
theorem wtsOne (s : Sg) (i : Nat) : ∀ u ∈ wts i s, u.oneCell' = true := List.all_eq_true.1 (wtsAll s i)
theorem wtsSet (s : Sg) (i : Nat) (hi : i < 6) : (wts i s).set (6 + i) (.int .i64 100) = wts (i + 1) s := by
  cases s
  rcases (by omega : i = 0 ∨ i = 1 ∨ i = 2 ∨ i = 3 ∨ i = 4 ∨ i = 5) with rfl | rfl | rfl | rfl | rfl | rfl <;> rfl
theorem wtsLen (s : Sg) (i : Nat) : (wts i s).length = 22 := by
  cases s
  match i with
  | 0 => rfl
  | 1 => rfl
  | 2 => rfl
  | 3 => rfl
  | 4 => rfl
  | 5 => rfl
  | n + 6 => rfl
def zerS : List Value := [.int .i64 0, .int .i64 0, .int .i64 0, .int .i64 0, .int .i64 0, .int .i64 0, .int .i64 0, .int .i64 0, .int .i64 0, .int .i64 0, .int .i64 0, .int .i64 0, .int .i64 0, .int .i64 0, .int .i64 0, .int .i64 0, .int .i64 0, .int .i64 0, .int .i64 0, .string ⟨#[]⟩, .string ⟨#[]⟩, .int .u64 0]
def SetPost (w : World) (e : Ending) (w' : World) : Prop := ∃ s, e = .returned (.agg (sgC s).toArray) ∧ Below w.heap.size w w'
set_option maxRecDepth 100000 in
set_option maxHeartbeats 8000000 in
theorem settings_any (c0 c1 c2 c3 c4 c5 c6 c7 : Int) (w : World) :
    Calls Tryz.prog 30 #[.agg #[.int .i64 c0, .int .i64 c1, .int .i64 c2, .int .i64 c3, .int .i64 c4, .int .i64 c5, .int .i64 c6, .int .i64 c7]] w (SetPost w) := by
  go_enter Tryz.func30, Tryz.ntmps30
  go_upto_region 2 with fail
  iterate 95 (first | (go_big_may; fail) | go_values | go_skip | go_guarded | go_step | go_upon | go_back)
  have B3 : Bk (((w.alloc (.cells #[.int .i64 c0, .int .i64 c1, .int .i64 c2, .int .i64 c3, .int .i64 c4, .int .i64 c5, .int .i64 c6, .int .i64 c7] 88)).alloc (.cells #[.int .i64 0, .int .i64 0, .int .i64 0, .int .i64 0, .int .i64 0, .int .i64 0, .int .i64 0, .int .i64 0, .int .i64 0, .int .i64 0, .int .i64 0, .int .i64 0, .int .i64 0, .int .i64 0, .int .i64 0, .int .i64 0, .int .i64 0, .int .i64 0, .int .i64 0, .string ⟨#[]⟩, .string ⟨#[]⟩, .int .u64 0] 32)).alloc (.cells #[.int .i64 0, .int .i64 0, .int .i64 0, .int .i64 0, .int .i64 0, .int .i64 0, .int .i64 0, .int .i64 0, .int .i64 0, .int .i64 0, .int .i64 0, .int .i64 0, .int .i64 0, .int .i64 0, .int .i64 0, .int .i64 0, .int .i64 0, .int .i64 0, .int .i64 0, .string ⟨#[]⟩, .string ⟨#[]⟩, .int .u64 0] 32)) (w.heap.size + 1 + 1) zerS 32 := bk_at (n := w.heap.size + 1 + 1) zerS 32 (by simp)
  have B2 : Bk (((w.alloc (.cells #[.int .i64 c0, .int .i64 c1, .int .i64 c2, .int .i64 c3, .int .i64 c4, .int .i64 c5, .int .i64 c6, .int .i64 c7] 88)).alloc (.cells #[.int .i64 0, .int .i64 0, .int .i64 0, .int .i64 0, .int .i64 0, .int .i64 0, .int .i64 0, .int .i64 0, .int .i64 0, .int .i64 0, .int .i64 0, .int .i64 0, .int .i64 0, .int .i64 0, .int .i64 0, .int .i64 0, .int .i64 0, .int .i64 0, .int .i64 0, .string ⟨#[]⟩, .string ⟨#[]⟩, .int .u64 0] 32)).alloc (.cells #[.int .i64 0, .int .i64 0, .int .i64 0, .int .i64 0, .int .i64 0, .int .i64 0, .int .i64 0, .int .i64 0, .int .i64 0, .int .i64 0, .int .i64 0, .int .i64 0, .int .i64 0, .int .i64 0, .int .i64 0, .int .i64 0, .int .i64 0, .int .i64 0, .int .i64 0, .string ⟨#[]⟩, .string ⟨#[]⟩, .int .u64 0] 32)) (w.heap.size + 1) zerS 32 := (bk_at (W := (w.alloc (.cells #[.int .i64 c0, .int .i64 c1, .int .i64 c2, .int .i64 c3, .int .i64 c4, .int .i64 c5, .int .i64 c6, .int .i64 c7] 88))) (n := w.heap.size + 1) zerS 32 (by simp)).old _
  have B0 : Below w.heap.size w (((w.alloc (.cells #[.int .i64 c0, .int .i64 c1, .int .i64 c2, .int .i64 c3, .int .i64 c4, .int .i64 c5, .int .i64 c6, .int .i64 c7] 88)).alloc (.cells #[.int .i64 0, .int .i64 0, .int .i64 0, .int .i64 0, .int .i64 0, .int .i64 0, .int .i64 0, .int .i64 0, .int .i64 0, .int .i64 0, .int .i64 0, .int .i64 0, .int .i64 0, .int .i64 0, .int .i64 0, .int .i64 0, .int .i64 0, .int .i64 0, .int .i64 0, .string ⟨#[]⟩, .string ⟨#[]⟩, .int .u64 0] 32)).alloc (.cells #[.int .i64 0, .int .i64 0, .int .i64 0, .int .i64 0, .int .i64 0, .int .i64 0, .int .i64 0, .int .i64 0, .int .i64 0, .int .i64 0, .int .i64 0, .int .i64 0, .int .i64 0, .int .i64 0, .int .i64 0, .int .i64 0, .int .i64 0, .int .i64 0, .int .i64 0, .string ⟨#[]⟩, .string ⟨#[]⟩, .int .u64 0] 32)) := (((Below.refl w.heap.size w).alloc (Nat.le_refl _) _).alloc (by simp) _).alloc (by simp; omega) _
  obtain ⟨s, hs⟩ : ∃ s : Sg, s = ⟨wrap64 (1 + wrap64 (10 * c0)), wrap64 (1 + c1.tmod 20), wrap64 (1 + c2.tmod 50), wrap64 (wrap64 (1 + c1.tmod 20) * wrap64 (1 + c3.tmod 4)), c4.tmod 3, c5.tmod 3, c6.tmod 4, IntKind.u64.wrap c7⟩ := ⟨_, rfl⟩
  refine wp_store_row 32 _ _ rfl (w.heap.size + 1 + 1) (wts 0 s).toArray rfl (by rw [hs]; rfl) 32 zerS.toArray B3 (by rw [List.size_toArray, wtsLen]; kernel_rfl) (by rw [List.size_toArray, List.size_toArray, wtsLen]; rfl) (all_oneCell_toArray (wtsOne _ _)) ?_
  have B4 := B3.setRow (wts 0 s)
  have B5 := B2.rowOther (w.heap.size + 1 + 1) (wts 0 s).toArray (by omega)
  have B6 := bel_setRow B0 (g := w.heap.size + 1 + 1) (by omega) (wts 0 s).toArray
  generalize World.setRow _ _ _ = V at B4 B5 B6 ⊢
  clear B3 B2 B0 hs
  have H0 := Lib.hid (And.intro B4 (And.intro B5 B6))
  clear B4 B5 B6
  go_upto_region 4 with fail
  go_loopw [40] (fun c wr => ∃ i : Nat, i ≤ 6 ∧ c = .int .i64 i ∧ Hid (Bk wr (w.heap.size + 1 + 1) (wts i s) 32 ∧ Bk wr (w.heap.size + 1) zerS 32 ∧ Below w.heap.size w wr)) (fun c _ => 6 - (intOf c).toNat)
  case atStart => exact ⟨0, by omega, rfl, H0⟩
  case round =>
    obtain ⟨i, hi, rfl, H⟩ := hrel
    by_cases hlt : i < 6
    · have c1 : ∀ j, j < 22 → (wr.cell? ⟨w.heap.size + 1 + 1, j, none⟩).isSome = true := fun j hj => by rw [H.out.1.cell, List.getElem?_eq_getElem (by rw [wtsLen]; exact hj)]; rfl
      have c2 : ∀ j, wr.frozen? ⟨w.heap.size + 1 + 1, j, none⟩ = false := fun j => H.out.1.free j
      obtain ⟨v, c3⟩ := Option.isSome_iff_exists.1 (c1 (6 + i) (by omega))
      clear c1
      go_wp2_with fail
      have hx := H.out.1.set (6 + i) (.int .i64 100)
      rw [wtsSet s i hlt] at hx
      exact ⟨⟨i + 1, by omega, rfl, Lib.hid ⟨hx, H.out.2.1.other _ _ _ (by omega), H.out.2.2.setCell (show w.heap.size ≤ w.heap.size + 1 + 1 by omega) _⟩⟩, show 6 - ((i : Int) + 1).toNat < 6 - ((i : Int)).toNat by omega⟩
    · have e6 : i = 6 := by omega
      subst e6
      go_upto_region 8 with fail
      go_wp2_with (first | (refine wpList_load_row rfl 32 _ rfl (w.heap.size + 1 + 1) rfl 32 (sgC s).toArray (0, 0) _ H.out.1 Tryz.underlying32 rfl (by rw [List.size_toArray, sgLen]; kernel_rfl) ?_) | (refine wpList_store_rowTo rfl 32 _ _ rfl rfl (w.heap.size + 1) (sgC s).toArray rfl rfl 32 zerS.toArray H.out.2.1 (by rw [List.size_toArray, sgLen]; kernel_rfl) (by rw [List.size_toArray, List.size_toArray, sgLen]; rfl) (all_oneCell_toArray (wtsOne s 6)) ?_) | fail)
      refine bodyPost_ret (results_cell_row rfl _ _ (w.heap.size + 1) 32 (sgC s).toArray (0, 0) _ rfl (H.out.2.1.setRow (sgC s)) Tryz.underlying32 rfl (by rw [List.size_toArray, sgLen]; kernel_rfl)) rfl ⟨s, rfl, bel_setRow H.out.2.2 (by omega) _⟩
end Tl
end Go.Proofs.YtkofcegdoilaeaaGreatDoor
namespace Go.Proofs.YtkofcegdoilaeaaGreatDoor
open Go.RowKit Go.MapKept Go.Maps
set_option linter.unusedVariables false
set_option linter.unusedSimpArgs false
namespace Tl
open Es
/-- bytes that lie there -/
def Bys (w : World) (b : Option Addr) (xs : List Int) : Prop := InW w b 1 (xs.map fun x => [.int .u8 x]) ∧ ∀ x ∈ xs, 0 ≤ x ∧ x ≤ 255
theorem Bys.bel {w w' : World} {b : Option Addr} {xs : List Int} (h : Bys w b xs) (hb : Below w.heap.size w w') : Bys w' b xs := ⟨h.1.bel hb, h.2⟩
set_option maxRecDepth 100000 in
set_option maxHeartbeats 4000000 in
theorem at_any (i : Nat) (B : Nat) (b : Option Addr) (cap : Nat) (xs : List Int) (w : World) (hi : i ≤ 1000) (hB : Bk w B [.slice b xs.length cap] 22) (hX : Bys w b xs) (hn : xs.length ≤ 1000) :
    Calls Tryz.prog 29 #[.int .i64 i, .pointer (some ⟨B, 0, none⟩)] w fun e w' => (∃ c : Nat, c ≤ 255 ∧ e = .returned (.int .i64 c)) ∧ w = w' := by
  have h1 : w.cell? ⟨B, 0, none⟩ = some (.slice b xs.length cap) := hB.cell 0
  by_cases hl : i < xs.length
  · obtain ⟨Bx, off, rfl, hlt, hc⟩ := inw_at (f := Value.int .u8) hX.1 (List.getElem?_eq_getElem hl)
    have hr := hX.2 _ (List.getElem_mem hl)
    generalize xs[i] = z at hc hr
    obtain ⟨c, rfl⟩ : ∃ c : Nat, z = (c : Int) := ⟨z.toNat, by omega⟩
    clear hX
    go_enter Tryz.func29, Tryz.ntmps29
    go_wp2_with fail
    go_ret
    exact ⟨⟨c, by omega, rfl⟩, rfl⟩
  · go_enter Tryz.func29, Tryz.ntmps29
    go_wp2_with fail
    go_ret
    exact ⟨⟨0, by omega, rfl⟩, rfl⟩
end Tl
end Go.Proofs.YtkofcegdoilaeaaGreatDoor
namespace Go.Proofs.YtkofcegdoilaeaaGreatDoor
open Go.RowKit Go.MapKept Go.Maps
set_option linter.unusedVariables false
set_option linter.unusedSimpArgs false
/-- a row of one type does not lie in a block of another -/
theorem own_apart {w : World} {e t : TypeId} {sz n : Nat} {v : Value} {xs : List Value} {g : Nat} {cs : List Value} (h : w.ownsRow 0 e sz v n xs) (hb : Bk w g cs t) (hne : t ≠ e) : v.ownBlock ≠ some g := by
  rcases h.2 with ⟨rfl, _⟩ | ⟨b, cap, cur, rfl, _, hg, _⟩
  · intro c; cases c
  · intro c
    have : b = g := by simpa [Value.ownBlock] using c
    subst this
    unfold Bk at hb
    rw [hg] at hb
    simp only [Option.some.injEq, Obj.cells.injEq] at hb
    exact hne hb.2.1.symm
theorem own_apart_map {w : World} {e : TypeId} {sz n : Nat} {v : Value} {xs : List Value} {g : Nat} {α : Type} {enc : α → Value} {Ok : α → Prop} {m : List (α × Value)} (h : w.ownsRow 0 e sz v n xs) (hb : Mp enc Ok w g m) : v.ownBlock ≠ some g := by
  rcases h.2 with ⟨rfl, _⟩ | ⟨b, cap, cur, rfl, _, hg, _⟩
  · intro c; cases c
  · intro c
    have : b = g := by simpa [Value.ownBlock] using c
    subst this
    obtain ⟨es, ck, h1, _⟩ := hb.ex
    rw [hg] at h1
    cases h1
theorem bk_apart_map {w : World} {g r : Nat} {cs : List Value} {t : TypeId} {α : Type} {enc : α → Value} {Ok : α → Prop} {m : List (α × Value)} (h : Bk w g cs t) (hb : Mp enc Ok w r m) : g ≠ r := by
  intro c
  subst c
  obtain ⟨es, ck, h1, _⟩ := hb.ex
  unfold Bk at h
  rw [h] at h1
  cases h1
theorem bk_apart {w : World} {g r : Nat} {cs ds : List Value} {t u : TypeId} (h : Bk w g cs t) (hb : Bk w r ds u) (hne : t ≠ u) : g ≠ r := by
  intro c
  subst c
  unfold Bk at h hb
  rw [h] at hb
  simp only [Option.some.injEq, Obj.cells.injEq] at hb
  exact hne hb.2.1
namespace Tl
open Es
structure Stp where
  what : Int
  ev : Ev
  per : ByteArray
  now : Int
  keep : Int
  of : Int
def stC (s : Stp) : List Value := [.int .i64 s.what, .string s.ev.src, .int .i64 s.ev.num, .int .i64 s.ev.at_, .int .i64 s.ev.kind, .string s.ev.per, .string s.ev.item, .int .i64 s.ev.val, .string s.ev.txt, .string s.per, .int .i64 s.now, .int .i64 s.keep, .int .i64 s.of]
theorem stLen (s : Stp) : (stC s).length = 13 := rfl
theorem stOne (s : Stp) : ∀ u ∈ stC s, u.oneCell' = true := List.all_eq_true.1 rfl
def told (l : List Stp) : List Stp := l.filter fun s => decide (s.what = 0)
def evs (l : List Stp) : List Ev := (told l).map Stp.ev
def idE (e : Ev) : ByteArray × Int := (e.src, e.num)
theorem evs_skip {l : List Stp} {s : Stp} (h : s.what ≠ 0) : evs (l ++ [s]) = evs l := by
  unfold evs told
  rw [List.filter_append, List.map_append]
  have : List.filter (fun s => decide (s.what = 0)) [s] = [] := by simp [h]
  rw [this]; simp
theorem evs_tell {l : List Stp} {s : Stp} (h : s.what = 0) : evs (l ++ [s]) = evs l ++ [s.ev] := by
  unfold evs told
  rw [List.filter_append, List.map_append]
  have : List.filter (fun s => decide (s.what = 0)) [s] = [s] := by simp [h]
  rw [this]; rfl
def srcT (k : Nat) : ByteArray := numT ⟨#[115]⟩ k
theorem srcT_inj : ∀ a : Fin 2, ∀ b : Fin 2, srcT a.val = srcT b.val → a = b := by decide +kernel
/-- what is known of the map of counts, and of the steps -/
structure TInv (m : List (ByteArray × Value)) (l : List Stp) : Prop where
  cnt : ∃ c : Nat → Nat, (∀ k, k < 2 → (mget m (srcT k)).getD (.int .i64 0) = .int .i64 (c k : Nat) ∧ c k ≤ l.length) ∧ ∀ e ∈ evs l, ∃ k, k < 2 ∧ e.src = srcT k ∧ 1 ≤ e.num ∧ e.num ≤ (c k : Nat)
  ev : ∀ e ∈ evs l, TaleEv e
  nd : ((evs l).map idE).Nodup
theorem TInv.nil : TInv [] [] := ⟨⟨fun _ => 0, fun k hk => ⟨rfl, Nat.le_refl _⟩, fun e h => (by cases h)⟩, fun e h => (by cases h), List.nodup_nil⟩
theorem TInv.skip {m : List (ByteArray × Value)} {l : List Stp} (h : TInv m l) (s : Stp) (hs : s.what ≠ 0) : TInv m (l ++ [s]) := by
  obtain ⟨c, h1, h2⟩ := h.cnt
  refine ⟨⟨c, fun k hk => ⟨(h1 k hk).1, ?_⟩, ?_⟩, ?_, ?_⟩
  · have := (h1 k hk).2; rw [List.length_append]; omega
  · rw [evs_skip hs]; exact h2
  · rw [evs_skip hs]; exact h.ev
  · rw [evs_skip hs]; exact h.nd
theorem TInv.count {m : List (ByteArray × Value)} {l : List Stp} (h : TInv m l) {k : Nat} (hk : k < 2) :
    ∃ n : Nat, (mget m (srcT k)).getD (.int .i64 0) = .int .i64 (n : Nat) ∧ n ≤ l.length ∧
      ∀ s : Stp, s.what = 0 → TaleEv s.ev → s.ev.num = ((n : Int) + 1) → s.ev.src = srcT k → TInv (mput m (srcT k) (.int .i64 ((n : Int) + 1))) (l ++ [s]) := by
  obtain ⟨c, h1, h2⟩ := h.cnt
  refine ⟨c k, (h1 k hk).1, (h1 k hk).2, fun s hs he hn hr => ⟨⟨fun j => if j = k then c k + 1 else c j, fun j hj => ?_, ?_⟩, ?_, ?_⟩⟩
  · have hl : (l ++ [s]).length = l.length + 1 := by simp
    rw [hl, get_put]
    by_cases e : j = k
    · subst e
      simp only [if_true]
      exact ⟨by rw [Option.getD_some]; congr 1, by have := (h1 j hk).2; omega⟩
    · have hne : srcT k ≠ srcT j := fun c' => e (congrArg Fin.val (srcT_inj ⟨k, hk⟩ ⟨j, hj⟩ c')).symm
      simp only [if_neg e, if_neg hne]
      exact ⟨(h1 j hj).1, by have := (h1 j hj).2; omega⟩
  · rw [evs_tell hs]
    intro e hm
    rcases List.mem_append.1 hm with hm | hm
    · obtain ⟨j, hj, a, b, d⟩ := h2 e hm
      refine ⟨j, hj, a, b, ?_⟩
      by_cases e' : j = k
      · subst e'; simp only [if_true]; omega
      · simp only [if_neg e']; exact d
    · have : e = s.ev := by simpa using hm
      subst this
      refine ⟨k, hk, hr, by omega, ?_⟩
      simp only [if_true]; omega
  · rw [evs_tell hs]
    intro e hm
    rcases List.mem_append.1 hm with hm | hm
    · exact h.ev e hm
    · have : e = s.ev := by simpa using hm
      subst this; exact he
  · rw [evs_tell hs, List.map_append, List.nodup_append]
    refine ⟨h.nd, by simp, fun a ha b hb => ?_⟩
    obtain ⟨e, hm, rfl⟩ := List.mem_map.1 ha
    have : b = idE s.ev := by simpa using hb
    subst this
    obtain ⟨j, hj, a1, a2, a3⟩ := h2 e hm
    intro c'
    have c1 : e.src = s.ev.src := congrArg Prod.fst c'
    have c2 : e.num = s.ev.num := congrArg Prod.snd c'
    rw [a1, hr] at c1
    have := congrArg Fin.val (srcT_inj ⟨j, hj⟩ ⟨k, hk⟩ c1)
    simp only at this
    subst this
    omega
def taC (s : Sg) (sl : Value) (t : Int) : List Value := sgC s ++ [sl, .int .i64 t]
theorem taLen (s : Sg) (sl : Value) (t : Int) : (taC s sl t).length = 24 := by unfold taC; rw [List.length_append, sgLen]; rfl
theorem taOne (s : Sg) (sl : Value) (t : Int) (h : sl.oneCell' = true) : ∀ u ∈ taC s sl t, u.oneCell' = true := by
  intro u hu
  rcases List.mem_append.1 hu with hu | hu
  · exact wtsOne s 6 u hu
  · simp only [List.mem_cons, List.not_mem_nil, or_false] at hu
    rcases hu with rfl | rfl
    · exact h
    · rfl
theorem taAt22 (s : Sg) (sl : Value) (t : Int) : (taC s sl t)[22]? = some sl := by unfold taC; rw [List.getElem?_append_right (by rw [sgLen]; omega), sgLen]; rfl
theorem taAt23 (s : Sg) (sl : Value) (t : Int) : (taC s sl t)[23]? = some (.int .i64 t) := by unfold taC; rw [List.getElem?_append_right (by rw [sgLen]; omega), sgLen]; rfl
theorem taSet22 (s : Sg) (sl sl' : Value) (t : Int) : (taC s sl t).set 22 sl' = taC s sl' t := by unfold taC; rw [List.set_append_right _ _ (by rw [sgLen]; omega), sgLen]; rfl
theorem taSet23 (s : Sg) (sl : Value) (t t' : Int) : (taC s sl t).set 23 (.int .i64 t') = taC s sl (t') := by unfold taC; rw [List.set_append_right _ _ (by rw [sgLen]; omega), sgLen]; rfl
/-- what tale.Parse hands back -/
def TalePost (n : Nat) (w : World) (e : Ending) (w' : World) : Prop :=
  ∃ s sl l t, e = .returned (.agg (taC s sl t).toArray) ∧ MkG 62 13 stC w w' sl l ∧ l.length ≤ 59 ∧ (n = 0 → t = 1000) ∧ (∀ e ∈ evs l, TaleEv e) ∧ ((evs l).map idE).Nodup
end Tl
end Go.Proofs.YtkofcegdoilaeaaGreatDoor
namespace Go.Proofs.YtkofcegdoilaeaaGreatDoor
open Go.RowKit Go.MapKept Go.Maps
set_option linter.unusedVariables false
set_option linter.unusedSimpArgs false
namespace Tl
open Es
structure LB (w wx : World) (b : Option Addr) (n cap g6 g7 : Nat) (s : Sg) (l : List Stp) (t : Int) (sl : Value) : Prop where
  bb : Bk wx w.heap.size [.slice b n cap] 22
  ta : Bk wx g6 (taC s sl t) 55
  rs : Bk wx (w.heap.size + 1) (zerS ++ [.slice none 0 0, .int .i64 0]) 55
  ne : g6 ≠ w.heap.size + 1 ∧ w.heap.size ≤ g6 ∧ w.heap.size ≤ g7
  mg : MkG 62 13 stC w wx sl l
  tt : 1000 ≤ t ∧ t ≤ 1000 + 15 * l.length ∧ (n = 0 → t = 1000)
theorem LB.fr {S : Nat → Prop} {w wx w' : World} {b : Option Addr} {n cap g6 g7 : Nat} {s : Sg} {l : List Stp} {t : Int} {sl : Value} (h : LB w wx b n cap g6 g7 s l t sl) (hf : Fr S wx w')
    (h0 : ¬ S w.heap.size) (h1 : ¬ S (w.heap.size + 1)) (h6 : ¬ S g6) (ho : ∀ b, sl.ownBlock = some b → ¬ S b) (hS : ∀ b, S b → w.heap.size ≤ b) : LB w w' b n cap g6 g7 s l t sl :=
  ⟨h.bb.fr hf h0, h.ta.fr hf h6, h.rs.fr hf h1, h.ne, ⟨hf.row h.mg.tx ho, h.mg.nw, h.mg.bl.trans (hf.below h.mg.bl.size hS)⟩, h.tt⟩
theorem LB.bel {w wx w' : World} {b : Option Addr} {n cap g6 g7 : Nat} {s : Sg} {l : List Stp} {t : Int} {sl : Value} (h : LB w wx b n cap g6 g7 s l t sl) (hb : Below wx.heap.size wx w') : LB w w' b n cap g6 g7 s l t sl :=
  h.fr (Fr.of_bel (S := none') hb) id id id (fun _ _ => id) (fun _ h => h.elim)
def LInv (w wx : World) (b : Option Addr) (n cap g6 g7 : Nat) (s : Sg) (l li : List Stp) (m : List (ByteArray × Value)) (t : Int) (sl : Value) : Prop :=
  LB w wx b n cap g6 g7 s l t sl ∧ Mp encS okS wx g7 m ∧ TInv m li
theorem LInv.bel {w wx w' : World} {b : Option Addr} {n cap g6 g7 : Nat} {s : Sg} {l li : List Stp} {m : List (ByteArray × Value)} {t : Int} {sl : Value} (h : LInv w wx b n cap g6 g7 s l li m t sl) (hb : Below wx.heap.size wx w') : LInv w w' b n cap g6 g7 s l li m t sl :=
  ⟨h.1.bel hb, h.2.1.bel hb, h.2.2⟩
theorem LInv.push {w wc w8 : World} {b : Option Addr} {n cap g6 g7 : Nat} {s : Sg} {l : List Stp} {m : List (ByteArray × Value)} {t : Int} {sl v8 : Value} (st : Stp) (h : LInv w wc b n cap g6 g7 s l (l ++ [st]) m t sl)
    (o8 : w8.ownsRow 0 62 13 v8 (l ++ [st]).length ((l ++ [st]).flatMap stC)) (f8 : Fr (fun b => sl.ownBlock = some b) (wc.alloc (.cells (stC st).toArray 62)) w8) (h8 : Hence sl v8 (wc.alloc (.cells (stC st).toArray 62))) :
    LInv w (w8.setCell ⟨g6, 22, none⟩ v8) b n cap g6 g7 s (l ++ [st]) (l ++ [st]) m t v8 := by
  obtain ⟨h, hm, hi⟩ := h
  have hb : Below wc.heap.size wc (wc.alloc (.cells (stC st).toArray 62)) := (Below.refl _ _).alloc (Nat.le_refl _) _
  have hg := h.mg.alloc (.cells (stC st).toArray 62)
  have ta8 := (h.ta.old (.cells (stC st).toArray 62)).fr f8 (own_apart hg.tx (h.ta.old _) (by decide))
  have m8 := hg.more o8 f8 h8
  have n1 : w.heap.size ≠ g6 := bk_apart h.bb h.ta (by decide)
  have n7 : g6 ≠ g7 := bk_apart_map h.ta hm
  have hf : Fr (fun b => b = g6) w8 (w8.setCell ⟨g6, 22, none⟩ v8) := (Fr.refl _ _).setCell g6 22 v8 (.inr rfl)
  refine ⟨⟨((h.bb.old _).fr f8 (own_apart hg.tx (h.bb.old _) (by decide))).other g6 22 _ n1, ?_, ((h.rs.old _).fr f8 (own_apart hg.tx (h.rs.old _) (by decide))).other g6 22 _ h.ne.1.symm, h.ne, ?_, ?_⟩, ?_, hi⟩
  · rw [← taSet22 s sl v8 t]; exact ta8.set 22 v8
  · exact ⟨hf.row o8 (fun b hb e => own_apart o8 ta8 (by decide) (by rw [hb]; exact congrArg some e)), m8.nw, m8.bl.setCell h.ne.2.1 _⟩
  · refine ⟨h.tt.1, ?_, h.tt.2.2⟩
    have := h.tt.2.1
    simp only [List.length_append, List.length_cons, List.length_nil]
    omega
  · exact ((hm.bel hb).fr f8 (own_apart_map hg.tx (hm.bel hb))).fr hf (fun e => n7 e.symm)
theorem LInv.nine {w wc w8 : World} {b : Option Addr} {n cap g6 g7 g9 : Nat} {s : Sg} {l : List Stp} {m : List (ByteArray × Value)} {t : Int} {sl v8 : Value} {cs : List Value} (st : Stp) (h : LInv w wc b n cap g6 g7 s l (l ++ [st]) m t sl) (h9 : Bk wc g9 cs 91)
    (f8 : Fr (fun b => sl.ownBlock = some b) (wc.alloc (.cells (stC st).toArray 62)) w8) : Bk (w8.setCell ⟨g6, 22, none⟩ v8) g9 cs 91 := by
  have hg := h.1.mg.alloc (.cells (stC st).toArray 62)
  exact ((h9.old _).fr f8 (own_apart hg.tx (h9.old _) (by decide))).other g6 22 _ (bk_apart h9 h.1.ta (by decide))
theorem LInv.tick {w W : World} {b : Option Addr} {n cap g6 g7 : Nat} {s : Sg} {l : List Stp} {m : List (ByteArray × Value)} {t : Int} {sl : Value} (h : LInv w W b n cap g6 g7 s l l m t sl) (t' : Int) (ht : 1000 ≤ t' ∧ t' ≤ 1000 + 15 * l.length ∧ (n = 0 → t' = 1000)) :
    LInv w (W.setCell ⟨g6, 23, none⟩ (.int .i64 t')) b n cap g6 g7 s l l m t' sl := by
  obtain ⟨h, hm, hi⟩ := h
  have n1 : w.heap.size ≠ g6 := bk_apart h.bb h.ta (by decide)
  have n7 : g6 ≠ g7 := bk_apart_map h.ta hm
  have hf : Fr (fun b => b = g6) W (W.setCell ⟨g6, 23, none⟩ (.int .i64 t')) := (Fr.refl _ _).setCell g6 23 _ (.inr rfl)
  refine ⟨⟨h.bb.other g6 23 _ n1, ?_, h.rs.other g6 23 _ h.ne.1.symm, h.ne, ?_, ht⟩, hm.fr hf (fun e => n7 e.symm), hi⟩
  · rw [← taSet23 s sl t t']; exact h.ta.set 23 _
  · exact ⟨hf.row h.mg.tx (fun b hb e => own_apart h.mg.tx h.ta (by decide) (by rw [hb]; exact congrArg some e)), h.mg.nw, h.mg.bl.setCell h.ne.2.1 _⟩
def natsC (cs : List Nat) : List Value := cs.map fun (c : Nat) => Value.int .i64 (c : Int)
def ev0 : Ev := ⟨⟨#[]⟩, 0, 0, 0, ⟨#[]⟩, ⟨#[]⟩, 0, ⟨#[]⟩⟩
def zerSt : List Value := stC ⟨0, ev0, ⟨#[]⟩, 0, 0, 0⟩
def intsC (cs : List Int) : List Value := cs.map (Value.int .i64)
def zer8 : List Value := intsC [0, 0, 0, 0, 0, 0, 0, 0]
def zerT : List Value := zerS ++ [.slice none 0 0, .int .i64 0]
theorem eight {cs : List Int} (h : cs.length = 8) : ∃ a b c d e f g k, cs = [a, b, c, d, e, f, g, k] := by
  match cs, h with
  | [a, b, c, d, e, f, g, k], _ => exact ⟨a, b, c, d, e, f, g, k, rfl⟩
theorem five {cs : List Nat} (h : cs.length = 5) : ∃ a b c d e, cs = [a, b, c, d, e] := by
  match cs, h with
  | [a, b, c, d, e], _ => exact ⟨a, b, c, d, e, rfl⟩
theorem settings_ex (c0 c1 c2 c3 c4 c5 c6 c7 : Int) (w : World) :
    Calls Tryz.prog 30 #[.agg #[.int .i64 c0, .int .i64 c1, .int .i64 c2, .int .i64 c3, .int .i64 c4, .int .i64 c5, .int .i64 c6, .int .i64 c7]] w fun e w' => ∃ s0 s1 s2 s3 s4 s5 s6 s7, e = .returned (.agg #[.int .i64 s0, .int .i64 s1, .int .i64 s2, .int .i64 s3, .int .i64 s4, .int .i64 s5, .int .i64 100, .int .i64 100, .int .i64 100, .int .i64 100, .int .i64 100, .int .i64 100, .int .i64 4, .int .i64 2, .int .i64 3, .int .i64 1073741824, .int .i64 0, .int .i64 5, .int .i64 s6, .string ⟨#[115, 116, 111, 99, 107, 62, 48]⟩, .string ⟨#[111, 119, 110]⟩, .int .u64 s7]) ∧ Below w.heap.size w w' := by
  refine (settings_any c0 c1 c2 c3 c4 c5 c6 c7 w).mono ?_
  rintro e w' ⟨⟨s0, s1, s2, s3, s4, s5, s6, s7⟩, rfl, h⟩
  exact ⟨s0, s1, s2, s3, s4, s5, s6, s7, rfl, h⟩
theorem infoEv8 : (Tryz.prog.info? 60).map (·.size) = some 8 := by kernel_rfl
theorem infoStep : (Tryz.prog.info? 62).map (fun i => (i.zero, i.size, i.bytes)) = some (some (.agg zerSt.toArray), 13, 144) := by kernel_rfl
set_option maxRecDepth 100000 in
set_option maxHeartbeats 8000000 in
theorem parse_any (b : Option Addr) (cap : Nat) (xs : List Int) (w : World) (hG : Glob w) (hX : Bys w b xs) (hn : xs.length ≤ 300) :
    Calls Tryz.prog 16 #[.slice b xs.length cap] w (TalePost xs.length w) := by
  obtain ⟨n, hnl⟩ : ∃ n, xs.length = n := ⟨_, rfl⟩
  rw [hnl] at hn ⊢
  have HAT : Hid (∀ (i : Nat) (z : Int) W, z = (i : Int) → i ≤ 1000 → Bk W w.heap.size [.slice b n cap] 22 → Below w.heap.size w W → Calls Tryz.prog 29 #[.int .i64 z, .pointer (some ⟨w.heap.size, 0, none⟩)] W fun e w' => (∃ c : Nat, c ≤ 255 ∧ e = .returned (.int .i64 c)) ∧ W = w') :=
    Lib.hid (fun i z W hz hi hB hb => by subst hz; exact at_any i _ b cap xs W hi (by rw [hnl]; exact hB) (hX.bel hb) (by omega))
  have HG := Lib.hid hG
  clear hG
  go_enter Tryz.func16, Tryz.ntmps16
  go_wp2_with fail
  go_loopw [16] (fun c wr => ∃ (i : Nat) (cs : List Int), i ≤ 8 ∧ c = .int .i64 i ∧ Hid (cs.length = 8 ∧ Bk wr w.heap.size [.slice b n cap] 22 ∧ Bk wr (w.heap.size + 1) zerT 55 ∧ Bk wr (w.heap.size + 1 + 1) (intsC cs) 88 ∧ Below w.heap.size w wr)) (fun c _ => 8 - (intOf c).toNat)
  case atStart =>
    exact ⟨0, [0, 0, 0, 0, 0, 0, 0, 0], by omega, rfl, Lib.hid ⟨rfl, ((Bk.new w [.slice b n cap] 22).old _).old _, (bk_at (W := w.alloc (.cells #[.slice b n cap] 22)) (n := w.heap.size + 1) zerT 55 (by simp)).old _, bk_at (n := w.heap.size + 1 + 1) (intsC [0, 0, 0, 0, 0, 0, 0, 0]) 88 (by simp), (((Below.refl w.heap.size w).alloc (Nat.le_refl _) _).alloc (by simp) _).alloc (by simp; omega) _⟩⟩
  case round =>
    obtain ⟨i, cs, hi, rfl, H⟩ := hrel
    by_cases hlt : i < 8
    · have hci : i < (intsC cs).length := by unfold intsC; rw [List.length_map, H.out.1]; exact hlt
      obtain ⟨v, c3⟩ : ∃ v, wr.cell? ⟨w.heap.size + 1 + 1, i, none⟩ = some v := ⟨_, by rw [H.out.2.2.2.1.cell, List.getElem?_eq_getElem hci]⟩
      have c2 : ∀ j, wr.frozen? ⟨w.heap.size + 1 + 1, j, none⟩ = false := fun j => H.out.2.2.2.1.free j
      have i8 : ((i : Int) < 8) := by omega
      go_wp2_with (first | (go_at_call 29; (with_reducible refine (HAT.out i _ _ rfl (by omega) H.out.2.1 H.out.2.2.2.2).mono ?_); rintro e w1 ⟨⟨c, hc, rfl⟩, rfl⟩) | fail)
      have hx := H.out.2.2.2.1.set i (.int .i64 (c : Int))
      have hy : (intsC cs).set i (.int .i64 (c : Int)) = intsC (cs.set i (c : Int)) := by unfold intsC; rw [List.map_set]
      rw [hy] at hx
      exact ⟨⟨i + 1, cs.set i (c : Int), by omega, rfl, Lib.hid ⟨by rw [List.length_set]; exact H.out.1, H.out.2.1.other _ _ _ (by omega), H.out.2.2.1.other _ _ _ (by omega), hx, H.out.2.2.2.2.setCell (show w.heap.size ≤ w.heap.size + 1 + 1 by omega) _⟩⟩, show 8 - ((i : Int) + 1).toNat < 8 - ((i : Int)).toNat by omega⟩
    · have e6 : i = 8 := by omega
      subst e6
      obtain ⟨a0, a1, a2, a3, a4, a5, a6, a7, rfl⟩ := eight H.out.1
      go_upto_region 8 with fail
      go_cut [6] from 25 to 27 (fun s6 wx => ∃ (g : Nat) (s : Sg), s6 = .pointer (some ⟨g, 0, none⟩) ∧ Hid (Bk wx g (taC s (.slice none 0 0) 1000) 55 ∧ w.heap.size ≤ g ∧ g ≠ w.heap.size + 1 ∧ Bk wx w.heap.size [.slice b n cap] 22 ∧ Bk wx (w.heap.size + 1) zerT 55 ∧ Below w.heap.size w wx))
      case first =>
        go_wp2_with (first
          | ((with_reducible show wpList _ _ _ (Oper.mk _ (Op.load _ _) _ _ _ _ :: _) _ _); refine wpList_load_row rfl 88 _ rfl (w.heap.size + 1 + 1) rfl 88 (intsC [a0, a1, a2, a3, a4, a5, a6, a7]).toArray (0, 0) _ H.out.2.2.2.1 Tryz.underlying88 rfl (by kernel_rfl) ?_)
          | (go_at_call 30; refine (settings_ex a0 a1 a2 a3 a4 a5 a6 a7 wr).mono ?_; rintro e wS ⟨s0, s1, s2, s3, s4, s5, s6, s7, rfl, hS⟩)
          | ((with_reducible show wpList _ _ _ (Oper.mk _ (Op.store _ _ _) _ _ _ _ :: _) _ _); refine wpList_store_rowTo rfl 55 _ _ rfl rfl wS.heap.size (taC ⟨s0, s1, s2, s3, s4, s5, s6, s7⟩ (.slice none 0 0) 1000).toArray rfl rfl 55 zerT.toArray (Bk.new wS zerT 55) (by kernel_rfl) rfl (all_oneCell_toArray (taOne _ _ _ rfl)) ?_)
          | fail)
        go_meet
        have hb := Bk.new wS zerT 55
        have hl := H.out.2.2.2.2
        have hz := hS.size
        have h1 := H.out.2.2.1.lt
        refine ⟨wS.heap.size, _, rfl, Lib.hid ⟨hb.setRow _, Nat.le_trans hl.size hz, by omega, ((H.out.2.1.bel hS).old _).rowOther _ _ (by have := H.out.2.1.lt; omega), ((H.out.2.2.1.bel hS).old _).rowOther _ _ (by omega), ?_⟩⟩
        exact bel_setRow ((hl.trans (hS.mono hl.size)).alloc (Nat.le_trans hl.size hz) _) (Nat.le_trans hl.size hz) _
      case rest =>
        obtain ⟨g6, s, rfl, HE⟩ := hcut
        clear H
        have hmm := @run_makeMap Tryz.prog
        go_wp2_with fail
        clear hmm
        obtain ⟨g7, hg7⟩ : ∃ g7, g7 = wc.heap.size := ⟨_, rfl⟩
        rw [← hg7]
        have HG7 := Lib.hid hg7
        clear hg7
        go_loopg [8] 60 (fun g c wx => ∃ l m t sl, c = .int .i64 (8 + 5 * (l.length : Int)) ∧ l.length ≤ 59 ∧ 60 - l.length ≤ g ∧ Hid (LInv w wx b n cap g6 g7 s l l m t sl))
        case atStart =>
          have hk := HE.out
          exact ⟨[], [], 1000, .slice none 0 0, rfl, by decide, by decide, Lib.hid ⟨⟨hk.2.2.2.1.old _, hk.1.old _, hk.2.2.2.2.1.old _, ⟨hk.2.2.1, hk.2.1, HG7.out ▸ hk.2.2.2.2.2.size⟩, (MkG.nil w).bel (hk.2.2.2.2.2.alloc hk.2.2.2.2.2.size _), ⟨by decide, by decide, fun _ => rfl⟩⟩, HG7.out ▸ Mp.made wc, TInv.nil⟩⟩
        case round =>
          obtain ⟨l, m, t, sl, rfl, hl, hg, H⟩ := hrel
          obtain ⟨V, hV⟩ : ∃ V, V = wr := ⟨_, rfl⟩
          subst hV
          have c1 : V.cell? ⟨w.heap.size, 0, none⟩ = some (.slice b n cap) := H.out.1.bb.cell 0
          by_cases hlt : 8 + 5 * l.length < n
          · have hlt' : (8 + 5 * (l.length : Int)) < (n : Int) := by omega
            go_wp2_with fail
            go_loopw [35] (fun c wr => ∃ (j : Nat) (cs : List Nat), j ≤ 5 ∧ c = .int .i64 j ∧ Hid (cs.length = 5 ∧ (∀ c ∈ cs, c ≤ 255) ∧ Bk wr V.heap.size (natsC cs) 91 ∧ Below V.heap.size V wr)) (fun c _ => 5 - (intOf c).toNat)
            case atStart =>
              exact ⟨0, [0, 0, 0, 0, 0], by omega, rfl, Lib.hid ⟨rfl, by decide, Bk.new V (natsC [0, 0, 0, 0, 0]) 91, (Below.refl _ _).alloc (Nat.le_refl _) _⟩⟩
            case round =>
              obtain ⟨j, cs, hj, rfl, HJ⟩ := hrel
              by_cases hlj : j < 5
              · have hcj : j < (natsC cs).length := by unfold natsC; rw [List.length_map, HJ.out.1]; exact hlj
                obtain ⟨v, c3⟩ : ∃ v, wr.cell? ⟨V.heap.size, j, none⟩ = some v := ⟨_, by rw [HJ.out.2.2.1.cell, List.getElem?_eq_getElem hcj]⟩
                have c2 : ∀ j, wr.frozen? ⟨V.heap.size, j, none⟩ = false := fun j => HJ.out.2.2.1.free j
                have j5 : ((j : Int) < 5) := by omega
                have HL := Lib.hid (H.out.1.bel HJ.out.2.2.2)
                go_wp2_with (first | (go_at_call 29; (with_reducible refine (HAT.out (8 + 5 * l.length + j) _ _ (by omega) (by omega) HL.out.bb HL.out.mg.bl).mono ?_); rintro e w1 ⟨⟨c, hc, rfl⟩, rfl⟩) | fail)
                have hx := HJ.out.2.2.1.set j (.int .i64 (c : Int))
                have hy : (natsC cs).set j (.int .i64 (c : Int)) = natsC (cs.set j c) := by unfold natsC; rw [List.map_set]
                rw [hy] at hx
                exact ⟨⟨_, _, _, _, _, _, _, _, _, _, _, _, ⟨j + 1, cs.set j c, by omega, rfl, Lib.hid ⟨by rw [List.length_set]; exact HJ.out.1, fun z hz => (List.mem_or_eq_of_mem_set hz).elim (HJ.out.2.1 z) (fun e => e ▸ hc), hx, HJ.out.2.2.2.setCell (Nat.le_refl _) _⟩⟩, rfl⟩, show 5 - ((j : Int) + 1).toNat < 5 - ((j : Int)).toNat by omega⟩
              · have e5 : j = 5 := by omega
                subst e5
                obtain ⟨x0, x1, x2, x3, x4, rfl⟩ := five HJ.out.1
                have hxs : x0 ≤ 255 ∧ x1 ≤ 255 ∧ x2 ≤ 255 ∧ x3 ≤ 255 ∧ x4 ≤ 255 := by
                  have := HJ.out.2.1
                  simp only [List.forall_mem_cons] at this
                  exact ⟨this.1, this.2.1, this.2.2.1, this.2.2.2.1, this.2.2.2.2.1⟩
                have HL := Lib.hid (H.out.bel HJ.out.2.2.2)
                have d23 : wr.cell? ⟨g6, 23, none⟩ = some (.int .i64 t) := (HL.out.1.ta.cell 23).trans (taAt23 _ _ _)
                go_upto_region 19 with fail
                go_cut [11] from 29 to 114 (fun s11 wx => s11 = .pointer (some ⟨wr.heap.size, 0, none⟩) ∧ Hid (Bk wx wr.heap.size (stC ⟨0, ev0, ⟨#[]⟩, t, 0, 0⟩) 62 ∧ Bk wx V.heap.size (natsC [x0, x1, x2, x3, x4]) 91 ∧ LInv w wx b n cap g6 g7 s l l m t sl))
                case first =>
                  go_wp2_with (first
                    | ((with_reducible show wpList _ _ _ (Oper.mk _ (Op.store _ _ _) _ _ _ _ :: _) _ _); refine wpList_store_rowTo rfl 62 _ _ rfl rfl wr.heap.size (stC ⟨0, ev0, ⟨#[]⟩, t, 0, 0⟩).toArray rfl rfl 62 zerSt.toArray (Bk.new wr zerSt 62) (by kernel_rfl) rfl (all_oneCell_toArray (stOne _)) ?_)
                    | fail)
                  go_meet
                  exact ⟨rfl, Lib.hid ⟨(Bk.new wr zerSt 62).setRow _, (HJ.out.2.2.1.old _).rowOther _ _ (Nat.ne_of_lt HJ.out.2.2.1.lt), HL.out.bel (bel_setRow ((Below.refl _ _).alloc (Nat.le_refl _) _) (Nat.le_refl _) _)⟩⟩
                case rest =>
                  obtain ⟨rfl, HE⟩ := hcut
                  have hlt9 : V.heap.size < wr.heap.size := HJ.out.2.2.1.lt
                  have hlts : w.heap.size < V.heap.size ∧ w.heap.size + 1 < V.heap.size ∧ g6 < V.heap.size ∧ g7 < V.heap.size ∧ ∀ b, sl.ownBlock = some b → b < V.heap.size := ⟨H.out.1.bb.lt, H.out.1.rs.lt, H.out.1.ta.lt, H.out.2.1.lt, fun b hb => own_lt H.out.1.mg.tx hb⟩
                  have HG9 := HG.out.bel (H.out.1.mg.bl.trans ((HJ.out.2.2.2).mono H.out.1.mg.bl.size))
                  clear HL HJ H d23
                  generalize wr.heap.size = g11 at HE hlt9 ⊢
                  generalize V.heap.size = g9 at HE hlt9 hlts ⊢
                  have e0 : wc.cell? ⟨g9, 0, none⟩ = some (.int .i64 x0) := HE.out.2.1.cell 0
                  have e1 : wc.cell? ⟨g9, 1, none⟩ = some (.int .i64 x1) := HE.out.2.1.cell 1
                  have e3 : wc.cell? ⟨g9, 3, none⟩ = some (.int .i64 x3) := HE.out.2.1.cell 3
                  have e4 : wc.cell? ⟨g9, 4, none⟩ = some (.int .i64 x4) := HE.out.2.1.cell 4
                  obtain ⟨kk, hkk⟩ : ∃ kk, x0 % 16 = kk := ⟨_, rfl⟩
                  have f1 : (x0 : Int) % 16 = (kk : Int) := by omega
                  have f1t : (x0 : Int).tmod 16 = (kk : Int) := by rw [Int.tmod_eq_emod_of_nonneg (by omega)]; exact f1
                  have z0 : wc.cell? ⟨g11, 0, none⟩ = some (.int .i64 0) := HE.out.1.cell 0
                  have z9 : wc.cell? ⟨g11, 9, none⟩ = some (.string ⟨#[]⟩) := HE.out.1.cell 9
                  have z11 : wc.cell? ⟨g11, 11, none⟩ = some (.int .i64 0) := HE.out.1.cell 11
                  have z12 : wc.cell? ⟨g11, 12, none⟩ = some (.int .i64 0) := HE.out.1.cell 12
                  have gf : ∀ j, wc.frozen? ⟨g11, j, none⟩ = false := fun j => HE.out.1.free j
                  go_upto_block 6 with fail
                  go_cut [14] from 29 to 114 (fun s14 wx => ∃ st m', Hid (Bk wx g11 (stC st) 62 ∧ Bk wx g9 (natsC [x0, x1, x2, x3, x4]) 91 ∧ LInv w wx b n cap g6 g7 s l (l ++ [st]) m' t sl))
                  case first =>
                    have FIN : ∀ w' st, Fr (fun b => b = g11) wc w' → Bk w' g11 (stC st) 62 → st.what ≠ 0 → ∃ st m', Hid (Bk w' g11 (stC st) 62 ∧ Bk w' g9 (natsC [x0, x1, x2, x3, x4]) 91 ∧ LInv w w' b n cap g6 g7 s l (l ++ [st]) m' t sl) := fun w' st hf hb hw =>
                      ⟨st, m, Lib.hid ⟨hb, HE.out.2.1.fr hf (show ¬ g9 = g11 by omega), HE.out.2.2.1.fr hf (show ¬ w.heap.size = g11 by omega) (show ¬ w.heap.size + 1 = g11 by omega) (show ¬ g6 = g11 by omega) (fun b hb e => by have := hlts.2.2.2.2 b hb; have e' : b = g11 := e; omega) (fun b e => by have e' : b = g11 := e; omega), HE.out.2.2.2.1.fr hf (show ¬ g7 = g11 by omega), HE.out.2.2.2.2.skip st hw⟩⟩
                    have HF := Lib.hid FIN
                    have HR0 : Hid (∀ v, Fr (fun b => b = g11) wc (wc.setCell ⟨g11, 0, none⟩ v)) := Lib.hid (fun v => (Fr.refl _ _).setCell g11 0 _ (.inr rfl))
                    have HR1 : Hid (∀ v i u, Fr (fun b => b = g11) wc ((wc.setCell ⟨g11, 0, none⟩ v).setCell ⟨g11, i, none⟩ u)) := Lib.hid (fun v i u => (HR0.out v).setCell g11 i u (.inr rfl))
                    clear FIN
                    rcases (by omega : kk = 13 ∨ kk = 14 ∨ kk = 15 ∨ kk ≤ 12) with hk | hk | hk | hk
                    · subst hk
                      go_wp2_with fail
                      go_meet
                      exact HF.out _ ⟨1, ev0, ⟨#[]⟩, t, 0, x3⟩ (HR1.out _ _ _) ((HE.out.1.set 0 _).set 12 _) (by show (1 : Int) ≠ 0; decide)
                    · subst hk
                      rcases (by rw [Int.tmod_eq_emod_of_nonneg (by omega)]; omega : (x3 : Int).tmod 2 = 1 ∨ (x3 : Int).tmod 2 = 0) with h2 | h2
                      · go_wp2_with fail
                        go_meet
                        exact HF.out _ ⟨2, ev0, ⟨#[]⟩, t, x3, 0⟩ (HR1.out _ _ _) ((HE.out.1.set 0 _).set 11 _) (by show (2 : Int) ≠ 0; decide)
                      · go_wp2_with fail
                        go_meet
                        exact HF.out _ ⟨3, ev0, ⟨#[]⟩, t, 0, 0⟩ (HR0.out _) (HE.out.1.set 0 _) (by show (3 : Int) ≠ 0; decide)
                    · subst hk
                      obtain ⟨p1, hp1⟩ : ∃ p1, x1 % 4 = p1 := ⟨_, rfl⟩
                      have g1 : (x1 : Int).tmod 4 = (p1 : Int) := by rw [Int.tmod_eq_emod_of_nonneg (by omega)]; omega
                      have hp4 : p1 < 100 := by omega
                      clear hp1
                      go_wp2_with (first | (go_at_call 31; (with_reducible refine (numbered_any _ p1 hp4 (by decide) _).mono ?_); rintro e w1 ⟨rfl, rfl⟩) | fail)
                      go_meet
                      exact HF.out _ ⟨4, ev0, numT ⟨#[112]⟩ p1, t, 0, 0⟩ (HR1.out _ _ _) ((HE.out.1.set 0 _).set 9 _) (by show (4 : Int) ≠ 0; decide)
                    · have k13 : ¬ (kk : Int) = 13 := by omega
                      have k14 : ¬ (kk : Int) = 14 := by omega
                      have k15 : ¬ (kk : Int) = 15 := by omega
                      obtain ⟨ks, hks⟩ : ∃ ks, x0 / 16 % 2 = ks := ⟨_, rfl⟩
                      obtain ⟨qa, hqa⟩ : ∃ qa, x0 / 16 = qa := ⟨_, rfl⟩
                      have f2t : (x0 : Int).tdiv 16 = (qa : Int) := by rw [Int.tdiv_eq_ediv_of_nonneg (by omega)]; omega
                      have f3t : (qa : Int).tmod 2 = (ks : Int) := by rw [Int.tmod_eq_emod_of_nonneg (by omega)]; omega
                      have hks2 : ks < 2 := by omega
                      have hks9 : ks < 100 := by omega
                      have hqa15 : qa ≤ 15 := by omega
                      obtain ⟨cn, hc1, hc2, hc3⟩ := HE.out.2.2.2.2.count hks2
                      have hkok : okS (srcT ks) := Nat.le_trans (numT_size ⟨#[115]⟩ ks hks9) (by decide)
                      have HC3 := Lib.hid hc3
                      have HKS := Lib.hid hks
                      have HC1 := Lib.hid hc1
                      clear hks hqa hc3 hc1
                      go_upto_region 24 with (first
                        | (go_at_call 31; (with_reducible refine (numbered_any _ ks hks9 (by decide) _).mono ?_); rintro e w1 ⟨rfl, rfl⟩)
                        | ((with_reducible show wpList _ _ _ (Oper.mk _ (Op.lookup _ _ _ _) _ _ _ _ :: _) _ _); refine wpList_look rfl _ _ rfl keyS Tryz.underlying90 (z := .int .i64 0) (by kernel_rfl) HE.out.2.2.2.1 rfl (srcT ks) rfl hkok (.int .i64 (cn : Int)) HC1.out ?_)
                        | (at_mapUpdate; refine wpList_store rfl _ _ _ rfl keyS Tryz.underlying90 HE.out.2.2.2.1 rfl (srcT ks) rfl hkok (.int .i64 ((cn : Int) + 1)) rfl ?_; intro w6 m6 f6 z6)
                        | fail)
                      have a1 : ¬ w.heap.size = g7 := bk_apart_map HE.out.2.2.1.bb HE.out.2.2.2.1
                      have a2 : ¬ w.heap.size + 1 = g7 := bk_apart_map HE.out.2.2.1.rs HE.out.2.2.2.1
                      have a3 : ¬ g6 = g7 := bk_apart_map HE.out.2.2.1.ta HE.out.2.2.2.1
                      have hLB := HE.out.2.2.1.fr f6 a1 a2 a3 (fun b hb e => own_apart_map HE.out.2.2.1.mg.tx HE.out.2.2.2.1 (by rw [hb]; exact congrArg some e)) (fun b e => by have e' : b = g7 := e; rw [e']; exact HE.out.2.2.1.ne.2.2)
                      have b9 := HE.out.2.1.fr f6 (show ¬ g9 = g7 by omega)
                      have b11 := HE.out.1.fr f6 (show ¬ g11 = g7 by omega)
                      have HX6 := Lib.hid (And.intro hLB (And.intro b9 (And.intro b11 m6)))
                      have HGW := Lib.hid (HG.out.bel hLB.mg.bl)
                      have htt := hLB.tt
                      have d23 : w6.cell? ⟨g6, 23, none⟩ = some (.int .i64 t) := (hLB.ta.cell 23).trans (taAt23 _ _ _)
                      have hgp : (mget (mput m (srcT ks) (.int .i64 ((cn : Int) + 1))) (srcT ks)).getD (.int .i64 0) = .int .i64 ((cn : Int) + 1) := by rw [get_put, if_pos rfl]; rfl
                      have HGP := Lib.hid hgp
                      clear hLB b9 b11 m6 a1 a2 a3 hgp HR0 HR1
                      go_wp2_with (first
                        | ((with_reducible show wpList _ _ _ (Oper.mk _ (Op.load 91 _) _ _ _ _ :: _) _ _); refine wpList_load_row rfl 91 _ rfl g9 rfl 91 #[.int .i64 x0, .int .i64 x1, .int .i64 x2, .int .i64 x3, .int .i64 x4] (0, 0) _ HX6.out.2.1 Tryz.underlying91 rfl (by kernel_rfl) ?_)
                        | ((with_reducible show wpList _ _ _ (Oper.mk _ (Op.lookup _ _ _ _) _ _ _ _ :: _) _ _); refine wpList_look rfl _ _ rfl keyS Tryz.underlying90 (z := .int .i64 0) (by kernel_rfl) HX6.out.2.2.2 rfl (srcT ks) rfl hkok (.int .i64 ((cn : Int) + 1)) HGP.out ?_)
                        | fail)
                      refine (told_any x0 x1 x2 x3 x4 ((cn : Int) + 1) t w6 HGW.out hxs.1 hxs.2.1 hxs.2.2.1 hxs.2.2.2.1 hxs.2.2.2.2 (by omega) (by omega) (by omega) (by omega) (by omega)).mono ?_
                      rintro e w7 ⟨ev, rfl, ht7, hn7, hs7, hb7⟩
                      have hLB7 := HX6.out.1.bel hb7
                      have b11' := HX6.out.2.2.1.bel hb7
                      have z0' : w7.cell? ⟨g11, 0, none⟩ = some (.int .i64 0) := b11'.cell 0
                      have gf' : ∀ j, w7.frozen? ⟨g11, j, none⟩ = false := fun j => b11'.free j
                      have HX7 := Lib.hid (And.intro hLB7 (And.intro (HX6.out.2.1.bel hb7) (And.intro b11' (HX6.out.2.2.2.bel hb7))))
                      have HEV := Lib.hid (And.intro ht7 (And.intro hn7 hs7))
                      have HT8 : Hid ((w7.setCell ⟨g11, 0, none⟩ (.int .i64 0)).there g11 1 8) := Lib.hid ((HX7.out.2.2.1.set 0 _).there 1 8 (by rw [List.length_set, stLen]; decide))
                      clear hLB7 b11' hb7 ht7 hn7 hs7 d23
                      go_wp2_with (first
                        | ((with_reducible show wpList _ _ _ (Oper.mk _ (Op.store 60 _ _) _ _ _ _ :: _) _ _); refine wpList_store_mid rfl 60 _ _ rfl g11 1 #[.string ev.src, .int .i64 ev.num, .int .i64 ev.at_, .int .i64 ev.kind, .string ev.per, .string ev.item, .int .i64 ev.val, .string ev.txt] rfl rfl HT8.out infoEv8 (all_oneCell_toArray (evOne ev)) ?_)
                        | fail)
                      go_meet
                      have hb11 := (HX7.out.2.2.1.set 0 (.int .i64 0)).lput (evC ev) 1
                      have hne : ¬ w.heap.size = g11 ∧ ¬ w.heap.size + 1 = g11 ∧ ¬ g6 = g11 ∧ ¬ g7 = g11 ∧ ¬ g9 = g11 := by omega
                      have hf7 : Fr (fun b => b = g11) w7 ((w7.setCell ⟨g11, 0, none⟩ (.int .i64 0)).setCells g11 1 (evC ev)) := fr_setCells (S := fun b => b = g11) (.inr rfl) _ _ ((Fr.refl _ _).setCell g11 0 _ (.inr rfl))
                      refine ⟨⟨0, ev, ⟨#[]⟩, t, 0, 0⟩, _, Lib.hid ⟨hb11, HX7.out.2.1.fr hf7 hne.2.2.2.2, HX7.out.1.fr hf7 hne.1 hne.2.1 hne.2.2.1 (fun b hb e => by have := hlts.2.2.2.2 b hb; have e' : b = g11 := e; omega) (fun b e => by have e' : b = g11 := e; omega), HX7.out.2.2.2.fr hf7 hne.2.2.2.1, HC3.out _ rfl HEV.out.1 HEV.out.2.1 (by rw [← HKS.out]; exact HEV.out.2.2)⟩⟩
                  case rest =>
                    obtain ⟨st, m', HC⟩ := hcut
                    clear HE z0 z9 z11 z12 gf e0 e1 e3
                    have d22 : wc.cell? ⟨g6, 22, none⟩ = some sl := (HC.out.2.2.1.ta.cell 22).trans (taAt22 _ _ _)
                    obtain ⟨iS, hiS, hzS, hsS, hbS⟩ := tinfo infoStep
                    have HM := Lib.hid (HC.out.2.2.1.mg.alloc (.cells (stC st).toArray 62))
                    have HIN : Hid (InW (wc.alloc (.cells (stC st).toArray 62)) (some ⟨wc.heap.size, 0, none⟩) 13 ([st].map stC)) := Lib.hid (inw_one (f := stC) (x := st) (Bk.new wc (stC st) 62))
                    have HLN : Hid (l.length + [st].length ≤ 1000000) := Lib.hid (by simp; omega)
                    have q4 : (x4 : Int).tmod 16 = ((x4 % 16 : Nat) : Int) := by rw [Int.tmod_eq_emod_of_nonneg (by omega)]; omega
                    have htt := HC.out.2.2.1.tt
                    obtain ⟨y4, hy4⟩ : ∃ y4, x4 % 16 = y4 := ⟨_, rfl⟩
                    rw [hy4] at q4
                    have hy16 : y4 ≤ 15 := by omega
                    clear hy4 e4
                    go_upto_region 34 with (first
                      | ((with_reducible show wpList _ _ _ (Oper.mk _ (Op.load 62 _) _ _ _ _ :: _) _ _); refine wpList_load_row rfl 62 _ rfl g11 rfl 62 #[.int .i64 st.what, .string st.ev.src, .int .i64 st.ev.num, .int .i64 st.ev.at_, .int .i64 st.ev.kind, .string st.ev.per, .string st.ev.item, .int .i64 st.ev.val, .string st.ev.txt, .string st.per, .int .i64 st.now, .int .i64 st.keep, .int .i64 st.of] (0, 0) _ HC.out.1 Tryz.underlying62 rfl (by kernel_rfl) ?_)
                      | (at_builtin; refine wpList_append_m stLen stOne _ rfl _ _ _ rfl 62 iS _ 144 Tryz.underlying53 hiS hzS hsS hbS rfl (by decide) (by omega) sl l [st] rfl HM.out.tx (some ⟨wc.heap.size, 0, none⟩) 1 1 rfl rfl HIN.out HLN.out ?_
                         intro v8 w8 o8 f8 h8
                         obtain ⟨b8, k8, hv8, _⟩ := inw_of_rowm stLen (by decide) o8
                         obtain ⟨L8, hL8⟩ : ∃ L8, (l ++ [st]).length = L8 := ⟨_, rfl⟩
                         rw [hL8] at hv8
                         subst hv8
                         have HL8 := Lib.hid hL8
                         clear hL8
                         have hTA8 := (HC.out.2.2.1.ta.old (.cells (stC st).toArray 62)).fr f8 (own_apart HM.out.tx (HC.out.2.2.1.ta.old (.cells (stC st).toArray 62)) (by decide))
                         have c22 : w8.cell? ⟨g6, 22, none⟩ = some sl := (hTA8.cell 22).trans (taAt22 _ _ _)
                         have f22 : ∀ j, w8.frozen? ⟨g6, j, none⟩ = false := fun j => hTA8.free j)
                      | fail)
                    have HP9 := Lib.hid (HC.out.2.2.push st o8 f8 h8)
                    have H99 := HC.out.2.2.nine (v8 := .slice b8 L8 k8) st HC.out.2.1 f8
                    have e4 : (w8.setCell ⟨g6, 22, none⟩ (.slice b8 L8 k8)).cell? ⟨g9, 4, none⟩ = some (.int .i64 x4) := H99.cell 4
                    have d23 : (w8.setCell ⟨g6, 22, none⟩ (.slice b8 L8 k8)).cell? ⟨g6, 23, none⟩ = some (.int .i64 t) := (HP9.out.1.ta.cell 23).trans (taAt23 _ _ _)
                    have d6f : ∀ j, (w8.setCell ⟨g6, 22, none⟩ (.slice b8 L8 k8)).frozen? ⟨g6, j, none⟩ = false := fun j => HP9.out.1.ta.free j
                    have ht0 : 0 ≤ t := by omega
                    have ht1 : t ≤ 3000 := by omega
                    have ht2 : 1000 ≤ t + (y4 : Int) ∧ t + (y4 : Int) ≤ 1000 + 15 * ((l ++ [st]).length : Nat) ∧ (n = 0 → t + (y4 : Int) = 1000) := by
                      refine ⟨by omega, ?_, by omega⟩
                      rw [List.length_append]; simp only [List.length_cons, List.length_nil]; omega
                    have HT2 := Lib.hid ht2
                    have HL2 : Hid ((l ++ [st]).length = l.length + 1) := Lib.hid (by simp)
                    have HLL := Lib.hid (And.intro hl (And.intro hg (show l.length ≤ 58 by omega)))
                    clear hTA8 c22 f22 o8 f8 h8 HC HM HIN HLN d22 H99 ht2 htt hl hg
                    generalize w8.setCell ⟨g6, 22, none⟩ (.slice b8 L8 k8) = W9 at *
                    go_wp2_with fail
                    go_roundg (60 - (l.length + 1))
                    case measure => have := HLL.out; omega
                    case rel =>
                      refine ⟨l ++ [st], m', t + y4, _, ?_, ?_, ?_, Lib.hid (HP9.out.tick _ HT2.out)⟩
                      · rw [HL2.out]; congr 1
                      · rw [HL2.out]; have := HLL.out; omega
                      · rw [HL2.out]; omega
          · have hlt' : ¬ (8 + 5 * (l.length : Int)) < (n : Int) := by omega
            obtain ⟨bs, ks, hse, _⟩ := inw_of_rowm stLen (by decide) H.out.1.mg.tx
            have hone : sl.oneCell' = true := by rw [hse]; rfl
            have HONE := Lib.hid hone
            clear hse hone
            go_wp2_with (first
              | ((with_reducible show wpList _ _ _ (Oper.mk _ (Op.load 55 _) _ _ _ _ :: _) _ _); refine wpList_load_row rfl 55 _ rfl g6 rfl 55 (taC s sl t).toArray (0, 0) _ H.out.1.ta Tryz.underlying55 rfl (by rw [List.size_toArray, taLen]; kernel_rfl) ?_)
              | ((with_reducible show wpList _ _ _ (Oper.mk _ (Op.store 55 _ _) _ _ _ _ :: _) _ _); refine wpList_store_rowTo rfl 55 _ _ rfl rfl (w.heap.size + 1) (taC s sl t).toArray rfl rfl 55 zerT.toArray H.out.1.rs (by rw [List.size_toArray, taLen]; kernel_rfl) (by rw [List.size_toArray, List.size_toArray, taLen]; rfl) (all_oneCell_toArray (taOne _ _ _ HONE.out)) ?_)
              | fail)
            refine bodyPost_ret (results_cell_row rfl _ _ (w.heap.size + 1) 55 (taC s sl t).toArray (0, 0) _ rfl (H.out.1.rs.setRow (taC s sl t)) Tryz.underlying55 rfl (by rw [List.size_toArray, taLen]; kernel_rfl)) rfl ⟨s, sl, l, t, rfl, ?_, hl, H.out.1.tt.2.2, H.out.2.2.ev, H.out.2.2.nd⟩
            have hbl := bel_setRow H.out.1.mg.bl (g := w.heap.size + 1) (by omega) (taC s sl t).toArray
            have hf : Fr (fun b => b = w.heap.size + 1) V (V.setRow (w.heap.size + 1) (taC s sl t).toArray) := ⟨rfl, rfl, rfl, by simp, fun k hk hs => setRow_other V (w.heap.size + 1) k _ hs⟩
            exact ⟨hf.row H.out.1.mg.tx (fun b hb e => own_apart H.out.1.mg.tx H.out.1.rs (by decide) (by rw [hb]; exact congrArg some e)), H.out.1.mg.nw, hbl⟩
end Tl
end Go.Proofs.YtkofcegdoilaeaaGreatDoor
namespace Go.Proofs.YtkofcegdoilaeaaGreatDoor
section
variable {P : Program} {ops : Array Oper} {Q : Exit → Act → World → Prop} {md : Region.Mode} {S : World → Prop}
theorem take_at {i : Nat} {oi : Oper} {v : Value} {fuel : Nat} {listed : Array Bool} {a : Act} {w : World} (d : Option Nat) (hi : ops[i]? = some oi) (hd : oi.dst = d)
    (hs : Region.noSelect ops = true) (hf : Region.free md ops listed i = true) (hr : (Region.ready md ops listed).contains i = true)
    (hQ : ∀ c a w, Q (.panic c) (a.put d v) w → Q (.panic c) a w) (hw : Region.wanted oi (yielded ops a.tmps) = true) (hy : ∀ w, S w → (execOp a.eval oi).run P w = .ok (.value v) w) (hS : S w)
    (h : wpAnyH P md ops Q S fuel (listed.setIfInBounds i true) (a.put d v) w) : wpAnyH P md ops Q S (fuel + 1) listed a w := by
  subst hd
  exact wpAnyH_take hi hs hf hr hQ (Or.inl ⟨hw, hy⟩) hS h
theorem skip_at {i : Nat} {oi : Oper} {fuel : Nat} {listed : Array Bool} {a : Act} {w : World} (d : Option Nat) (hi : ops[i]? = some oi) (hd : oi.dst = d)
    (hs : Region.noSelect ops = true) (hf : Region.free md ops listed i = true) (hr : (Region.ready md ops listed).contains i = true)
    (hQ : ∀ c a w, Q (.panic c) (a.put d undef) w → Q (.panic c) a w) (hw : Region.wanted oi (yielded ops a.tmps) = false) (hS : S w)
    (h : wpAnyH P md ops Q S fuel (listed.setIfInBounds i true) (a.put d undef) w) : wpAnyH P md ops Q S (fuel + 1) listed a w := by
  subst hd
  exact wpAnyH_take hi hs hf hr hQ (Or.inr ⟨hw, rfl⟩) hS h
theorem pass_at {i : Nat} {oi : Oper} {fuel : Nat} {listed : Array Bool} {a : Act} {w : World} (d : Option Nat) (hr : Region.ready md ops listed = [i]) (hi : ops[i]? = some oi) (hd : oi.dst = d)
    (hw : Region.wanted oi (yielded ops a.tmps) = false) (hS : S w)
    (h : wpAnyH P md ops Q S fuel (listed.setIfInBounds i true) (a.put d undef) w) : wpAnyH P md ops Q S (fuel + 1) listed a w := by
  subst hd
  refine wpAnyH_ready hr (by simp) (AllReadyH.cons hi (fun K hK => ?_) AllReadyH.nil)
  rw [if_neg (by rw [hw]; decide)]
  exact hK.out _ _ hS (fun _ => h)
theorem call_at {i : Nat} {oi : Oper} {fuel : Nat} {listed : Array Bool} {a : Act} {w : World} (hr : Region.ready md ops listed = [i]) (hi : ops[i]? = some oi)
    (h : ∀ K' : Act → World → Prop, Shut (∀ a w, S w → (S w → wpAnyH P md ops Q S fuel (listed.setIfInBounds i true) a w) → K' a w) → if Region.wanted oi (yielded ops a.tmps) = true then Oper.wp P oi a w K' Q else K' (a.put oi.dst undef) w) : wpAnyH P md ops Q S (fuel + 1) listed a w :=
  wpAnyH_ready hr (by simp) (AllReadyH.cons hi h AllReadyH.nil)
end
end Go.Proofs.YtkofcegdoilaeaaGreatDoor

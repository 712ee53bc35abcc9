/- What (*distinct.Counter).add keeps in memory, and insertions. -/
import Derived.Test.YtipblbmpckfigaaSearch
import Derived.Test.YtipblbmpckfigaaInsert64
import Derived.Deep.RegionHeld3
import Derived.Deep.RegionWith
import Derived.Deep.DeepCutAuto
import Derived.RegionTactic
import Derived.Deep.RegionLaw
namespace Go.Proofs.Ytipblbmpckfigaa
open Go.RowKit Dist
set_option linter.unusedVariables false

theorem below_first {K : List Int} (hu : Up K) (h : Int) : firstYes K.length (fun i => decide (h ≤ K.getD i 0)) = below K h := by
  have hb := below_le K h
  refine firstYes_eq hb (fun i hi => ?_) (fun i h1 h2 => ?_)
  · have : K.getD i 0 ∈ K.take (below K h) := by
      rw [List.getD_eq_getElem?_getD, List.getElem?_eq_getElem (by omega)]
      exact List.mem_take_iff_getElem.2 ⟨i, by omega, rfl⟩
    have := below_take hu _ this
    exact decide_eq_false (by omega)
  · have : K.getD i 0 ∈ K.drop (below K h) := by
      rw [List.getD_eq_getElem?_getD, List.getElem?_eq_getElem (by omega)]
      exact List.mem_drop_iff_getElem.2 ⟨i - below K h, by omega, by simp [show below K h + (i - below K h) = i by omega]⟩
    have := below_drop hu _ this
    exact decide_eq_true (by omega)
theorem up_mono {K : List Int} (hu : Up K) (h : Int) (a b : Nat) (hab : a ≤ b) (hb : b < K.length) (ha : decide (h ≤ K.getD a 0) = true) : decide (h ≤ K.getD b 0) = true := by
  rcases Nat.lt_or_eq_of_le hab with hlt | rfl
  · have := List.pairwise_iff_getElem.1 hu a b (by omega) hb hlt
    rw [List.getD_eq_getElem?_getD, List.getElem?_eq_getElem (by omega)] at ha ⊢
    simp at ha ⊢; omega
  · exact ha
/-- is it kept? the place tells -/
theorem mem_at {K : List Int} (hu : Up K) (h : Int) : h ∈ K ↔ K[below K h]? = some h := by
  constructor
  · intro hm
    rw [← List.take_append_drop (below K h) K, List.mem_append] at hm
    rcases hm with hm | hm
    · have := below_take hu h hm; omega
    · have hlen : below K h < K.length := by
        rcases Nat.lt_or_ge (below K h) K.length with k | k
        · exact k
        · rw [List.drop_of_length_le k] at hm; cases hm
      rw [List.drop_eq_getElem_cons hlen] at hm
      have h1 : h ≤ K[below K h] := below_drop hu _ (by have hh := List.drop_eq_getElem_cons hlen; rw [hh]; exact List.mem_cons_self)
      rcases List.mem_cons.1 hm with e | hm
      · rw [List.getElem?_eq_getElem hlen, ← e]
      · have hu2 : Up (K.drop (below K h)) := List.Pairwise.sublist (List.drop_sublist _ _) hu
        rw [List.drop_eq_getElem_cons hlen] at hu2
        have := (up_cons.1 hu2).1 h hm
        omega
  · intro hm; exact List.mem_of_getElem? hm
def AddPost (g : Nat) (v : Value) (k : Nat) (K : List Int) (mo : Bool) (h : Int) (w : World) (e : Ending) (w' : World) : Prop :=
  ∃ v', e = .returned (.bool (freshK k K h)) ∧ CtrW w' g v' k (keepK k K h) (moreK k K h mo) ∧ Fr (fun b => b = g ∨ v.ownBlock = some b) w w' ∧ (v'.ownBlock = v.ownBlock ∨ ∃ b, v'.ownBlock = some b ∧ w.heap.size ≤ b)
/-- the boxes of c and h beside the counter; v0: its row's value when the call began -/
structure AddW (w : World) (v0 : Value) (X : World) (g : Nat) (v : Value) (k : Nat) (K : List Int) (mo : Bool) (h : Int) : Prop where
  bc : Bk X w.heap.size [.pointer (some ⟨g, 0, none⟩)] 28
  bh : Bk X (w.heap.size + 1) [.int .u64 h] 23
  ctr : CtrW X g v k K mo
  lt : g < w.heap.size
  fr : Fr (fun b => b = g ∨ v0.ownBlock = some b) w X
theorem AddW.facts {w X : World} {g : Nat} {v0 v : Value} {k : Nat} {K : List Int} {mo : Bool} {h : Int} (a : AddW w v0 X g v k K mo h) :
    X.cell? ⟨w.heap.size, 0, none⟩ = some (.pointer (some ⟨g, 0, none⟩)) ∧ X.cell? ⟨w.heap.size + 1, 0, none⟩ = some (.int .u64 h) ∧ X.cell? ⟨g, 0, none⟩ = some (.int .i64 k) ∧ X.cell? ⟨g, 1, none⟩ = some v ∧ X.cell? ⟨g, 2, none⟩ = some (.bool mo) ∧ X.frozen? ⟨g, 1, none⟩ = false ∧ X.frozen? ⟨g, 2, none⟩ = false :=
  ⟨a.bc.cell 0, a.bh.cell 0, a.ctr.bk.cell 0, a.ctr.bk.cell 1, a.ctr.bk.cell 2, a.ctr.bk.free 1, a.ctr.bk.free 2⟩
theorem bk_drewN {w : World} {g : Nat} {cs : List Value} {t : TypeId} (h : Bk w g cs t) (n : Nat) : Bk (w.drewN n) g cs t := h
theorem CtrW.drewN {w : World} {g : Nat} {v : Value} {k : Nat} {K : List Int} {m : Bool} (h : CtrW w g v k K m) (n : Nat) : CtrW (w.drewN n) g v k K m := ⟨h.bk, h.row, h.ne⟩
theorem AddW.drewN {w X : World} {g : Nat} {v0 v : Value} {k : Nat} {K : List Int} {mo : Bool} {h : Int} (a : AddW w v0 X g v k K mo h) (n : Nat) : AddW w v0 (X.drewN n) g v k K mo h := ⟨a.bc, a.bh, a.ctr.drewN n, a.lt, a.fr.drewN n⟩
theorem AddW.drew {w X : World} {g : Nat} {v0 v : Value} {k : Nat} {K : List Int} {mo : Bool} {h : Int} (a : AddW w v0 X g v k K mo h) : AddW w v0 X.drew g v k K mo h := ⟨a.bc, a.bh, ⟨a.ctr.bk, a.ctr.row, a.ctr.ne⟩, a.lt, a.fr.drew⟩
theorem row_set {w : World} {e : TypeId} {v : Value} {n : Nat} {xs : List Value} (h : w.ownsRow 0 e 1 v n xs) (g i : Nat) (u : Value) (hne : v.ownBlock ≠ some g) : (w.setCell ⟨g, i, none⟩ u).ownsRow 0 e 1 v n xs :=
  ((Fr.refl (fun b => b = g) w).setCell g i u (.inr rfl)).row h (fun b hb e => hne (by rw [hb, e]))
theorem CtrW.more {w : World} {g : Nat} {v : Value} {k : Nat} {K : List Int} {m : Bool} (h : CtrW w g v k K m) (b : Bool) : CtrW (w.setCell ⟨g, 2, none⟩ (.bool b)) g v k K b :=
  ⟨h.bk.set 2 _, row_set h.row _ _ _ h.ne, h.ne⟩
theorem AddW.more {w X : World} {g : Nat} {v0 v : Value} {k : Nat} {K : List Int} {mo : Bool} {h : Int} (a : AddW w v0 X g v k K mo h) (b : Bool) : AddW w v0 (X.setCell ⟨g, 2, none⟩ (.bool b)) g v k K b h :=
  ⟨a.bc.other _ _ _ (by have := a.lt; omega), a.bh.other _ _ _ (by have := a.lt; omega), a.ctr.more b, a.lt, a.fr.setCell _ _ _ (.inr (.inl rfl))⟩
theorem AddW.kept {w X : World} {g : Nat} {v0 v : Value} {k : Nat} {K : List Int} {mo : Bool} {h : Int} (a : AddW w v0 X g v k K mo h) (v2 : Value) (K2 : List Int) (hr : X.ownsRow 0 23 1 v2 K2.length (K2.map (Value.int .u64))) (hne : v2.ownBlock ≠ some g) :
    AddW w v0 (X.setCell ⟨g, 1, none⟩ v2) g v2 k K2 mo h :=
  ⟨a.bc.other _ _ _ (by have := a.lt; omega), a.bh.other _ _ _ (by have := a.lt; omega), ⟨a.ctr.bk.set 1 _, row_set hr _ _ _ hne, hne⟩, a.lt, a.fr.setCell _ _ _ (.inr (.inl rfl))⟩
/-- behind an insertion: what stays, and what the store of the new row makes -/
theorem AddW.inserted {w X : World} {g : Nat} {v0 v : Value} {k : Nat} {K : List Int} {mo : Bool} {h : Int} (a : AddW w v0 X g v k K mo h) (hv : v.ownBlock = v0.ownBlock) (hlt : ∀ b, v0.ownBlock = some b → b < w.heap.size ∧ b ≠ g) (o : Obj) {wx : World} {v2 : Value} {K2 : List Int}
    (r1 : wx.ownsRow 0 23 1 v2 (K2.map (Value.int .u64)).length (K2.map (Value.int .u64))) (r2 : Fr (fun b => v.ownBlock = some b) (X.alloc o).drew wx) (r3 : Hence v v2 (X.alloc o).drew) :
    (wx.cell? ⟨w.heap.size, 0, none⟩ = some (.pointer (some ⟨g, 0, none⟩)) ∧ wx.cell? ⟨w.heap.size + 1, 0, none⟩ = some (.int .u64 h) ∧ wx.cell? ⟨g, 1, none⟩ = some v ∧ wx.frozen? ⟨g, 1, none⟩ = false) ∧
    AddW w v0 (wx.setCell ⟨g, 1, none⟩ v2) g v2 k K2 mo h ∧ (v2.ownBlock = v0.ownBlock ∨ ∃ b, v2.ownBlock = some b ∧ w.heap.size ≤ b) := by
  have n1 : ¬ v.ownBlock = some w.heap.size := fun e => by rw [hv] at e; have := (hlt _ e).1; omega
  have n2 : ¬ v.ownBlock = some (w.heap.size + 1) := fun e => by rw [hv] at e; have := (hlt _ e).1; omega
  have n3 : ¬ v.ownBlock = some g := a.ctr.ne
  have s0 := a.fr.size
  have b1 := (show Bk (X.alloc o).drew _ _ _ from a.bc.old o).fr r2 n1
  have b2 := (show Bk (X.alloc o).drew _ _ _ from a.bh.old o).fr r2 n2
  have b3 := (show Bk (X.alloc o).drew _ _ _ from a.ctr.bk.old o).fr r2 n3
  have ho : v2.ownBlock = v0.ownBlock ∨ ∃ b, v2.ownBlock = some b ∧ w.heap.size ≤ b := by
    rcases r3 with e | e
    · exact .inl (e.trans hv)
    · refine .inr ⟨_, e, ?_⟩
      show w.heap.size ≤ (X.alloc o).heap.size
      simp; omega
  have hne : v2.ownBlock ≠ some g := fun e => by
    rcases ho with e2 | ⟨b, e2, e3⟩
    · rw [e] at e2; exact (hlt g e2.symm).2 rfl
    · rw [e] at e2; cases e2; have := a.lt; omega
  refine ⟨⟨b1.cell 0, b2.cell 0, b3.cell 1, b3.free 1⟩, ?_, ho⟩
  refine ⟨b1.other _ _ _ (by have := a.lt; omega), b2.other _ _ _ (by have := a.lt; omega), ⟨b3.set 1 _, row_set (by simpa using r1) _ _ _ hne, hne⟩, a.lt, ?_⟩
  refine Fr.setCell ?_ _ _ _ (.inr (.inl rfl))
  exact (a.fr.alloc o).drew.trans r2 (fun i _ e => .inr (by rw [← hv]; exact e))
/-- a row cut to its first ones -/
theorem row_cut {w : World} {e : TypeId} {r n cap m : Nat} {xs : List Value} (h : w.ownsRow 0 e 1 (.slice (some ⟨r, 0, none⟩) n cap) n xs) (hm : m ≤ n) : w.ownsRow 0 e 1 (.slice (some ⟨r, 0, none⟩) m cap) m (xs.take m) := by
  obtain ⟨hl, h1 | ⟨r', cap', cs, e1, h2, h3, h4, h5, h6⟩⟩ := bk_of_row h
  · cases h1.1
  · cases e1
    refine row_of_bk h2 h3 (by omega) h5 ?_
    rw [← h6, List.take_take, Nat.min_eq_left hm]
/-- what an insertion leaves, the new row's value written out -/
def InsAt (v : Value) (ys : List Value) (w : World) (e : Ending) (w' : World) : Prop :=
  ∃ r n c, e = .returned (.slice (some ⟨r, 0, none⟩) n c) ∧ w'.ownsRow 0 23 1 (.slice (some ⟨r, 0, none⟩) n c) ys.length ys ∧ Fr (fun b => v.ownBlock = some b) w w' ∧ Hence v (.slice (some ⟨r, 0, none⟩) n c) w
theorem InsPost.at {v : Value} {ys : List Value} {w w' : World} {e : Ending} (h : InsPost v ys w e w') (hn : ys ≠ []) : InsAt v ys w e w' := by
  obtain ⟨v', rfl, h1, h2, h3⟩ := h
  obtain ⟨hl, k | ⟨r, cap, cs, rfl, _⟩⟩ := bk_of_row h1
  · exact absurd k.2.2 hn
  · exact ⟨r, _, cap, rfl, h1, h2, h3⟩
/-- an insertion wherever it belongs -/
theorem insert_all (v : Value) (K : List Int) (i : Nat) (h : Int) (vb : Nat) (w : World) (hr : w.ownsRow 0 23 1 v K.length (K.map (Value.int .u64))) (hi : i ≤ K.length) (hn : K.length ≤ 1000000) (hb : Bk w vb [.int .u64 h] 23) (hne : v.ownBlock ≠ some vb) :
    Calls Try.prog 37 #[v, .int .i64 i, .slice (some ⟨vb, 0, none⟩) 1 1] w (InsPost v ((K.take i ++ h :: K.drop i).map (Value.int .u64)) w) := by
  by_cases he : i = K.length
  · subst he
    have := insert_end v K.length (K.map (Value.int .u64)) h vb w hr hn hb
    simpa using this
  · obtain ⟨hl, h1 | ⟨r, cap, cs, rfl, h2, h3, h4, h5, h6⟩⟩ := bk_of_row hr
    · have := h1.2.1; omega
    · have hone : ∀ u ∈ cs.take K.length, u.oneCell' = true := fun u hu => by
        rw [h6] at hu
        obtain ⟨x, _, rfl⟩ := List.mem_map.1 hu
        rfl
      have hvr : vb ≠ r := fun e => hne (by rw [e]; rfl)
      have e1 : cs.take i = (K.take i).map (Value.int .u64) := by
        rw [List.map_take, ← h6, List.take_take, Nat.min_eq_left (by omega)]
      by_cases hroom : K.length + 1 ≤ cap
      · have := insert_room r K.length cap i cs h vb w h2 h3 (by omega) hroom h5 hone hb hvr
        rw [h6, e1] at this
        simpa using this
      · have hcap : K.length = cap := by omega
        have := insert_grow r K.length cap i cs h vb w h2 h3 (by omega) hcap (by omega) hone hb hvr
        have e2 : cs.drop i = (K.drop i).map (Value.int .u64) := by
          rw [List.map_drop, ← h6, List.take_of_length_le (by omega)]
        rw [e1, e2] at this
        simpa using this
theorem insert_any (v : Value) (K : List Int) (i : Nat) (h : Int) (vb : Nat) (w : World) (hr : w.ownsRow 0 23 1 v K.length (K.map (Value.int .u64))) (hi : i ≤ K.length) (hn : K.length ≤ 1000000) (hb : Bk w vb [.int .u64 h] 23) (hne : v.ownBlock ≠ some vb) :
    Calls Try.prog 37 #[v, .int .i64 i, .slice (some ⟨vb, 0, none⟩) 1 1] w (InsAt v ((K.take i ++ h :: K.drop i).map (Value.int .u64)) w) :=
  (insert_all v K i h vb w hr hi hn hb hne).mono fun _ _ k => k.at (by simp)
end Go.Proofs.Ytipblbmpckfigaa

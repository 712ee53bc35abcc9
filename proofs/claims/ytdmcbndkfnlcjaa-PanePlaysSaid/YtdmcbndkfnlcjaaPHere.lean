/- Panes, and the document's panes, beside one another: one word for all that is there. -/
import Derived.Test.YtdmcbndkfnlcjaaPRef8
import Derived.Test.YtdmcbndkfnlcjaaHere
namespace Go.Proofs.Ytdmcbndkfnlcjaa
open Go.RowKit Go.MapKept Go.Maps
set_option linter.unusedVariables false
inductive Ob where
  | pane (p : Nat) (wd ad : Int) (A : List Ad)
  | ref (m : Nat) (wd cnt : Int) (A : List Ad)
  | box (b : Nat) (cs : List Value) (t : TypeId)
def Holds (w : World) : Ob → List Nat → Prop
  | .pane p wd ad A, B => PaneAt w p B wd ad A
  | .ref m wd cnt A, B => ∃ v, RefAt w m v wd cnt A ∧ B = rblocks m v
  | .box b cs t, B => Bk w b cs t ∧ B = [b]
theorem Holds.fr {S : Nat → Prop} {w w' : World} {o : Ob} {B : List Nat} (h : Holds w o B) (hf : Fr S w w') (hs : ∀ b ∈ B, ¬ S b) : Holds w' o B := by
  cases o with
  | pane p wd ad A => exact PaneAt.fr h hf hs
  | ref m wd cnt A =>
    obtain ⟨v, h1, rfl⟩ := h
    exact ⟨v, h1.fr hf hs, rfl⟩
  | box b cs t =>
    obtain ⟨h1, rfl⟩ := h
    exact ⟨h1.fr hf (hs b (by simp)), rfl⟩
theorem Holds.lt {w : World} {o : Ob} {B : List Nat} (h : Holds w o B) : ∀ b ∈ B, b < w.heap.size := by
  cases o with
  | pane p wd ad A => exact PaneAt.lt h
  | ref m wd cnt A =>
    obtain ⟨v, h1, rfl⟩ := h
    exact h1.lt
  | box b cs t =>
    obtain ⟨h1, rfl⟩ := h
    intro b' hb
    simp at hb
    subst hb
    exact h1.lt
def K9 : Kind Ob := ⟨Holds, Holds.fr, Holds.lt⟩
theorem h_box {w0 w : World} {os : List Ob} (h : Here K9 w0 w os) (cs : List Value) (t : TypeId) : Here K9 w0 (w.alloc (.cells cs.toArray t)) (os ++ [.box w.heap.size cs t]) :=
  h.push ((Below.refl _ _).alloc (Nat.le_refl _) _) (o := .box _ _ _) ⟨Bk.new w cs t, rfl⟩ (fun b hb => by simp at hb; omega)
theorem h_boxAt {w0 w : World} {os : List Ob} (h : Here K9 w0 w os) {i b : Nat} {cs : List Value} {t : TypeId} (hi : os[i]? = some (.box b cs t)) : Bk w b cs t := by
  obtain ⟨B, h1, _⟩ := h.use hi
  exact h1.1
theorem h_wd {w0 w : World} {os : List Ob} (h : Here K9 w0 w os) {i p : Nat} {wd ad : Int} {A : List Ad} (hi : os[i]? = some (.pane p wd ad A)) : w.cell? ⟨p, 0, none⟩ = some (.int .i64 wd) := by
  obtain ⟨B, h1, _⟩ := h.use hi
  obtain ⟨s, r, sm, rw, _, h2, _⟩ := PaneAt.ex h1
  exact h2.cells.1
theorem h_rwd {w0 w : World} {os : List Ob} (h : Here K9 w0 w os) {i p : Nat} {wd ad : Int} {A : List Ad} (hi : os[i]? = some (.ref p wd ad A)) : w.cell? ⟨p, 0, none⟩ = some (.int .i64 wd) := by
  obtain ⟨B, ⟨v, h1, _⟩, _⟩ := h.use hi
  exact h1.cells.1
/-- contracts -/
theorem h_new {w0 w : World} {os : List Ob} (h : Here K9 w0 w os) (x : Int) (hx : I64 x) :
    Calls Try.prog 12 #[.int .i64 x] w fun e w' => e = .returned (.pointer (some ⟨w.heap.size + 2, 0, none⟩)) ∧ Here K9 w0 w' (os ++ [.pane (w.heap.size + 2) (wdOf x) 0 []]) := by
  refine (new_pane x w hx).mono ?_
  rintro e w' ⟨rfl, h1, h2, h3⟩
  exact ⟨rfl, h.push h2 (o := .pane _ _ _ _) h1 (fun b hb => by simp at hb; omega)⟩
theorem h_rnew {w0 w : World} {os : List Ob} (h : Here K9 w0 w os) (x : Int) (hx : I64 x) :
    Calls Try.prog 20 #[.int .i64 x] w fun e w' => e = .returned (.pointer (some ⟨w.heap.size, 0, none⟩)) ∧ Here K9 w0 w' (os ++ [.ref w.heap.size (wdOf x) 0 []]) := by
  refine (rnew_any x w hx).mono ?_
  rintro e w' ⟨rfl, h1, h2, h3⟩
  refine ⟨rfl, h.push h2 (o := .ref _ _ _ _) ⟨_, h1, rfl⟩ (fun b hb => ?_)⟩
  simp [rblocks, Value.ownBlock] at hb
  omega
theorem h_add {w0 w : World} {os : List Ob} (h : Here K9 w0 w os) {i p : Nat} {wd ad : Int} {A : List Ad} (hi : os[i]? = some (.pane p wd ad A)) (k : ByteArray) (a n : Int) (hk : k.size ≤ 100) (ha : I64 a) (hn : I64 n) :
    Calls Try.prog 13 #[.pointer (some ⟨p, 0, none⟩), .string k, .int .i64 a, .int .i64 n] w fun e w' => e = .returned (.bool (mayAdd k a n ad)) ∧ Here K9 w0 w' (os.set i (.pane p wd (addTo wd ad A k a n).1 (addTo wd ad A k a n).2)) := by
  obtain ⟨B, h1, _, h3, _⟩ := h.use hi
  refine (add_any p B wd ad A k a n w h1 hk ha hn).mono ?_
  rintro e w' ⟨rfl, B', g1, g2, g3⟩
  exact ⟨rfl, h3 w' (.pane _ _ _ _) B' g1 g2 g3⟩
theorem spread_ref {w : World} {m : Nat} {v v' : Value} (h : ∀ b, v'.ownBlock = some b → w.heap.size ≤ b) : Spread w (rblocks m v) (rblocks m v') := fun b hb => by
  simp only [rblocks, List.mem_cons, Option.mem_toList] at hb ⊢
  rcases hb with hb | hb
  · exact .inl (.inl hb)
  · exact .inr (h b hb)
theorem h_radd {w0 w : World} {os : List Ob} (h : Here K9 w0 w os) {i m : Nat} {wd cnt : Int} {A : List Ad} (hi : os[i]? = some (.ref m wd cnt A)) (k : ByteArray) (a n : Int) (hk : k.size ≤ 100) (ha : I64 a) (hn : I64 n) (hl : A.length ≤ 1000) :
    Calls Try.prog 21 #[.pointer (some ⟨m, 0, none⟩), .string k, .int .i64 a, .int .i64 n] w fun e w' => e = .returned (.bool (mayAdd k a n cnt)) ∧ Here K9 w0 w' (os.set i (.ref m wd (addTo wd cnt A k a n).1 (addTo wd cnt A k a n).2)) := by
  obtain ⟨B, ⟨v, h1, rfl⟩, _, h3, _⟩ := h.use hi
  cases hm : mayAdd k a n cnt with
  | true =>
    have e : addTo wd cnt A k a n = (cnt + 1, A ++ [(k, a / wd, n)]) := by simp [addTo, hm]
    rw [e]
    refine (radd_yes m v wd cnt A k a n w h1 hl hm).mono ?_
    rintro e w' ⟨rfl, v', g1, g2, g3⟩
    exact ⟨rfl, h3 w' (.ref _ _ _ _) _ ⟨v', g1, rfl⟩ (g3.mono (fun b _ e => by rw [e]; simp [rblocks])) (spread_ref g2)⟩
  | false =>
    have e : addTo wd cnt A k a n = (cnt, A) := by simp [addTo, hm]
    rw [e]
    refine (radd_no m v wd cnt A k a n w h1 hk ha hn hm).mono ?_
    rintro e w' ⟨rfl, rfl⟩
    exact ⟨rfl, h3 w (.ref _ _ _ _) _ ⟨v, h1, rfl⟩ (Fr.refl _ _) (Spread.refl _ _)⟩
theorem h_sum {w0 w : World} {os : List Ob} (h : Here K9 w0 w os) {i p : Nat} {wd ad : Int} {A : List Ad} (hi : os[i]? = some (.pane p wd ad A)) (k : ByteArray) (f t : Int) (hk : k.size ≤ 100) (hf : I64 f) (ht : I64 t) :
    Calls Try.prog 16 #[.pointer (some ⟨p, 0, none⟩), .string k, .int .i64 f, .int .i64 t] w fun e w' => e = .returned (.int .i64 (psum A k (f / wd) (t / wd))) ∧ w = w' := by
  obtain ⟨B, h1, _⟩ := h.use hi
  exact sum_any p B wd ad A k f t w h1 hk hf ht
theorem h_rsum {w0 w : World} {os : List Ob} (h : Here K9 w0 w os) {i m : Nat} {wd cnt : Int} {A : List Ad} (hi : os[i]? = some (.ref m wd cnt A)) (k : ByteArray) (f t : Int) (hf : I64 f) (ht : I64 t) :
    Calls Try.prog 25 #[.pointer (some ⟨m, 0, none⟩), .string k, .int .i64 f, .int .i64 t] w fun e w' => e = .returned (.int .i64 (psum A k (f / wd) (t / wd))) ∧ ∃ q, w' = w.drewN q := by
  obtain ⟨B, ⟨v, h1, rfl⟩, _⟩ := h.use hi
  exact rsum_any m v wd cnt A k f t w h1 hf ht
theorem h_keys {w0 w : World} {os : List Ob} (h : Here K9 w0 w os) {i p : Nat} {wd ad : Int} {A : List Ad} (hi : os[i]? = some (.pane p wd ad A)) (f t : Int) (hf : I64 f) (ht : I64 t) :
    Calls Try.prog 18 #[.pointer (some ⟨p, 0, none⟩), .int .i64 f, .int .i64 t] w fun e w' => ∃ v ks, e = .returned v ∧ KeysOf A (f / wd) (t / wd) ks ∧ TextsAt w' v ks ∧ Below w.heap.size w w' := by
  obtain ⟨B, h1, _⟩ := h.use hi
  refine (keys_any p B wd ad A f t w h1 hf ht).mono ?_
  rintro e w' ⟨v, ks, g1, g2, g3, _, g4⟩
  exact ⟨v, ks, g1, g2, g3, g4⟩
theorem h_rkeys {w0 w : World} {os : List Ob} (h : Here K9 w0 w os) {i m : Nat} {wd cnt : Int} {A : List Ad} (hi : os[i]? = some (.ref m wd cnt A)) (f t : Int) (hf : I64 f) (ht : I64 t) (hl : A.length ≤ 1000) :
    Calls Try.prog 24 #[.pointer (some ⟨m, 0, none⟩), .int .i64 f, .int .i64 t] w fun e w' => ∃ v ks, e = .returned v ∧ KeysOf A (f / wd) (t / wd) ks ∧ TextsAt w' v ks ∧ Below w.heap.size w w' := by
  obtain ⟨B, ⟨v, h1, rfl⟩, _⟩ := h.use hi
  refine (rkeys_any m v wd cnt A f t w h1 hl hf ht).mono ?_
  rintro e w' ⟨v, ks, g1, g2, g3, _, g4⟩
  exact ⟨v, ks, g1, g2, g3, g4⟩
theorem h_drop {w0 w : World} {os : List Ob} (h : Here K9 w0 w os) {i p : Nat} {wd ad : Int} {A : List Ad} (hi : os[i]? = some (.pane p wd ad A)) (bf : Int) (hb : I64 bf) :
    Calls Try.prog 17 #[.pointer (some ⟨p, 0, none⟩), .int .i64 bf] w fun e w' => ∃ c : Nat, e = .returned (.int .i64 (c : Int)) ∧ DropCount A (bf / wd) c ∧ Here K9 w0 w' (os.set i (.pane p wd ad (highA (bf / wd) A))) := by
  obtain ⟨B, h1, _, h3, _⟩ := h.use hi
  refine (drop_any p B wd ad A bf w h1 hb).mono ?_
  rintro e w' ⟨c, B', g1, g2, g3, g4, g5⟩
  exact ⟨c, g1, g2, h3 w' (.pane _ _ _ _) B' g3 g4 g5⟩
theorem h_rdrop {w0 w : World} {os : List Ob} (h : Here K9 w0 w os) {i m : Nat} {wd cnt : Int} {A : List Ad} (hi : os[i]? = some (.ref m wd cnt A)) (bf : Int) (hb : I64 bf) (hl : A.length ≤ 1000) :
    Calls Try.prog 37 #[.pointer (some ⟨m, 0, none⟩), .int .i64 bf] w fun e w' => ∃ c : Nat, e = .returned (.int .i64 (c : Int)) ∧ DropCount A (bf / wd) c ∧ Here K9 w0 w' (os.set i (.ref m wd cnt (highA (bf / wd) A))) := by
  obtain ⟨B, ⟨v, h1, rfl⟩, _, h3, _⟩ := h.use hi
  refine (rdrop_any m v wd cnt A bf w h1 hl hb).mono ?_
  rintro e w' ⟨c, v', g1, g2, g3, g4, g5⟩
  exact ⟨c, g1, g2, h3 w' (.ref _ _ _ _) _ ⟨v', g3, rfl⟩ (g5.mono (fun b _ e => by rw [e]; simp [rblocks])) (spread_ref g4)⟩
def merges (wd wd2 ad ad2 : Int) : Bool := decide (wd = wd2) && decide (ad + ad2 ≤ 1048576)
theorem h_merge {w0 w : World} {os : List Ob} (h : Here K9 w0 w os) {i j p q : Nat} {wd wd2 ad ad2 : Int} {A A2 : List Ad} (hi : os[i]? = some (.pane p wd ad A)) (hj : os[j]? = some (.pane q wd2 ad2 A2)) (hij : j ≠ i) :
    Calls Try.prog 22 #[.pointer (some ⟨p, 0, none⟩), .pointer (some ⟨q, 0, none⟩)] w fun e w' => e = .returned (.bool (merges wd wd2 ad ad2)) ∧ Here K9 w0 w' (if merges wd wd2 ad ad2 then os.set i (.pane p wd (ad + ad2) (A ++ A2)) else os) := by
  obtain ⟨B, h1, _, h3, h4⟩ := h.use hi
  obtain ⟨C, c1, c2⟩ := h4 j _ hij hj
  by_cases hm : wd = wd2 ∧ ad + ad2 ≤ 1048576
  · obtain ⟨rfl, hm⟩ := hm
    have e : merges wd wd ad ad2 = true := by simp [merges, hm]
    rw [e, if_pos rfl]
    refine (merge_yes p q B C wd ad ad2 A A2 w h1 c1 c2 hm).mono ?_
    rintro e w' ⟨rfl, B', g1, g2, g3⟩
    exact ⟨rfl, h3 w' (.pane _ _ _ _) B' g1 g2 g3⟩
  · have e : merges wd wd2 ad ad2 = false := by
      simp only [merges, Bool.and_eq_false_iff, decide_eq_false_iff_not]
      by_cases e : wd = wd2
      · exact .inr (fun c => hm ⟨e, c⟩)
      · exact .inl e
    rw [e, if_neg (by simp)]
    refine (merge_no p q B C wd wd2 ad ad2 A A2 w h1 c1 (by
      by_cases e : wd2 = wd
      · exact .inr (by have : ¬ ad + ad2 ≤ 1048576 := fun c => hm ⟨e.symm, c⟩; omega)
      · exact .inl e)).mono ?_
    rintro e w' ⟨rfl, q, rfl⟩
    exact ⟨rfl, h.drewN q⟩
theorem h_mergenil {w0 w : World} {os : List Ob} (h : Here K9 w0 w os) {i p : Nat} {wd ad : Int} {A : List Ad} (hi : os[i]? = some (.pane p wd ad A)) :
    Calls Try.prog 22 #[.pointer (some ⟨p, 0, none⟩), .pointer none] w fun e w' => e = .returned (.bool false) ∧ Here K9 w0 w' os := by
  obtain ⟨B, h1, _⟩ := h.use hi
  refine (merge_nil p B wd ad A w h1).mono ?_
  rintro e w' ⟨rfl, q, rfl⟩
  exact ⟨rfl, h.drewN q⟩
theorem h_rmerge {w0 w : World} {os : List Ob} (h : Here K9 w0 w os) {i j p q : Nat} {wd wd2 ad ad2 : Int} {A A2 : List Ad} (hi : os[i]? = some (.ref p wd ad A)) (hj : os[j]? = some (.ref q wd2 ad2 A2)) (hij : j ≠ i) (hl1 : A.length ≤ 1000) (hl2 : A2.length ≤ 1000) :
    Calls Try.prog 23 #[.pointer (some ⟨p, 0, none⟩), .pointer (some ⟨q, 0, none⟩)] w fun e w' => e = .returned (.bool (merges wd wd2 ad ad2)) ∧ Here K9 w0 w' (if merges wd wd2 ad ad2 then os.set i (.ref p wd (ad + ad2) (A ++ A2)) else os) := by
  obtain ⟨B, ⟨v, h1, rfl⟩, _, h3, h4⟩ := h.use hi
  obtain ⟨C, ⟨v2, c1, rfl⟩, c2⟩ := h4 j _ hij hj
  by_cases hm : wd = wd2 ∧ ad + ad2 ≤ 1048576
  · obtain ⟨rfl, hm⟩ := hm
    have e : merges wd wd ad ad2 = true := by simp [merges, hm]
    rw [e, if_pos rfl]
    have hne : p ≠ q := fun e => c2 p (by simp [rblocks]) (by rw [e]; simp [rblocks])
    refine (rmerge_yes p q v v2 wd ad ad2 A A2 w h1 c1 hne hm hl1 hl2).mono ?_
    rintro e w' ⟨rfl, v', g1, g2, g3⟩
    exact ⟨rfl, h3 w' (.ref _ _ _ _) _ ⟨v', g1, rfl⟩ (g3.mono (fun b _ e => by rw [e]; simp [rblocks])) (spread_ref g2)⟩
  · have e : merges wd wd2 ad ad2 = false := by
      simp only [merges, Bool.and_eq_false_iff, decide_eq_false_iff_not]
      by_cases e : wd = wd2
      · exact .inr (fun c => hm ⟨e, c⟩)
      · exact .inl e
    rw [e, if_neg (by simp)]
    refine (rmerge_no p q v v2 wd wd2 ad ad2 A A2 w h1 c1 (by
      by_cases e : wd = wd2
      · exact .inr (by have : ¬ ad + ad2 ≤ 1048576 := fun c => hm ⟨e, c⟩; omega)
      · exact .inl e)).mono ?_
    rintro e w' ⟨rfl, q, rfl⟩
    exact ⟨rfl, h.drewN q⟩
end Go.Proofs.Ytdmcbndkfnlcjaa

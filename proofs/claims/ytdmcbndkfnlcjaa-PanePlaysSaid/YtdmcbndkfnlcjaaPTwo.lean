/- Panes beside one another; what a list of acts leaves. -/
import Derived.Test.YtdmcbndkfnlcjaaPFew
namespace Go.Proofs.Ytdmcbndkfnlcjaa
open Go.RowKit Go.MapKept Go.Maps
set_option linter.unusedVariables false
theorem quiet_same {P : Program} {f : FuncId} {args : Array Value} {w : World} {n : Nat} {v : Value} (h : Calls P f args (w.drewN n) fun e w' => e = .returned v ∧ w.drewN n = w') : Calls P f args (w.drewN n) fun e w'' => e = .returned v ∧ ∃ m, w'' = w.drewN m :=
  h.mono fun _ _ ⟨he, hm⟩ => ⟨he, n, hm.symm⟩
def Above (N : Nat) (B : List Nat) : Prop := ∀ b ∈ B, N ≤ b
def Apart (B C : List Nat) : Prop := ∀ b ∈ B, b ∉ C
theorem Apart.symm {B C : List Nat} (h : Apart B C) : Apart C B := fun b hb hc => h b hc hb
theorem Above.spread {N : Nat} {w : World} {B B' : List Nat} (h : Above N B) (hs : Spread w B B') (hN : N ≤ w.heap.size) : Above N B' := fun b hb => by
  rcases hs b hb with h' | h'
  · exact h b h'
  · omega
theorem Apart.spread {w : World} {B B' C : List Nat} (h : Apart B C) (hs : Spread w B B') (hC : ∀ b ∈ C, b < w.heap.size) : Apart B' C := fun b hb hc => by
  rcases hs b hb with h' | h'
  · exact h b h' hc
  · have := hC b hc; omega
theorem bel_step {w0 wr w' : World} {B : List Nat} (h : Below w0.heap.size w0 wr) (hf : Fr (fun b => b ∈ B) wr w') (ha : Above w0.heap.size B) : Below w0.heap.size w0 w' := h.trans (hf.below h.size ha)
theorem PaneAt.beside {w w' : World} {p : Nat} {B C : List Nat} {wd ad : Int} {A : List Ad} (h : PaneAt w p B wd ad A) (hf : Fr (fun b => b ∈ C) w w') (ha : Apart B C) : PaneAt w' p B wd ad A := h.fr hf ha
theorem PaneAt.drew {w : World} {p : Nat} {B : List Nat} {wd ad : Int} {A : List Ad} (h : PaneAt w p B wd ad A) : PaneAt w.drew p B wd ad A := h.fr (Fr.refl none' w).drew (fun _ _ => id)
theorem PaneAt.drewN {w : World} {p : Nat} {B : List Nat} {wd ad : Int} {A : List Ad} (h : PaneAt w p B wd ad A) (n : Nat) : PaneAt (w.drewN n) p B wd ad A := h.fr ((Fr.refl none' w).drewN n) (fun _ _ => id)
/-- may an act be an add? -/
def okA (a : Act9) : Bool := decide (1 ≤ a.2.1.size) && decide (a.2.1.size ≤ 24) && decide (0 ≤ a.2.2.1) && decide (a.2.2.1 ≤ 1099511627776) && decide (0 ≤ a.2.2.2) && decide (a.2.2.2 ≤ 1048576)
def toAd (wd : Int) (a : Act9) : Ad := (a.2.1, a.2.2.1 / wd, a.2.2.2)
/-- all that acts add -/
def adds (wd : Int) (xs : List Act9) : List Ad := (xs.filter okA).map (toAd wd)
theorem adds_length (wd : Int) (xs : List Act9) : (adds wd xs).length ≤ xs.length := by
  unfold adds; rw [List.length_map]; exact List.length_filter_le _ _
theorem adds_snoc (wd : Int) (xs : List Act9) (a : Act9) : adds wd (xs ++ [a]) = if okA a then adds wd xs ++ [toAd wd a] else adds wd xs := by
  unfold adds
  rw [List.filter_append]
  by_cases h : okA a <;> simp [h]
theorem adds_append (wd : Int) (xs ys : List Act9) : adds wd (xs ++ ys) = adds wd xs ++ adds wd ys := by simp [adds]
theorem mayAdd_ok {a : Act9} {ad : Int} (h : ad < 1048576) : mayAdd a.2.1 a.2.2.1 a.2.2.2 ad = okA a := by simp [mayAdd, okA, h]
theorem addTo_adds (wd : Int) (xs : List Act9) (a : Act9) (h : xs.length ≤ 1000000) : addTo wd (adds wd xs).length (adds wd xs) a.2.1 a.2.2.1 a.2.2.2 = (((adds wd (xs ++ [a])).length : Int), adds wd (xs ++ [a])) := by
  have hl := adds_length wd xs
  unfold addTo
  rw [mayAdd_ok (by omega), adds_snoc]
  by_cases ha : okA a <;> simp [ha, toAd]
theorem adds_ok (wd : Int) (hw : 1 ≤ wd) (xs : List Act9) : ∀ x ∈ adds wd xs, AdOk x := fun x hx => by
  obtain ⟨a, ha, rfl⟩ := List.mem_map.1 hx
  have h := (List.mem_filter.1 ha).2
  simp only [okA, Bool.and_eq_true, decide_eq_true_eq] at h
  have := ediv_small a.2.2.1 wd hw (by omega) (by omega)
  unfold AdOk toAd
  simp only
  omega
/-- an Add to panes that hold what acts made -/
theorem add_act (p : Nat) (B : List Nat) (wd : Int) (xs : List Act9) (a : Act9) (w : World) (h : PaneAt w p B wd (adds wd xs).length (adds wd xs)) (hx : xs.length ≤ 1000000) (hk : a.2.1.size ≤ 100) (ha : I64 a.2.2.1) (hn : I64 a.2.2.2) :
    Calls Try.prog 13 #[.pointer (some ⟨p, 0, none⟩), .string a.2.1, .int .i64 a.2.2.1, .int .i64 a.2.2.2] w fun e w' => e = .returned (.bool (okA a)) ∧
      ∃ B', PaneAt w' p B' wd (adds wd (xs ++ [a])).length (adds wd (xs ++ [a])) ∧ Fr (fun b => b ∈ B) w w' ∧ Spread w B B' := by
  have hl := adds_length wd xs
  have h1 := add_any p B wd _ _ a.2.1 a.2.2.1 a.2.2.2 w h hk ha hn
  rw [addTo_adds wd xs a hx, mayAdd_ok (by omega)] at h1
  exact h1
/-- a key's sums hang on that key's adds alone -/
theorem psum_key (A : List Ad) (k : ByteArray) (lo hi : Int) : psum (A.filter fun x => decide (x.1 = k)) k lo hi = psum A k lo hi := by
  induction A with
  | nil => rfl
  | cons x A ih =>
    by_cases h : x.1 = k
    · simp [h, psum, ih]
    · rw [List.filter_cons, if_neg (by simpa using h), ih, psum, if_neg (fun e => h e.1), Int.zero_add]
theorem adds_key (wd : Int) (xs : List Act9) (k : ByteArray) : adds wd (xs.filter fun a => decide (a.2.1 = k)) = (adds wd xs).filter fun x => decide (x.1 = k) := by
  unfold adds
  rw [List.filter_map, List.filter_filter, List.filter_filter]
  congr 1
  refine List.filter_congr fun a _ => ?_
  rw [Bool.eq_iff_iff]
  simp [toAd, and_comm]
  exact fun _ => ⟨fun h => decide_eq_true h, fun h => of_decide_eq_true h⟩
theorem psum_other (A : List Ad) (k j : ByteArray) (lo hi : Int) (h : ∀ x ∈ A, x.1 = k) (hj : j ≠ k) : psum A j lo hi = 0 := by
  induction A with
  | nil => rfl
  | cons x A ih =>
    rw [psum, ih (fun y hy => h y (by simp [hy])), if_neg (fun e => hj (by rw [← e.1, h x (by simp)]))]
    rfl
end Go.Proofs.Ytdmcbndkfnlcjaa

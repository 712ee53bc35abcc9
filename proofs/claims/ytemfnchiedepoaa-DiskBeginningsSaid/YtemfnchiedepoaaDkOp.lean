/- Calls that came in: what they are in memory; the law's do. -/
import Derived.Test.YtemfnchiedepoaaDkAw
import Derived.Test.YtemfnchiedepoaaMk
import Derived.Lib.SmallJoins
namespace Go.Proofs.Ytemfnchiedepoaa
open Go.RowKit Go.MapKept Go.Maps Go.ChangeShapes Go.WideShapes Go.Deep
set_option linter.unusedVariables false
structure OpD where
  kind : Int
  n : Int
  name : ByteArray
  s : ByteArray
  keep : List Int
  kb : Option Addr
  kc : Nat
def opC (o : OpD) : List Value := [.int .i64 o.kind, .int .i64 o.n, .string o.name, .string o.s, .slice o.kb o.keep.length o.kc]
structure OpOk (w : World) (o : OpD) : Prop where
  kind : I64 o.kind
  n : I64 o.n
  name : o.name.size ≤ maxLen
  s : o.s.size ≤ maxLen
  kl : o.keep.length ≤ o.kc
  kc : o.kc ≤ maxLen
  kin : IntIn w o.kb o.keep
  kx : ∀ x ∈ o.keep, I64 x
theorem cellsO1 : Try.prog.cellsOf 9 = 1 := by kernel_rfl
theorem cellsO2 : Try.prog.cellsOf 3 = 1 := by kernel_rfl
theorem cellsO3 : Try.prog.cellsOf 38 = 1 := by kernel_rfl
section
variable {H : Type} {enc : TypeId × Value → H} {W : World}
theorem trod_struct5 {P : Program} {w : World} {base : Nat} {spare : Nat → Bool} {held : Bool} {t : TypeId} {f0 f1 f2 f3 f4 : Field} {fuel : Nat} {cs : List Value} {x : DataW H × List MemPlace} (ht : P.underlying t = some (.struct #[f0, f1, f2, f3, f4])) (h : DataW.trod enc P w base spare held fuel t cs = some x) :
    ∃ y0 y1 y2 y3 y4 n, DataW.trod enc P w base spare held n f0.type ((cs.drop f0.offset).take (P.cellsOf f0.type)) = some y0 ∧ DataW.trod enc P w base spare held n f1.type ((cs.drop f1.offset).take (P.cellsOf f1.type)) = some y1 ∧ DataW.trod enc P w base spare held n f2.type ((cs.drop f2.offset).take (P.cellsOf f2.type)) = some y2 ∧ DataW.trod enc P w base spare held n f3.type ((cs.drop f3.offset).take (P.cellsOf f3.type)) = some y3 ∧ DataW.trod enc P w base spare held n f4.type ((cs.drop f4.offset).take (P.cellsOf f4.type)) = some y4 := by
  obtain ⟨xs, n, _, rfl, hl, hlen, hf⟩ := DataW.trod_struct ht h
  match xs, hlen with
  | [y0, y1, y2, y3, y4], _ => exact ⟨y0, y1, y2, y3, y4, n, by simpa using hf 0 f0 rfl, by simpa using hf 1 f1 rfl, by simpa using hf 2 f2 rfl, by simpa using hf 3 f3 rfl, by simpa using hf 4 f4 rfl⟩
/-- a slice within an element -/
theorem trod_slice_as {P : Program} {α : Type} {t e : TypeId} {fuel : Nat} {cs : List Value} {x : DataW H × List MemPlace} (sz : Nat) (f : α → List Value) (Ok : α → Prop) (ht : P.underlying t = some (.slice e)) (he : P.cellsOf e = sz) (hsz : 0 < sz)
    (h : DataW.trod enc P W 0 (fun _ => true) true fuel t cs = some x)
    (hf : ∀ c fuel x, c.length = sz → DataW.trod enc P W 0 (fun _ => true) true fuel e c = some x → ∃ a, c = f a ∧ Ok a) :
    ∃ (b : Option Addr) (cap : Nat) (xs : List α), cs = [.slice b xs.length cap] ∧ xs.length ≤ cap ∧ cap ≤ maxLen ∧ InW W b sz (xs.map f) ∧ ∀ a ∈ xs, Ok a := by
  rcases open_slice ht h with ⟨hcs, _⟩ | ⟨a, n, cap, m, k, D, Pl, hcs, _, hl, hm, hmm, _, hx⟩
  · exact ⟨none, 0, [], hcs, Nat.le_refl _, Nat.zero_le _, .inl rfl, fun _ h => by cases h⟩
  · simp only [if_true] at hmm
    subst hmm
    have each : ∀ i, ∃ c : List Value, i < n → c.length = sz ∧ (∃ x, DataW.trod enc P W 0 (fun _ => true) true k e c = some x) ∧ ∀ j, j < sz → W.cell? ((a.add (i * sz)).add j) = c[j]? := fun i => by
      by_cases hi : i < n
      · obtain ⟨cs', h1, h2⟩ := hx i (by omega)
        rw [he] at h1
        obtain ⟨_, hlen, hcell⟩ := World.cells?_some h1
        exact ⟨cs', fun _ => ⟨hlen, ⟨_, h2⟩, hcell⟩⟩
      · exact ⟨[], fun h => absurd h hi⟩
    have ⟨c, hc⟩ := Classical.axiomOfChoice each
    obtain ⟨xs, hxs, hok⟩ := list_choose f Ok ((List.range n).map c) (fun x hx => by
      obtain ⟨i, hi, rfl⟩ := List.mem_map.1 hx
      obtain ⟨q1, ⟨x, q2⟩, _⟩ := hc i (List.mem_range.1 hi)
      exact hf _ _ _ q1 q2)
    have hlen : xs.length = n := by
      have := congrArg List.length hxs
      simpa using this.symm
    subst hlen
    refine ⟨some a, m, xs, hcs, hl, hm, ?_, hok⟩
    by_cases hn : xs.length = 0
    · left
      rw [List.length_eq_zero_iff.1 hn]; rfl
    · right
      obtain ⟨q1, _, q3⟩ := hc 0 (by omega)
      have hs : a.spot = none := by
        have h0 := q3 0 hsz
        simp only [Nat.zero_mul, Addr.add, if_true] at h0
        rw [List.getElem?_eq_getElem (by omega)] at h0
        exact World.cell?_spot h0
      obtain ⟨B, off, spot⟩ := a
      simp only at hs
      subst hs
      refine ⟨B, off, rfl, ?_, ?_⟩
      · have h0 := q3 0 hsz
        simp only [Nat.zero_mul, Addr.add, if_true] at h0
        rw [List.getElem?_eq_getElem (by omega)] at h0
        exact World.block_lt_of_cell? _ _ h0
      · intro i c' hi j u hj
        rw [← hxs, List.getElem?_map] at hi
        obtain ⟨i', hi', e1⟩ := Option.map_eq_some_iff.1 hi
        obtain ⟨hi3, e3⟩ := List.getElem?_eq_some_iff.1 hi'
        simp only [List.getElem_range] at e3
        subst e3
        obtain ⟨p1, _, p3⟩ := hc i (by simpa using hi3)
        rw [e1] at p1 p3
        have hj2 : j < sz := by rw [← p1]; exact (List.getElem?_eq_some_iff.1 hj).1
        have := p3 j hj2
        rw [add_lit', hj] at this
        exact this
theorem one_int {c : List Value} {fuel : Nat} {x : DataW H × List MemPlace} (hl : c.length = 1) (h : DataW.trod enc Try.prog W 0 (fun _ => true) true fuel 3 c = some x) : ∃ a : Int, c = [.int .i64 a] ∧ I64 a := by
  obtain ⟨a1, e1, _, w1⟩ := DataW.trod_int Try.underlying3 h
  exact ⟨a1, e1, i64_wf w1⟩
set_option maxRecDepth 100000 in
theorem open_keep {r : Reach} {b0 : Nat} {v : Value} {d : DataW H} {p : List MemPlace} (hval : Value.okWide Try.prog W r b0 38 v) (h : DataW.Trod enc Try.prog W 0 (fun _ => true) true 38 v d p) :
    ∃ (b : Option Addr) (cap : Nat) (xs : List Int), v = .slice b xs.length cap ∧ xs.length ≤ cap ∧ cap ≤ maxLen ∧ IntIn W b xs ∧ ∀ a ∈ xs, I64 a :=
  open_slice_as 1 _ _ Try.underlying38 (by kernel_rfl) (by omega) hval h fun c fuel x hl hx => one_int hl hx
set_option maxRecDepth 100000 in
theorem open_ops {r : Reach} {b0 : Nat} {v : Value} {d : DataW H} {p : List MemPlace} (hval : Value.okWide Try.prog W r b0 40 v) (h : DataW.Trod enc Try.prog W 0 (fun _ => true) true 40 v d p) :
    ∃ (b : Option Addr) (cap : Nat) (xs : List OpD), v = .slice b xs.length cap ∧ xs.length ≤ cap ∧ cap ≤ maxLen ∧ InW W b 5 (xs.map opC) ∧ ∀ a ∈ xs, OpOk W a := by
  refine open_slice_as 5 _ _ Try.underlying40 (by kernel_rfl) (by omega) hval h fun c fuel x hl hx => ?_
  obtain ⟨y0, y1, y2, y3, y4, n, h0, h1, h2, h3, h4⟩ := trod_struct5 Try.underlying43 hx
  match c, hl with
  | [u0, u1, u2, u3, u4], _ =>
    obtain ⟨a0, e0, _, w0⟩ := DataW.trod_int Try.underlying3 h0
    obtain ⟨a1, e1, _, w1⟩ := DataW.trod_int Try.underlying3 h1
    obtain ⟨a2, e2, _, w2⟩ := DataW.trod_string Try.underlying9 h2
    obtain ⟨a3, e3, _, w3⟩ := DataW.trod_string Try.underlying9 h3
    obtain ⟨kb, kc, ks, e4, k1, k2, k3, k4⟩ := trod_slice_as 1 (fun x : Int => [.int .i64 x]) I64 Try.underlying38 (by kernel_rfl) (by omega) h4 fun c fuel x hl hx => one_int hl hx
    simp [cellsO1, cellsO2, cellsO3] at e0 e1 e2 e3 e4
    subst e0 e1 e2 e3 e4
    exact ⟨⟨a0, a1, a2, a3, ks, kb, kc⟩, rfl, ⟨i64_wf w0, i64_wf w1, w2, w3, k1, k2, k3, k4⟩⟩
end
theorem ops_at {w : World} {b : Option Addr} {xs : List OpD} (h : InW w b 5 (xs.map opC)) {i : Nat} {o : OpD} (hi : xs[i]? = some o) :
    ∃ B off, b = some ⟨B, off, none⟩ ∧ B < w.heap.size ∧ w.cell? ⟨B, off + i * 5, none⟩ = some (.int .i64 o.kind) ∧ w.cell? ⟨B, off + i * 5 + 1, none⟩ = some (.int .i64 o.n) ∧ w.cell? ⟨B, off + i * 5 + 2, none⟩ = some (.string o.name) ∧ w.cell? ⟨B, off + i * 5 + 3, none⟩ = some (.string o.s) ∧ w.cell? ⟨B, off + i * 5 + 4, none⟩ = some (.slice o.kb o.keep.length o.kc) := by
  rcases h with h | ⟨B, off, hb, hl, hc⟩
  · rw [List.map_eq_nil_iff.1 h] at hi; cases hi
  · have hm : (xs.map opC)[i]? = some (opC o) := by rw [List.getElem?_map, hi]; rfl
    exact ⟨B, off, hb, hl, hc i _ hm 0 _ rfl, hc i _ hm 1 _ rfl, hc i _ hm 2 _ rfl, hc i _ hm 3 _ rfl, hc i _ hm 4 _ rfl⟩
def doD (X : Dk) (o : OpD) : Dk × Int := if o.kind = 1 then stepA X o.name o.s else if o.kind = 2 then stepS X o.name else if o.kind = 3 then stepR X o.name o.s else stepD X o.name
/-- a block that came since -/
theorem since {w : World} {k o : Nat} (h : some (⟨w.heap.size, 0, none⟩ : Addr) = some ⟨k, o, none⟩) : w.heap.size ≤ k := by cases h; exact Nat.le_refl _
theorem append_conv {w0 w : World} {d : Nat} {X : Dk} (h : DkOwn w0 w d X) (nm s : ByteArray) (hn : nm.size ≤ 1000) (hs : s.size ≤ 1000) :
    ∃ c g w2, (convert 9 28 (.string s)).run Try.prog w = .ok (.slice (some ⟨g, 0, none⟩) s.size c) w2 ∧ Calls Try.prog 13 #[.pointer (some ⟨d, 0, none⟩), .string nm, .slice (some ⟨g, 0, none⟩) s.size c] w2 fun e w' => e = .returned (.int .i64 (stepA X nm s).2) ∧ DkOwn w0 w' d (stepA X nm s).1 := by
  obtain ⟨c, W2, hcv, hin, hb2, hsz2⟩ := bytes_of w s
  exact ⟨c, w.heap.size, W2, hcv, append_own h hb2 nm s (some ⟨w.heap.size, 0, none⟩) c hn hin (fun k o' hk => since hk) (by omega) _ rfl⟩
theorem replace_conv {w0 w : World} {d : Nat} {X : Dk} (h : DkOwn w0 w d X) (nm s : ByteArray) (hn : nm.size ≤ 1000) (hs : s.size ≤ 1000) :
    ∃ c g w2, (convert 9 28 (.string s)).run Try.prog w = .ok (.slice (some ⟨g, 0, none⟩) s.size c) w2 ∧ Calls Try.prog 19 #[.pointer (some ⟨d, 0, none⟩), .string nm, .slice (some ⟨g, 0, none⟩) s.size c] w2 fun e w' => e = .returned (.int .i64 (stepR X nm s).2) ∧ DkOwn w0 w' d (stepR X nm s).1 := by
  obtain ⟨c, W2, hcv, hin, hb2, hsz2⟩ := bytes_of w s
  exact ⟨c, w.heap.size, W2, hcv, replace_own h hb2 nm s (some ⟨w.heap.size, 0, none⟩) c hn hin (fun k o' hk => since hk) (by omega) _ rfl⟩
set_option maxRecDepth 100000 in
set_option maxHeartbeats 600000 in
theorem do_append {w0 w : World} {d : Nat} {X : Dk} (h : DkOwn w0 w d X) (n : Int) (nm s : ByteArray) (kb : Option Addr) (kc : Nat) (hn : nm.size ≤ 1000) (hs : s.size ≤ 1000) (ln : Nat) :
    Calls Try.prog 22 #[.pointer (some ⟨d, 0, none⟩), .agg #[.int .i64 1, .int .i64 n, .string nm, .string s, .slice kb ln kc]] w fun e w' => e = .returned (.int .i64 (stepA X nm s).2) ∧ DkOwn w0 w' d (stepA X nm s).1 := by
  have hb1 : Below w.heap.size w (w.alloc (.cells #[.int .i64 1, .int .i64 n, .string nm, .string s, .slice kb ln kc] 43)) := (Below.refl _ _).alloc (Nat.le_refl _) _
  have h1 := h.bel hb1
  obtain ⟨c, g, W2, hcv, hA⟩ := append_conv h1 nm s hn hs
  have HA := Lib.hid hA
  clear hA h h1 hb1
  go_enter Try.func22, Try.ntmps22
  go_wp2_with fail
  refine HA.out.mono ?_
  rintro e w2 ⟨rfl, hd2⟩
  have HD := Lib.hid hd2
  clear hd2
  go_wp2_with fail
  go_ret
  exact ⟨rfl, HD.out⟩
set_option maxRecDepth 100000 in
set_option maxHeartbeats 600000 in
theorem do_sync {w0 w : World} {d : Nat} {X : Dk} (h : DkOwn w0 w d X) (n : Int) (nm s : ByteArray) (kb : Option Addr) (kc : Nat) (hn : nm.size ≤ 1000) (hs : s.size ≤ 1000) (ln : Nat) :
    Calls Try.prog 22 #[.pointer (some ⟨d, 0, none⟩), .agg #[.int .i64 2, .int .i64 n, .string nm, .string s, .slice kb ln kc]] w fun e w' => e = .returned (.int .i64 (stepS X nm).2) ∧ DkOwn w0 w' d (stepS X nm).1 := by
  have hb1 : Below w.heap.size w (w.alloc (.cells #[.int .i64 2, .int .i64 n, .string nm, .string s, .slice kb ln kc] 43)) := (Below.refl _ _).alloc (Nat.le_refl _) _
  have h1 := h.bel hb1
  have HA := Lib.hid (sync_own h1 nm hn)
  clear h h1 hb1
  go_enter Try.func22, Try.ntmps22
  go_wp2_with fail
  refine HA.out.mono ?_
  rintro e w2 ⟨rfl, hd2⟩
  have HD := Lib.hid hd2
  clear hd2
  go_wp2_with fail
  go_ret
  exact ⟨rfl, HD.out⟩
set_option maxRecDepth 100000 in
set_option maxHeartbeats 600000 in
theorem do_replace {w0 w : World} {d : Nat} {X : Dk} (h : DkOwn w0 w d X) (n : Int) (nm s : ByteArray) (kb : Option Addr) (kc : Nat) (hn : nm.size ≤ 1000) (hs : s.size ≤ 1000) (ln : Nat) :
    Calls Try.prog 22 #[.pointer (some ⟨d, 0, none⟩), .agg #[.int .i64 3, .int .i64 n, .string nm, .string s, .slice kb ln kc]] w fun e w' => e = .returned (.int .i64 (stepR X nm s).2) ∧ DkOwn w0 w' d (stepR X nm s).1 := by
  have hb1 : Below w.heap.size w (w.alloc (.cells #[.int .i64 3, .int .i64 n, .string nm, .string s, .slice kb ln kc] 43)) := (Below.refl _ _).alloc (Nat.le_refl _) _
  have h1 := h.bel hb1
  obtain ⟨c, g, W2, hcv, hA⟩ := replace_conv h1 nm s hn hs
  have HA := Lib.hid hA
  clear hA h h1 hb1
  go_enter Try.func22, Try.ntmps22
  go_wp2_with fail
  refine HA.out.mono ?_
  rintro e w2 ⟨rfl, hd2⟩
  have HD := Lib.hid hd2
  clear hd2
  go_wp2_with fail
  go_ret
  exact ⟨rfl, HD.out⟩
set_option maxRecDepth 100000 in
set_option maxHeartbeats 600000 in
theorem do_remove {w0 w : World} {d : Nat} {X : Dk} (h : DkOwn w0 w d X) (k : Int) (k1 : k ≠ 1) (k2 : k ≠ 2) (k3 : k ≠ 3) (n : Int) (nm s : ByteArray) (kb : Option Addr) (kc : Nat) (hn : nm.size ≤ 1000) (hs : s.size ≤ 1000) (ln : Nat) :
    Calls Try.prog 22 #[.pointer (some ⟨d, 0, none⟩), .agg #[.int .i64 k, .int .i64 n, .string nm, .string s, .slice kb ln kc]] w fun e w' => e = .returned (.int .i64 (stepD X nm).2) ∧ DkOwn w0 w' d (stepD X nm).1 := by
  have hb1 : Below w.heap.size w (w.alloc (.cells #[.int .i64 k, .int .i64 n, .string nm, .string s, .slice kb ln kc] 43)) := (Below.refl _ _).alloc (Nat.le_refl _) _
  have h1 := h.bel hb1
  have HA := Lib.hid (remove_own h1 nm hn)
  clear h h1 hb1
  go_enter Try.func22, Try.ntmps22
  go_wp2_with fail
  refine HA.out.mono ?_
  rintro e w2 ⟨rfl, hd2⟩
  have HD := Lib.hid hd2
  clear hd2
  go_wp2_with fail
  go_ret
  exact ⟨rfl, HD.out⟩
theorem do_own {w0 w : World} {d : Nat} {X : Dk} (h : DkOwn w0 w d X) (o : OpD) (hn : o.name.size ≤ 1000) (hs : o.s.size ≤ 1000) (ln : Nat) :
    Calls Try.prog 22 #[.pointer (some ⟨d, 0, none⟩), .agg #[.int .i64 o.kind, .int .i64 o.n, .string o.name, .string o.s, .slice o.kb ln o.kc]] w fun e w' => e = .returned (.int .i64 (doD X o).2) ∧ DkOwn w0 w' d (doD X o).1 := by
  obtain ⟨k, n, nm, s, keep, kb, kc⟩ := o
  unfold doD
  show Calls Try.prog 22 #[.pointer (some ⟨d, 0, none⟩), .agg #[.int .i64 k, .int .i64 n, .string nm, .string s, .slice kb ln kc]] w _
  simp only at hn hs
  by_cases k1 : k = 1
  · subst k1; simp only [if_true]; exact do_append h n nm s kb kc hn hs ln
  by_cases k2 : k = 2
  · subst k2; simp only [if_neg k1, if_true]; exact do_sync h n nm s kb kc hn hs ln
  by_cases k3 : k = 3
  · subst k3; simp only [if_neg k1, if_neg k2, if_true]; exact do_replace h n nm s kb kc hn hs ln
  simp only [if_neg k1, if_neg k2, if_neg k3]
  exact do_remove h k k1 k2 k3 n nm s kb kc hn hs ln
end Go.Proofs.Ytemfnchiedepoaa

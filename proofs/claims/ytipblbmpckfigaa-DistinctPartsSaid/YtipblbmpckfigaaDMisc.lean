/- Contracts of Hashes, of the reference's Same, and of layer 13's fill. -/
import Derived.Test.YtipblbmpckfigaaDCount
import Derived.Test.YtipblbmpckfigaaDLong
namespace Go.Proofs.Ytipblbmpckfigaa
open Go.RowKit Dist
set_option linter.unusedVariables false

/-- a slice's numbers -/
def Nums (w : World) (b : Option Addr) (xs : List Int) : Prop := InW w b 1 (xs.map fun x => [.int .u64 x])
theorem Nums.bel {w w' : World} {b : Option Addr} {xs : List Int} (h : Nums w b xs) (hb : Below w.heap.size w w') : Nums w' b xs := InW.bel h hb
theorem Nums.at {w : World} {b : Option Addr} {xs : List Int} (h : Nums w b xs) {i : Nat} {x : Int} (hi : xs[i]? = some x) : ∃ B off, b = some ⟨B, off, none⟩ ∧ B < w.heap.size ∧ w.cell? ⟨B, off + i, none⟩ = some (.int .u64 x) := by
  rcases h with h | ⟨B, off, hb, hl, hc⟩
  · rw [List.map_eq_nil_iff.1 h] at hi; cases hi
  · refine ⟨B, off, hb, hl, ?_⟩
    have := hc i [.int .u64 x] (by rw [List.getElem?_map, hi]; rfl) 0 _ rfl
    simpa using this
/-- a row of the call's own, read -/
theorem nums_of_row {w : World} {v : Value} {xs : List Int} {n : Nat} (h : w.ownsRow 0 23 1 v n (xs.map (Value.int .u64))) : ∃ b cap, v = .slice b xs.length cap ∧ xs.length ≤ cap ∧ cap ≤ maxLen ∧ Nums w b xs ∧ n = xs.length := by
  obtain ⟨hl, h1 | ⟨r, cap, cs, rfl, h2, h3, h4, h5, h6⟩⟩ := bk_of_row h
  · obtain ⟨rfl, rfl, hx⟩ := h1
    have : xs = [] := List.map_eq_nil_iff.1 hx
    subst this
    exact ⟨none, 0, rfl, Nat.le_refl _, Nat.zero_le _, Or.inl rfl, rfl⟩
  · rw [List.length_map] at hl
    subst hl
    refine ⟨some ⟨r, 0, none⟩, cap, rfl, h4, h5, .inr ⟨r, 0, rfl, h2.lt, fun i c hi j u hj => ?_⟩, rfl⟩
    rw [List.getElem?_map] at hi
    obtain ⟨x, hx, rfl⟩ := Option.map_eq_some_iff.1 hi
    match j, hj with
    | 0, hj =>
      cases hj
      simpa using row_cell h2 h6 hx
    | j + 1, hj => simp at hj
theorem row_zero {w : World} {base : Nat} {e : TypeId} {sz n : Nat} {v : Value} {xs : List Value} (h : w.ownsRow base e sz v n xs) : w.ownsRow 0 e sz v n xs := by
  refine ⟨h.1, h.2.imp id ?_⟩
  rintro ⟨g, cap, cur, e1, _, r⟩
  exact ⟨g, cap, cur, e1, Nat.zero_le _, r⟩

/-- a new row -/
def RowPost (xs : List Int) (w : World) (e : Ending) (w' : World) : Prop :=
  ∃ v, e = .returned v ∧ w'.ownsRow 0 23 1 v xs.length (xs.map (Value.int .u64)) ∧ (∀ b, v.ownBlock = some b → w.heap.size ≤ b) ∧ Below w.heap.size w w'
theorem clone_any (v : Value) (K : List Int) (w : World) (hr : w.ownsRow 0 23 1 v K.length (K.map (Value.int .u64))) (hK : K.length ≤ 1000000) :
    Calls Try.prog 33 #[v] w (RowPost K w) := by
  obtain ⟨i0, hi, hz0, hz1, hz2⟩ := info_parts info64
  obtain ⟨hl, h1 | ⟨r, cap, cs, rfl, h2, h3, h4, h5, h6⟩⟩ := bk_of_row hr
  · obtain ⟨rfl, _, h⟩ := h1
    have : K = [] := List.map_eq_nil_iff.1 h
    subst this
    refine (Try.slices_Clone_nil 0 0 w).mono ?_
    rintro e w' ⟨rfl, rfl⟩
    exact ⟨_, rfl, World.ownsRow_nil _ _ _ _, (fun b hb => by cases hb), Below.refl _ _⟩
  · refine (Try.slices_Clone i0 (.int .u64 0) 1 8 hi hz0 hz1 hz2 rfl (by decide) sizeOf64 r 0 K.length cap (K.map (Value.int .u64)) w (by simp) (by unfold maxLen; omega) (by omega) (fun j u hj => ?_) (fun u hu => ?_)).mono ?_
    · rw [List.getElem?_map] at hj
      obtain ⟨x, hx, rfl⟩ := Option.map_eq_some_iff.1 hj
      rw [Nat.zero_add]
      exact row_cell h2 h6 hx
    · obtain ⟨x, _, rfl⟩ := List.mem_map.1 hu
      rfl
    · rintro e w' ⟨v', rfl, h7, _, h8⟩
      exact ⟨v', rfl, row_zero h7, fun b hb => (h7.lt b hb).1, h8⟩
theorem Hashes_any (g k : Nat) (v : Value) (L : List Int) (w : World) (hC : Cnt w g v k L) :
    Calls Try.prog 25 #[.pointer (some ⟨g, 0, none⟩)] w (RowPost (L.take k) w) := by
  obtain ⟨c0, c1, c2, _, _, _, _⟩ := hC.ctr.facts
  have hk := hC.k2
  have HC := Lib.hid (clone_any v (L.take k) w hC.ctr.row (by rw [List.length_take]; omega))
  clear hC
  go_enter Try.func25, Try.ntmps25
  go_wp2_with fail
  refine HC.out.mono ?_
  rintro e w1 ⟨v', rfl, h1, h2, h3⟩
  go_wp2_with fail
  go_ret
  exact ⟨v', rfl, h1, h2, h3⟩

theorem Hashes_as (g k : Nat) (v : Value) (L T : List Int) (w : World) (hC : Cnt w g v k L) (hT : L.take k = T) :
    Calls Try.prog 25 #[.pointer (some ⟨g, 0, none⟩)] w (RowPost T w) := by
  rw [← hT]; exact Hashes_any g k v L w hC
set_option maxHeartbeats 2000000 in
theorem same_any (b1 b2 : Option Addr) (c1 c2 : Nat) (xs ys : List Int) (w : World) (h1 : Nums w b1 xs) (h2 : Nums w b2 ys) (hx : xs.length ≤ 1000000) (hy : ys.length ≤ 1000000) :
    Calls Try.prog 24 #[.slice b1 xs.length c1, .slice b2 ys.length c2] w fun e w' => e = .returned (.bool (decide (xs = ys))) ∧ Below w.heap.size w w' := by
  obtain ⟨r, hr⟩ : ∃ r, decide (xs = ys) = r := ⟨_, rfl⟩
  rw [hr]
  have HR := Lib.hid hr
  clear hr
  by_cases hlen : xs.length = ys.length
  · generalize hn : xs.length = n at *
    rw [← hlen] at hy ⊢
    have Hn := Lib.hid hn
    have Hl := Lib.hid hlen
    clear hn hlen
    go_enter Try.func24, Try.ntmps24
    go_wp2_with fail
    go_loopw [5] (fun c wr => ∃ k : Nat, k ≤ n ∧ c = .int .i64 k ∧ xs.take k = ys.take k ∧ Below w.heap.size w wr) (fun c _ => n - (intOf c).toNat)
    case atStart => exact ⟨0, by omega, rfl, by simp, Below.refl _ _⟩
    case round =>
      obtain ⟨k, hk, rfl, hT, hB⟩ := hrel
      have HT := Lib.hid hT
      clear hT
      by_cases hlt : k < n
      · obtain ⟨x, hx⟩ : ∃ x, xs[k]? = some x := ⟨xs[k]'(by have := Hn.out; omega), List.getElem?_eq_getElem _⟩
        obtain ⟨y, hy⟩ : ∃ y, ys[k]? = some y := ⟨ys[k]'(by have := Hl.out; omega), List.getElem?_eq_getElem _⟩
        obtain ⟨B, o, rfl, l1, d1⟩ := h1.at hx
        obtain ⟨B', o', rfl, l2, d2⟩ := h2.at hy
        have e1 := hB.cell (p := ⟨B, o + k, none⟩) l1
        have e2 := hB.cell (p := ⟨B', o' + k, none⟩) l2
        rw [d1] at e1
        rw [d2] at e2
        clear d1 d2
        have HX := Lib.hid hx
        have HY := Lib.hid hy
        clear hx hy
        have q1 : (k : Int) < (n : Int) := by omega
        by_cases hxy : x = y
        · subst hxy
          go_wp2_with fail
          go_quiet (fail)
          go_wp2_with fail
          go_roundw
          case rel =>
            refine ⟨k + 1, by omega, by go_num, ?_, below_drewN hB _⟩
            rw [List.take_add_one, List.take_add_one, HX.out, HY.out, HT.out]
          case measure => simp [intOf]; omega
        · have e : r = false := by
            rw [← HR.out]
            refine decide_eq_false fun e => hxy ?_
            have := HX.out
            rw [e, HY.out] at this
            exact (Option.some.inj this).symm
          subst e
          have q2 : (x != y) = true := by simpa using hxy
          go_wp2_with fail
          go_quiet (fail)
          go_wp2_with fail
          go_ret
          exact ⟨rfl, below_drewN hB _⟩
      · have e : r = true := by
          rw [← HR.out]
          refine decide_eq_true ?_
          have := HT.out
          rw [List.take_of_length_le (by have := Hn.out; omega), List.take_of_length_le (by have := Hl.out; omega)] at this
          exact this
        subst e
        go_wp2_with fail
        go_ret
        exact ⟨rfl, hB⟩
  · have e : r = false := by
      rw [← HR.out]
      exact decide_eq_false fun e => hlen (by rw [e])
    subst e
    generalize xs.length = n at *
    generalize ys.length = m at *
    have q : ((n : Int) != (m : Int)) = true := by simp; omega
    go_enter Try.func24, Try.ntmps24
    go_wp2_with fail
    go_ret
    exact ⟨rfl, Below.refl _ _⟩

/-- the texts' hashes -/
def hs (xs : List ByteArray) : List Int := xs.map fun s => hash s.data.toList
theorem hs_bd {xs : List ByteArray} {x : Int} (h : x ∈ hs xs) : 0 ≤ x ∧ x ≤ 18446744073709551615 := by
  obtain ⟨s, _, rfl⟩ := List.mem_map.1 h
  exact hash_bd _
theorem hs_snoc {xs : List ByteArray} {k : Nat} {s : ByteArray} (h : xs[k]? = some s) : hs (xs.take (k + 1)) = hs (xs.take k) ++ [hash s.data.toList] := by
  rw [List.take_add_one, h]; simp [hs]
def FillPost (k : Nat) (xs : List ByteArray) (w : World) (e : Ending) (w' : World) : Prop :=
  ∃ v, e = .returned (.pointer (some ⟨w.heap.size, 0, none⟩)) ∧ Cnt w' w.heap.size v k (allOf (hs xs) []) ∧ (∀ b, v.ownBlock = some b → w.heap.size ≤ b) ∧ Below w.heap.size w w'
/-- behind an Add to a counter whose memory is new since w -/
theorem grown_new {w wr w1 : World} {g : Nat} {v v1 : Value} (hB : Below w.heap.size w wr) (hg : w.heap.size ≤ g) (hv : ∀ b, v.ownBlock = some b → w.heap.size ≤ b) (F : Fr (own2 g v) wr w1) (S : Since wr v v1) :
    Below w.heap.size w w1 ∧ ∀ b, v1.ownBlock = some b → w.heap.size ≤ b := by
  refine ⟨hB.trans (F.below hB.size (fun b hb => by rcases hb with rfl | hb; exact hg; exact hv b hb)), fun b hb => ?_⟩
  rcases S with e | ⟨c, e, hc⟩
  · rw [e] at hb; exact hv b hb
  · rw [e] at hb; cases hb; have := hB.size; omega
set_option maxHeartbeats 2000000 in
theorem fill_any (k : Int) (b : Option Addr) (cap : Nat) (xs : List ByteArray) (w : World) (h : Strs w b xs) (ho : ∀ s ∈ xs, s.size ≤ maxLen) (hl : xs.length ≤ 1000000) :
    Calls Try.prog 23 #[.int .i64 k, .slice b xs.length cap] w (FillPost (sizeK k) xs w) := by
  have HN := Lib.hid (New_any k w)
  generalize hn : xs.length = n at *
  have Hn := Lib.hid hn
  clear hn
  generalize sizeK k = K at *
  go_enter Try.func23, Try.ntmps23
  go_wp2_with fail
  refine HN.out.mono ?_
  rintro e w1 ⟨rfl, C0, hw1⟩
  have B1 : Below w.heap.size w w1 := by rw [hw1]; exact (Below.refl _ _).alloc (Nat.le_refl _) _
  clear hw1 HN
  go_wp2_with fail
  go_loopw [14] (fun c wr => ∃ (i : Nat) (v : Value), i ≤ n ∧ c = .int .i64 i ∧ Cnt wr w.heap.size v K (allOf (hs (xs.take i)) []) ∧ (∀ b, v.ownBlock = some b → w.heap.size ≤ b) ∧ Below w.heap.size w wr) (fun c _ => n - (intOf c).toNat)
  case atStart => exact ⟨0, .slice none 0 0, by omega, rfl, C0, (fun b hb => by cases hb), B1⟩
  case round =>
    obtain ⟨i, v, hin, rfl, hC, hv, hB⟩ := hrel
    clear C0 B1
    by_cases hlt : i < n
    · obtain ⟨s, hs'⟩ : ∃ s, xs[i]? = some s := ⟨xs[i]'(by have := Hn.out; omega), List.getElem?_eq_getElem _⟩
      obtain ⟨B, off, rfl, hBl, hc⟩ := Strs.at h hs'
      have hsz : s.size ≤ maxLen := ho s (List.mem_of_getElem? hs')
      have c1 := hB.cell (p := ⟨B, off + i, none⟩) hBl
      rw [hc] at c1
      clear hc
      have HS := Lib.hid (hs_snoc hs')
      clear hs'
      have A1 := Lib.hid (fun wx (c : Cnt wx w.heap.size v K (allOf (hs (xs.take i)) [])) => Add_any w.heap.size K v _ s wx c hsz)
      generalize hash s.data.toList = hh at *
      go_wp2_with fail
      refine (A1.out _ hC).mono ?_
      rintro e w1 ⟨v1, rfl, C1, F1, S1⟩
      obtain ⟨hB1, hv1⟩ := grown_new hB (Nat.le_refl _) hv F1 S1
      rw [← all_snoc, ← HS.out] at C1
      go_wp2_with fail
      go_roundw
      case rel => exact ⟨i + 1, v1, by omega, by go_num, C1, hv1, hB1⟩
      case measure => simp [intOf]; omega
    · obtain rfl : i = n := by omega
      rw [List.take_of_length_le (by have := Hn.out; omega)] at hC
      go_wp2_with fail
      go_ret
      exact ⟨v, rfl, hC, hv, hB⟩
/-- a counter whose memory lies below M stays while one from M on is written -/
theorem Cnt.apart {w w1 : World} {g M : Nat} {v vb : Value} {k : Nat} {L : List Int} (h : Cnt w g v k L) (hg : g < M) (hv : ∀ b, v.ownBlock = some b → b < M) (F : Fr (own2 M vb) w w1) (hb : ∀ b, vb.ownBlock = some b → M ≤ b) : Cnt w1 g v k L :=
  h.fr F (fun e => by rcases e with e | e; omega; have := hb g e; omega) (fun b e e2 => by
    have h1 := hv b e
    rcases e2 with e2 | e2
    · omega
    · have := hb b e2; omega)
end Go.Proofs.Ytipblbmpckfigaa

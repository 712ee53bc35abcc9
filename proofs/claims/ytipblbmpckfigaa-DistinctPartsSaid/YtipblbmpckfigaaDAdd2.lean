/- Contract of (*distinct.Counter).add: a full counter. -/
import Derived.Test.YtipblbmpckfigaaDAddW
namespace Go.Proofs.Ytipblbmpckfigaa
open Go.RowKit Dist
set_option linter.unusedVariables false

set_option maxHeartbeats 2000000 in
set_option maxRecDepth 100000 in
theorem add_over (g k : Nat) (v : Value) (K : List Int) (mo : Bool) (h : Int) (w : World) (hC : CtrW w g v k K mo) (hk1 : 1 ≤ k) (hk2 : k ≤ 4096) (hlen : K.length ≤ k) (hu : Up K) (hm : h ∉ K) (hfull : K.length = k) (hall : below K h = k) :
    Calls Try.prog 30 #[.pointer (some ⟨g, 0, none⟩), .int .u64 h] w (AddPost g v k K mo h w) := by
  have A0 : AddW w v ((w.alloc (.cells #[.pointer (some ⟨g, 0, none⟩)] 28)).alloc (.cells #[.int .u64 h] 23)) g v k K mo h := by
    have b2 : Below w.heap.size w ((w.alloc (.cells #[.pointer (some ⟨g, 0, none⟩)] 28)).alloc (.cells #[.int .u64 h] 23)) := ((Below.refl _ _).alloc (Nat.le_refl _) _).alloc (by simp) _
    refine ⟨(Bk.new w [_] _).old _, ?_, hC.bel b2, hC.bk.lt, Fr.of_bel b2⟩
    have := Bk.new (w.alloc (.cells #[.pointer (some ⟨g, 0, none⟩)] 28)) [.int .u64 h] 23
    simpa using this
  have hS := search_any K.length w.heap.size (w.heap.size + 1) (fun i => decide (h ≤ K.getD i 0)) ((w.alloc (.cells #[.pointer (some ⟨g, 0, none⟩)] 28)).alloc (.cells #[.int .u64 h] 23)) (by omega)
    (fun m i hi => pred_any w.heap.size (w.heap.size + 1) g k v K mo h _ A0.ctr A0.bc A0.bh (by omega) m i hi) (up_mono hu h)
  rw [below_first hu h] at hS
  have HS := Lib.hid hS
  have hb := below_le K h
  have hat := Lib.hid (mem_at hu h)
  clear hS
  obtain ⟨c0, c1, c2, c3, c4, f1, f2⟩ := A0.facts
  have hne : K[below K h]? ≠ some h := fun e => hm (hat.out.2 e)
  have hp : ∀ wx, AddW w v wx g v k K true h → AddPost g v k K mo h w (.returned (.bool false)) wx := fun wx a =>
    ⟨v, by simp [freshK, hm, hfull, hall], by rw [show keepK k K h = K by simp [keepK, hm, hfull, hall], show moreK k K h mo = true by simp [moreK, hm, hfull]]; exact a.ctr, a.fr, .inl rfl⟩
  have HP := Lib.hid hp
  rcases hC.val with ⟨_, rfl⟩ | ⟨r, cap, cs, rfl, hB, hcl, hle, hmx, ht, _⟩
  · simp at hfull; omega
  · unfold maxLen at hmx
    rw [hall] at HS
    clear hp hat hC hB ht hcl hm hne
    generalize K.length = n at *
    subst hfull
    have b1 : decide (n < n) = false := by simp
    go_enter Try.func30, Try.ntmps30
    go_wp2_with fail
    refine HS.out.mono ?_
    rintro e w1 ⟨rfl, q, rfl⟩
    have A1 := A0.drewN q
    go_wp2_with fail
    clear c0 c1 c2 c3 c4 f1 f2 A0 HS
    generalize World.drewN ((w.alloc (.cells #[.pointer (some ⟨g, 0, none⟩)] 28)).alloc (.cells #[.int .u64 h] 23)) q = V at *
    obtain ⟨c0, c1, c2, c3, c4, f1, f2⟩ := A1.facts
    go_quiet (fail)
    go_wp2_with fail
    go_quiet (fail)
    go_wp2_with fail
    go_ret
    exact HP.out _ ((A1.drewN _).more true)
set_option maxHeartbeats 2000000 in
set_option maxRecDepth 100000 in
theorem add_full (g k : Nat) (v : Value) (K : List Int) (mo : Bool) (h : Int) (w : World) (hC : CtrW w g v k K mo) (hk1 : 1 ≤ k) (hk2 : k ≤ 4096) (hlen : K.length ≤ k) (hu : Up K) (hm : h ∉ K) (hfull : K.length = k) (hall : ¬ below K h = k) :
    Calls Try.prog 30 #[.pointer (some ⟨g, 0, none⟩), .int .u64 h] w (AddPost g v k K mo h w) := by
  have A0 : AddW w v ((w.alloc (.cells #[.pointer (some ⟨g, 0, none⟩)] 28)).alloc (.cells #[.int .u64 h] 23)) g v k K mo h := by
    have b2 : Below w.heap.size w ((w.alloc (.cells #[.pointer (some ⟨g, 0, none⟩)] 28)).alloc (.cells #[.int .u64 h] 23)) := ((Below.refl _ _).alloc (Nat.le_refl _) _).alloc (by simp) _
    refine ⟨(Bk.new w [_] _).old _, ?_, hC.bel b2, hC.bk.lt, Fr.of_bel b2⟩
    have := Bk.new (w.alloc (.cells #[.pointer (some ⟨g, 0, none⟩)] 28)) [.int .u64 h] 23
    simpa using this
  have hS := search_any K.length w.heap.size (w.heap.size + 1) (fun i => decide (h ≤ K.getD i 0)) ((w.alloc (.cells #[.pointer (some ⟨g, 0, none⟩)] 28)).alloc (.cells #[.int .u64 h] 23)) (by omega)
    (fun m i hi => pred_any w.heap.size (w.heap.size + 1) g k v K mo h _ A0.ctr A0.bc A0.bh (by omega) m i hi) (up_mono hu h)
  rw [below_first hu h] at hS
  have HS := Lib.hid hS
  have hb := below_le K h
  have hat := Lib.hid (mem_at hu h)
  clear hS
  obtain ⟨c0, c1, c2, c3, c4, f1, f2⟩ := A0.facts
  have hne : K[below K h]? ≠ some h := fun e => hm (hat.out.2 e)
  have hat2 : below K h < k := by omega
  have hbt : below (K.take (k - 1)) h = below K h := by rw [below_take_eq hu]; omega
  have hp : ∀ wx v2, AddW w v wx g v2 k (((K.take (k - 1)).take (below K h)) ++ h :: ((K.take (k - 1)).drop (below K h))) true h → (v2.ownBlock = v.ownBlock ∨ ∃ b, v2.ownBlock = some b ∧ w.heap.size ≤ b) → AddPost g v k K mo h w (.returned (.bool true)) wx := fun wx v2 a ho =>
    ⟨v2, by simp [freshK, hm, hall], by rw [show keepK k K h = ins (K.take (k - 1)) h by simp [keepK, hm, hfull, hall], show moreK k K h mo = true by simp [moreK, hm, hfull], ins, hbt]; exact a.ctr, a.fr, ho⟩
  have HP := Lib.hid hp
  obtain ⟨x, hx⟩ : ∃ x, K[below K h]? = some x := ⟨K[below K h]'(by omega), List.getElem?_eq_getElem _⟩
  have hxh : (x == h) = false := by
    simp only [beq_eq_false_iff_ne]
    intro e; exact hne (by rw [hx, e])
  rcases hC.val with ⟨_, rfl⟩ | ⟨r, cap, cs, rfl, hB, hcl, hle, hmx, ht, hrg⟩
  · simp at hfull; omega
  · have c5 := row_cell hB ht hx
    have l5 := block_lt_of_cell c5
    unfold maxLen at hmx
    have hrow := hC.row
    clear hp hat hC hB ht hcl hm hne hx
    obtain ⟨at_, hat_⟩ : ∃ a, below K h = a := ⟨_, rfl⟩
    have hK1 : (K.take (k - 1)).length = k - 1 := by rw [List.length_take]; omega
    rw [hat_] at HS hat2 c5 HP
    rw [hfull] at HS hrow
    clear hat_ hbt hall hb
    generalize hn : K.length = n at *
    subst hfull
    have b1 : (at_ : Int) < (n : Int) := by omega
    have b2 : decide (at_ < n) = true := by simpa using hat2
    have b3 : ((at_ : Int) == (n : Int)) = false := by simp; omega
    go_enter Try.func30, Try.ntmps30
    go_wp2_with fail
    refine HS.out.mono ?_
    rintro e w1 ⟨rfl, q, rfl⟩
    have A1 := A0.drewN q
    have c6 : (World.drewN ((w.alloc (.cells #[.pointer (some ⟨g, 0, none⟩)] 28)).alloc (.cells #[.int .u64 h] 23)) q).cell? ⟨r, at_, none⟩ = some (.int .u64 x) := by
      have b2 : Below w.heap.size w (World.drewN ((w.alloc (.cells #[.pointer (some ⟨g, 0, none⟩)] 28)).alloc (.cells #[.int .u64 h] 23)) q) := below_drewN (((Below.refl _ _).alloc (Nat.le_refl _) _).alloc (by simp) _) _
      rw [b2.cell (p := ⟨r, at_, none⟩) l5]; exact c5
    go_wp2_with fail
    clear c0 c1 c2 c3 c4 f1 f2 A0 HS c5
    generalize World.drewN ((w.alloc (.cells #[.pointer (some ⟨g, 0, none⟩)] 28)).alloc (.cells #[.int .u64 h] 23)) q = V at *
    obtain ⟨c0, c1, c2, c3, c4, f1, f2⟩ := A1.facts
    go_quiet (fail)
    have A2 := A1.drewN nq
    have c7 : (V.drewN nq).cell? ⟨r, at_, none⟩ = some (.int .u64 x) := c6
    clear c0 c1 c2 c3 c4 f1 f2 A1 c6
    generalize V.drewN nq = V1 at *
    obtain ⟨c0, c1, c2, c3, c4, f1, f2⟩ := A2.facts
    go_wp2_with fail
    go_quiet (fail)
    have A3 := (A2.drewN nq).more true
    clear c7
    go_wp2_with fail
    clear c0 c1 c2 c3 c4 f1 f2 A2
    generalize (V1.drewN nq).setCell ⟨g, 2, none⟩ (.bool true) = V2 at *
    obtain ⟨c0, c1, c2, c3, c4, f1, f2⟩ := A3.facts
    have e1 : IntKind.i64.wrap ((n : Int) - 1) = ((n - 1 : Nat) : Int) := by rw [IntKind.wrap_i64]; omega
    have e2 : (n : Int) - 1 = ((n - 1 : Nat) : Int) := by omega
    go_region
    have hr3 := A3.ctr.row
    rw [hn] at hr3
    have hr4 := row_cut hr3 (m := n - 1) (by omega)
    have A4 : AddW w (.slice (some ⟨r, 0, none⟩) n cap) ((V2.setCell ⟨g, 1, none⟩ (.slice (some ⟨r, 0, none⟩) (n - 1) cap)).drew) g (.slice (some ⟨r, 0, none⟩) (n - 1) cap) n (K.take (n - 1)) true h :=
      (A3.kept (.slice (some ⟨r, 0, none⟩) (n - 1) cap) (K.take (n - 1)) (by rw [List.map_take, hK1]; exact hr4) (by simp [Value.ownBlock, hrg])).drew
    clear c0 c1 c2 c3 c4 f1 f2 A3 hr3 hr4 e1 e2
    go_wp2_with fail
    generalize (V2.setCell ⟨g, 1, none⟩ (.slice (some ⟨r, 0, none⟩) (n - 1) cap)).drew = V3 at *
    obtain ⟨c0, c1, c2, c3, c4, f1, f2⟩ := A4.facts
    have hrl := A4.ctr.row
    rw [hK1] at hrl
    have INS := insert_any (.slice (some ⟨r, 0, none⟩) (n - 1) cap) (K.take (n - 1)) at_ h V3.heap.size (V3.alloc (.cells #[.int .u64 h] 23)).drew (by rw [hK1]; exact (hrl.alloc _)) (by omega) (by omega) (Bk.new V3 [_] _) (by have := (hrl.lt r rfl).2; simp [Value.ownBlock]; omega)
    have HI := Lib.hid INS
    have hlt0 : ∀ b, (Value.slice (some ⟨r, 0, none⟩) n cap).ownBlock = some b → b < w.heap.size ∧ b ≠ g := fun b e => by cases e; exact ⟨l5, hrg⟩
    clear INS hrl
    have t1 := A4.ctr.bk.lt
    have t2 := A4.bc.lt
    have t3 := A4.bh.lt
    clear f1 f2 c2 c4 b1 b2 b3 hxh l5 hmx hle hn hK1 hat2
    go_region_law (first | (go_simp; go_at_call 37; refine HI.out.mono ?_; rintro e wx ⟨r', n', c', rfl, r1, r2, r3⟩; have J := A4.inserted rfl hlt0 _ r1 r2 r3; obtain ⟨⟨m1, m2, m3, m4⟩, J2, J3⟩ := J) | fail)
    all_goals
      go_wp2_with fail
      go_ret
      exact HP.out _ _ J2 J3
end Go.Proofs.Ytipblbmpckfigaa

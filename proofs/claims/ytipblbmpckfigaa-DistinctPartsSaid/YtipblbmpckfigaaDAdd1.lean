/- Contract of (*distinct.Counter).add: a number that is kept already, or the first one. -/
import Derived.Test.YtipblbmpckfigaaDAddW
namespace Go.Proofs.Ytipblbmpckfigaa
open Go.RowKit Dist
set_option linter.unusedVariables false

set_option maxHeartbeats 2000000 in
set_option maxRecDepth 100000 in
theorem add_has (g k : Nat) (v : Value) (K : List Int) (mo : Bool) (h : Int) (w : World) (hC : CtrW w g v k K mo) (hk1 : 1 ≤ k) (hk2 : k ≤ 4096) (hlen : K.length ≤ k) (hu : Up K) (hm : h ∈ K) :
    Calls Try.prog 30 #[.pointer (some ⟨g, 0, none⟩), .int .u64 h] w (AddPost g v k K mo h w) := by
  have A0 : AddW w v ((w.alloc (.cells #[.pointer (some ⟨g, 0, none⟩)] 28)).alloc (.cells #[.int .u64 h] 23)) g v k K mo h := by
    have b2 : Below w.heap.size w ((w.alloc (.cells #[.pointer (some ⟨g, 0, none⟩)] 28)).alloc (.cells #[.int .u64 h] 23)) := ((Below.refl _ _).alloc (Nat.le_refl _) _).alloc (by simp) _
    refine ⟨(Bk.new w [_] _).old _, ?_, hC.bel b2, hC.bk.lt, Fr.of_bel b2⟩
    have := Bk.new (w.alloc (.cells #[.pointer (some ⟨g, 0, none⟩)] 28)) [.int .u64 h] 23
    simpa using this
  have hS := search_any K.length w.heap.size (w.heap.size + 1) (fun i => decide (h ≤ K.getD i 0)) ((w.alloc (.cells #[.pointer (some ⟨g, 0, none⟩)] 28)).alloc (.cells #[.int .u64 h] 23)) (by omega)
    (fun m i hi => pred_any w.heap.size (w.heap.size + 1) g k v K mo h _ A0.ctr A0.bc A0.bh (by omega) m i hi) (up_mono hu h)
  rw [below_first hu h] at hS
  have HS := Lib.hid hS
  have hb := below_le K h
  have hat := Lib.hid (mem_at hu h)
  clear hS
  obtain ⟨c0, c1, c2, c3, c4, f1, f2⟩ := A0.facts
  have hx := hat.out.1 hm
  have hp : ∀ wx, AddW w v wx g v k K mo h → AddPost g v k K mo h w (.returned (.bool false)) wx := fun wx a =>
    ⟨v, by simp [freshK, hm], by rw [show keepK k K h = K by simp [keepK, hm], show moreK k K h mo = mo by simp [moreK, hm]]; exact a.ctr, a.fr, .inl rfl⟩
  have HP := Lib.hid hp
  have hlt : below K h < K.length := (List.getElem?_eq_some_iff.1 hx).1
  rcases hC.val with ⟨_, rfl⟩ | ⟨r, cap, cs, rfl, hB, hcl, hle, hmx, ht, _⟩
  · simp at hlt
  · have c5 := row_cell hB ht hx
    have l5 := block_lt_of_cell c5
    unfold maxLen at hmx
    clear hp hx hat hC hB ht hcl hm
    generalize below K h = at_ at *
    generalize K.length = n at *
    have b1 : (at_ : Int) < (n : Int) := by omega
    have b2 : decide (at_ < n) = true := by simpa using hlt
    go_enter Try.func30, Try.ntmps30
    go_wp2_with fail
    refine HS.out.mono ?_
    rintro e w1 ⟨rfl, q, rfl⟩
    go_wp2_with fail
    go_quiet (fail)
    go_wp2_with fail
    go_ret
    exact HP.out _ ((A0.drewN _).drewN _)
set_option maxHeartbeats 2000000 in
set_option maxRecDepth 100000 in
theorem add_nil (g k : Nat) (mo : Bool) (h : Int) (w : World) (hC : CtrW w g (.slice none 0 0) k [] mo) (hk1 : 1 ≤ k) (hk2 : k ≤ 4096) :
    Calls Try.prog 30 #[.pointer (some ⟨g, 0, none⟩), .int .u64 h] w (AddPost g (.slice none 0 0) k [] mo h w) := by
  have A0 : AddW w (.slice none 0 0) ((w.alloc (.cells #[.pointer (some ⟨g, 0, none⟩)] 28)).alloc (.cells #[.int .u64 h] 23)) g (.slice none 0 0) k [] mo h := by
    have b2 : Below w.heap.size w ((w.alloc (.cells #[.pointer (some ⟨g, 0, none⟩)] 28)).alloc (.cells #[.int .u64 h] 23)) := ((Below.refl _ _).alloc (Nat.le_refl _) _).alloc (by simp) _
    refine ⟨(Bk.new w [_] _).old _, ?_, hC.bel b2, hC.bk.lt, Fr.of_bel b2⟩
    have := Bk.new (w.alloc (.cells #[.pointer (some ⟨g, 0, none⟩)] 28)) [.int .u64 h] 23
    simpa using this
  have hS := search_any 0 w.heap.size (w.heap.size + 1) (fun i => decide (h ≤ ([] : List Int).getD i 0)) ((w.alloc (.cells #[.pointer (some ⟨g, 0, none⟩)] 28)).alloc (.cells #[.int .u64 h] 23)) (by omega)
    (fun m i hi => pred_any w.heap.size (w.heap.size + 1) g k (.slice none 0 0) [] mo h _ A0.ctr A0.bc A0.bh (by simp) m i hi) (up_mono up_nil h)
  rw [show firstYes 0 (fun i => decide (h ≤ ([] : List Int).getD i 0)) = 0 from rfl] at hS
  have HS := Lib.hid hS
  clear hS
  obtain ⟨c0, c1, c2, c3, c4, f1, f2⟩ := A0.facts
  have hp : ∀ wx v2, AddW w (.slice none 0 0) wx g v2 k (([] : List Int).take 0 ++ h :: ([] : List Int).drop 0) mo h → (v2.ownBlock = (Value.slice none 0 0).ownBlock ∨ ∃ b, v2.ownBlock = some b ∧ w.heap.size ≤ b) → AddPost g (.slice none 0 0) k [] mo h w (.returned (.bool true)) wx := fun wx v2 a ho =>
    have e1 : ¬ (0 = k) := by omega
    ⟨v2, by simp [freshK, e1], by rw [show keepK k [] h = [h] by simp [keepK, e1, ins, below], show moreK k [] h mo = mo by simp [moreK, e1]]; exact a.ctr, a.fr, ho⟩
  have HP := Lib.hid hp
  clear hp hC
  have b3 : ((0 : Int) == (k : Int)) = false := by simp; omega
  have b1 : decide ((0 : Nat) < 0) = false := by simp
  go_enter Try.func30, Try.ntmps30
  go_wp2_with fail
  refine HS.out.mono ?_
  rintro e w1 ⟨rfl, q, rfl⟩
  have A1 := A0.drewN q
  go_wp2_with fail
  clear c0 c1 c2 c3 c4 f1 f2 A0 HS
  generalize World.drewN ((w.alloc (.cells #[.pointer (some ⟨g, 0, none⟩)] 28)).alloc (.cells #[.int .u64 h] 23)) q = V at *
  obtain ⟨c0, c1, c2, c3, c4, f1, f2⟩ := A1.facts
  go_quiet (fail)
  have A2 := A1.drewN nq
  clear c0 c1 c2 c3 c4 f1 f2 A1
  generalize V.drewN nq = V1 at *
  obtain ⟨c0, c1, c2, c3, c4, f1, f2⟩ := A2.facts
  go_wp2_with fail
  go_quiet (fail)
  have A4 := A2.drewN nq
  clear c0 c1 c2 c3 c4 f1 f2 A2
  generalize V1.drewN nq = V3 at *
  obtain ⟨c0, c1, c2, c3, c4, f1, f2⟩ := A4.facts
  go_wp2_with fail
  have INS := insert_any (.slice none 0 0) [] 0 h V3.heap.size (V3.alloc (.cells #[.int .u64 h] 23)).drew (World.ownsRow_nil _ _ _ _) (by simp) (by simp) (Bk.new V3 [_] _) (by simp [Value.ownBlock])
  have HI := Lib.hid INS
  have hlt0 : ∀ b, (Value.slice none 0 0).ownBlock = some b → b < w.heap.size ∧ b ≠ g := fun b e => by cases e
  have t1 := A4.ctr.bk.lt
  have t2 := A4.bc.lt
  have t3 := A4.bh.lt
  clear INS f1 f2 c2 c4 hk1 hk2 b1 b3
  go_region_law (first | (go_simp; go_at_call 37; refine HI.out.mono ?_; rintro e wx ⟨r', n', c', rfl, r1, r2, r3⟩; have J := A4.inserted rfl hlt0 _ r1 r2 r3; obtain ⟨⟨m1, m2, m3, m4⟩, J2, J3⟩ := J) | fail)
  all_goals
    go_wp2_with fail
    go_ret
    exact HP.out _ _ J2 J3
end Go.Proofs.Ytipblbmpckfigaa

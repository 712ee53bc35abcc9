/- Contract of (*distinct.Counter).add: there is room. -/
import Derived.Test.YtipblbmpckfigaaDAddW
namespace Go.Proofs.Ytipblbmpckfigaa
open Go.RowKit Dist
set_option linter.unusedVariables false

set_option maxHeartbeats 2000000 in
set_option maxRecDepth 100000 in
theorem add_room (g k : Nat) (v : Value) (K : List Int) (mo : Bool) (h : Int) (w : World) (hC : CtrW w g v k K mo) (hk1 : 1 ≤ k) (hk2 : k ≤ 4096) (hlen : K.length ≤ k) (hu : Up K) (hm : h ∉ K) (hfull : ¬ K.length = k) (hsl : v ≠ .slice none 0 0) :
    Calls Try.prog 30 #[.pointer (some ⟨g, 0, none⟩), .int .u64 h] w (AddPost g v k K mo h w) := by
  have A0 : AddW w v ((w.alloc (.cells #[.pointer (some ⟨g, 0, none⟩)] 28)).alloc (.cells #[.int .u64 h] 23)) g v k K mo h := by
    have b2 : Below w.heap.size w ((w.alloc (.cells #[.pointer (some ⟨g, 0, none⟩)] 28)).alloc (.cells #[.int .u64 h] 23)) := ((Below.refl _ _).alloc (Nat.le_refl _) _).alloc (by simp) _
    refine ⟨(Bk.new w [_] _).old _, ?_, hC.bel b2, hC.bk.lt, Fr.of_bel b2⟩
    have := Bk.new (w.alloc (.cells #[.pointer (some ⟨g, 0, none⟩)] 28)) [.int .u64 h] 23
    simpa using this
  have hS := search_any K.length w.heap.size (w.heap.size + 1) (fun i => decide (h ≤ K.getD i 0)) ((w.alloc (.cells #[.pointer (some ⟨g, 0, none⟩)] 28)).alloc (.cells #[.int .u64 h] 23)) (by omega)
    (fun m i hi => pred_any w.heap.size (w.heap.size + 1) g k v K mo h _ A0.ctr A0.bc A0.bh (by omega) m i hi) (up_mono hu h)
  rw [below_first hu h] at hS
  have HS := Lib.hid hS
  have hb := below_le K h
  have hat := Lib.hid (mem_at hu h)
  clear hS
  obtain ⟨c0, c1, c2, c3, c4, f1, f2⟩ := A0.facts
  have hne : K[below K h]? ≠ some h := fun e => hm (hat.out.2 e)
  have hK : K ≠ [] ∨ K = [] := by rcases K with _ | _ <;> simp
  have hp : ∀ wx v2, AddW w v wx g v2 k (K.take (below K h) ++ h :: K.drop (below K h)) mo h → (v2.ownBlock = v.ownBlock ∨ ∃ b, v2.ownBlock = some b ∧ w.heap.size ≤ b) → AddPost g v k K mo h w (.returned (.bool true)) wx := fun wx v2 a ho =>
    ⟨v2, by simp [freshK, hm, hfull], by rw [show keepK k K h = ins K h by simp [keepK, hm, hfull], show moreK k K h mo = mo by simp [moreK, hfull], ins]; exact a.ctr, a.fr, ho⟩
  have HP := Lib.hid hp
  rcases hC.val with ⟨rfl, rfl⟩ | ⟨r, cap, cs, rfl, hB, hcl, hle, hmx, ht, hrg⟩
  · exact absurd rfl hsl
  · have l5 := hB.lt
    unfold maxLen at hmx
    have hor : (∃ x, K[below K h]? = some x ∧ (x == h) = false ∧ w.cell? ⟨r, below K h, none⟩ = some (.int .u64 x) ∧ below K h < K.length) ∨ below K h = K.length := by
      by_cases hlt : below K h < K.length
      · refine .inl ⟨K[below K h], List.getElem?_eq_getElem hlt, ?_, row_cell hB ht (List.getElem?_eq_getElem hlt), hlt⟩
        simp only [beq_eq_false_iff_ne]
        intro e; exact hne (by rw [List.getElem?_eq_getElem hlt, e])
      · exact .inr (by omega)
    clear hp hat hC hB ht hcl hm hne
    obtain ⟨at_, hat_⟩ : ∃ a, below K h = a := ⟨_, rfl⟩
    rw [hat_] at HS HP hb hor
    clear hat_
    generalize hn : K.length = n at *
    have b3 : ((n : Int) == (k : Int)) = false := by simp; omega
    rcases hor with ⟨x, _, hxh, c5, hlt⟩ | hlt
    · have b1 : (at_ : Int) < (n : Int) := by omega
      have b2 : decide (at_ < n) = true := by simpa using hlt
      go_enter Try.func30, Try.ntmps30
      go_wp2_with fail
      refine HS.out.mono ?_
      rintro e w1 ⟨rfl, q, rfl⟩
      have A1 := A0.drewN q
      have c6 : (World.drewN ((w.alloc (.cells #[.pointer (some ⟨g, 0, none⟩)] 28)).alloc (.cells #[.int .u64 h] 23)) q).cell? ⟨r, at_, none⟩ = some (.int .u64 x) := by
        have b2 : Below w.heap.size w (World.drewN ((w.alloc (.cells #[.pointer (some ⟨g, 0, none⟩)] 28)).alloc (.cells #[.int .u64 h] 23)) q) := below_drewN (((Below.refl _ _).alloc (Nat.le_refl _) _).alloc (by simp) _) _
        rw [b2.cell (p := ⟨r, at_, none⟩) l5]; exact c5
      clear c5
      go_wp2_with fail
      clear c0 c1 c2 c3 c4 f1 f2 A0 HS
      generalize World.drewN ((w.alloc (.cells #[.pointer (some ⟨g, 0, none⟩)] 28)).alloc (.cells #[.int .u64 h] 23)) q = V at *
      obtain ⟨c0, c1, c2, c3, c4, f1, f2⟩ := A1.facts
      go_quiet (fail)
      have A2 := A1.drewN nq
      clear c0 c1 c2 c3 c4 f1 f2 A1
      clear c6
      generalize V.drewN nq = V1 at *
      obtain ⟨c0, c1, c2, c3, c4, f1, f2⟩ := A2.facts
      go_wp2_with fail
      go_quiet (fail)
      have A4 := A2.drewN nq
      clear c0 c1 c2 c3 c4 f1 f2 A2
      generalize V1.drewN nq = V3 at *
      obtain ⟨c0, c1, c2, c3, c4, f1, f2⟩ := A4.facts
      go_wp2_with fail
      have hrl := A4.ctr.row
      rw [hn] at hrl
      have INS := insert_any (.slice (some ⟨r, 0, none⟩) n cap) K at_ h V3.heap.size (V3.alloc (.cells #[.int .u64 h] 23)).drew (by rw [hn]; exact (hrl.alloc _)) (by omega) (by omega) (Bk.new V3 [_] _) (by have := (hrl.lt r rfl).2; simp [Value.ownBlock]; omega)
      have HI := Lib.hid INS
      have hlt0 : ∀ b, (Value.slice (some ⟨r, 0, none⟩) n cap).ownBlock = some b → b < w.heap.size ∧ b ≠ g := fun b e => by cases e; exact ⟨l5, hrg⟩
      clear INS hrl
      have t1 := A4.ctr.bk.lt
      have t2 := A4.bc.lt
      have t3 := A4.bh.lt
      clear f1 f2 c2 c4 b3 l5 hmx hle hn hb b1 b2 hxh hlt
      go_region_law (first | (go_simp; go_at_call 37; refine HI.out.mono ?_; rintro e wx ⟨r', n', c', rfl, r1, r2, r3⟩; have J := A4.inserted rfl hlt0 _ r1 r2 r3; obtain ⟨⟨m1, m2, m3, m4⟩, J2, J3⟩ := J) | fail)
      all_goals
        go_wp2_with fail
        go_ret
        exact HP.out _ _ J2 J3
    · subst hlt
      have b1 : decide (at_ < at_) = false := by simp
      go_enter Try.func30, Try.ntmps30
      go_wp2_with fail
      refine HS.out.mono ?_
      rintro e w1 ⟨rfl, q, rfl⟩
      have A1 := A0.drewN q
      go_wp2_with fail
      clear c0 c1 c2 c3 c4 f1 f2 A0 HS
      generalize World.drewN ((w.alloc (.cells #[.pointer (some ⟨g, 0, none⟩)] 28)).alloc (.cells #[.int .u64 h] 23)) q = V at *
      obtain ⟨c0, c1, c2, c3, c4, f1, f2⟩ := A1.facts
      go_quiet (fail)
      have A2 := A1.drewN nq
      clear c0 c1 c2 c3 c4 f1 f2 A1
      generalize V.drewN nq = V1 at *
      obtain ⟨c0, c1, c2, c3, c4, f1, f2⟩ := A2.facts
      go_wp2_with fail
      go_quiet (fail)
      have A4 := A2.drewN nq
      clear c0 c1 c2 c3 c4 f1 f2 A2
      generalize V1.drewN nq = V3 at *
      obtain ⟨c0, c1, c2, c3, c4, f1, f2⟩ := A4.facts
      go_wp2_with fail
      have hrl := A4.ctr.row
      rw [hn] at hrl
      have INS := insert_any (.slice (some ⟨r, 0, none⟩) at_ cap) K at_ h V3.heap.size (V3.alloc (.cells #[.int .u64 h] 23)).drew (by rw [hn]; exact (hrl.alloc _)) (by omega) (by omega) (Bk.new V3 [_] _) (by have := (hrl.lt r rfl).2; simp [Value.ownBlock]; omega)
      have HI := Lib.hid INS
      have hlt0 : ∀ b, (Value.slice (some ⟨r, 0, none⟩) at_ cap).ownBlock = some b → b < w.heap.size ∧ b ≠ g := fun b e => by cases e; exact ⟨l5, hrg⟩
      clear INS hrl
      have t1 := A4.ctr.bk.lt
      have t2 := A4.bc.lt
      have t3 := A4.bh.lt
      clear f1 f2 c2 c4 b3 l5 hmx hle hn hb b1
      go_region_law (first | (go_simp; go_at_call 37; refine HI.out.mono ?_; rintro e wx ⟨r', n', c', rfl, r1, r2, r3⟩; have J := A4.inserted rfl hlt0 _ r1 r2 r3; obtain ⟨⟨m1, m2, m3, m4⟩, J2, J3⟩ := J) | fail)
      all_goals
        go_wp2_with fail
        go_ret
        exact HP.out _ _ J2 J3
end Go.Proofs.Ytipblbmpckfigaa

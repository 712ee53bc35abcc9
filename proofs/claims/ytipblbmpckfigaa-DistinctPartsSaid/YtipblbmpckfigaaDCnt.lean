/- Counters as lists of rising numbers: contracts of New, add, Add, Exact, Least, Count where it is exact. -/
import Derived.Test.YtipblbmpckfigaaDAdd1
import Derived.Test.YtipblbmpckfigaaDAdd2
import Derived.Test.YtipblbmpckfigaaDAdd3
import Derived.Test.YtipblbmpckfigaaHash
namespace Go.Proofs.Ytipblbmpckfigaa
open Go.RowKit Dist
set_option linter.unusedVariables false

/-- the counter at block g, its row's value v: to it came just the numbers of L -/
structure Cnt (w : World) (g : Nat) (v : Value) (k : Nat) (L : List Int) : Prop where
  ctr : CtrW w g v k (L.take k) (decide (k < L.length))
  up : Up L
  k1 : 1 ≤ k
  k2 : k ≤ 4096
  u64 : ∀ x ∈ L, 0 ≤ x ∧ x ≤ 18446744073709551615
theorem Cnt.fr {S : Nat → Prop} {w w' : World} {g : Nat} {v : Value} {k : Nat} {L : List Int} (h : Cnt w g v k L) (hf : Fr S w w') (h1 : ¬ S g) (h2 : ∀ b, v.ownBlock = some b → ¬ S b) : Cnt w' g v k L :=
  ⟨h.ctr.fr hf h1 h2, h.up, h.k1, h.k2, h.u64⟩
theorem Cnt.bel {w w' : World} {g : Nat} {v : Value} {k : Nat} {L : List Int} (h : Cnt w g v k L) (hb : Below w.heap.size w w') : Cnt w' g v k L :=
  ⟨h.ctr.bel hb, h.up, h.k1, h.k2, h.u64⟩
theorem Cnt.lt {w : World} {g : Nat} {v : Value} {k : Nat} {L : List Int} (h : Cnt w g v k L) : g < w.heap.size ∧ ∀ b, v.ownBlock = some b → b < w.heap.size ∧ b ≠ g :=
  ⟨h.ctr.bk.lt, fun b hb => ⟨(h.ctr.row.lt b hb).2, fun e => h.ctr.ne (by rw [hb, e])⟩⟩
/-- where a counter's memory is -/
def own2 (g : Nat) (v : Value) : Nat → Prop := fun b => b = g ∨ v.ownBlock = some b
/-- a row lies where it lay, or in a block that is new since w -/
def Since (w : World) (v v' : Value) : Prop := v'.ownBlock = v.ownBlock ∨ ∃ b, v'.ownBlock = some b ∧ w.heap.size ≤ b
theorem Since.refl (w : World) (v : Value) : Since w v v := .inl rfl
theorem Since.trans {w w1 : World} {v v1 v2 : Value} (h : Since w v v1) (k : Since w1 v1 v2) (hw : w.heap.size ≤ w1.heap.size) : Since w v v2 := by
  rcases k with k | ⟨b, k, hb⟩
  · rcases h with h | ⟨c, h, hc⟩
    · exact .inl (k.trans h)
    · exact .inr ⟨c, k.trans h, hc⟩
  · exact .inr ⟨b, k, by omega⟩
def addRet (k : Nat) (L : List Int) (h : Int) : Bool := decide (h ∉ L.take k) && decide (h ∈ (insU L h).take k)
def CAddPost (g : Nat) (v : Value) (k : Nat) (L : List Int) (h : Int) (w : World) (e : Ending) (w' : World) : Prop :=
  ∃ v', e = .returned (.bool (addRet k L h)) ∧ Cnt w' g v' k (insU L h) ∧ Fr (own2 g v) w w' ∧ Since w v v'
theorem cadd_any (g k : Nat) (v : Value) (L : List Int) (h : Int) (w : World) (hC : Cnt w g v k L) (h0 : 0 ≤ h) (h1 : h ≤ 18446744073709551615) :
    Calls Try.prog 30 #[.pointer (some ⟨g, 0, none⟩), .int .u64 h] w (CAddPost g v k L h w) := by
  have hlen : (L.take k).length ≤ k := by rw [List.length_take]; omega
  have hu := up_take hC.up k
  have key : Calls Try.prog 30 #[.pointer (some ⟨g, 0, none⟩), .int .u64 h] w (AddPost g v k (L.take k) (decide (k < L.length)) h w) := by
    by_cases hm : h ∈ L.take k
    · exact add_has g k v _ _ h w hC.ctr hC.k1 hC.k2 hlen hu hm
    · by_cases hfull : (L.take k).length = k
      · by_cases hall : below (L.take k) h = k
        · exact add_over g k v _ _ h w hC.ctr hC.k1 hC.k2 hlen hu hm hfull hall
        · exact add_full g k v _ _ h w hC.ctr hC.k1 hC.k2 hlen hu hm hfull hall
      · by_cases hsl : v = .slice none 0 0
        · subst hsl
          have hnil : L.take k = [] := by
            rcases hC.ctr.val with ⟨_, h⟩ | ⟨r, cap, cs, h, _⟩
            · exact h
            · cases h
          rw [hnil]
          exact add_nil g k _ h w (by have := hC.ctr; rw [hnil] at this; exact this) hC.k1 hC.k2
        · exact add_room g k v _ _ h w hC.ctr hC.k1 hC.k2 hlen hu hm hfull hsl
  refine key.mono fun e w' ⟨v', he, hc, hf, ho⟩ => ⟨v', ?_, ⟨?_, up_insU hC.up, hC.k1, hC.k2, fun x hx => ?_⟩, hf, ho⟩
  · rw [he, fresh_eq hC.up k hC.k1, addRet]
  · rw [keep_eq hC.up k hC.k1, more_eq] at hc; exact hc
  · rcases mem_insU.1 hx with rfl | hx
    · exact ⟨h0, h1⟩
    · exact hC.u64 x hx
theorem Add_any (g k : Nat) (v : Value) (L : List Int) (s : ByteArray) (w : World) (hC : Cnt w g v k L) (hs : s.size ≤ maxLen) :
    Calls Try.prog 18 #[.pointer (some ⟨g, 0, none⟩), .string s] w (CAddPost g v k L (hash s.data.toList) w) := by
  have hb := hash_bd s.data.toList
  have HA := Lib.hid (cadd_any g k v L (hash s.data.toList) w hC hb.1 hb.2)
  have HH := Lib.hid (hash_any s w hs)
  clear hb
  generalize hash s.data.toList = h at *
  go_enter Try.func18, Try.ntmps18
  go_wp2_with fail
  refine HH.out.mono ?_
  rintro e w1 ⟨rfl, rfl⟩
  go_wp2_with fail
  refine HA.out.mono ?_
  rintro e w1 ⟨v', rfl, h1, h2, h3⟩
  go_wp2_with fail
  go_ret
  exact ⟨v', rfl, h1, h2, h3⟩

def sizeK (k : Int) : Nat := if k < 1 then 1 else if k > 4096 then 4096 else k.toNat
theorem sizeK_bd (k : Int) : 1 ≤ sizeK k ∧ sizeK k ≤ 4096 := by unfold sizeK; split <;> (try split) <;> omega
def NewPost (k : Nat) (w : World) (e : Ending) (w' : World) : Prop :=
  e = .returned (.pointer (some ⟨w.heap.size, 0, none⟩)) ∧ Cnt w' w.heap.size (.slice none 0 0) k [] ∧ w' = w.alloc (.cells #[.int .i64 k, .slice none 0 0, .bool false] 48)
theorem cnt_new (w : World) (k : Nat) (h1 : 1 ≤ k) (h2 : k ≤ 4096) : Cnt (w.alloc (.cells #[.int .i64 k, .slice none 0 0, .bool false] 48)) w.heap.size (.slice none 0 0) k [] := by
  refine ⟨⟨?_, by simpa using World.ownsRow_nil _ _ _ _, by simp [Value.ownBlock]⟩, up_nil, h1, h2, fun x hx => by cases hx⟩
  have := Bk.new w [.int .i64 k, .slice none 0 0, .bool false] 48
  simpa using this
theorem New_any (k : Int) (w : World) : Calls Try.prog 14 #[.int .i64 k] w (NewPost (sizeK k) w) := by
  have hb := sizeK_bd k
  by_cases h1 : k < 1
  · have e : sizeK k = 1 := by simp [sizeK, h1]
    rw [e]
    go_enter Try.func14, Try.ntmps14
    go_wp2
    go_ret
    exact ⟨rfl, cnt_new w 1 (by omega) (by omega), rfl⟩
  · by_cases h2 : k > 4096
    · have e : sizeK k = 4096 := by simp [sizeK, h1, h2]
      rw [e]
      go_enter Try.func14, Try.ntmps14
      go_wp2
      go_ret
      exact ⟨rfl, cnt_new w 4096 (by omega) (by omega), rfl⟩
    · have e : sizeK k = k.toNat := by simp [sizeK, h1, h2]
      rw [e]
      obtain ⟨n, rfl⟩ := Int.eq_ofNat_of_zero_le (show 0 ≤ k by omega)
      clear e hb
      go_enter Try.func14, Try.ntmps14
      go_wp2
      go_ret
      exact ⟨rfl, cnt_new w n (by omega) (by omega), rfl⟩
theorem Exact_any (g k : Nat) (v : Value) (L : List Int) (w : World) (hC : Cnt w g v k L) :
    Calls Try.prog 16 #[.pointer (some ⟨g, 0, none⟩)] w fun e w' => e = .returned (.bool (!decide (k < L.length))) ∧ w = w' := by
  obtain ⟨c0, c1, c2, _, _, _, _⟩ := hC.ctr.facts
  generalize decide (k < L.length) = b at *
  clear hC
  go_enter Try.func16, Try.ntmps16
  go_wp2
  go_ret
  exact ⟨rfl, rfl⟩
def leastOf (k : Nat) (L : List Int) : Nat := if k < L.length then k + 1 else L.length
theorem Least_any (g k : Nat) (v : Value) (L : List Int) (w : World) (hC : Cnt w g v k L) :
    Calls Try.prog 17 #[.pointer (some ⟨g, 0, none⟩)] w fun e w' => e = .returned (.int .i64 (leastOf k L)) ∧ w = w' := by
  obtain ⟨c0, c1, c2, _, _, _, _⟩ := hC.ctr.facts
  have hk2 := hC.k2
  by_cases h : k < L.length
  · rw [leastOf, if_pos h]
    rw [decide_eq_true h] at c2
    clear hC
    go_enter Try.func17, Try.ntmps17
    go_wp2
    go_ret
    exact ⟨by simp, rfl⟩
  · rw [leastOf, if_neg h]
    rw [decide_eq_false h] at c2
    rcases hC.ctr.val with ⟨rfl, hK⟩ | ⟨r, cap, cs, rfl, _, _, _, hm, _⟩
    · have hL : L.length = 0 := by have := congrArg List.length hK; rw [List.length_take] at this; have := hC.k1; simp only [List.length_nil] at *; omega
      rw [hL]
      clear hC
      go_enter Try.func17, Try.ntmps17
      go_wp2
      go_ret
      exact ⟨rfl, rfl⟩
    · have hL : (L.take k).length = L.length := by rw [List.length_take]; omega
      rw [hL] at c1
      generalize L.length = n at *
      clear hC
      go_enter Try.func17, Try.ntmps17
      go_wp2
      go_ret
      exact ⟨rfl, rfl⟩
/-- Count of a counter that is exact -/
theorem Count_exact (g k : Nat) (v : Value) (L : List Int) (w : World) (hC : Cnt w g v k L) (h : ¬ k < L.length) :
    Calls Try.prog 15 #[.pointer (some ⟨g, 0, none⟩)] w fun e w' => e = .returned (.int .i64 L.length) ∧ w = w' := by
  obtain ⟨c0, c1, c2, _, _, _, _⟩ := hC.ctr.facts
  rw [decide_eq_false h] at c2
  rcases hC.ctr.val with ⟨rfl, hK⟩ | ⟨r, cap, cs, rfl, _, _, _, hm, _⟩
  · have hL : L.length = 0 := by have := congrArg List.length hK; rw [List.length_take] at this; have := hC.k1; simp only [List.length_nil] at *; omega
    rw [hL]
    clear hC
    go_enter Try.func15, Try.ntmps15
    go_wp2_with fail
    go_ret
    exact ⟨rfl, rfl⟩
  · have hL : (L.take k).length = L.length := by rw [List.length_take]; omega
    rw [hL] at c1
    generalize L.length = n at *
    clear hC
    go_enter Try.func15, Try.ntmps15
    go_wp2_with fail
    go_ret
    exact ⟨rfl, rfl⟩
end Go.Proofs.Ytipblbmpckfigaa

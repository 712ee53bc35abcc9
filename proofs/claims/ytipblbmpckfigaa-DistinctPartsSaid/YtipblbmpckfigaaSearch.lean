/- Contracts of sort.Search and of the closure that (*Counter).add hands to it. -/
import Derived.Test.YtipblbmpckfigaaChecked
import Derived.Test.YtipblbmpckfigaaCells
import Derived.Test.YtipblbmpckfigaaDistLaw
import Derived.WalkLawsBesides
import Derived.WalkSpells
import Derived.Deep.LoopGhost
import Derived.Deep.QuietTactic
import Derived.BigQuiet
import Derived.Deep.Draws
namespace Go.Proofs.Ytipblbmpckfigaa
open Go.RowKit
set_option linter.unusedVariables false

/-- how many places below n are still false -/
def firstYes (n : Nat) (p : Nat → Bool) : Nat := (List.range n).countP (fun i => !p i)
theorem firstYes_eq {n : Nat} {p : Nat → Bool} {k : Nat} (hk : k ≤ n) (h1 : ∀ i, i < k → p i = false) (h2 : ∀ i, k ≤ i → i < n → p i = true) : firstYes n p = k := by
  unfold firstYes
  obtain ⟨j, rfl⟩ : ∃ j, n = k + j := ⟨n - k, by omega⟩
  rw [List.range_add, List.countP_append]
  have e1 : (List.range k).countP (fun i => !p i) = k := by
    rw [List.countP_eq_length.2]
    · simp
    · intro a ha; simp [h1 a (List.mem_range.1 ha)]
  have e2 : ((List.range j).map (k + ·)).countP (fun i => !p i) = 0 := by
    rw [List.countP_eq_zero]
    intro a ha
    obtain ⟨i, hi, rfl⟩ := List.mem_map.1 ha
    have := List.mem_range.1 hi
    simp [h2 (k + i) (by omega) (by omega)]
  rw [e1, e2]; rfl
set_option maxHeartbeats 2000000 in
theorem search_any (n bc bh : Nat) (p : Nat → Bool) (w : World) (hn : n ≤ 1000000)
    (hf : ∀ (m i : Nat), i < n → Calls Try.prog 36 #[.int .i64 i, .pointer (some ⟨bc, 0, none⟩), .pointer (some ⟨bh, 0, none⟩)] (w.drewN m) fun e w' => e = .returned (.bool (p i)) ∧ ∃ q, w' = (w.drewN m).drewN q)
    (hmono : ∀ a b, a ≤ b → b < n → p a = true → p b = true) :
    Calls Try.prog 35 #[.int .i64 n, .func (.func 36) #[] #[.pointer (some ⟨bc, 0, none⟩), .pointer (some ⟨bh, 0, none⟩)]] w fun e w' => e = .returned (.int .i64 (firstYes n p)) ∧ ∃ q, w' = w.drewN q := by
  have HF := Lib.hid hf
  have HM := Lib.hid hmono
  clear hf hmono
  obtain ⟨cnt, hcnt⟩ : ∃ cnt, firstYes n p = cnt := ⟨_, rfl⟩
  rw [hcnt]
  have CN := Lib.hid hcnt
  clear hcnt
  go_enter Try.func35, Try.ntmps35
  go_wp2_with fail
  go_loopg [5, 6] n (fun kx s5 s6 wr => ∃ (lo hi q : Nat), s5 = .int .i64 lo ∧ s6 = .int .i64 hi ∧ lo ≤ hi ∧ hi ≤ n ∧ hi - lo ≤ kx ∧ wr = w.drewN q ∧ Hid ((∀ t, t < lo → p t = false) ∧ (∀ t, hi ≤ t → t < n → p t = true)))
  case atStart =>
    have h0 : (∀ t, t < 0 → p t = false) ∧ (∀ t, n ≤ t → t < n → p t = true) := ⟨fun t ht => absurd ht (Nat.not_lt_zero _), fun t h1 h2 => by omega⟩
    exact ⟨0, n, 0, rfl, rfl, Nat.zero_le _, Nat.le_refl _, by omega, rfl, h0⟩
  case round =>
    obtain ⟨lo, hi, q, rfl, rfl, hlh, hin, hg, rfl, I⟩ := hrel
    by_cases hlt : lo < hi
    · have hc := HF.out q ((lo + hi) / 2) (by omega)
      rw [show (((lo + hi) / 2 : Nat) : Int) = ((lo : Int) + (hi : Int)) / 2 by omega] at hc
      have HC := Lib.hid hc
      clear hc
      cases hp : p ((lo + hi) / 2)
      · rw [hp] at HC
        have HP := Lib.hid hp
        clear hp
        go_wp2_with fail
        refine HC.out.mono ?_
        rintro e w' ⟨rfl, nq, rfl⟩
        go_wp2_with fail
        go_roundg (hi - ((lo + hi) / 2 + 1))
        case measure => omega
        case rel =>
          have I2 : (∀ t, t < (lo + hi) / 2 + 1 → p t = false) ∧ (∀ t, hi ≤ t → t < n → p t = true) := ⟨fun t ht => (by
            cases h : p t with
            | false => rfl
            | true => have := HM.out t ((lo + hi) / 2) (by omega) (by omega) h; rw [HP.out] at this; cases this), I.out.2⟩
          exact ⟨(lo + hi) / 2 + 1, hi, q + nq, by rw [show ((lo : Int) + (hi : Int)) / 2 + 1 = (((lo + hi) / 2 + 1 : Nat) : Int) by omega], rfl, by omega, hin, Nat.le_refl _, rfl, I2⟩
      · rw [hp] at HC
        have HP := Lib.hid hp
        clear hp
        go_wp2_with fail
        refine HC.out.mono ?_
        rintro e w' ⟨rfl, nq, rfl⟩
        go_wp2_with fail
        go_roundg ((lo + hi) / 2 - lo)
        case measure => omega
        case rel =>
          have I2 : (∀ t, t < lo → p t = false) ∧ (∀ t, (lo + hi) / 2 ≤ t → t < n → p t = true) := ⟨I.out.1, fun t h1 h2 => HM.out ((lo + hi) / 2) t h1 h2 HP.out⟩
          exact ⟨lo, (lo + hi) / 2, q + nq, rfl, by rw [show ((lo : Int) + (hi : Int)) / 2 = (((lo + hi) / 2 : Nat) : Int) by omega], by omega, by omega, Nat.le_refl _, rfl, I2⟩
    · obtain rfl : lo = hi := by omega
      have he := CN.out
      rw [firstYes_eq hin I.out.1 I.out.2] at he
      subst he
      clear CN
      go_wp2_with fail
      go_ret
      exact ⟨rfl, q, rfl⟩

/-- a counter in memory: k, a row of what is kept, more? -/
structure CtrW (w : World) (g : Nat) (v : Value) (k : Nat) (K : List Int) (m : Bool) : Prop where
  bk : Bk w g [.int .i64 k, v, .bool m] 48
  row : w.ownsRow 0 23 1 v K.length (K.map (Value.int .u64))
  ne : v.ownBlock ≠ some g
theorem CtrW.facts {w : World} {g : Nat} {v : Value} {k : Nat} {K : List Int} {m : Bool} (h : CtrW w g v k K m) :
    w.cell? ⟨g, 0, none⟩ = some (.int .i64 k) ∧ w.cell? ⟨g, 1, none⟩ = some v ∧ w.cell? ⟨g, 2, none⟩ = some (.bool m) ∧ w.frozen? ⟨g, 0, none⟩ = false ∧ w.frozen? ⟨g, 1, none⟩ = false ∧ w.frozen? ⟨g, 2, none⟩ = false ∧ g < w.heap.size :=
  ⟨h.bk.cell 0, h.bk.cell 1, h.bk.cell 2, h.bk.free 0, h.bk.free 1, h.bk.free 2, h.bk.lt⟩
/-- its row's value -/
theorem CtrW.val {w : World} {g : Nat} {v : Value} {k : Nat} {K : List Int} {m : Bool} (h : CtrW w g v k K m) :
    (v = .slice none 0 0 ∧ K = []) ∨ ∃ r cap cs, v = .slice (some ⟨r, 0, none⟩) K.length cap ∧ Bk w r cs 23 ∧ cs.length = cap ∧ K.length ≤ cap ∧ cap ≤ maxLen ∧ cs.take K.length = K.map (Value.int .u64) ∧ r ≠ g := by
  obtain ⟨_, h1 | ⟨r, cap, cs, rfl, h2, h3, h4, h5, h6⟩⟩ := bk_of_row h.row
  · exact .inl ⟨h1.1, List.map_eq_nil_iff.1 h1.2.2⟩
  · refine .inr ⟨r, cap, cs, rfl, h2, h3, h4, h5, h6, fun e => h.ne (by rw [e]; rfl)⟩
theorem CtrW.fr {S : Nat → Prop} {w w' : World} {g : Nat} {v : Value} {k : Nat} {K : List Int} {m : Bool} (h : CtrW w g v k K m) (hf : Fr S w w') (h1 : ¬ S g) (h2 : ∀ b, v.ownBlock = some b → ¬ S b) : CtrW w' g v k K m :=
  ⟨h.bk.fr hf h1, hf.row h.row h2, h.ne⟩
theorem CtrW.bel {w w' : World} {g : Nat} {v : Value} {k : Nat} {K : List Int} {m : Bool} (h : CtrW w g v k K m) (hb : Below w.heap.size w w') : CtrW w' g v k K m :=
  h.fr (S := none') (Fr.of_bel hb) id (fun _ _ => id)
theorem row_cell {w : World} {r n : Nat} {cs : List Value} {K : List Int} (hB : Bk w r cs 23) (ht : cs.take n = K.map (Value.int .u64)) {i : Nat} {x : Int} (hi : K[i]? = some x) : w.cell? ⟨r, i, none⟩ = some (.int .u64 x) := by
  rw [hB.cell]
  have h1 : (K.map (Value.int .u64))[i]? = some (.int .u64 x) := by rw [List.getElem?_map, hi]; rfl
  rw [← ht, List.getElem?_take] at h1
  split at h1
  · exact h1
  · cases h1
set_option maxHeartbeats 1000000 in
theorem pred_any (bc bh g k : Nat) (v : Value) (K : List Int) (mo : Bool) (h : Int) (w : World) (hC : CtrW w g v k K mo) (h1 : Bk w bc [.pointer (some ⟨g, 0, none⟩)] 28) (h2 : Bk w bh [.int .u64 h] 23) (hK : K.length ≤ 1000000)
    (m i : Nat) (hi : i < K.length) :
    Calls Try.prog 36 #[.int .i64 i, .pointer (some ⟨bc, 0, none⟩), .pointer (some ⟨bh, 0, none⟩)] (w.drewN m) fun e w' => e = .returned (.bool (decide (h ≤ K.getD i 0))) ∧ ∃ q, w' = (w.drewN m).drewN q := by
  have hx : K[i]? = some (K.getD i 0) := by rw [List.getD_eq_getElem?_getD, List.getElem?_eq_getElem hi]; rfl
  generalize K.getD i 0 = x at *
  rcases hC.val with ⟨_, rfl⟩ | ⟨r, cap, cs, rfl, hB, _, hle, hm, ht, _⟩
  · simp at hi
  · have c0 := row_cell hB ht hx
    have c1 : w.cell? ⟨bc, 0, none⟩ = some (.pointer (some ⟨g, 0, none⟩)) := h1.cell 0
    have c2 : w.cell? ⟨bh, 0, none⟩ = some (.int .u64 h) := h2.cell 0
    obtain ⟨_, c3, _, _, _, _, _⟩ := hC.facts
    clear hC h1 h2 hB ht hx
    generalize K.length = n at *
    unfold maxLen at hm
    have b1 : (i : Int) < (n : Int) := by omega
    go_enter Try.func36, Try.ntmps36
    go_wp2_with fail
    go_quiet (fail)
    go_wp2_with fail
    go_ret
    exact ⟨rfl, _, rfl⟩
end Go.Proofs.Ytipblbmpckfigaa

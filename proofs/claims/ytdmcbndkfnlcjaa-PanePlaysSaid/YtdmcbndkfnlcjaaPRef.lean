/- The document's panes in memory; contracts of its New, Pane, Add. -/
import Derived.Test.YtdmcbndkfnlcjaaPMerge
import Derived.Test.YtdmcbndkfnlcjaaRowM
namespace Go.Proofs.Ytdmcbndkfnlcjaa
open Go.RowKit Go.MapKept Go.Maps
set_option linter.unusedVariables false
def adC (x : Ad) : List Value := [.string x.1, .int .i64 x.2.1, .int .i64 x.2.2]
theorem adLen (a : Ad) : (adC a).length = 3 := rfl
theorem adOne (a : Ad) : ∀ u ∈ adC a, u.oneCell' = true := fun u hu => by
  simp only [adC, List.mem_cons, List.not_mem_nil, or_false] at hu
  rcases hu with rfl | rfl | rfl <;> rfl
theorem infoSum : (Try.prog.info? 70).map (fun i => (i.zero, i.size, i.bytes)) = some (some (.agg #[.string ⟨#[]⟩, .int .i64 0, .int .i64 0]), 3, 32) := by kernel_rfl
/-- the document's panes at m: a width, a list, a count -/
structure RefAt (w : World) (m : Nat) (v : Value) (wd cnt : Int) (A : List Ad) : Prop where
  bk : Bk w m [.int .i64 wd, v, .int .i64 cnt] 50
  row : w.ownsRow 0 70 3 v A.length (A.flatMap adC)
  ne : v.ownBlock ≠ some m
  w1 : 1 ≤ wd
  w2 : wd ≤ 1099511627776
  a1 : A.length ≤ cnt
  a2 : cnt ≤ 1048576
  ok : ∀ x ∈ A, AdOk x
def rblocks (m : Nat) (v : Value) : List Nat := m :: v.ownBlock.toList
theorem RefAt.fr {S : Nat → Prop} {w w' : World} {m : Nat} {v : Value} {wd cnt : Int} {A : List Ad} (h : RefAt w m v wd cnt A) (hf : Fr S w w') (hs : ∀ b ∈ rblocks m v, ¬ S b) : RefAt w' m v wd cnt A :=
  ⟨h.bk.fr hf (hs m (by simp [rblocks])), hf.row h.row (fun b hb => hs b (by simp [rblocks, hb])), h.ne, h.w1, h.w2, h.a1, h.a2, h.ok⟩
theorem RefAt.bel {w w' : World} {m : Nat} {v : Value} {wd cnt : Int} {A : List Ad} (h : RefAt w m v wd cnt A) (hb : Below w.heap.size w w') : RefAt w' m v wd cnt A := h.fr (Fr.of_bel (S := none') hb) (fun _ _ => id)
theorem RefAt.drewN {w : World} {m : Nat} {v : Value} {wd cnt : Int} {A : List Ad} (h : RefAt w m v wd cnt A) (n : Nat) : RefAt (w.drewN n) m v wd cnt A := h.fr ((Fr.refl none' w).drewN n) (fun _ _ => id)
theorem RefAt.cells {w : World} {m : Nat} {v : Value} {wd cnt : Int} {A : List Ad} (h : RefAt w m v wd cnt A) : w.cell? ⟨m, 0, none⟩ = some (.int .i64 wd) ∧ w.cell? ⟨m, 1, none⟩ = some v ∧ w.cell? ⟨m, 2, none⟩ = some (.int .i64 cnt) := ⟨h.bk.cell 0, h.bk.cell 1, h.bk.cell 2⟩
theorem RefAt.lt {w : World} {m : Nat} {v : Value} {wd cnt : Int} {A : List Ad} (h : RefAt w m v wd cnt A) : ∀ b ∈ rblocks m v, b < w.heap.size := fun b hb => by
  simp only [rblocks, List.mem_cons, Option.mem_toList] at hb
  rcases hb with rfl | hb
  · exact h.bk.lt
  · exact own_lt h.row hb
set_option maxHeartbeats 400000 in
theorem rnew_any (x : Int) (w : World) (hx : I64 x) :
    Calls Try.prog 20 #[.int .i64 x] w fun e w' => e = .returned (.pointer (some ⟨w.heap.size, 0, none⟩)) ∧ RefAt w' w.heap.size (.slice none 0 0) (wdOf x) 0 [] ∧ Below w.heap.size w w' ∧ w'.heap.size = w.heap.size + 1 := by
  unfold I64 at hx
  have hfin : ∀ y, wdOf x = y → RefAt (w.alloc (.cells #[.int .i64 y, .slice none 0 0, .int .i64 0] 50)) w.heap.size (.slice none 0 0) (wdOf x) 0 [] := fun y e => by
    rw [e]
    have := wdOf_in x
    exact ⟨Bk.new w [.int .i64 y, .slice none 0 0, .int .i64 0] _, ⟨rfl, .inl ⟨rfl, rfl⟩⟩, by simp [Value.ownBlock], by omega, by omega, by simp, by omega, fun _ h => by cases h⟩
  have HFN := Lib.hid hfin
  clear hfin
  go_enter Try.func20, Try.ntmps20
  go_wp2_with fail
  all_goals
    go_ret
    exact ⟨rfl, HFN.out _ (by unfold wdOf; omega), (Below.refl _ _).alloc (Nat.le_refl _) _, by simp⟩
set_option maxHeartbeats 400000 in
theorem rpane_any (m : Nat) (wd a : Int) (w : World) (hc : w.cell? ⟨m, 0, none⟩ = some (.int .i64 wd)) (h1 : 1 ≤ wd) (ha : I64 a) :
    Calls Try.prog 36 #[.pointer (some ⟨m, 0, none⟩), .int .i64 a] w fun e w' => e = .returned (.int .i64 (a / wd)) ∧ w = w' := by
  have hi := tdiv_in a wd h1 ha
  have hf := floor_le a wd h1 ha
  have hw1 : IntKind.i64.wrap (a.tdiv wd) = a.tdiv wd := IntWalk.i64_in _ hi
  have hz : (wd == 0) = false := by simp; omega
  have hz' : wd ≠ 0 := by omega
  unfold I64 at ha
  by_cases hneg : a < 0
  · by_cases hm : a.tmod wd = 0
    · have hd := tdiv_floor a wd h1 (by omega)
      rw [← hd]
      have t1 : (a.tmod wd == 0) = true := by simpa using hm
      have t2 : (a.tmod wd != 0) = false := by simpa using hm
      clear hi hf hd hm
      go_enter Try.func36, Try.ntmps36
      go_wp2_with fail
      go_ret
      exact ⟨rfl, rfl⟩
    · have hml : a.tmod wd < 0 := by
        have := Int.tmod_nonneg (a := -a) wd (by omega)
        rw [Int.neg_tmod] at this; omega
      have hd := tdiv_down a wd h1 hml
      have hw2 : IntKind.i64.wrap (a.tdiv wd - 1) = a.tdiv wd - 1 := IntWalk.i64_in _ (by rw [hd]; exact hf)
      rw [← hd]
      have t1 : (a.tmod wd == 0) = false := by simpa using hm
      have t2 : (a.tmod wd != 0) = true := by simpa using hm
      clear hi hf hd hm hml
      go_enter Try.func36, Try.ntmps36
      go_wp2_with fail
      go_ret
      exact ⟨rfl, rfl⟩
  · have hd := tdiv_floor a wd h1 (by have := Int.tmod_nonneg (a := a) wd (by omega); omega)
    rw [← hd]
    clear hi hf hd
    go_enter Try.func36, Try.ntmps36
    go_wp2_with fail
    go_ret
    exact ⟨rfl, rfl⟩
end Go.Proofs.Ytdmcbndkfnlcjaa

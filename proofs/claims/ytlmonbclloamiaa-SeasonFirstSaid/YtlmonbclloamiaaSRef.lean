/- Layer 44, the document: adds that came in, what of them is in a pane; contracts of Right, In, Now, Then. -/
import Derived.Test.YtlmonbclloamiaaSOdd
import Derived.Test.YtlmonbclloamiaaRowAny
namespace Go.Proofs.Ytlmonbclloamiaa
open Go.RowKit Go.MapKept Go.Maps Wide
set_option linter.unusedVariables false
abbrev Add10 := ByteArray × Int × Int
def a10C (a : Add10) : List Value := [.string a.1, .int .i64 a.2.1, .int .i64 a.2.2]
def a10Ok (a : Add10) : Prop := a.1.size ≤ maxLen ∧ I64 a.2.1 ∧ I64 a.2.2
def okB (a : Add10) : Bool := decide (1 ≤ a.1.size) && decide (a.1.size ≤ 24) && decide (0 ≤ a.2.1) && decide (a.2.1 ≤ 1099511627776) && decide (0 ≤ a.2.2) && decide (a.2.2 ≤ 1048576)
theorem okB_iff (a : Add10) : okB a = true ↔ 1 ≤ a.1.size ∧ a.1.size ≤ 24 ∧ 0 ≤ a.2.1 ∧ a.2.1 ≤ 1099511627776 ∧ 0 ≤ a.2.2 ∧ a.2.2 ≤ 1048576 := by simp [okB, and_assoc]
/-- what panes of a width hold of adds -/
def addsS (wd : Int) (l : List Add10) : List Ad := (l.filter okB).map fun a => (a.1, a.2.1 / wd, a.2.2)
theorem addsS_length (wd : Int) (l : List Add10) : (addsS wd l).length ≤ l.length := by unfold addsS; rw [List.length_map]; exact List.length_filter_le _ _
theorem addsS_snoc (wd : Int) (l : List Add10) (a : Add10) : addsS wd (l ++ [a]) = if okB a then addsS wd l ++ [(a.1, a.2.1 / wd, a.2.2)] else addsS wd l := by
  unfold addsS
  rw [List.filter_append]
  by_cases h : okB a <;> simp [h]
theorem addsS_ok (wd : Int) (hw : 1 ≤ wd) (l : List Add10) : ∀ x ∈ addsS wd l, AdOk x := fun x hx => by
  obtain ⟨a, ha, rfl⟩ := List.mem_map.1 hx
  have h := (okB_iff a).1 (List.mem_filter.1 ha).2
  have := ediv_small a.2.1 wd hw (by omega) (by omega)
  unfold AdOk
  simp only
  omega
/-- out of all adds -/
def inS (key : ByteArray) (f wd : Int) : List Add10 → Int
  | [] => 0
  | a :: l => (if okB a = true ∧ a.1 = key ∧ f ≤ a.2.1 ∧ a.2.1 < f + wd then a.2.2 else 0) + inS key f wd l
theorem inS_append (key : ByteArray) (f wd : Int) (l m : List Add10) : inS key f wd (l ++ m) = inS key f wd l + inS key f wd m := by
  induction l with
  | nil => simp [inS]
  | cons a l ih => simp only [List.cons_append, inS, ih]; omega
theorem inS_bd (key : ByteArray) (f wd : Int) (l : List Add10) : 0 ≤ inS key f wd l ∧ inS key f wd l ≤ l.length * 1048576 := by
  induction l with
  | nil => simp [inS]
  | cons a l ih =>
    simp only [inS, List.length_cons]
    split
    · rename_i h
      have := (okB_iff a).1 h.1
      omega
    · omega
theorem inS_sget {wd : Int} (hw : 1 ≤ wd) (key : ByteArray) (q : Int) (l : List Add10) : inS key (wd * q) wd l = sget (addsS wd l) key q := by
  induction l with
  | nil => rfl
  | cons a l ih =>
    have e : addsS wd (a :: l) = (if okB a = true then [((a.1, a.2.1 / wd, a.2.2) : Ad)] else []) ++ addsS wd l := by
      unfold addsS
      by_cases h : okB a <;> simp [h]
    have hq : (wd * q ≤ a.2.1 ∧ a.2.1 < wd * q + wd) ↔ a.2.1 / wd = q := by
      constructor
      · rintro ⟨h1, h2⟩
        have h3 : q ≤ a.2.1 / wd := (Int.le_ediv_iff_mul_le (by omega)).2 (by rw [Int.mul_comm]; exact h1)
        have h4 : a.2.1 / wd < q + 1 := (Int.ediv_lt_iff_lt_mul (by omega)).2 (by rw [Int.mul_comm, Int.mul_add, Int.mul_one]; exact h2)
        omega
      · rintro rfl
        have h1 := Int.mul_ediv_add_emod a.2.1 wd
        have h2 := Int.emod_nonneg a.2.1 (show wd ≠ 0 by omega)
        have h3 := Int.emod_lt_of_pos a.2.1 (show 0 < wd by omega)
        omega
    rw [e, sget_append, inS, ih]
    congr 1
    by_cases h : okB a = true
    · simp only [h, true_and, if_true, sget, Int.add_zero]
      by_cases hk : a.1 = key
      · by_cases h2 : a.2.1 / wd = q
        · rw [if_pos ⟨hk, (hq.2 h2).1, (hq.2 h2).2⟩, if_pos ⟨hk, h2⟩]
        · rw [if_neg (fun c => h2 (hq.1 c.2)), if_neg (fun c => h2 c.2)]
      · rw [if_neg (fun c => hk c.1), if_neg (fun c => hk c.1)]
    · simp [h, sget]
theorem adds10_at {w : World} {b : Option Addr} {xs : List Add10} (h : InW w b 3 (xs.map a10C)) {i : Nat} {a : Add10} (hi : xs[i]? = some a) :
    ∃ B off, b = some ⟨B, off, none⟩ ∧ B < w.heap.size ∧ w.cell? ⟨B, off + i * 3, none⟩ = some (.string a.1) ∧ w.cell? ⟨B, off + i * 3 + 1, none⟩ = some (.int .i64 a.2.1) ∧ w.cell? ⟨B, off + i * 3 + 2, none⟩ = some (.int .i64 a.2.2) := by
  rcases h with h | ⟨B, off, hb, hl, hc⟩
  · rw [List.map_eq_nil_iff.1 h] at hi; cases hi
  · have hm : (xs.map a10C)[i]? = some (a10C a) := by rw [List.getElem?_map, hi]; rfl
    exact ⟨B, off, hb, hl, hc i _ hm 0 _ rfl, hc i _ hm 1 _ rfl, hc i _ hm 2 _ rfl⟩
set_option maxHeartbeats 1000000 in
theorem right10_any (a : Add10) (w : World) (h : a.1.size ≤ 9223372036854775807) :
    Calls Try.prog 30 #[.agg #[.string a.1, .int .i64 a.2.1, .int .i64 a.2.2]] w fun e w' => e = .returned (.bool (okB a)) ∧ Below w.heap.size w w' := by
  have hb := (Below.refl w.heap.size w).alloc (Nat.le_refl _) (.cells #[.string a.1, .int .i64 a.2.1, .int .i64 a.2.2] 51)
  have HB := Lib.hid hb
  clear hb
  go_enter Try.func30, Try.ntmps30
  go_wp2_with fail
  all_goals
    go_ret
    refine ⟨ret_bool ?_, HB.out⟩
    unfold okB
    first | (simp [*]; done) | (simp [*]; intros; omega) | (simp; intros; omega)
end Go.Proofs.Ytlmonbclloamiaa

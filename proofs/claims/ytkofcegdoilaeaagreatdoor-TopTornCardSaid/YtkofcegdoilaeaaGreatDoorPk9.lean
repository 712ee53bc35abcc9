/- event.May, at the events of tales. Disks in memory: the struct, its map, the files. Contracts of package disk's small functions: New, Arm, Down, asked, full, file, step, found. Contracts of package disk: file, found. -/
import Derived.Test.YtkofcegdoilaeaaGreatDoorPk8
import Derived.Deep.QuietTactic
import Derived.Deep.DeepBigQuietO
import Derived.Test.YtkofcegdoilaeaaGreatDoorPk4
import Derived.Test.YtkofcegdoilaeaaGreatDoorPk2
namespace Go.Proofs.YtkofcegdoilaeaaGreatDoor
open Go.RowKit Go.MapKept Go.Maps
set_option linter.unusedVariables false
set_option linter.unusedSimpArgs false
namespace Tl
open Es
theorem name_true (s : ByteArray) (W : World) (h : nameB s = true) : Calls Tryz.prog 21 #[.string s] W fun e w' => e = .returned (.bool true) ∧ w' = W := by
  have k := ename_any s W (by have := nameB_size h; unfold maxLen; omega)
  rw [h] at k
  exact k.mono fun e w' h => ⟨h.1, h.2.symm⟩
theorem name_emp (W : World) : Calls Tryz.prog 21 #[.string ⟨#[]⟩] W fun e w' => e = .returned (.bool false) ∧ w' = W := by
  have k := ename_any ⟨#[]⟩ W (by decide)
  rw [show nameB ⟨#[]⟩ = false by decide] at k
  exact k.mono fun e w' h => ⟨h.1, h.2.symm⟩
set_option maxRecDepth 100000 in
set_option maxHeartbeats 4000000 in
theorem may_plain0 (s : ByteArray) (n a : Int) (p : ByteArray) (i : ByteArray) (w : World) (hs : nameB s = true) (hn : 1 ≤ n ∧ n ≤ 60) (ha : 0 ≤ a ∧ a ≤ 3000) (hp : nameB p = true) (hi : nameB i = true) :
    Calls Tryz.prog 18 #[.agg #[.string s, .int .i64 n, .int .i64 a, .int .i64 (0), .string p, .string i, .int .i64 0, .string ⟨#[]⟩]] w fun e w' => e = .returned (.bool true) ∧ Below w.heap.size w w' := by
  have HS := Lib.hid (fun W => name_true s W hs)
  have NZ : Hid (∀ W z r, ((z = p ∧ r = true) ∨ (z = i ∧ r = true)) → Calls Tryz.prog 21 #[.string z] W fun e w' => e = .returned (.bool r) ∧ w' = W) := Lib.hid (fun W z r hz => by
    rcases hz with ⟨rfl, rfl⟩ | ⟨rfl, rfl⟩
    · exact name_true _ _ hp
    · exact name_true _ _ hi)
  obtain ⟨hn1, hn2⟩ := hn
  obtain ⟨ha1, ha2⟩ := ha
  have n1 : ¬ n < 1 := by omega
  have n2 : ¬ 1099511627776 < n := by omega
  have a1 : ¬ a < 0 := by omega
  have a2 : ¬ 1099511627776 < a := by omega
  clear hs hp hi
  have HB := Lib.hid ((Below.refl w.heap.size w).alloc (Nat.le_refl _) (.cells #[.string s, .int .i64 n, .int .i64 a, .int .i64 (0), .string p, .string i, .int .i64 0, .string ⟨#[]⟩] 60))
  go_enter Tryz.func18, Tryz.ntmps18
  go_wp2_with fail
  refine (HS.out _).mono ?_
  rintro e w1 ⟨rfl, rfl⟩
  go_wp2_with fail
  go_quiet ((go_at_call 21; refine Calls.quiet_of_same (NZ.out _ _ _ (by first | exact .inl ⟨rfl, rfl⟩ | exact .inr ⟨rfl, rfl⟩))))
  go_wp2_with fail
  go_ret
  exact ⟨rfl, bdrewN HB.out _⟩
set_option maxRecDepth 100000 in
set_option maxHeartbeats 4000000 in
theorem may_plain1 (s : ByteArray) (n a : Int) (p : ByteArray) (i : ByteArray) (w : World) (hs : nameB s = true) (hn : 1 ≤ n ∧ n ≤ 60) (ha : 0 ≤ a ∧ a ≤ 3000) (hp : nameB p = true) (hi : nameB i = true) :
    Calls Tryz.prog 18 #[.agg #[.string s, .int .i64 n, .int .i64 a, .int .i64 (1), .string p, .string i, .int .i64 0, .string ⟨#[]⟩]] w fun e w' => e = .returned (.bool true) ∧ Below w.heap.size w w' := by
  have HS := Lib.hid (fun W => name_true s W hs)
  have NZ : Hid (∀ W z r, ((z = p ∧ r = true) ∨ (z = i ∧ r = true)) → Calls Tryz.prog 21 #[.string z] W fun e w' => e = .returned (.bool r) ∧ w' = W) := Lib.hid (fun W z r hz => by
    rcases hz with ⟨rfl, rfl⟩ | ⟨rfl, rfl⟩
    · exact name_true _ _ hp
    · exact name_true _ _ hi)
  obtain ⟨hn1, hn2⟩ := hn
  obtain ⟨ha1, ha2⟩ := ha
  have n1 : ¬ n < 1 := by omega
  have n2 : ¬ 1099511627776 < n := by omega
  have a1 : ¬ a < 0 := by omega
  have a2 : ¬ 1099511627776 < a := by omega
  clear hs hp hi
  have HB := Lib.hid ((Below.refl w.heap.size w).alloc (Nat.le_refl _) (.cells #[.string s, .int .i64 n, .int .i64 a, .int .i64 (1), .string p, .string i, .int .i64 0, .string ⟨#[]⟩] 60))
  go_enter Tryz.func18, Tryz.ntmps18
  go_wp2_with fail
  refine (HS.out _).mono ?_
  rintro e w1 ⟨rfl, rfl⟩
  go_wp2_with fail
  go_quiet ((go_at_call 21; refine Calls.quiet_of_same (NZ.out _ _ _ (by first | exact .inl ⟨rfl, rfl⟩ | exact .inr ⟨rfl, rfl⟩))))
  go_wp2_with fail
  go_ret
  exact ⟨rfl, bdrewN HB.out _⟩
set_option maxRecDepth 100000 in
set_option maxHeartbeats 4000000 in
theorem may_plain2 (s : ByteArray) (n a : Int) (p : ByteArray) (i : ByteArray) (w : World) (hs : nameB s = true) (hn : 1 ≤ n ∧ n ≤ 60) (ha : 0 ≤ a ∧ a ≤ 3000) (hp : nameB p = true) (hi : nameB i = true) :
    Calls Tryz.prog 18 #[.agg #[.string s, .int .i64 n, .int .i64 a, .int .i64 (2), .string p, .string i, .int .i64 0, .string ⟨#[]⟩]] w fun e w' => e = .returned (.bool true) ∧ Below w.heap.size w w' := by
  have HS := Lib.hid (fun W => name_true s W hs)
  have NZ : Hid (∀ W z r, ((z = p ∧ r = true) ∨ (z = i ∧ r = true)) → Calls Tryz.prog 21 #[.string z] W fun e w' => e = .returned (.bool r) ∧ w' = W) := Lib.hid (fun W z r hz => by
    rcases hz with ⟨rfl, rfl⟩ | ⟨rfl, rfl⟩
    · exact name_true _ _ hp
    · exact name_true _ _ hi)
  obtain ⟨hn1, hn2⟩ := hn
  obtain ⟨ha1, ha2⟩ := ha
  have n1 : ¬ n < 1 := by omega
  have n2 : ¬ 1099511627776 < n := by omega
  have a1 : ¬ a < 0 := by omega
  have a2 : ¬ 1099511627776 < a := by omega
  clear hs hp hi
  have HB := Lib.hid ((Below.refl w.heap.size w).alloc (Nat.le_refl _) (.cells #[.string s, .int .i64 n, .int .i64 a, .int .i64 (2), .string p, .string i, .int .i64 0, .string ⟨#[]⟩] 60))
  go_enter Tryz.func18, Tryz.ntmps18
  go_wp2_with fail
  refine (HS.out _).mono ?_
  rintro e w1 ⟨rfl, rfl⟩
  go_wp2_with fail
  go_quiet ((go_at_call 21; refine Calls.quiet_of_same (NZ.out _ _ _ (by first | exact .inl ⟨rfl, rfl⟩ | exact .inr ⟨rfl, rfl⟩))))
  go_wp2_with fail
  go_ret
  exact ⟨rfl, bdrewN HB.out _⟩
set_option maxRecDepth 100000 in
set_option maxHeartbeats 4000000 in
theorem may_plain3 (s : ByteArray) (n a : Int) (p : ByteArray) (i : ByteArray) (w : World) (hs : nameB s = true) (hn : 1 ≤ n ∧ n ≤ 60) (ha : 0 ≤ a ∧ a ≤ 3000) (hp : nameB p = true) (hi : nameB i = true) :
    Calls Tryz.prog 18 #[.agg #[.string s, .int .i64 n, .int .i64 a, .int .i64 (3), .string p, .string i, .int .i64 0, .string ⟨#[]⟩]] w fun e w' => e = .returned (.bool true) ∧ Below w.heap.size w w' := by
  have HS := Lib.hid (fun W => name_true s W hs)
  have NZ : Hid (∀ W z r, ((z = p ∧ r = true) ∨ (z = i ∧ r = true)) → Calls Tryz.prog 21 #[.string z] W fun e w' => e = .returned (.bool r) ∧ w' = W) := Lib.hid (fun W z r hz => by
    rcases hz with ⟨rfl, rfl⟩ | ⟨rfl, rfl⟩
    · exact name_true _ _ hp
    · exact name_true _ _ hi)
  obtain ⟨hn1, hn2⟩ := hn
  obtain ⟨ha1, ha2⟩ := ha
  have n1 : ¬ n < 1 := by omega
  have n2 : ¬ 1099511627776 < n := by omega
  have a1 : ¬ a < 0 := by omega
  have a2 : ¬ 1099511627776 < a := by omega
  clear hs hp hi
  have HB := Lib.hid ((Below.refl w.heap.size w).alloc (Nat.le_refl _) (.cells #[.string s, .int .i64 n, .int .i64 a, .int .i64 (3), .string p, .string i, .int .i64 0, .string ⟨#[]⟩] 60))
  go_enter Tryz.func18, Tryz.ntmps18
  go_wp2_with fail
  refine (HS.out _).mono ?_
  rintro e w1 ⟨rfl, rfl⟩
  go_wp2_with fail
  go_quiet ((go_at_call 21; refine Calls.quiet_of_same (NZ.out _ _ _ (by first | exact .inl ⟨rfl, rfl⟩ | exact .inr ⟨rfl, rfl⟩))))
  go_wp2_with fail
  go_ret
  exact ⟨rfl, bdrewN HB.out _⟩
set_option maxRecDepth 100000 in
set_option maxHeartbeats 4000000 in
theorem may_plain5 (s : ByteArray) (n a : Int) (p : ByteArray) (i : ByteArray) (w : World) (hs : nameB s = true) (hn : 1 ≤ n ∧ n ≤ 60) (ha : 0 ≤ a ∧ a ≤ 3000) (hp : nameB p = true) (hi : nameB i = true) :
    Calls Tryz.prog 18 #[.agg #[.string s, .int .i64 n, .int .i64 a, .int .i64 (5), .string p, .string i, .int .i64 0, .string ⟨#[]⟩]] w fun e w' => e = .returned (.bool true) ∧ Below w.heap.size w w' := by
  have HS := Lib.hid (fun W => name_true s W hs)
  have NZ : Hid (∀ W z r, ((z = p ∧ r = true) ∨ (z = i ∧ r = true)) → Calls Tryz.prog 21 #[.string z] W fun e w' => e = .returned (.bool r) ∧ w' = W) := Lib.hid (fun W z r hz => by
    rcases hz with ⟨rfl, rfl⟩ | ⟨rfl, rfl⟩
    · exact name_true _ _ hp
    · exact name_true _ _ hi)
  obtain ⟨hn1, hn2⟩ := hn
  obtain ⟨ha1, ha2⟩ := ha
  have n1 : ¬ n < 1 := by omega
  have n2 : ¬ 1099511627776 < n := by omega
  have a1 : ¬ a < 0 := by omega
  have a2 : ¬ 1099511627776 < a := by omega
  clear hs hp hi
  have HB := Lib.hid ((Below.refl w.heap.size w).alloc (Nat.le_refl _) (.cells #[.string s, .int .i64 n, .int .i64 a, .int .i64 (5), .string p, .string i, .int .i64 0, .string ⟨#[]⟩] 60))
  go_enter Tryz.func18, Tryz.ntmps18
  go_wp2_with fail
  refine (HS.out _).mono ?_
  rintro e w1 ⟨rfl, rfl⟩
  go_wp2_with fail
  go_quiet ((go_at_call 21; refine Calls.quiet_of_same (NZ.out _ _ _ (by first | exact .inl ⟨rfl, rfl⟩ | exact .inr ⟨rfl, rfl⟩))))
  go_wp2_with fail
  go_ret
  exact ⟨rfl, bdrewN HB.out _⟩
set_option maxRecDepth 100000 in
set_option maxHeartbeats 4000000 in
theorem may_plain6 (s : ByteArray) (n a : Int) (p : ByteArray) (i : ByteArray) (w : World) (hs : nameB s = true) (hn : 1 ≤ n ∧ n ≤ 60) (ha : 0 ≤ a ∧ a ≤ 3000) (hp : nameB p = true) (hi : nameB i = true) :
    Calls Tryz.prog 18 #[.agg #[.string s, .int .i64 n, .int .i64 a, .int .i64 (6), .string p, .string i, .int .i64 0, .string ⟨#[]⟩]] w fun e w' => e = .returned (.bool true) ∧ Below w.heap.size w w' := by
  have HS := Lib.hid (fun W => name_true s W hs)
  have NZ : Hid (∀ W z r, ((z = p ∧ r = true) ∨ (z = i ∧ r = true)) → Calls Tryz.prog 21 #[.string z] W fun e w' => e = .returned (.bool r) ∧ w' = W) := Lib.hid (fun W z r hz => by
    rcases hz with ⟨rfl, rfl⟩ | ⟨rfl, rfl⟩
    · exact name_true _ _ hp
    · exact name_true _ _ hi)
  obtain ⟨hn1, hn2⟩ := hn
  obtain ⟨ha1, ha2⟩ := ha
  have n1 : ¬ n < 1 := by omega
  have n2 : ¬ 1099511627776 < n := by omega
  have a1 : ¬ a < 0 := by omega
  have a2 : ¬ 1099511627776 < a := by omega
  clear hs hp hi
  have HB := Lib.hid ((Below.refl w.heap.size w).alloc (Nat.le_refl _) (.cells #[.string s, .int .i64 n, .int .i64 a, .int .i64 (6), .string p, .string i, .int .i64 0, .string ⟨#[]⟩] 60))
  go_enter Tryz.func18, Tryz.ntmps18
  go_wp2_with fail
  refine (HS.out _).mono ?_
  rintro e w1 ⟨rfl, rfl⟩
  go_wp2_with fail
  go_quiet ((go_at_call 21; refine Calls.quiet_of_same (NZ.out _ _ _ (by first | exact .inl ⟨rfl, rfl⟩ | exact .inr ⟨rfl, rfl⟩))))
  go_wp2_with fail
  go_ret
  exact ⟨rfl, bdrewN HB.out _⟩
set_option maxRecDepth 100000 in
set_option maxHeartbeats 4000000 in
theorem may_rated (s : ByteArray) (n a : Int) (p : ByteArray) (i : ByteArray) (v : Int) (w : World) (hs : nameB s = true) (hn : 1 ≤ n ∧ n ≤ 60) (ha : 0 ≤ a ∧ a ≤ 3000) (hp : nameB p = true) (hi : nameB i = true) (hv : 1 ≤ v ∧ v ≤ 5) :
    Calls Tryz.prog 18 #[.agg #[.string s, .int .i64 n, .int .i64 a, .int .i64 (4), .string p, .string i, .int .i64 v, .string ⟨#[]⟩]] w fun e w' => e = .returned (.bool true) ∧ Below w.heap.size w w' := by
  have HS := Lib.hid (fun W => name_true s W hs)
  have NZ : Hid (∀ W z r, ((z = p ∧ r = true) ∨ (z = i ∧ r = true)) → Calls Tryz.prog 21 #[.string z] W fun e w' => e = .returned (.bool r) ∧ w' = W) := Lib.hid (fun W z r hz => by
    rcases hz with ⟨rfl, rfl⟩ | ⟨rfl, rfl⟩
    · exact name_true _ _ hp
    · exact name_true _ _ hi)
  obtain ⟨hn1, hn2⟩ := hn
  obtain ⟨ha1, ha2⟩ := ha
  have n1 : ¬ n < 1 := by omega
  have n2 : ¬ 1099511627776 < n := by omega
  have a1 : ¬ a < 0 := by omega
  have a2 : ¬ 1099511627776 < a := by omega
  obtain ⟨hv1, hv2⟩ := hv
  have v1 : ¬ 1048576 < v := by omega
  clear hs hp hi
  have HB := Lib.hid ((Below.refl w.heap.size w).alloc (Nat.le_refl _) (.cells #[.string s, .int .i64 n, .int .i64 a, .int .i64 (4), .string p, .string i, .int .i64 v, .string ⟨#[]⟩] 60))
  go_enter Tryz.func18, Tryz.ntmps18
  go_wp2_with fail
  refine (HS.out _).mono ?_
  rintro e w1 ⟨rfl, rfl⟩
  go_wp2_with fail
  go_quiet ((go_at_call 21; refine Calls.quiet_of_same (NZ.out _ _ _ (by first | exact .inl ⟨rfl, rfl⟩ | exact .inr ⟨rfl, rfl⟩))))
  go_wp2_with fail
  go_ret
  exact ⟨rfl, bdrewN HB.out _⟩
set_option maxRecDepth 100000 in
set_option maxHeartbeats 4000000 in
theorem may_follow7 (s : ByteArray) (n a : Int) (p : ByteArray) (x : ByteArray) (w : World) (hs : nameB s = true) (hn : 1 ≤ n ∧ n ≤ 60) (ha : 0 ≤ a ∧ a ≤ 3000) (hp : nameB p = true) (hx : nameB x = true) :
    Calls Tryz.prog 18 #[.agg #[.string s, .int .i64 n, .int .i64 a, .int .i64 (7), .string p, .string ⟨#[]⟩, .int .i64 0, .string x]] w fun e w' => e = .returned (.bool true) ∧ Below w.heap.size w w' := by
  have HS := Lib.hid (fun W => name_true s W hs)
  have NZ : Hid (∀ W z r, ((z = p ∧ r = true) ∨ (z = ⟨#[]⟩ ∧ r = false)) → Calls Tryz.prog 21 #[.string z] W fun e w' => e = .returned (.bool r) ∧ w' = W) := Lib.hid (fun W z r hz => by
    rcases hz with ⟨rfl, rfl⟩ | ⟨rfl, rfl⟩
    · exact name_true _ _ hp
    · exact name_emp _)
  have HXN := Lib.hid (fun W => name_true x W hx)
  have hE : x.toList.isEmpty = false := by rw [emptyB, decide_eq_false (by have := nameB_size hx; intro e; subst e; exact absurd this.1 (by decide))]
  obtain ⟨hn1, hn2⟩ := hn
  obtain ⟨ha1, ha2⟩ := ha
  have n1 : ¬ n < 1 := by omega
  have n2 : ¬ 1099511627776 < n := by omega
  have a1 : ¬ a < 0 := by omega
  have a2 : ¬ 1099511627776 < a := by omega
  clear hs hp hx
  have HB := Lib.hid ((Below.refl w.heap.size w).alloc (Nat.le_refl _) (.cells #[.string s, .int .i64 n, .int .i64 a, .int .i64 (7), .string p, .string ⟨#[]⟩, .int .i64 0, .string x] 60))
  go_enter Tryz.func18, Tryz.ntmps18
  go_wp2_with fail
  refine (HS.out _).mono ?_
  rintro e w1 ⟨rfl, rfl⟩
  go_wp2_with fail
  go_quiet ((go_at_call 21; refine Calls.quiet_of_same (NZ.out _ _ _ (by first | exact .inl ⟨rfl, rfl⟩ | exact .inr ⟨rfl, rfl⟩))))
  go_wp2_with fail
  refine (HXN.out _).mono ?_
  rintro e w2 ⟨rfl, rfl⟩
  go_wp2_with fail
  go_ret
  exact ⟨rfl, bdrewN HB.out _⟩
set_option maxRecDepth 100000 in
set_option maxHeartbeats 4000000 in
theorem may_follow9 (s : ByteArray) (n a : Int) (p : ByteArray) (x : ByteArray) (w : World) (hs : nameB s = true) (hn : 1 ≤ n ∧ n ≤ 60) (ha : 0 ≤ a ∧ a ≤ 3000) (hp : nameB p = true) (hx : nameB x = true) :
    Calls Tryz.prog 18 #[.agg #[.string s, .int .i64 n, .int .i64 a, .int .i64 (9), .string p, .string ⟨#[]⟩, .int .i64 0, .string x]] w fun e w' => e = .returned (.bool true) ∧ Below w.heap.size w w' := by
  have HS := Lib.hid (fun W => name_true s W hs)
  have NZ : Hid (∀ W z r, ((z = p ∧ r = true) ∨ (z = ⟨#[]⟩ ∧ r = false)) → Calls Tryz.prog 21 #[.string z] W fun e w' => e = .returned (.bool r) ∧ w' = W) := Lib.hid (fun W z r hz => by
    rcases hz with ⟨rfl, rfl⟩ | ⟨rfl, rfl⟩
    · exact name_true _ _ hp
    · exact name_emp _)
  have HXN := Lib.hid (fun W => name_true x W hx)
  have hE : x.toList.isEmpty = false := by rw [emptyB, decide_eq_false (by have := nameB_size hx; intro e; subst e; exact absurd this.1 (by decide))]
  obtain ⟨hn1, hn2⟩ := hn
  obtain ⟨ha1, ha2⟩ := ha
  have n1 : ¬ n < 1 := by omega
  have n2 : ¬ 1099511627776 < n := by omega
  have a1 : ¬ a < 0 := by omega
  have a2 : ¬ 1099511627776 < a := by omega
  clear hs hp hx
  have HB := Lib.hid ((Below.refl w.heap.size w).alloc (Nat.le_refl _) (.cells #[.string s, .int .i64 n, .int .i64 a, .int .i64 (9), .string p, .string ⟨#[]⟩, .int .i64 0, .string x] 60))
  go_enter Tryz.func18, Tryz.ntmps18
  go_wp2_with fail
  refine (HS.out _).mono ?_
  rintro e w1 ⟨rfl, rfl⟩
  go_wp2_with fail
  go_quiet ((go_at_call 21; refine Calls.quiet_of_same (NZ.out _ _ _ (by first | exact .inl ⟨rfl, rfl⟩ | exact .inr ⟨rfl, rfl⟩))))
  go_wp2_with fail
  refine (HXN.out _).mono ?_
  rintro e w2 ⟨rfl, rfl⟩
  go_wp2_with fail
  go_ret
  exact ⟨rfl, bdrewN HB.out _⟩
set_option maxRecDepth 100000 in
set_option maxHeartbeats 4000000 in
theorem may_listed (s : ByteArray) (n a : Int) (i : ByteArray) (x : ByteArray) (v : Int) (w : World) (hs : nameB s = true) (hn : 1 ≤ n ∧ n ≤ 60) (ha : 0 ≤ a ∧ a ≤ 3000) (hi : nameB i = true) (hx : ∀ W, Below w.heap.size w W → Calls Tryz.prog 34 #[.string x] W fun e w' => e = .returned (.bool true) ∧ Below W.heap.size W w') (hv : 0 ≤ v ∧ v ≤ 255) :
    Calls Tryz.prog 18 #[.agg #[.string s, .int .i64 n, .int .i64 a, .int .i64 (11), .string ⟨#[]⟩, .string i, .int .i64 v, .string x]] w fun e w' => e = .returned (.bool true) ∧ Below w.heap.size w w' := by
  have HS := Lib.hid (fun W => name_true s W hs)
  have NZ : Hid (∀ W z r, ((z = ⟨#[]⟩ ∧ r = false) ∨ (z = i ∧ r = true)) → Calls Tryz.prog 21 #[.string z] W fun e w' => e = .returned (.bool r) ∧ w' = W) := Lib.hid (fun W z r hz => by
    rcases hz with ⟨rfl, rfl⟩ | ⟨rfl, rfl⟩
    · exact name_emp _
    · exact name_true _ _ hi)
  have HXL := Lib.hid hx
  obtain ⟨eb, hE⟩ : ∃ eb, x.toList.isEmpty = eb := ⟨_, rfl⟩
  obtain ⟨hn1, hn2⟩ := hn
  obtain ⟨ha1, ha2⟩ := ha
  have n1 : ¬ n < 1 := by omega
  have n2 : ¬ 1099511627776 < n := by omega
  have a1 : ¬ a < 0 := by omega
  have a2 : ¬ 1099511627776 < a := by omega
  obtain ⟨hv1, hv2⟩ := hv
  have v1 : ¬ 1048576 < v := by omega
  clear hs hi hx
  have HB := Lib.hid ((Below.refl w.heap.size w).alloc (Nat.le_refl _) (.cells #[.string s, .int .i64 n, .int .i64 a, .int .i64 (11), .string ⟨#[]⟩, .string i, .int .i64 v, .string x] 60))
  go_enter Tryz.func18, Tryz.ntmps18
  go_wp2_with fail
  refine (HS.out _).mono ?_
  rintro e w1 ⟨rfl, rfl⟩
  go_wp2_with fail
  go_quiet ((go_at_call 21; refine Calls.quiet_of_same (NZ.out _ _ _ (by first | exact .inl ⟨rfl, rfl⟩ | exact .inr ⟨rfl, rfl⟩))))
  go_wp2_with fail
  refine (HXL.out _ (bdrewN HB.out _)).mono ?_
  rintro e w2 ⟨rfl, b2⟩
  have HB2 := Lib.hid b2
  clear b2
  go_wp2_with fail
  go_ret
  exact ⟨rfl, (bdrewN HB.out _).trans (HB2.out.mono (bdrewN HB.out _).size)⟩
set_option maxRecDepth 100000 in
set_option maxHeartbeats 4000000 in
theorem may_stocked (s : ByteArray) (n a : Int) (i : ByteArray) (v : Int) (w : World) (hs : nameB s = true) (hn : 1 ≤ n ∧ n ≤ 60) (ha : 0 ≤ a ∧ a ≤ 3000) (hi : nameB i = true) (hv : 0 ≤ v ∧ v ≤ 2) :
    Calls Tryz.prog 18 #[.agg #[.string s, .int .i64 n, .int .i64 a, .int .i64 (12), .string ⟨#[]⟩, .string i, .int .i64 v, .string ⟨#[]⟩]] w fun e w' => e = .returned (.bool true) ∧ Below w.heap.size w w' := by
  have HS := Lib.hid (fun W => name_true s W hs)
  have NZ : Hid (∀ W z r, ((z = ⟨#[]⟩ ∧ r = false) ∨ (z = i ∧ r = true)) → Calls Tryz.prog 21 #[.string z] W fun e w' => e = .returned (.bool r) ∧ w' = W) := Lib.hid (fun W z r hz => by
    rcases hz with ⟨rfl, rfl⟩ | ⟨rfl, rfl⟩
    · exact name_emp _
    · exact name_true _ _ hi)
  obtain ⟨hn1, hn2⟩ := hn
  obtain ⟨ha1, ha2⟩ := ha
  have n1 : ¬ n < 1 := by omega
  have n2 : ¬ 1099511627776 < n := by omega
  have a1 : ¬ a < 0 := by omega
  have a2 : ¬ 1099511627776 < a := by omega
  obtain ⟨hv1, hv2⟩ := hv
  have v1 : ¬ 1048576 < v := by omega
  clear hs hi
  have HB := Lib.hid ((Below.refl w.heap.size w).alloc (Nat.le_refl _) (.cells #[.string s, .int .i64 n, .int .i64 a, .int .i64 (12), .string ⟨#[]⟩, .string i, .int .i64 v, .string ⟨#[]⟩] 60))
  go_enter Tryz.func18, Tryz.ntmps18
  go_wp2_with fail
  refine (HS.out _).mono ?_
  rintro e w1 ⟨rfl, rfl⟩
  go_wp2_with fail
  go_quiet ((go_at_call 21; refine Calls.quiet_of_same (NZ.out _ _ _ (by first | exact .inl ⟨rfl, rfl⟩ | exact .inr ⟨rfl, rfl⟩))))
  go_wp2_with fail
  go_ret
  exact ⟨rfl, bdrewN HB.out _⟩
set_option maxRecDepth 100000 in
set_option maxHeartbeats 4000000 in
theorem may_delisted (s : ByteArray) (n a : Int) (i : ByteArray) (w : World) (hs : nameB s = true) (hn : 1 ≤ n ∧ n ≤ 60) (ha : 0 ≤ a ∧ a ≤ 3000) (hi : nameB i = true) :
    Calls Tryz.prog 18 #[.agg #[.string s, .int .i64 n, .int .i64 a, .int .i64 (13), .string ⟨#[]⟩, .string i, .int .i64 0, .string ⟨#[]⟩]] w fun e w' => e = .returned (.bool true) ∧ Below w.heap.size w w' := by
  have HS := Lib.hid (fun W => name_true s W hs)
  have NZ : Hid (∀ W z r, ((z = ⟨#[]⟩ ∧ r = false) ∨ (z = i ∧ r = true)) → Calls Tryz.prog 21 #[.string z] W fun e w' => e = .returned (.bool r) ∧ w' = W) := Lib.hid (fun W z r hz => by
    rcases hz with ⟨rfl, rfl⟩ | ⟨rfl, rfl⟩
    · exact name_emp _
    · exact name_true _ _ hi)
  obtain ⟨hn1, hn2⟩ := hn
  obtain ⟨ha1, ha2⟩ := ha
  have n1 : ¬ n < 1 := by omega
  have n2 : ¬ 1099511627776 < n := by omega
  have a1 : ¬ a < 0 := by omega
  have a2 : ¬ 1099511627776 < a := by omega
  clear hs hi
  have HB := Lib.hid ((Below.refl w.heap.size w).alloc (Nat.le_refl _) (.cells #[.string s, .int .i64 n, .int .i64 a, .int .i64 (13), .string ⟨#[]⟩, .string i, .int .i64 0, .string ⟨#[]⟩] 60))
  go_enter Tryz.func18, Tryz.ntmps18
  go_wp2_with fail
  refine (HS.out _).mono ?_
  rintro e w1 ⟨rfl, rfl⟩
  go_wp2_with fail
  go_quiet ((go_at_call 21; refine Calls.quiet_of_same (NZ.out _ _ _ (by first | exact .inl ⟨rfl, rfl⟩ | exact .inr ⟨rfl, rfl⟩))))
  go_wp2_with fail
  go_ret
  exact ⟨rfl, bdrewN HB.out _⟩
theorem per_name {s : ByteArray} (h : PerT s) : nameB s = true := by obtain ⟨k, hk, e⟩ := h; rw [e]; exact (ok_p ⟨k, hk⟩).2
theorem item_name {s : ByteArray} (h : ItemT s) : nameB s = true := by obtain ⟨k, hk, e⟩ := h; rw [e]; exact (ok_i ⟨k, hk⟩).2
theorem mak_name {s : ByteArray} (h : MakT s) : nameB s = true := by obtain ⟨k, hk, e⟩ := h; rw [e]; exact (ok_m ⟨k, hk⟩).2
theorem src_name {e : Ev} (h : TaleEv e) : nameB e.src = true := by obtain ⟨k, hk, e'⟩ := h.src; rw [e']; exact (ok_s ⟨k, hk⟩).2
/-- any event of a tale may be -/
theorem may_any {e : Ev} (h : TaleEv e) (w : World) (hG : Glob w) : Calls Tryz.prog 18 #[evV e] w fun r w' => r = .returned (.bool true) ∧ Below w.heap.size w w' := by
  have hs := src_name h
  have hn := h.num
  have ha := h.at_
  obtain ⟨s, n, a, k, p, i, v, x⟩ := e
  cases h.shp with
  | plain hk hp hi hv hx =>
    simp only at hs hn ha hk hp hi hv hx
    subst hv hx
    rcases hk with rfl | rfl | rfl | rfl | rfl | rfl
    · exact may_plain0 s n a p i w hs hn ha (per_name hp) (item_name hi)
    · exact may_plain1 s n a p i w hs hn ha (per_name hp) (item_name hi)
    · exact may_plain2 s n a p i w hs hn ha (per_name hp) (item_name hi)
    · exact may_plain3 s n a p i w hs hn ha (per_name hp) (item_name hi)
    · exact may_plain5 s n a p i w hs hn ha (per_name hp) (item_name hi)
    · exact may_plain6 s n a p i w hs hn ha (per_name hp) (item_name hi)
  | rated hk hp hi hv hx =>
    simp only at hs hn ha hk hp hi hv hx
    subst hx hk
    exact may_rated s n a p i v w hs hn ha (per_name hp) (item_name hi) hv
  | follow hk hp hi hv hx =>
    simp only at hs hn ha hk hp hi hv hx
    subst hv hi
    rcases hk with rfl | rfl
    · exact may_follow7 s n a p x w hs hn ha (per_name hp) (mak_name hx)
    · exact may_follow9 s n a p x w hs hn ha (per_name hp) (mak_name hx)
  | listed hk hp hi hv hx =>
    simp only at hs hn ha hk hp hi hv hx
    subst hk hp
    obtain ⟨m, b0, b1, b2, ⟨j, hj, rfl⟩, rfl⟩ := hx
    exact may_listed s n a i _ v w hs hn ha (item_name hi) (fun W hW => listing_any j hj b0 b1 b2 W (hG.bel hW)) hv
  | stocked hk hp hi hv hx =>
    simp only at hs hn ha hk hp hi hv hx
    subst hk hp hx
    exact may_stocked s n a i v w hs hn ha (item_name hi) hv
  | delisted hk hp hi hv hx =>
    simp only at hs hn ha hk hp hi hv hx
    subst hk hp hx hv
    exact may_delisted s n a i w hs hn ha (item_name hi)
end Tl
end Go.Proofs.YtkofcegdoilaeaaGreatDoor
namespace Go.Proofs.YtkofcegdoilaeaaGreatDoor
open Go.RowKit Go.MapKept Go.Maps
set_option linter.unusedVariables false
/-- bytes as values -/
def byV (c : UInt8) : Value := .int .u8 (c.toNat : Int)
def bV (s : ByteArray) : List Value := s.data.toList.map byV
theorem bV_len (s : ByteArray) : (bV s).length = s.size := by simp [bV]
structure FileR (w : World) (q : Nat) (v : Value) (f : Fl) : Prop where
  bk : Bk w q [v, .int .i64 f.lasts, .bool f.stays] 77
  row : w.ownsRow 0 5 1 v f.s.size (bV f.s)
abbrev FM := List (ByteArray × (Nat × Value × Fl))
def fblocks (x : ByteArray × (Nat × Value × Fl)) : List Nat := x.2.1 :: x.2.2.1.ownBlock.toList
def dblocks (d m : Nat) (M : FM) : List Nat := d :: m :: M.flatMap fblocks
def ptrM (M : FM) : List (ByteArray × Value) := M.map fun x => (x.1, Value.pointer (some ⟨x.2.1, 0, none⟩))
structure DiskR (w : World) (d m : Nat) (M : FM) (used : Int) (lit : Bool) (fuse : Int) (down : Bool) : Prop where
  bk : Bk w d [.map (some m), .int .i64 used, .bool lit, .int .i64 fuse, .bool down] 65
  mp : Mp encS okS w m (ptrM M)
  fl : ∀ x ∈ M, FileR w x.2.1 x.2.2.1 x.2.2.2
  nd : (dblocks d m M).Nodup
section
variable {w w' : World} {d m : Nat} {M : FM} {used : Int} {lit : Bool} {fuse : Int} {down : Bool}
theorem FileR.fr {S : Nat → Prop} {q : Nat} {v : Value} {f : Fl} (h : FileR w q v f) (hf : Fr S w w') (hq : ¬ S q) (hv : ∀ b, v.ownBlock = some b → ¬ S b) : FileR w' q v f := ⟨h.bk.fr hf hq, hf.row h.row hv⟩
theorem mem_fblocks {x : ByteArray × (Nat × Value × Fl)} (hx : x ∈ M) : x.2.1 ∈ dblocks d m M ∧ ∀ b, x.2.2.1.ownBlock = some b → b ∈ dblocks d m M := by
  unfold dblocks
  refine ⟨?_, fun b hb => ?_⟩
  · simp only [List.mem_cons, List.mem_flatMap]; exact .inr (.inr ⟨x, hx, by simp [fblocks]⟩)
  · simp only [List.mem_cons, List.mem_flatMap]; exact .inr (.inr ⟨x, hx, by simp [fblocks, hb]⟩)
theorem DiskR.fr {S : Nat → Prop} (h : DiskR w d m M used lit fuse down) (hf : Fr S w w') (hs : ∀ b ∈ dblocks d m M, ¬ S b) : DiskR w' d m M used lit fuse down :=
  ⟨h.bk.fr hf (hs d (by simp [dblocks])), h.mp.fr hf (hs m (by simp [dblocks])), fun x hx => (h.fl x hx).fr hf (hs _ (mem_fblocks hx).1) (fun b hb => hs b ((mem_fblocks hx).2 b hb)), h.nd⟩
theorem DiskR.bel (h : DiskR w d m M used lit fuse down) (hb : Below w.heap.size w w') : DiskR w' d m M used lit fuse down := h.fr (Fr.of_bel (S := none') hb) (fun _ _ => id)
theorem DiskR.lt (h : DiskR w d m M used lit fuse down) : ∀ b ∈ dblocks d m M, b < w.heap.size := fun b hb => by
  simp only [dblocks, List.mem_cons, List.mem_flatMap] at hb
  rcases hb with rfl | rfl | ⟨x, hx, hb⟩
  · exact h.bk.lt
  · exact h.mp.lt
  · simp only [fblocks, List.mem_cons] at hb
    rcases hb with rfl | hb
    · exact (h.fl x hx).bk.lt
    · exact own_lt (h.fl x hx).row (Option.mem_toList.1 hb)
theorem ptr_keys (M : FM) : mkeys (ptrM M) = mkeys M := by unfold ptrM mkeys; rw [List.map_map]; rfl
theorem DiskR.keys (h : DiskR w d m M used lit fuse down) : (mkeys M).Nodup := by have := h.mp.nd; rw [ptr_keys] at this; exact this
theorem ptr_get (M : FM) (n : ByteArray) : mget (ptrM M) n = (mget M n).map fun x => Value.pointer (some ⟨x.1, 0, none⟩) := by
  induction M with
  | nil => rfl
  | cons p M ih =>
    unfold ptrM at ih ⊢
    simp only [List.map_cons, mget, ih]
    split <;> rfl
theorem ptr_put (M : FM) (n : ByteArray) (x : Nat × Value × Fl) : mput (ptrM M) n (.pointer (some ⟨x.1, 0, none⟩)) = ptrM (mput M n x) := by
  induction M with
  | nil => rfl
  | cons p M ih =>
    unfold ptrM at ih ⊢
    simp only [List.map_cons, mput, ih]
    split <;> rfl
theorem ptr_del (M : FM) (n : ByteArray) : mdel (ptrM M) n = ptrM (mdel M n) := by
  induction M with
  | nil => rfl
  | cons p M ih =>
    unfold ptrM at ih ⊢
    simp only [List.map_cons, mdel, ih]
    split <;> rfl
end
/-- where a key stands -/
theorem split_get {β : Type} {M : List (ByteArray × β)} {n : ByteArray} {x : β} (hg : mget M n = some x) : ∃ M1 M2, M = M1 ++ (n, x) :: M2 ∧ (∀ y, mput M n y = M1 ++ (n, y) :: M2) ∧ mdel M n = M1 ++ M2 := by
  induction M with
  | nil => cases hg
  | cons p M ih =>
    rw [mget] at hg
    by_cases e : p.1 = n
    · rw [if_pos e] at hg
      cases hg
      refine ⟨[], M, ?_, fun y => ?_, ?_⟩
      · rw [← e]; rfl
      · rw [mput, if_pos e]; rfl
      · rw [mdel, if_pos e]; rfl
    · rw [if_neg e] at hg
      obtain ⟨M1, M2, h1, h2, h3⟩ := ih hg
      refine ⟨p :: M1, M2, by rw [h1]; rfl, fun y => ?_, ?_⟩
      · rw [mput, if_neg e, h2]; rfl
      · rw [mdel, if_neg e, h3]; rfl
theorem put_none {β : Type} {M : List (ByteArray × β)} {n : ByteArray} (hg : mget M n = none) (y : β) : mput M n y = M ++ [(n, y)] := by
  induction M with
  | nil => rfl
  | cons p M ih =>
    rw [mget] at hg
    by_cases e : p.1 = n
    · rw [if_pos e] at hg; cases hg
    · rw [if_neg e] at hg
      rw [mput, if_neg e, ih hg]; rfl
theorem sub_flat {α : Type} {f : α → List Nat} {l k : List α} (h : l.Sublist k) : (l.flatMap f).Sublist (k.flatMap f) := by
  induction h with
  | slnil => exact List.Sublist.refl _
  | cons a _ ih => rw [List.flatMap_cons]; exact ih.trans (List.sublist_append_right _ _)
  | cons_cons a _ ih => rw [List.flatMap_cons, List.flatMap_cons]; exact (List.Sublist.refl _).append ih
theorem nodup_mid {A o o' C : List Nat} {N : Nat} (h : (A ++ o ++ C).Nodup) (hlt : ∀ b ∈ A ++ o ++ C, b < N) (ho : o' = o ∨ (o'.Nodup ∧ ∀ b ∈ o', b ∈ o ∨ N ≤ b)) : (A ++ o' ++ C).Nodup := by
  rcases ho with rfl | ⟨hn, hs⟩
  · exact h
  · rw [List.append_assoc, List.nodup_append] at h ⊢
    obtain ⟨h1, h2, h3⟩ := h
    rw [List.nodup_append] at h2 ⊢
    obtain ⟨h4, h5, h6⟩ := h2
    refine ⟨h1, ⟨hn, h5, fun a ha b hb => ?_⟩, fun a ha b hb => ?_⟩
    · rcases hs a ha with h | h
      · exact h6 a h b hb
      · intro e; have := hlt b (by simp [hb]); omega
    · rcases List.mem_append.1 hb with hb | hb
      · rcases hs b hb with h | h
        · exact h3 a ha b (by simp [h])
        · intro e; have := hlt a (by simp [ha]); omega
      · exact h3 a ha b (by simp [hb])
section
variable {w w' : World} {d m : Nat} {M : FM} {used : Int} {lit : Bool} {fuse : Int} {down : Bool}
/-- a file is written -/
theorem DiskR.set (h : DiskR w d m M used lit fuse down) {n : ByteArray} {q : Nat} {v v' : Value} {g g' : Fl} (hg : mget M n = some (q, v, g)) (hf : Fr (fun b => b = q ∨ v.ownBlock = some b) w w')
    (hr : FileR w' q v' g') (hv : v'.ownBlock = v.ownBlock ∨ ∃ b, v'.ownBlock = some b ∧ w.heap.size ≤ b) :
    DiskR w' d m (mput M n (q, v', g')) used lit fuse down ∧ ∀ b ∈ dblocks d m (mput M n (q, v', g')), b ∈ dblocks d m M ∨ w.heap.size ≤ b := by
  have hlt := h.lt
  obtain ⟨M1, M2, e1, e2, _⟩ := split_get hg
  have hB : ∀ y, dblocks d m (M1 ++ (n, y) :: M2) = (d :: m :: M1.flatMap fblocks) ++ fblocks (n, y) ++ M2.flatMap fblocks := fun y => by simp [dblocks]
  have nd := h.nd
  rw [e1, hB] at nd
  have hlt2 := hlt
  rw [e1, hB] at hlt2
  have ho : fblocks (n, (q, v', g')) = fblocks (n, (q, v, g)) ∨ ((fblocks (n, (q, v', g'))).Nodup ∧ ∀ b ∈ fblocks (n, (q, v', g')), b ∈ fblocks (n, (q, v, g)) ∨ w.heap.size ≤ b) := by
    rcases hv with e | ⟨b, hb, hge⟩
    · left; simp [fblocks, e]
    · right
      have hq := hlt2 q (by simp [fblocks])
      refine ⟨by simp [fblocks, hb]; omega, fun c hc => ?_⟩
      simp only [fblocks, hb, Option.toList_some, List.mem_cons, List.not_mem_nil, or_false] at hc
      rcases hc with rfl | rfl
      · left; simp [fblocks]
      · exact .inr hge
  have hnd := nodup_mid nd hlt2 ho
  have hsp : ∀ b ∈ dblocks d m (mput M n (q, v', g')), b ∈ dblocks d m M ∨ w.heap.size ≤ b := fun b hb => by
    rw [e2, hB] at hb
    rw [e1, hB]
    rcases List.mem_append.1 hb with hb | hb
    · rcases List.mem_append.1 hb with hb | hb
      · exact .inl (by simp only [List.mem_append]; exact .inl (.inl hb))
      · rcases ho with e | ⟨_, ho⟩
        · rw [e] at hb; exact .inl (by simp only [List.mem_append]; exact .inl (.inr hb))
        · rcases ho b hb with h | h
          · exact .inl (by simp only [List.mem_append]; exact .inl (.inr h))
          · exact .inr h
    · exact .inl (by simp only [List.mem_append]; exact .inr hb)
  have nd' : ∀ b, (b = q ∨ v.ownBlock = some b) → b ∉ d :: m :: M1.flatMap fblocks ∧ b ∉ M2.flatMap fblocks := fun b hb => by
    have hm : b ∈ fblocks (n, (q, v, g)) := by
      rcases hb with rfl | hb
      · simp [fblocks]
      · simp [fblocks, hb]
    rw [List.append_assoc, List.nodup_append] at nd
    refine ⟨fun c => nd.2.2 b c b (by simp [hm]) rfl, fun c => ?_⟩
    exact (List.nodup_append.1 nd.2.1).2.2 b hm b c rfl
  have hout : ∀ x, (x ∈ M1 ∨ x ∈ M2) → x ∈ M := fun x hx => by rw [e1]; rcases hx with hx | hx <;> simp [hx]
  refine ⟨⟨h.bk.fr hf (fun c => (nd' d c).1 (by simp)), ?_, fun x hx => ?_, ?_⟩, hsp⟩
  · have := h.mp.fr hf (fun c => (nd' m c).1 (by simp))
    have e3 : ptrM (mput M n (q, v', g')) = ptrM M := by rw [e2]; conv => rhs; rw [e1]
                                                         simp [ptrM]
    rw [e3]; exact this
  · rw [e2] at hx
    rcases List.mem_append.1 hx with hx | hx
    · refine (h.fl x (hout x (.inl hx))).fr hf (fun c => (nd' _ c).1 ?_) (fun b hb c => (nd' _ c).1 ?_)
      · simp only [List.mem_cons, List.mem_flatMap]; exact .inr (.inr ⟨x, hx, by simp [fblocks]⟩)
      · simp only [List.mem_cons, List.mem_flatMap]; exact .inr (.inr ⟨x, hx, by simp [fblocks, hb]⟩)
    · rcases List.mem_cons.1 hx with rfl | hx
      · exact hr
      · refine (h.fl x (hout x (.inr hx))).fr hf (fun c => (nd' _ c).2 ?_) (fun b hb c => (nd' _ c).2 ?_)
        · simp only [List.mem_flatMap]; exact ⟨x, hx, by simp [fblocks]⟩
        · simp only [List.mem_flatMap]; exact ⟨x, hx, by simp [fblocks, hb]⟩
  · rw [e2, hB]; exact hnd
/-- a file that is new -/
theorem DiskR.add {w1 : World} (h : DiskR w d m M used lit fuse down) {n : ByteArray} (hg : mget M n = none) {q : Nat} {v : Value} {g : Fl} (hb : Below w.heap.size w w1) (hr : FileR w1 q v g) (hq : w.heap.size ≤ q) (hv : ∀ b, v.ownBlock = some b → w.heap.size ≤ b ∧ b ≠ q)
    (m1 : Mp encS okS w' m (mput (ptrM M) n (.pointer (some ⟨q, 0, none⟩)))) (hf : Fr (fun b => b = m) w1 w') :
    DiskR w' d m (mput M n (q, v, g)) used lit fuse down ∧ ∀ b ∈ dblocks d m (mput M n (q, v, g)), b ∈ dblocks d m M ∨ w.heap.size ≤ b := by
  have hlt := h.lt
  have hml := hlt m (by simp [dblocks])
  have e2 := put_none hg (q, v, g)
  have hB : dblocks d m (M ++ [(n, (q, v, g))]) = dblocks d m M ++ fblocks (n, (q, v, g)) := by simp [dblocks]
  have hnew : ∀ b ∈ fblocks (n, (q, v, g)), w.heap.size ≤ b := fun b hb => by
    simp only [fblocks, List.mem_cons, Option.mem_toList] at hb
    rcases hb with rfl | hb
    · exact hq
    · exact (hv b hb).1
  have h1 := h.bel hb
  have nd := h.nd
  have hdm : d ≠ m := by simp only [dblocks, List.nodup_cons, List.mem_cons, not_or] at nd; exact nd.1.1
  have hmf : ∀ x ∈ M, x.2.1 ≠ m ∧ ∀ b, x.2.2.1.ownBlock = some b → b ≠ m := fun x hx => by
    simp only [dblocks, List.nodup_cons, List.mem_cons, not_or] at nd
    refine ⟨fun e => nd.2.1 (List.mem_flatMap.2 ⟨x, hx, by simp [fblocks, e]⟩), fun b hb e => nd.2.1 (List.mem_flatMap.2 ⟨x, hx, by simp [fblocks, hb, e]⟩)⟩
  refine ⟨⟨h1.bk.fr hf hdm, by rw [← ptr_put]; exact m1, fun x hx => ?_, ?_⟩, fun b hb => ?_⟩
  · rw [e2] at hx
    rcases List.mem_append.1 hx with hx | hx
    · exact (h1.fl x hx).fr hf (hmf x hx).1 (hmf x hx).2
    · simp at hx; subst hx
      exact hr.fr hf (by omega) (fun b hb => by have := (hv b hb).1; omega)
  · rw [e2, hB, List.nodup_append]
    refine ⟨nd, ?_, fun a ha b hb e => by have := hlt a ha; have := hnew b hb; omega⟩
    simp only [fblocks, List.nodup_cons, Option.mem_toList]
    refine ⟨fun c => (hv q c).2 rfl, ?_⟩
    cases v.ownBlock <;> simp
  · rw [e2, hB] at hb
    rcases List.mem_append.1 hb with hb | hb
    · exact .inl hb
    · exact .inr (hnew b hb)
/-- a file that goes -/
theorem DiskR.del (h : DiskR w d m M used lit fuse down) {n : ByteArray} (m1 : Mp encS okS w' m (mdel (ptrM M) n)) (hf : Fr (fun b => b = m) w w') :
    DiskR w' d m (mdel M n) used lit fuse down ∧ ∀ b ∈ dblocks d m (mdel M n), b ∈ dblocks d m M := by
  have nd := h.nd
  have hsub : (dblocks d m (mdel M n)).Sublist (dblocks d m M) := by
    unfold dblocks
    refine List.Sublist.cons_cons _ (List.Sublist.cons_cons _ ?_)
    exact sub_flat (del_sub M n)
  have hdm : d ≠ m := by simp only [dblocks, List.nodup_cons, List.mem_cons, not_or] at nd; exact nd.1.1
  have hmf : ∀ x ∈ M, x.2.1 ≠ m ∧ ∀ b, x.2.2.1.ownBlock = some b → b ≠ m := fun x hx => by
    simp only [dblocks, List.nodup_cons, List.mem_cons, not_or] at nd
    refine ⟨fun e => nd.2.1 (List.mem_flatMap.2 ⟨x, hx, by simp [fblocks, e]⟩), fun b hb e => nd.2.1 (List.mem_flatMap.2 ⟨x, hx, by simp [fblocks, hb, e]⟩)⟩
  refine ⟨⟨h.bk.fr hf hdm, by rw [← ptr_del]; exact m1, fun x hx => ?_, hsub.nodup nd⟩, fun b hb => hsub.subset hb⟩
  have hx' := (del_sub M n).subset hx
  exact (h.fl x hx').fr hf (hmf x hx').1 (hmf x hx').2
/-- the struct's own fields -/
theorem DiskR.own (h : DiskR w d m M used lit fuse down) {used' : Int} {lit' : Bool} {fuse' : Int} {down' : Bool} (hb : Bk w' d [.map (some m), .int .i64 used', .bool lit', .int .i64 fuse', .bool down'] 65) (hf : Fr (fun b => b = d) w w') : DiskR w' d m M used' lit' fuse' down' := by
  have nd := h.nd
  simp only [dblocks, List.nodup_cons, List.mem_cons, not_or] at nd
  refine ⟨hb, h.mp.fr hf (fun e => nd.1.1 e.symm), fun x hx => (h.fl x hx).fr hf (fun e => nd.1.2 ?_) (fun b hb e => nd.1.2 ?_), h.nd⟩
  · exact List.mem_flatMap.2 ⟨x, hx, by simp [fblocks, e]⟩
  · exact List.mem_flatMap.2 ⟨x, hx, by simp [fblocks, hb, e]⟩
end
/-- a disk at d that is X -/
structure DiskAt (w : World) (d : Nat) (B : List Nat) (X : Dk) : Prop where
  ok : DkOk X
  ex : ∃ m M, B = dblocks d m M ∧ DiskR w d m M (fsum X.L) (decide (0 ≤ X.fuse)) (max X.fuse 0) X.down ∧ ∀ n, (mget M n).map (·.2.2) = mget X.L n
theorem DiskAt.fr {S : Nat → Prop} {w w' : World} {d : Nat} {B : List Nat} {X : Dk} (h : DiskAt w d B X) (hf : Fr S w w') (hs : ∀ b ∈ B, ¬ S b) : DiskAt w' d B X := by
  obtain ⟨m, M, rfl, h1, h2⟩ := h.ex
  exact ⟨h.ok, m, M, rfl, h1.fr hf hs, h2⟩
theorem DiskAt.bel {w w' : World} {d : Nat} {B : List Nat} {X : Dk} (h : DiskAt w d B X) (hb : Below w.heap.size w w') : DiskAt w' d B X := h.fr (Fr.of_bel (S := none') hb) (fun _ _ => id)
theorem DiskAt.lt {w : World} {d : Nat} {B : List Nat} {X : Dk} (h : DiskAt w d B X) : ∀ b ∈ B, b < w.heap.size := by
  obtain ⟨m, M, rfl, h1, h2⟩ := h.ex
  exact h1.lt
theorem keys_same {M : FM} {L : Fs} (hn : (mkeys M).Nodup) (hL : RiseF L) (h : ∀ n, (mget M n).map (·.2.2) = mget L n) : (mkeys M).Perm (fnames L) := by
  refine List.perm_ext_iff_of_nodup hn hL.nodup |>.2 (fun n => ?_)
  have key : ∀ {β : Type} (A : List (ByteArray × β)), n ∈ mkeys A ↔ (mget A n).isSome = true := fun {β} A => by
    induction A with
    | nil => simp [mkeys, mget]
    | cons p A ih =>
      unfold mkeys at ih ⊢
      rw [List.map_cons, List.mem_cons, mget]
      by_cases e : p.1 = n
      · simp [e]
      · rw [if_neg e, ← ih]
        exact ⟨fun h => h.resolve_left (fun c => e c.symm), .inr⟩
  rw [key M]
  have := key L
  rw [this, ← h n]
  cases mget M n <;> rfl
theorem len_same {M : FM} {L : Fs} (hn : (mkeys M).Nodup) (hL : RiseF L) (h : ∀ n, (mget M n).map (·.2.2) = mget L n) : M.length = L.length := by
  have := (keys_same hn hL h).length_eq
  simpa [mkeys, fnames] using this
end Go.Proofs.YtkofcegdoilaeaaGreatDoor
namespace Go.Proofs.YtkofcegdoilaeaaGreatDoor
open Go.RowKit Go.MapKept Go.Maps
set_option linter.unusedVariables false
set_option maxHeartbeats 400000 in
theorem new_any (w : World) :
    Calls Tryz.prog 6 #[] w fun e w' => ∃ d, e = .returned (.pointer (some ⟨d, 0, none⟩)) ∧ DiskAt w' d [d, w.heap.size] newD ∧ w.heap.size ≤ d ∧ Below w.heap.size w w' := by
  have hmm := @run_makeMap Tryz.prog
  have hb : Bk ((w.alloc (.map #[] 0)).alloc (.cells #[.map (some w.heap.size), .int .i64 0, .bool false, .int .i64 0, .bool false] 65)) (w.heap.size + 1) [.map (some w.heap.size), .int .i64 0, .bool false, .int .i64 0, .bool false] 65 := bk_at _ _ (by simp)
  have hA : DiskAt ((w.alloc (.map #[] 0)).alloc (.cells #[.map (some w.heap.size), .int .i64 0, .bool false, .int .i64 0, .bool false] 65)) (w.heap.size + 1) [w.heap.size + 1, w.heap.size] newD :=
    ⟨⟨RiseF.nil, by simp [newD, fsum], (fun p h => by cases h), (fun p h => by cases h), by decide, by decide, by decide⟩, w.heap.size, [], rfl, ⟨hb, (Mp.made w).bel ((Below.refl _ _).alloc (Nat.le_refl _) _), (fun x h => by cases h), by simp [dblocks]⟩, fun n => rfl⟩
  have HA := Lib.hid hA
  have HB := Lib.hid (((Below.refl w.heap.size w).alloc (Nat.le_refl _) (.map #[] 0)).alloc (by simp) (.cells #[.map (some w.heap.size), .int .i64 0, .bool false, .int .i64 0, .bool false] 65))
  clear hA hb
  go_enter Tryz.func6, Tryz.ntmps6
  go_wp2_with fail
  go_ret
  exact ⟨w.heap.size + 1, rfl, HA.out, by omega, HB.out⟩
section
variable {w : World} {d m : Nat} {M : FM} {used : Int} {lit : Bool} {fuse : Int} {down : Bool}
theorem DiskR.cells (h : DiskR w d m M used lit fuse down) : w.cell? ⟨d, 0, none⟩ = some (.map (some m)) ∧ w.cell? ⟨d, 1, none⟩ = some (.int .i64 used) ∧ w.cell? ⟨d, 2, none⟩ = some (.bool lit) ∧ w.cell? ⟨d, 3, none⟩ = some (.int .i64 fuse) ∧ w.cell? ⟨d, 4, none⟩ = some (.bool down) :=
  ⟨h.bk.cell 0, h.bk.cell 1, h.bk.cell 2, h.bk.cell 3, h.bk.cell 4⟩
theorem zeroPtr (w : World) : (zeroValue 75).run Tryz.prog w = .ok (.pointer none) w := by kernel_rfl
def ptrOf (o : Option (Nat × Value × Fl)) : Value := .pointer (o.map fun x => ⟨x.1, 0, none⟩)
/-- 'f, ok := d.files[name]' -/
theorem DiskR.look (h : DiskR w d m M used lit fuse down) (n : ByteArray) (hn : n.size ≤ 1000) :
    (Instr.lookup 63 (.map (some m)) (.string n) true).run Tryz.prog w = .ok (.tuple #[ptrOf (mget M n), .bool (mget M n).isSome]) w := by
  have := h.mp.look (P := Tryz.prog) keyS Tryz.underlying63 (zeroPtr w) (a := n) (by unfold okS maxLen; omega) true
  rw [ptr_get] at this
  cases he : mget M n <;> simpa [he, encS, ptrOf] using this
theorem DiskR.look1 (h : DiskR w d m M used lit fuse down) (n : ByteArray) (hn : n.size ≤ 1000) :
    (Instr.lookup 63 (.map (some m)) (.string n) false).run Tryz.prog w = .ok (ptrOf (mget M n)) w := by
  have := h.mp.look (P := Tryz.prog) keyS Tryz.underlying63 (zeroPtr w) (a := n) (by unfold okS maxLen; omega) false
  rw [ptr_get] at this
  cases he : mget M n <;> simpa [he, encS, ptrOf] using this
theorem down_any (h : DiskR w d m M used lit fuse down) :
    Calls Tryz.prog 22 #[.pointer (some ⟨d, 0, none⟩)] w fun e w' => e = .returned (.bool down) ∧ w = w' := by
  obtain ⟨c0, c1, c2, c3, c4⟩ := h.cells
  clear h
  go_enter Tryz.func22, Tryz.ntmps22
  go_wp2_with fail
  go_ret
  exact ⟨rfl, rfl⟩
/-- what is wrong with a name -/
def askN (down : Bool) (n : ByteArray) : Int := if down then 8 else if nameD n then 0 else 1
set_option maxHeartbeats 1000000 in
theorem asked_any (h : DiskR w d m M used lit fuse down) (n : ByteArray) (hn : n.size ≤ 1000) :
    Calls Tryz.prog 45 #[.pointer (some ⟨d, 0, none⟩), .string n] w fun e w' => e = .returned (.int .i64 (askN down n)) ∧ w = w' := by
  obtain ⟨c0, c1, c2, c3, c4⟩ := h.cells
  clear h
  obtain ⟨r, hr⟩ : ∃ r, askN down n = r := ⟨_, rfl⟩
  rw [hr]
  have HR := Lib.hid hr
  clear hr
  unfold askN nameD at HR
  cases down with
  | true =>
    have e : r = 8 := by rw [← HR.out]; rfl
    subst e
    go_enter Tryz.func45, Tryz.ntmps45
    go_wp2_with fail
    go_ret
    exact ⟨rfl, rfl⟩
  | false =>
    by_cases h1 : n.size < 1
    · have e : r = 1 := by rw [← HR.out, decide_eq_false (show ¬ 1 ≤ n.size by omega)]; rfl
      subst e
      have t1 : decide ((n.size : Int) < 1) = true := decide_eq_true (by omega)
      go_enter Tryz.func45, Tryz.ntmps45
      go_wp2_with fail
      go_ret
      exact ⟨rfl, rfl⟩
    · have t1 : decide ((n.size : Int) < 1) = false := decide_eq_false (by omega)
      by_cases h2 : 64 < n.size
      · have e : r = 1 := by rw [← HR.out, decide_eq_false (show ¬ n.size ≤ 64 by omega), Bool.and_false]; rfl
        subst e
        have t2 : decide ((64 : Int) < (n.size : Int)) = true := decide_eq_true (by omega)
        go_enter Tryz.func45, Tryz.ntmps45
        go_wp2_with fail
        go_ret
        exact ⟨rfl, rfl⟩
      · have e : r = 0 := by rw [← HR.out, decide_eq_true (show 1 ≤ n.size by omega), decide_eq_true (show n.size ≤ 64 by omega)]; rfl
        subst e
        have t2 : decide ((64 : Int) < (n.size : Int)) = false := decide_eq_false (by omega)
        go_enter Tryz.func45, Tryz.ntmps45
        go_wp2_with fail
        go_ret
        exact ⟨rfl, rfl⟩
/-- is there no room? -/
def fullN (used more : Int) (there : Bool) (n : Nat) : Bool := decide (4194304 < used + more) || (!there && decide (4096 ≤ n))
set_option maxHeartbeats 1000000 in
theorem full_any (h : DiskR w d m M used lit fuse down) (n : ByteArray) (more : Int) (hn : n.size ≤ 1000) (h1 : -10000000 ≤ used ∧ used ≤ 10000000) (h2 : -10000000 ≤ more ∧ more ≤ 10000000) (hl : M.length ≤ 1000000) :
    Calls Tryz.prog 46 #[.pointer (some ⟨d, 0, none⟩), .string n, .int .i64 more] w fun e w' => e = .returned (.bool (fullN used more (mget M n).isSome M.length)) ∧ w = w' := by
  obtain ⟨c0, c1, c2, c3, c4⟩ := h.cells
  have hlk := h.look n hn
  have hln : ∀ ty, (Builtin.len_ #[63] ty #[.map (some m)]).run Tryz.prog w = .ok (.int .i64 M.length) w := fun ty => by
    have := h.mp.len (P := Tryz.prog) Tryz.underlying63 ty
    rw [show (ptrM M).length = M.length by simp [ptrM]] at this
    exact this
  obtain ⟨r, hr⟩ : ∃ r, fullN used more (mget M n).isSome M.length = r := ⟨_, rfl⟩
  rw [hr]
  have HR := Lib.hid hr
  clear hr h
  unfold fullN at HR
  obtain ⟨pv, hpv⟩ : ∃ pv, ptrOf (mget M n) = pv := ⟨_, rfl⟩
  rw [hpv] at hlk
  clear hpv
  have q1 : IntKind.i64.wrap (used + more) = used + more := IntWalk.i64_in _ (by omega)
  generalize M.length = ml at *
  cases hs : (mget M n).isSome with
  | true =>
    rw [hs] at hlk HR
    by_cases hc : 4194304 < used + more
    · have e : r = true := by rw [← HR.out, decide_eq_true hc]; rfl
      subst e
      have t1 : decide (4194304 < used + more) = true := decide_eq_true hc
      clear hs HR
      go_enter Tryz.func46, Tryz.ntmps46
      go_wp2_with fail
      go_ret
      exact ⟨rfl, rfl⟩
    · have e : r = false := by rw [← HR.out, decide_eq_false hc]; rfl
      subst e
      have t1 : decide (4194304 < used + more) = false := decide_eq_false hc
      clear hs HR
      go_enter Tryz.func46, Tryz.ntmps46
      go_wp2_with fail
      go_ret
      exact ⟨rfl, rfl⟩
  | false =>
    rw [hs] at hlk HR
    by_cases hc : 4194304 < used + more
    · have e : r = true := by rw [← HR.out, decide_eq_true hc]; rfl
      subst e
      have t1 : decide (4194304 < used + more) = true := decide_eq_true hc
      clear hs HR
      go_enter Tryz.func46, Tryz.ntmps46
      go_wp2_with fail
      go_ret
      exact ⟨rfl, rfl⟩
    · have t1 : decide (4194304 < used + more) = false := decide_eq_false hc
      by_cases hm : 4096 ≤ ml
      · have e : r = true := by rw [← HR.out, t1, decide_eq_true hm]; rfl
        subst e
        have t2 : decide ((4096 : Int) ≤ (ml : Int)) = true := decide_eq_true (by omega)
        have t2' : decide (4096 ≤ ml) = true := decide_eq_true hm
        clear hs HR
        go_enter Tryz.func46, Tryz.ntmps46
        go_wp2_with fail
        go_ret
        exact ⟨rfl, rfl⟩
      · have e : r = false := by rw [← HR.out, t1, decide_eq_false hm]; rfl
        subst e
        have t2 : decide ((4096 : Int) ≤ (ml : Int)) = false := decide_eq_false (by omega)
        have t2' : decide (4096 ≤ ml) = false := decide_eq_false hm
        clear hs HR
        go_enter Tryz.func46, Tryz.ntmps46
        go_wp2_with fail
        go_ret
        exact ⟨rfl, rfl⟩
set_option maxHeartbeats 1000000 in
theorem step_any (h : DiskR w d m M used lit fuse down) (hf : 0 ≤ fuse ∧ fuse ≤ 9223372036854775807) :
    Calls Tryz.prog 47 #[.pointer (some ⟨d, 0, none⟩)] w fun e w' => e = .returned (.bool (!lit || !decide (fuse = 0))) ∧ DiskR w' d m M used lit (if lit && decide (0 < fuse) then fuse - 1 else fuse) (down || (lit && decide (fuse = 0))) ∧ Fr (fun b => b = d) w w' := by
  obtain ⟨c0, c1, c2, c3, c4⟩ := h.cells
  have f3 := h.bk.free 3
  have f4 := h.bk.free 4
  have hlt := h.bk.lt
  have H := Lib.hid h
  clear h
  cases lit with
  | false =>
    go_enter Tryz.func47, Tryz.ntmps47
    go_wp2_with fail
    go_ret
    exact ⟨rfl, by simpa using H.out, Fr.refl _ _⟩
  | true =>
    by_cases hz : fuse = 0
    · subst hz
      have HB := Lib.hid (H.out.own (w' := w.setCell ⟨d, 4, none⟩ (.bool true)) (H.out.bk.set 4 (.bool true)) ((Fr.refl _ w).setCell d 4 _ (.inr rfl)))
      have HF : Hid (Fr (fun b => b = d) w (w.setCell ⟨d, 4, none⟩ (.bool true))) := Lib.hid ((Fr.refl _ w).setCell d 4 _ (.inr rfl))
      go_enter Tryz.func47, Tryz.ntmps47
      go_wp2_with fail
      go_ret
      exact ⟨rfl, by simpa using HB.out, HF.out⟩
    · have t1 : (fuse == 0) = false := by simp [hz]
      have hp : 0 < fuse := by omega
      have q1 : IntKind.i64.wrap (fuse - 1) = fuse - 1 := IntWalk.i64_in _ (by omega)
      have HB := Lib.hid (H.out.own (w' := w.setCell ⟨d, 3, none⟩ (.int .i64 (fuse - 1))) (H.out.bk.set 3 (.int .i64 (fuse - 1))) ((Fr.refl _ w).setCell d 3 _ (.inr rfl)))
      have HF : Hid (Fr (fun b => b = d) w (w.setCell ⟨d, 3, none⟩ (.int .i64 (fuse - 1)))) := Lib.hid ((Fr.refl _ w).setCell d 3 _ (.inr rfl))
      have e1 : (!true || !decide (fuse = 0)) = true := by simp [hz]
      have e2 : (if (true && decide (0 < fuse)) = true then fuse - 1 else fuse) = fuse - 1 := by simp [hp]
      have e3 : (down || (true && decide (fuse = 0))) = down := by simp [hz]
      rw [e1, e2, e3]
      clear hz hp e1 e2 e3
      go_enter Tryz.func47, Tryz.ntmps47
      go_wp2_with fail
      go_ret
      exact ⟨rfl, HB.out, HF.out⟩
end
end Go.Proofs.YtkofcegdoilaeaaGreatDoor
namespace Go.Proofs.YtkofcegdoilaeaaGreatDoor
open Go.RowKit Go.MapKept Go.Maps
set_option linter.unusedVariables false
/-- files by what they are -/
def flOf (M : FM) (n : ByteArray) : Option Fl := (mget M n).map (·.2.2)
section
variable {w : World} {d m : Nat} {M : FM} {used : Int} {lit : Bool} {fuse : Int} {down : Bool}
set_option maxRecDepth 100000 in
set_option maxHeartbeats 1000000 in
theorem file_old (h : DiskR w d m M used lit fuse down) (n : ByteArray) (hn : n.size ≤ 1000) {q : Nat} {v : Value} {g : Fl} (hg : mget M n = some (q, v, g)) :
    Calls Tryz.prog 48 #[.pointer (some ⟨d, 0, none⟩), .string n] w fun e w' => e = .returned (.pointer (some ⟨q, 0, none⟩)) ∧ w = w' := by
  obtain ⟨c0, c1, c2, c3, c4⟩ := h.cells
  have hlk := h.look n hn
  rw [hg] at hlk
  have hlk' : (Instr.lookup 63 (.map (some m)) (.string n) true).run Tryz.prog w = .ok (.tuple #[.pointer (some ⟨q, 0, none⟩), .bool true]) w := hlk
  clear h hlk hg
  go_enter Tryz.func48, Tryz.ntmps48
  go_wp2_with fail
  go_ret
  exact ⟨rfl, rfl⟩
set_option maxRecDepth 100000 in
set_option maxHeartbeats 1000000 in
theorem file_new (h : DiskR w d m M used lit fuse down) (n : ByteArray) (hn : n.size ≤ 1000) (hg : mget M n = none) :
    Calls Tryz.prog 48 #[.pointer (some ⟨d, 0, none⟩), .string n] w fun e w' => ∃ q, e = .returned (.pointer (some ⟨q, 0, none⟩)) ∧ DiskR w' d m (mput M n (q, .slice none 0 0, emptyF)) used lit fuse down ∧ (∀ b ∈ dblocks d m (mput M n (q, .slice none 0 0, emptyF)), b ∈ dblocks d m M ∨ w.heap.size ≤ b) ∧ Fr (fun b => b = m) w w' := by
  obtain ⟨c0, c1, c2, c3, c4⟩ := h.cells
  have hlk := h.look n hn
  rw [hg] at hlk
  have hlk' : (Instr.lookup 63 (.map (some m)) (.string n) true).run Tryz.prog w = .ok (.tuple #[.pointer none, .bool false]) w := hlk
  have hb1 := (Below.refl w.heap.size w).alloc (Nat.le_refl _) (.cells #[.slice none 0 0, .int .i64 0, .bool false] 77)
  obtain ⟨w2, hr2, m2, f2, z2⟩ := (h.bel hb1).mp.store (P := Tryz.prog) keyS Tryz.underlying63 (a := n) (by unfold okS maxLen; omega) (.pointer (some ⟨w.heap.size, 0, none⟩))
  have hr3 : (Instr.mapUpdate 63 (.map (some m)) (.string n) (.pointer (some ⟨w.heap.size, 0, none⟩))).run Tryz.prog (w.alloc (.cells #[.slice none 0 0, .int .i64 0, .bool false] 77)) = .ok () w2 := hr2
  have hbk := Bk.new w [.slice none 0 0, .int .i64 0, .bool false] 77
  have hadd := h.add (w1 := w.alloc (.cells #[.slice none 0 0, .int .i64 0, .bool false] 77)) (w' := w2) hg (q := w.heap.size) (v := .slice none 0 0) (g := emptyF) hb1 ⟨hbk, own_nil _ _⟩ (Nat.le_refl _) (by simp [Value.ownBlock]) m2 f2
  have HADD := Lib.hid hadd
  have hlt := h.bk.lt
  have HF := Lib.hid ((Fr.of_bel (S := fun b => b = m) hb1).trans f2 (fun _ _ e => e))
  clear h hlk hg hb1 hr2 m2 f2 z2 hbk hadd
  go_enter Tryz.func48, Tryz.ntmps48
  go_wp2_with fail
  go_ret
  exact ⟨w.heap.size, rfl, HADD.out.1, HADD.out.2, HF.out⟩
/-- the file of that name, a new one, if it wasn't there -/
theorem file_any (h : DiskR w d m M used lit fuse down) (n : ByteArray) (hn : n.size ≤ 1000) :
    Calls Tryz.prog 48 #[.pointer (some ⟨d, 0, none⟩), .string n] w fun e w' => ∃ q v M', e = .returned (.pointer (some ⟨q, 0, none⟩)) ∧ DiskR w' d m M' used lit fuse down ∧ mget M' n = some (q, v, (flOf M n).getD emptyF) ∧ (∀ k, n ≠ k → mget M' k = mget M k) ∧ (∀ b ∈ dblocks d m M', b ∈ dblocks d m M ∨ w.heap.size ≤ b) ∧ Fr (fun b => b = m) w w' := by
  cases hg : mget M n with
  | some x =>
    obtain ⟨q, v, g⟩ := x
    refine (file_old h n hn hg).mono ?_
    rintro e w' ⟨rfl, rfl⟩
    exact ⟨q, v, M, rfl, h, by rw [hg]; simp [flOf, hg], fun _ _ => rfl, fun b hb => .inl hb, Fr.refl _ _⟩
  | none =>
    refine (file_new h n hn hg).mono ?_
    rintro e w' ⟨q, rfl, h1, h2, h3⟩
    refine ⟨q, .slice none 0 0, _, rfl, h1, by rw [get_put, if_pos rfl]; simp [flOf, hg], fun k hk => by rw [get_put, if_neg hk], h2, h3⟩
/-- what is wrong with a call that needs a file -/
def foundN (down : Bool) (n : ByteArray) (there : Bool) : Int := if down then 8 else if nameD n then (if there then 0 else 6) else 1
set_option maxRecDepth 100000 in
set_option maxHeartbeats 1000000 in
theorem found_any (h : DiskR w d m M used lit fuse down) (n : ByteArray) (hn : n.size ≤ 1000) :
    Calls Tryz.prog 41 #[.pointer (some ⟨d, 0, none⟩), .string n] w fun e w' => e = .returned (.tuple #[.pointer (if foundN down n (mget M n).isSome = 0 then (mget M n).map (fun x => ⟨x.1, 0, none⟩) else none), .int .i64 (foundN down n (mget M n).isSome)]) ∧ w = w' := by
  obtain ⟨c0, c1, c2, c3, c4⟩ := h.cells
  have hlk := h.look n hn
  have ha := asked_any h n hn
  clear h
  cases hd : down with
  | true =>
    subst hd
    have e1 : askN true n = 8 := rfl
    have e2 : foundN true n (mget M n).isSome = 8 := rfl
    rw [e1] at ha
    rw [e2]
    have HA := Lib.hid ha
    clear ha e1 e2 hlk
    go_enter Tryz.func41, Tryz.ntmps41
    go_wp2_with fail
    refine HA.out.mono ?_
    rintro e wx ⟨rfl, rfl⟩
    go_wp2_with fail
    go_ret2
    exact ⟨rfl, rfl⟩
  | false =>
    subst hd
    cases hnm : nameD n with
    | false =>
      have e1 : askN false n = 1 := by unfold askN; rw [hnm]; rfl
      have e2 : foundN false n (mget M n).isSome = 1 := by unfold foundN; rw [hnm]; rfl
      rw [e1] at ha
      rw [e2]
      have HA := Lib.hid ha
      clear ha e1 e2 hlk hnm
      go_enter Tryz.func41, Tryz.ntmps41
      go_wp2_with fail
      refine HA.out.mono ?_
      rintro e wx ⟨rfl, rfl⟩
      go_wp2_with fail
      go_ret2
      exact ⟨rfl, rfl⟩
    | true =>
      have e1 : askN false n = 0 := by unfold askN; rw [hnm]; rfl
      rw [e1] at ha
      have HA := Lib.hid ha
      cases hg : mget M n with
      | none =>
        have e2 : foundN false n (none : Option (Nat × Value × Fl)).isSome = 6 := by unfold foundN; rw [hnm]; rfl
        rw [hg] at hlk
        have hlk' : (Instr.lookup 63 (.map (some m)) (.string n) true).run Tryz.prog w = .ok (.tuple #[.pointer none, .bool false]) w := hlk
        rw [e2]
        clear ha e1 e2 hlk hnm hg
        go_enter Tryz.func41, Tryz.ntmps41
        go_wp2_with fail
        refine HA.out.mono ?_
        rintro e wx ⟨rfl, rfl⟩
        go_wp2_with fail
        go_ret2
        exact ⟨rfl, rfl⟩
      | some x =>
        obtain ⟨q, v, g⟩ := x
        have e2 : foundN false n (some (q, v, g) : Option (Nat × Value × Fl)).isSome = 0 := by unfold foundN; rw [hnm]; rfl
        rw [hg] at hlk
        have hlk' : (Instr.lookup 63 (.map (some m)) (.string n) true).run Tryz.prog w = .ok (.tuple #[.pointer (some ⟨q, 0, none⟩), .bool true]) w := hlk
        rw [e2]
        clear ha e1 e2 hlk hnm hg
        go_enter Tryz.func41, Tryz.ntmps41
        go_wp2_with fail
        refine HA.out.mono ?_
        rintro e wx ⟨rfl, rfl⟩
        go_wp2_with fail
        go_ret2
        exact ⟨rfl, rfl⟩
end
end Go.Proofs.YtkofcegdoilaeaaGreatDoor

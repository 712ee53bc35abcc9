/- Disks beside other things of the call's own: contracts by one word. -/
import Derived.Test.YtemfnchiedepoaaDkOp
import Derived.Test.YtemfnchiedepoaaHere
namespace Go.Proofs.Ytemfnchiedepoaa
open Go.RowKit Go.MapKept Go.Maps
set_option linter.unusedVariables false
inductive Ob where
  | disk (d : Nat) (X : Dk)
  | box (b : Nat) (cs : List Value) (t : TypeId)
  | row (v : Value) (e : TypeId) (sz : Nat) (n : Nat) (xs : List Value)
def Holds (w : World) : Ob → List Nat → Prop
  | .disk d X, B => DiskAt w d B X
  | .box b cs t, B => Bk w b cs t ∧ B = [b]
  | .row v e sz n xs, B => w.ownsRow 0 e sz v n xs ∧ B = v.ownBlock.toList
theorem Holds.fr {S : Nat → Prop} {w w' : World} {o : Ob} {B : List Nat} (h : Holds w o B) (hf : Fr S w w') (hs : ∀ b ∈ B, ¬ S b) : Holds w' o B := by
  cases o with
  | disk d X => exact DiskAt.fr h hf hs
  | box b cs t =>
    obtain ⟨h1, rfl⟩ := h
    exact ⟨h1.fr hf (hs b (by simp)), rfl⟩
  | row v e sz n xs =>
    obtain ⟨h1, rfl⟩ := h
    exact ⟨hf.row h1 (fun b hb => hs b (by simp [hb])), rfl⟩
theorem Holds.lt {w : World} {o : Ob} {B : List Nat} (h : Holds w o B) : ∀ b ∈ B, b < w.heap.size := by
  cases o with
  | disk d X => exact DiskAt.lt h
  | box b cs t =>
    obtain ⟨h1, rfl⟩ := h
    intro b' hb
    simp at hb
    subst hb
    exact h1.lt
  | row v e sz n xs =>
    obtain ⟨h1, rfl⟩ := h
    intro b' hb
    exact own_lt h1 (Option.mem_toList.1 hb)
def K04 : Kind Ob := ⟨Holds, Holds.fr, Holds.lt⟩
theorem h_box {w0 w : World} {os : List Ob} (h : Here K04 w0 w os) (cs : List Value) (t : TypeId) : Here K04 w0 (w.alloc (.cells cs.toArray t)) (os ++ [.box w.heap.size cs t]) :=
  h.push ((Below.refl _ _).alloc (Nat.le_refl _) _) (o := .box _ _ _) ⟨Bk.new w cs t, rfl⟩ (fun b hb => by simp at hb; omega)
theorem h_boxAt {w0 w : World} {os : List Ob} (h : Here K04 w0 w os) {i b : Nat} {cs : List Value} {t : TypeId} (hi : os[i]? = some (.box b cs t)) : Bk w b cs t := by
  obtain ⟨B, h1, _⟩ := h.use hi
  exact h1.1
theorem h_row {w0 w w' : World} {os : List Ob} (h : Here K04 w0 w os) {v : Value} {e : TypeId} {sz n : Nat} {xs : List Value} (hb : Below w.heap.size w w') (ht : w'.ownsRow 0 e sz v n xs) (hn : ∀ b, v.ownBlock = some b → w.heap.size ≤ b) : Here K04 w0 w' (os ++ [.row v e sz n xs]) :=
  h.push hb (o := .row _ _ _ _ _) ⟨ht, rfl⟩ (fun b hb => hn b (Option.mem_toList.1 hb))
theorem h_rowAt {w0 w : World} {os : List Ob} (h : Here K04 w0 w os) {i : Nat} {v : Value} {e : TypeId} {sz n : Nat} {xs : List Value} (hi : os[i]? = some (.row v e sz n xs)) : w.ownsRow 0 e sz v n xs := by
  obtain ⟨B, h1, _⟩ := h.use hi
  exact h1.1
theorem h_ok {w0 w : World} {os : List Ob} {i d : Nat} {X : Dk} (h : Here K04 w0 w os) (hi : os[i]? = some (.disk d X)) : DkOk X := by
  obtain ⟨B, h1, _⟩ := h.use hi
  exact DiskAt.ok h1
/-- what a call of a disk's leaves, among other things -/
theorem h_post {w0 w w' w'' : World} {os : List Ob} {i : Nat} {B : List Nat} {d : Nat} {X' : Dk} (h3 : ∀ w' o' B', K04.Holds w' o' B' → Fr (fun b => b ∈ B) w w' → Sprd w B B' → Here K04 w0 w' (os.set i o')) (hb : Below w.heap.size w w') (hp : DkPost w' d B X' w'') : Here K04 w0 w'' (os.set i (.disk d X')) := by
  obtain ⟨B', k1, k2, k3⟩ := hp
  refine h3 w'' (.disk d X') B' k1 ((Fr.of_bel (S := fun b => b ∈ B) hb).trans k2 (fun _ _ h => h)) (fun b hb' => (k3 b hb').imp id (fun h => ?_))
  have := hb.size
  omega
theorem h_new {w0 w : World} {os : List Ob} (h : Here K04 w0 w os) :
    Calls Try.prog 11 #[] w fun e w' => ∃ d, e = .returned (.pointer (some ⟨d, 0, none⟩)) ∧ Here K04 w0 w' (os ++ [.disk d newD]) := by
  refine (new_any w).mono ?_
  rintro e w' ⟨d, rfl, h1, h2, h3⟩
  exact ⟨d, rfl, h.push h3 (o := .disk _ _) h1 (fun b hb => by simp at hb; omega)⟩
section
variable {w0 w w' : World} {os : List Ob} {i d : Nat} {X : Dk}
theorem h_append (h : Here K04 w0 w os) (hi : os[i]? = some (.disk d X)) (hb : Below w.heap.size w w') (n s : ByteArray) (sb : Option Addr) (cap : Nat) (hn : n.size ≤ 1000) (hs : ByIn w' sb s) (hsb : ∀ k o, sb = some ⟨k, o, none⟩ → w.heap.size ≤ k) (hsz : s.size ≤ 5000000) (ln : Nat) (hln : ln = s.size) :
    Calls Try.prog 13 #[.pointer (some ⟨d, 0, none⟩), .string n, .slice sb ln cap] w' fun e w'' => e = .returned (.int .i64 (stepA X n s).2) ∧ Here K04 w0 w'' (os.set i (.disk d (stepA X n s).1)) := by
  subst hln
  obtain ⟨B, h1, _, h3, _⟩ := h.use hi
  refine (append_at (DiskAt.bel h1 hb) n s sb cap hn hs (fun k o hk hB => by have := DiskAt.lt h1 k hB; have := hsb k o hk; omega) hsz).mono ?_
  rintro e w'' ⟨rfl, k⟩
  exact ⟨rfl, h_post h3 hb k⟩
theorem h_replace (h : Here K04 w0 w os) (hi : os[i]? = some (.disk d X)) (hb : Below w.heap.size w w') (n s : ByteArray) (sb : Option Addr) (cap : Nat) (hn : n.size ≤ 1000) (hs : ByIn w' sb s) (hsb : ∀ k o, sb = some ⟨k, o, none⟩ → w.heap.size ≤ k) (hsz : s.size ≤ 5000000) (ln : Nat) (hln : ln = s.size) :
    Calls Try.prog 19 #[.pointer (some ⟨d, 0, none⟩), .string n, .slice sb ln cap] w' fun e w'' => e = .returned (.int .i64 (stepR X n s).2) ∧ Here K04 w0 w'' (os.set i (.disk d (stepR X n s).1)) := by
  subst hln
  obtain ⟨B, h1, _, h3, _⟩ := h.use hi
  refine (replace_at (DiskAt.bel h1 hb) n s sb cap hn hs (fun k o hk hB => by have := DiskAt.lt h1 k hB; have := hsb k o hk; omega) hsz).mono ?_
  rintro e w'' ⟨rfl, k⟩
  exact ⟨rfl, h_post h3 hb k⟩
theorem h_sync (h : Here K04 w0 w os) (hi : os[i]? = some (.disk d X)) (n : ByteArray) (hn : n.size ≤ 1000) :
    Calls Try.prog 17 #[.pointer (some ⟨d, 0, none⟩), .string n] w fun e w' => e = .returned (.int .i64 (stepS X n).2) ∧ Here K04 w0 w' (os.set i (.disk d (stepS X n).1)) := by
  obtain ⟨B, h1, _, h3, _⟩ := h.use hi
  refine (sync_at h1 n hn).mono ?_
  rintro e w'' ⟨rfl, k⟩
  exact ⟨rfl, h_post h3 (Below.refl _ _) k⟩
theorem h_remove (h : Here K04 w0 w os) (hi : os[i]? = some (.disk d X)) (n : ByteArray) (hn : n.size ≤ 1000) :
    Calls Try.prog 36 #[.pointer (some ⟨d, 0, none⟩), .string n] w fun e w' => e = .returned (.int .i64 (stepD X n).2) ∧ Here K04 w0 w' (os.set i (.disk d (stepD X n).1)) := by
  obtain ⟨B, h1, _, h3, _⟩ := h.use hi
  refine (remove_at h1 n hn).mono ?_
  rintro e w'' ⟨rfl, k⟩
  exact ⟨rfl, h_post h3 (Below.refl _ _) k⟩
theorem h_arm (h : Here K04 w0 w os) (hi : os[i]? = some (.disk d X)) (n : Int) (hn : I64 n) :
    Calls Try.prog 12 #[.pointer (some ⟨d, 0, none⟩), .int .i64 n] w fun e w' => e = .returned (.tuple #[]) ∧ Here K04 w0 w' (os.set i (.disk d (armD X n))) := by
  obtain ⟨B, h1, _, h3, _⟩ := h.use hi
  refine (arm_at h1 n hn).mono ?_
  rintro e w'' ⟨rfl, k⟩
  exact ⟨rfl, h_post h3 (Below.refl _ _) k⟩
theorem h_down (h : Here K04 w0 w os) (hi : os[i]? = some (.disk d X)) : Calls Try.prog 14 #[.pointer (some ⟨d, 0, none⟩)] w fun e w' => e = .returned (.bool X.down) ∧ w = w' := by
  obtain ⟨B, h1, _⟩ := h.use hi
  exact down_at h1
theorem h_names (h : Here K04 w0 w os) (hi : os[i]? = some (.disk d X)) : Calls Try.prog 20 #[.pointer (some ⟨d, 0, none⟩)] w fun e w' => ∃ v : Value, e = .returned v ∧ MkT w w' v (fnames X.L) ∧ Here K04 w0 w' os := by
  obtain ⟨B, h1, _⟩ := h.use hi
  refine (names_at h1).mono ?_
  rintro e w' ⟨v, rfl, k⟩
  exact ⟨v, rfl, k, h.step_bel k.bl⟩
theorem h_read (h : Here K04 w0 w os) (hi : os[i]? = some (.disk d X)) (n : ByteArray) (hn : n.size ≤ 1000) :
    Calls Try.prog 15 #[.pointer (some ⟨d, 0, none⟩), .string n] w fun e w' => ∃ u, e = .returned (.tuple #[u, .int .i64 (readD X n).2]) ∧ ByMk w w' u (readD X n).1 ∧ Here K04 w0 w' os := by
  obtain ⟨B, h1, _⟩ := h.use hi
  refine (read_at h1 n hn).mono ?_
  rintro e w' ⟨u, rfl, k⟩
  exact ⟨u, rfl, k, h.step_bel k.bl⟩
/-- the keep of a crash lies where the disk doesn't: in what was there ahead of it, or in what came since -/
theorem h_crash (h : Here K04 w0 w os) (hi : os[i]? = some (.disk d X)) (hb : Below w.heap.size w w') (keep : List Int) (hk : ∀ x ∈ keep, I64 x) (hkl : keep.length ≤ 1000) (kb : Option Addr) (kc : Nat) (hin : IntIn w' kb keep) (hkb : keep = [] ∨ ∀ k o, kb = some ⟨k, o, none⟩ → k < w0.heap.size ∨ w.heap.size ≤ k) (ln : Nat) (hln : ln = keep.length) :
    Calls Try.prog 16 #[.pointer (some ⟨d, 0, none⟩), .slice kb ln kc] w' fun e w'' => e = .returned (.tuple #[]) ∧ Here K04 w0 w'' (os.set i (.disk d (crashD X keep))) := by
  subst hln
  obtain ⟨B, h1, h2, h3, _⟩ := h.use hi
  refine (crash_at (DiskAt.bel h1 hb) keep hk hkl kb kc hin (hkb.imp id fun hkb k o hk hB => by have := DiskAt.lt h1 k hB; have := h2 k hB; have := hkb k o hk; omega)).mono ?_
  rintro e w'' ⟨rfl, k⟩
  exact ⟨rfl, h_post h3 hb k⟩
theorem h_append_conv (h : Here K04 w0 w os) (hi : os[i]? = some (.disk d X)) (nm s : ByteArray) (hn : nm.size ≤ 1000) (hs : s.size ≤ 1000) :
    ∃ c g w2, (convert 9 28 (.string s)).run Try.prog w = .ok (.slice (some ⟨g, 0, none⟩) s.size c) w2 ∧ Calls Try.prog 13 #[.pointer (some ⟨d, 0, none⟩), .string nm, .slice (some ⟨g, 0, none⟩) s.size c] w2 fun e w' => e = .returned (.int .i64 (stepA X nm s).2) ∧ Here K04 w0 w' (os.set i (.disk d (stepA X nm s).1)) := by
  obtain ⟨c, W2, hcv, hin, hb2, hsz2⟩ := bytes_of w s
  exact ⟨c, w.heap.size, W2, hcv, h_append h hi hb2 nm s (some ⟨w.heap.size, 0, none⟩) c hn hin (fun k o' hk => since hk) (by omega) _ rfl⟩
theorem h_replace_conv (h : Here K04 w0 w os) (hi : os[i]? = some (.disk d X)) (nm s : ByteArray) (hn : nm.size ≤ 1000) (hs : s.size ≤ 1000) :
    ∃ c g w2, (convert 9 28 (.string s)).run Try.prog w = .ok (.slice (some ⟨g, 0, none⟩) s.size c) w2 ∧ Calls Try.prog 19 #[.pointer (some ⟨d, 0, none⟩), .string nm, .slice (some ⟨g, 0, none⟩) s.size c] w2 fun e w' => e = .returned (.int .i64 (stepR X nm s).2) ∧ Here K04 w0 w' (os.set i (.disk d (stepR X nm s).1)) := by
  obtain ⟨c, W2, hcv, hin, hb2, hsz2⟩ := bytes_of w s
  exact ⟨c, w.heap.size, W2, hcv, h_replace h hi hb2 nm s (some ⟨w.heap.size, 0, none⟩) c hn hin (fun k o' hk => since hk) (by omega) _ rfl⟩
end
set_option maxRecDepth 100000 in
set_option maxHeartbeats 600000 in
theorem h_do_append {w0 w : World} {os : List Ob} {i d : Nat} {X : Dk} (h : Here K04 w0 w os) (hi : os[i]? = some (.disk d X)) (n : Int) (nm s : ByteArray) (kb : Option Addr) (kc : Nat) (hn : nm.size ≤ 1000) (hs : s.size ≤ 1000) (ln : Nat) :
    Calls Try.prog 22 #[.pointer (some ⟨d, 0, none⟩), .agg #[.int .i64 1, .int .i64 n, .string nm, .string s, .slice kb ln kc]] w fun e w' => e = .returned (.int .i64 (stepA X nm s).2) ∧ Here K04 w0 w' (os.set i (.disk d (stepA X nm s).1)) := by
  have hb1 : Below w.heap.size w (w.alloc (.cells #[.int .i64 1, .int .i64 n, .string nm, .string s, .slice kb ln kc] 43)) := (Below.refl _ _).alloc (Nat.le_refl _) _
  have h1 := h.step_bel hb1
  obtain ⟨c, g, W2, hcv, hA⟩ := h_append_conv h1 hi nm s hn hs
  have HA := Lib.hid hA
  clear hA h h1 hb1
  go_enter Try.func22, Try.ntmps22
  go_wp2_with fail
  refine HA.out.mono ?_
  rintro e w2 ⟨rfl, hd2⟩
  have HD := Lib.hid hd2
  clear hd2
  go_wp2_with fail
  go_ret
  exact ⟨rfl, HD.out⟩
set_option maxRecDepth 100000 in
set_option maxHeartbeats 600000 in
theorem h_do_sync {w0 w : World} {os : List Ob} {i d : Nat} {X : Dk} (h : Here K04 w0 w os) (hi : os[i]? = some (.disk d X)) (n : Int) (nm s : ByteArray) (kb : Option Addr) (kc : Nat) (hn : nm.size ≤ 1000) (hs : s.size ≤ 1000) (ln : Nat) :
    Calls Try.prog 22 #[.pointer (some ⟨d, 0, none⟩), .agg #[.int .i64 2, .int .i64 n, .string nm, .string s, .slice kb ln kc]] w fun e w' => e = .returned (.int .i64 (stepS X nm).2) ∧ Here K04 w0 w' (os.set i (.disk d (stepS X nm).1)) := by
  have hb1 : Below w.heap.size w (w.alloc (.cells #[.int .i64 2, .int .i64 n, .string nm, .string s, .slice kb ln kc] 43)) := (Below.refl _ _).alloc (Nat.le_refl _) _
  have h1 := h.step_bel hb1
  have HA := Lib.hid (h_sync h1 hi nm hn)
  clear h h1 hb1
  go_enter Try.func22, Try.ntmps22
  go_wp2_with fail
  refine HA.out.mono ?_
  rintro e w2 ⟨rfl, hd2⟩
  have HD := Lib.hid hd2
  clear hd2
  go_wp2_with fail
  go_ret
  exact ⟨rfl, HD.out⟩
set_option maxRecDepth 100000 in
set_option maxHeartbeats 600000 in
theorem h_do_replace {w0 w : World} {os : List Ob} {i d : Nat} {X : Dk} (h : Here K04 w0 w os) (hi : os[i]? = some (.disk d X)) (n : Int) (nm s : ByteArray) (kb : Option Addr) (kc : Nat) (hn : nm.size ≤ 1000) (hs : s.size ≤ 1000) (ln : Nat) :
    Calls Try.prog 22 #[.pointer (some ⟨d, 0, none⟩), .agg #[.int .i64 3, .int .i64 n, .string nm, .string s, .slice kb ln kc]] w fun e w' => e = .returned (.int .i64 (stepR X nm s).2) ∧ Here K04 w0 w' (os.set i (.disk d (stepR X nm s).1)) := by
  have hb1 : Below w.heap.size w (w.alloc (.cells #[.int .i64 3, .int .i64 n, .string nm, .string s, .slice kb ln kc] 43)) := (Below.refl _ _).alloc (Nat.le_refl _) _
  have h1 := h.step_bel hb1
  obtain ⟨c, g, W2, hcv, hA⟩ := h_replace_conv h1 hi nm s hn hs
  have HA := Lib.hid hA
  clear hA h h1 hb1
  go_enter Try.func22, Try.ntmps22
  go_wp2_with fail
  refine HA.out.mono ?_
  rintro e w2 ⟨rfl, hd2⟩
  have HD := Lib.hid hd2
  clear hd2
  go_wp2_with fail
  go_ret
  exact ⟨rfl, HD.out⟩
set_option maxRecDepth 100000 in
set_option maxHeartbeats 600000 in
theorem h_do_remove {w0 w : World} {os : List Ob} {i d : Nat} {X : Dk} (h : Here K04 w0 w os) (hi : os[i]? = some (.disk d X)) (k : Int) (k1 : k ≠ 1) (k2 : k ≠ 2) (k3 : k ≠ 3) (n : Int) (nm s : ByteArray) (kb : Option Addr) (kc : Nat) (hn : nm.size ≤ 1000) (hs : s.size ≤ 1000) (ln : Nat) :
    Calls Try.prog 22 #[.pointer (some ⟨d, 0, none⟩), .agg #[.int .i64 k, .int .i64 n, .string nm, .string s, .slice kb ln kc]] w fun e w' => e = .returned (.int .i64 (stepD X nm).2) ∧ Here K04 w0 w' (os.set i (.disk d (stepD X nm).1)) := by
  have hb1 : Below w.heap.size w (w.alloc (.cells #[.int .i64 k, .int .i64 n, .string nm, .string s, .slice kb ln kc] 43)) := (Below.refl _ _).alloc (Nat.le_refl _) _
  have h1 := h.step_bel hb1
  have HA := Lib.hid (h_remove h1 hi nm hn)
  clear h h1 hb1
  go_enter Try.func22, Try.ntmps22
  go_wp2_with fail
  refine HA.out.mono ?_
  rintro e w2 ⟨rfl, hd2⟩
  have HD := Lib.hid hd2
  clear hd2
  go_wp2_with fail
  go_ret
  exact ⟨rfl, HD.out⟩
theorem h_do {w0 w : World} {os : List Ob} {i d : Nat} {X : Dk} (h : Here K04 w0 w os) (hi : os[i]? = some (.disk d X)) (o : OpD) (hn : o.name.size ≤ 1000) (hs : o.s.size ≤ 1000) (ln : Nat) :
    Calls Try.prog 22 #[.pointer (some ⟨d, 0, none⟩), .agg #[.int .i64 o.kind, .int .i64 o.n, .string o.name, .string o.s, .slice o.kb ln o.kc]] w fun e w' => e = .returned (.int .i64 (doD X o).2) ∧ Here K04 w0 w' (os.set i (.disk d (doD X o).1)) := by
  obtain ⟨k, n, nm, s, keep, kb, kc⟩ := o
  unfold doD
  show Calls Try.prog 22 #[.pointer (some ⟨d, 0, none⟩), .agg #[.int .i64 k, .int .i64 n, .string nm, .string s, .slice kb ln kc]] w _
  simp only at hn hs
  by_cases k1 : k = 1
  · subst k1; simp only [if_true]; exact h_do_append h hi n nm s kb kc hn hs ln
  by_cases k2 : k = 2
  · subst k2; simp only [if_neg k1, if_true]; exact h_do_sync h hi n nm s kb kc hn hs ln
  by_cases k3 : k = 3
  · subst k3; simp only [if_neg k1, if_neg k2, if_true]; exact h_do_replace h hi n nm s kb kc hn hs ln
  simp only [if_neg k1, if_neg k2, if_neg k3]
  exact h_do_remove h hi k k1 k2 k3 n nm s kb kc hn hs ln
end Go.Proofs.Ytemfnchiedepoaa

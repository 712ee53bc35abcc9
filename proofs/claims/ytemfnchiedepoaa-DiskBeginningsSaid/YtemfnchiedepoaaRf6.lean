/- Contracts of the document's Step (layer 4): each way. -/
import Derived.Test.YtemfnchiedepoaaRf4
namespace Go.Proofs.Ytemfnchiedepoaa
open Go.RowKit Go.MapKept Go.Maps
set_option linter.unusedVariables false
/-- what a step of the document's leaves -/
def StepPost (w : World) (L : Fs) (u : Value) (X' : Dk) (k : Int) (e : Ending) (w' : World) : Prop := ∃ u', e = .returned (.tuple #[.agg #[u', .int .i64 X'.fuse, .bool X'.down], .int .i64 k]) ∧ ((u' = u ∧ X'.L = L) ∨ MkG 80 4 flC w w' u' X'.L) ∧ Below w.heap.size w w'
theorem cat_eq (a b : ByteArray) : a ++ b = catB a b := by
  unfold catB
  apply byte_ext
  simp
abbrev stOs (d : Nat) (b : Option Addr) (ln cap : Nat) (fu : Int) (dn : Bool) : List Ob := [.box d [.slice b ln cap, .int .i64 fu, .bool dn] 48, .box (d + 1) [.slice none 0 0, .int .i64 0, .bool false] 48]
theorem st_start (w : World) (b : Option Addr) (ln cap : Nat) (fu : Int) (dn : Bool) : Here K04 w ((w.alloc (.cells #[.slice b ln cap, .int .i64 fu, .bool dn] 48)).alloc (.cells #[.slice none 0 0, .int .i64 0, .bool false] 48)) (stOs w.heap.size b ln cap fu dn) := by
  have h1 := h_box (Here.nil (K := K04) (Below.refl w.heap.size w)) [.slice b ln cap, .int .i64 fu, .bool dn] 48
  have h2 := h_box h1 [.slice none 0 0, .int .i64 0, .bool false] 48
  simp at h2
  exact h2
theorem st_two (w : World) (b : Option Addr) (ln cap : Nat) (fu : Int) (dn : Bool) : Here K04 w ((w.alloc (.cells #[.slice b ln cap, .int .i64 fu, .bool dn] 48)).alloc (.cells #[.slice b ln cap, .int .i64 fu, .bool dn] 48)) [.box w.heap.size [.slice b ln cap, .int .i64 fu, .bool dn] 48, .box (w.heap.size + 1) [.slice b ln cap, .int .i64 fu, .bool dn] 48] := by
  have h1 := h_box (Here.nil (K := K04) (Below.refl w.heap.size w)) [.slice b ln cap, .int .i64 fu, .bool dn] 48
  have h2 := h_box h1 [.slice b ln cap, .int .i64 fu, .bool dn] 48
  simp at h2
  exact h2
theorem box3 {w W : World} {os : List Ob} (h : Here K04 w W os) {i d : Nat} {u v x : Value} {t : TypeId} (hi : os[i]? = some (.box d [u, v, x] t)) : W.cell? ⟨d, 0, none⟩ = some u ∧ W.cell? ⟨d, 1, none⟩ = some v ∧ W.cell? ⟨d, 2, none⟩ = some x ∧ W.frozen? ⟨d, 0, none⟩ = false ∧ W.frozen? ⟨d, 1, none⟩ = false ∧ W.frozen? ⟨d, 2, none⟩ = false ∧ d < W.heap.size := by
  have k := h_boxAt h hi
  exact ⟨k.cell 0, k.cell 1, k.cell 2, k.free 0, k.free 1, k.free 2, k.lt⟩
theorem box4 {w W : World} {os : List Ob} (h : Here K04 w W os) {i d : Nat} {u v x y : Value} {t : TypeId} (hi : os[i]? = some (.box d [u, v, x, y] t)) : W.cell? ⟨d, 0, none⟩ = some u ∧ W.cell? ⟨d, 1, none⟩ = some v ∧ W.cell? ⟨d, 2, none⟩ = some x ∧ W.cell? ⟨d, 3, none⟩ = some y ∧ W.frozen? ⟨d, 0, none⟩ = false ∧ W.frozen? ⟨d, 1, none⟩ = false ∧ W.frozen? ⟨d, 2, none⟩ = false ∧ W.frozen? ⟨d, 3, none⟩ = false ∧ d < W.heap.size := by
  have k := h_boxAt h hi
  exact ⟨k.cell 0, k.cell 1, k.cell 2, k.cell 3, k.free 0, k.free 1, k.free 2, k.free 3, k.lt⟩
/-- three cells of a box stored -/
theorem h_set3 {w0 w : World} {os : List Ob} (h : Here K04 w0 w os) {i d : Nat} {u v x : Value} {t : TypeId} (hi : os[i]? = some (.box d [u, v, x] t)) (a b c : Value) : Here K04 w0 (((w.setCell ⟨d, 0, none⟩ a).setCell ⟨d, 1, none⟩ b).setCell ⟨d, 2, none⟩ c) (os.set i (.box d [a, b, c] t)) := by
  have hil := (List.getElem?_eq_some_iff.1 hi).1
  have h1 := h_set h hi 0 a
  have h2 := h_set h1 (i := i) (b := d) (cs := [a, v, x]) (t := t) (by rw [List.getElem?_set_self hil]; rfl) 1 b
  rw [List.set_set] at h2
  have h3 := h_set h2 (i := i) (b := d) (cs := [a, b, x]) (t := t) (by rw [List.getElem?_set_self hil]; rfl) 2 c
  rw [List.set_set] at h3
  exact h3
theorem h_set4 {w0 w : World} {os : List Ob} (h : Here K04 w0 w os) {i d : Nat} {u v x y : Value} {t : TypeId} (hi : os[i]? = some (.box d [u, v, x, y] t)) (a b c e : Value) : Here K04 w0 ((((w.setCell ⟨d, 0, none⟩ a).setCell ⟨d, 1, none⟩ b).setCell ⟨d, 2, none⟩ c).setCell ⟨d, 3, none⟩ e) (os.set i (.box d [a, b, c, e] t)) := by
  have hil := (List.getElem?_eq_some_iff.1 hi).1
  have h1 := h_set h hi 0 a
  have h2 := h_set h1 (i := i) (b := d) (cs := [a, v, x, y]) (t := t) (by rw [List.getElem?_set_self hil]; rfl) 1 b
  rw [List.set_set] at h2
  have h3 := h_set h2 (i := i) (b := d) (cs := [a, b, x, y]) (t := t) (by rw [List.getElem?_set_self hil]; rfl) 2 c
  rw [List.set_set] at h3
  have h4 := h_set h3 (i := i) (b := d) (cs := [a, b, c, y]) (t := t) (by rw [List.getElem?_set_self hil]; rfl) 3 e
  rw [List.set_set] at h4
  exact h4
theorem fsum_mem {L : Fs} {p : ByteArray × Fl} (h : p ∈ L) : p.2.s.size ≤ fsum L := by
  induction L with
  | nil => cases h
  | cons q L ih =>
    rw [fsum]
    rcases List.mem_cons.1 h with rfl | h
    · omega
    · have := ih h; omega
set_option maxHeartbeats 400000 in
theorem rstep_down (b : Option Addr) (cap ln : Nat) (L : Fs) (fu : Int) (n s : ByteArray) (w : World) (k : Int) :
    Calls Try.prog 28 #[.agg #[.slice b ln cap, .int .i64 fu, .bool true], .int .i64 k, .string n, .string s] w (StepPost w L (.slice b ln cap) ⟨L, fu, true⟩ 8) := by
  go_enter Try.func28, Try.ntmps28
  go_wp2_with fail
  have H7 := st_two w b ln cap fu true
  refine bodyPost_ret (fin2 rfl rfl (h_boxAt H7 (i := 1) rfl)) rfl ⟨_, rfl, .inl ⟨rfl, rfl⟩, H7.bel⟩
set_option maxHeartbeats 400000 in
theorem rstep_name (b : Option Addr) (cap ln : Nat) (L : Fs) (fu : Int) (n s : ByteArray) (w : World) (k : Int) (hn : n.size ≤ 1000) (hnm : nameD n = false) :
    Calls Try.prog 28 #[.agg #[.slice b ln cap, .int .i64 fu, .bool false], .int .i64 k, .string n, .string s] w (StepPost w L (.slice b ln cap) ⟨L, fu, false⟩ 1) := by
  have hsz : n.size < 1 ∨ 64 < n.size := by
    unfold nameD at hnm
    simp at hnm
    omega
  clear hnm
  rcases hsz with hsz | hsz
  · have u1 : decide ((n.size : Int) < 1) = true := decide_eq_true (by omega)
    go_enter Try.func28, Try.ntmps28
    go_wp2_with fail
    have H7 := st_two w b ln cap fu false
    refine bodyPost_ret (fin2 rfl rfl (h_boxAt H7 (i := 1) rfl)) rfl ⟨_, rfl, .inl ⟨rfl, rfl⟩, H7.bel⟩
  · have u1 : decide ((n.size : Int) < 1) = false := decide_eq_false (by omega)
    have u2 : decide ((64 : Int) < (n.size : Int)) = true := decide_eq_true (by omega)
    go_enter Try.func28, Try.ntmps28
    go_wp2_with fail
    have H7 := st_two w b ln cap fu false
    refine bodyPost_ret (fin2 rfl rfl (h_boxAt H7 (i := 1) rfl)) rfl ⟨_, rfl, .inl ⟨rfl, rfl⟩, H7.bel⟩
set_option maxRecDepth 100000 in
set_option maxHeartbeats 4000000 in
theorem rstep2_a_miss (b : Option Addr) (cap : Nat) (L : Fs) (fu : Int) (n s : ByteArray) (w : World) (h : InW w b 4 (L.map flC)) (hl : L.length ≤ 5000) (hc : L.length ≤ cap) (ln : Nat) (hln : ln = L.length) (hz : fsum L ≤ 4194304) (hs : s.size ≤ 1000) (hfu : -1 ≤ fu) (hfu2 : fu ≤ 9223372036854775807) (hnm : nameD n = true) (hg : mget L n = none) :
    Calls Try.prog 28 #[.agg #[.slice b ln cap, .int .i64 fu, .bool false], .int .i64 2, .string n, .string s] w (StepPost w L (.slice b ln cap) ⟨L, fu, false⟩ 6) := by
  have HS0 := Lib.hid (st_start w b ln cap fu false)
  have HAT := Lib.hid (at_any b cap L fu false n _ (InW.bel h HS0.out.bel) hl hc ln hln)
  have HBY : Hid (∀ W, Below w.heap.size w W → Calls Try.prog 42 #[.agg #[.slice b ln cap, .int .i64 fu, .bool false], .string n] W fun e w' => e = .returned (.int .i64 (fsumBut n L : Nat)) ∧ Below W.heap.size W w') := Lib.hid (fun W hb => bytes_any b cap L fu false n W (InW.bel h hb) hl hz hc ln hln)
  have HPU : Hid (∀ W (fu' : Int) (g : Fl), Below w.heap.size w W → Calls Try.prog 43 #[.agg #[.slice b ln cap, .int .i64 fu', .bool false], .agg #[.string n, .string g.s, .int .i64 (g.lasts : Int), .bool g.stays]] W fun e w' => ∃ u, e = .returned (.agg #[u, .int .i64 fu', .bool false]) ∧ MkG 80 4 flC W w' u (fput L n g)) := Lib.hid (fun W fu' g hb => put_any b cap L fu' false n g W (InW.bel h hb) hl hc ln hln)
  have HWO : Hid (∀ W (fu' : Int), Below w.heap.size w W → Calls Try.prog 44 #[.agg #[.slice b ln cap, .int .i64 fu', .bool false], .string n] W fun e w' => ∃ u, e = .returned (.agg #[u, .int .i64 fu', .bool false]) ∧ MkG 80 4 flC W w' u (fdel L n)) := Lib.hid (fun W fu' hb => without_any b cap L fu' false n W (InW.bel h hb) hl hc ln hln)
  have HIW := Lib.hid h
  have HLN := Lib.hid hln
  obtain ⟨d0, d1, d2, df0, df1, df2, dl⟩ := box3 HS0.out (i := 0) rfl
  have hsz : 1 ≤ n.size ∧ n.size ≤ 64 := by
    unfold nameD at hnm
    simp at hnm
    exact hnm
  have u1 : decide ((n.size : Int) < 1) = false := decide_eq_false (by omega)
  have u2 : decide ((64 : Int) < (n.size : Int)) = false := decide_eq_false (by omega)
  have hbl := but_le L n L.length
  rw [List.take_length] at hbl
  clear h hnm hln hsz
  go_enter Try.func28, Try.ntmps28
  go_wp2_with fail
  refine HAT.out.mono ?_
  rintro e w1 ⟨⟨q, rfl, hpos⟩, b1⟩
  have hq : q = -1 := by
    rcases hpos with ⟨h', _⟩ | ⟨i, f', h1, h2, h3⟩
    · exact h'
    · rw [hg] at h3; cases h3
  subst hq
  have H1 := Lib.hid (HS0.out.step_bel b1)
  clear hpos HAT d0 d1 d2 df0 df1 df2 dl HS0
  obtain ⟨d0, d1, d2, df0, df1, df2, dl⟩ := box3 H1.out (i := 0) rfl
  obtain ⟨r0, r1, r2, rf0, rf1, rf2, rl⟩ := box3 H1.out (i := 1) rfl
  have n1 : ¬ w.heap.size = w1.heap.size := by omega
  have n2 : ¬ w1.heap.size = w.heap.size := by omega
  have n3 : ¬ w.heap.size + 1 = w1.heap.size := by omega
  have n4 : ¬ w1.heap.size = w.heap.size + 1 := by omega
  clear HBY HPU HWO b1
  go_wp2_with fail
  have H7 := h_set3 H1.out (i := 1) rfl (.slice b ln cap) (.int .i64 fu) (.bool false)
  refine bodyPost_ret (fin2 rfl rfl (h_boxAt H7 (i := 1) rfl)) rfl ⟨_, rfl, .inl ⟨rfl, rfl⟩, H7.bel⟩
set_option maxRecDepth 100000 in
set_option maxHeartbeats 4000000 in
theorem rstep2_p_zero (b : Option Addr) (cap : Nat) (L : Fs) (fu : Int) (n s : ByteArray) (w : World) (h : InW w b 4 (L.map flC)) (hl : L.length ≤ 5000) (hc : L.length ≤ cap) (ln : Nat) (hln : ln = L.length) (hz : fsum L ≤ 4194304) (hs : s.size ≤ 1000) (hfu : -1 ≤ fu) (hfu2 : fu ≤ 9223372036854775807) (hnm : nameD n = true) (f : Fl) (hg : mget L n = some f) (h0 : fu = 0) :
    Calls Try.prog 28 #[.agg #[.slice b ln cap, .int .i64 fu, .bool false], .int .i64 2, .string n, .string s] w (StepPost w L (.slice b ln cap) ⟨L, 0, true⟩ 8) := by
  subst h0
  have HS0 := Lib.hid (st_start w b ln cap 0 false)
  have HAT := Lib.hid (at_any b cap L 0 false n _ (InW.bel h HS0.out.bel) hl hc ln hln)
  have HBY : Hid (∀ W, Below w.heap.size w W → Calls Try.prog 42 #[.agg #[.slice b ln cap, .int .i64 0, .bool false], .string n] W fun e w' => e = .returned (.int .i64 (fsumBut n L : Nat)) ∧ Below W.heap.size W w') := Lib.hid (fun W hb => bytes_any b cap L 0 false n W (InW.bel h hb) hl hz hc ln hln)
  have HPU : Hid (∀ W (fu' : Int) (g : Fl), Below w.heap.size w W → Calls Try.prog 43 #[.agg #[.slice b ln cap, .int .i64 fu', .bool false], .agg #[.string n, .string g.s, .int .i64 (g.lasts : Int), .bool g.stays]] W fun e w' => ∃ u, e = .returned (.agg #[u, .int .i64 fu', .bool false]) ∧ MkG 80 4 flC W w' u (fput L n g)) := Lib.hid (fun W fu' g hb => put_any b cap L fu' false n g W (InW.bel h hb) hl hc ln hln)
  have HWO : Hid (∀ W (fu' : Int), Below w.heap.size w W → Calls Try.prog 44 #[.agg #[.slice b ln cap, .int .i64 fu', .bool false], .string n] W fun e w' => ∃ u, e = .returned (.agg #[u, .int .i64 fu', .bool false]) ∧ MkG 80 4 flC W w' u (fdel L n)) := Lib.hid (fun W fu' hb => without_any b cap L fu' false n W (InW.bel h hb) hl hc ln hln)
  have HIW := Lib.hid h
  have HLN := Lib.hid hln
  obtain ⟨d0, d1, d2, df0, df1, df2, dl⟩ := box3 HS0.out (i := 0) rfl
  have hsz : 1 ≤ n.size ∧ n.size ≤ 64 := by
    unfold nameD at hnm
    simp at hnm
    exact hnm
  have u1 : decide ((n.size : Int) < 1) = false := decide_eq_false (by omega)
  have u2 : decide ((64 : Int) < (n.size : Int)) = false := decide_eq_false (by omega)
  have hbl := but_le L n L.length
  rw [List.take_length] at hbl
  have hfs : f.s.size ≤ 4194304 := by
    have h1 : f.s.size ≤ fsum L := by
      have := mem_of_get hg
      exact fsum_mem this
    omega
  clear h hnm hln hsz
  go_enter Try.func28, Try.ntmps28
  go_wp2_with fail
  refine HAT.out.mono ?_
  rintro e w1 ⟨⟨q, rfl, hpos⟩, b1⟩
  have hq : ∃ i : Nat, q = i ∧ L[i]? = some (n, f) := by
    rcases hpos with ⟨_, h'⟩ | ⟨i, f', h1, h2, h3⟩
    · rw [hg] at h'; cases h'
    · rw [hg] at h3; cases h3; exact ⟨i, h1, h2⟩
  obtain ⟨i, rfl, hi⟩ := hq
  have H1 := Lib.hid (HS0.out.step_bel b1)
  clear hpos HAT d0 d1 d2 df0 df1 df2 dl HS0
  obtain ⟨d0, d1, d2, df0, df1, df2, dl⟩ := box3 H1.out (i := 0) rfl
  obtain ⟨r0, r1, r2, rf0, rf1, rf2, rl⟩ := box3 H1.out (i := 1) rfl
  have n1 : ¬ w.heap.size = w1.heap.size := by omega
  have n2 : ¬ w1.heap.size = w.heap.size := by omega
  have n3 : ¬ w.heap.size + 1 = w1.heap.size := by omega
  have n4 : ¬ w1.heap.size = w.heap.size + 1 := by omega
  have H2 := Lib.hid (h_box H1.out [.string n, .string f.s, .int .i64 (f.lasts : Int), .bool f.stays] 80)
  have hlt : i < ln := by rw [HLN.out]; exact (List.getElem?_eq_some_iff.1 hi).1
  obtain ⟨B, off, rfl, hB, c0, c1, c2, c3⟩ := fls_at HIW.out hi
  have e0 := (H1.out.bel.cell (p := ⟨B, off + i * 4, none⟩) hB).trans c0
  have e1 := (H1.out.bel.cell (p := ⟨B, off + i * 4 + 1, none⟩) hB).trans c1
  have e2 := (H1.out.bel.cell (p := ⟨B, off + i * 4 + 2, none⟩) hB).trans c2
  have e3 := (H1.out.bel.cell (p := ⟨B, off + i * 4 + 3, none⟩) hB).trans c3
  have hB1 : B < w1.heap.size := Nat.lt_of_lt_of_le hB H1.out.bel.size
  have hi0 : (0 : Int) ≤ (i : Int) := by omega
  have hi1 : (i : Int) < (ln : Int) := by omega
  have t0 : decide ((i : Int) < 0) = false := decide_eq_false (by omega)
  have H3 := H2
  clear c0 c1 c2 c3 hi b1
  go_wp2_with fail
  refine (HBY.out _ H3.out.bel).mono ?_
  rintro e w4 ⟨rfl, b4⟩
  have H4 := Lib.hid (H3.out.step_bel b4)
  clear HBY b4 d0 d1 d2 df0 df1 df2 dl r0 r1 r2 rf0 rf1 rf2 rl H1 H2 H3 e0 e1 e2 e3
  obtain ⟨d0, d1, d2, df0, df1, df2, dl⟩ := box3 H4.out (i := 0) rfl
  obtain ⟨r0, r1, r2, rf0, rf1, rf2, rl⟩ := box3 H4.out (i := 1) rfl
  obtain ⟨f0, f1, f2, f3, ff0, ff1, ff2, ff3, fl⟩ := box4 H4.out (i := 2) rfl
  generalize fsumBut n L = z at *
  have q1 : IntKind.i64.wrap ((z : Int) + (s.size : Int)) = (z : Int) + (s.size : Int) := IntWalk.i64_in _ (by omega)
  clear HPU HWO
  go_wp2_with fail
  have H5 := h_set H4.out (i := 0) rfl 2 (.bool true)
  have H7 := h_set3 H5 (i := 1) rfl (.slice (some ⟨B, off, none⟩) ln cap) (.int .i64 0) (.bool true)
  refine bodyPost_ret (fin2 rfl rfl (h_boxAt H7 (i := 1) rfl)) rfl ⟨_, rfl, .inl ⟨rfl, rfl⟩, H7.bel⟩
set_option maxRecDepth 100000 in
set_option maxHeartbeats 4000000 in
theorem rstep2_p_pos (b : Option Addr) (cap : Nat) (L : Fs) (fu : Int) (n s : ByteArray) (w : World) (h : InW w b 4 (L.map flC)) (hl : L.length ≤ 5000) (hc : L.length ≤ cap) (ln : Nat) (hln : ln = L.length) (hz : fsum L ≤ 4194304) (hs : s.size ≤ 1000) (hfu : -1 ≤ fu) (hfu2 : fu ≤ 9223372036854775807) (hnm : nameD n = true) (f : Fl) (hg : mget L n = some f) (h0 : 0 < fu) :
    Calls Try.prog 28 #[.agg #[.slice b ln cap, .int .i64 fu, .bool false], .int .i64 2, .string n, .string s] w (StepPost w L (.slice b ln cap) ⟨fput L n ⟨f.s, f.s.size, true⟩, fu - 1, false⟩ 0) := by
  have HS0 := Lib.hid (st_start w b ln cap fu false)
  have HAT := Lib.hid (at_any b cap L fu false n _ (InW.bel h HS0.out.bel) hl hc ln hln)
  have HBY : Hid (∀ W, Below w.heap.size w W → Calls Try.prog 42 #[.agg #[.slice b ln cap, .int .i64 fu, .bool false], .string n] W fun e w' => e = .returned (.int .i64 (fsumBut n L : Nat)) ∧ Below W.heap.size W w') := Lib.hid (fun W hb => bytes_any b cap L fu false n W (InW.bel h hb) hl hz hc ln hln)
  have HPU : Hid (∀ W (fu' : Int) (g : Fl), Below w.heap.size w W → Calls Try.prog 43 #[.agg #[.slice b ln cap, .int .i64 fu', .bool false], .agg #[.string n, .string g.s, .int .i64 (g.lasts : Int), .bool g.stays]] W fun e w' => ∃ u, e = .returned (.agg #[u, .int .i64 fu', .bool false]) ∧ MkG 80 4 flC W w' u (fput L n g)) := Lib.hid (fun W fu' g hb => put_any b cap L fu' false n g W (InW.bel h hb) hl hc ln hln)
  have HWO : Hid (∀ W (fu' : Int), Below w.heap.size w W → Calls Try.prog 44 #[.agg #[.slice b ln cap, .int .i64 fu', .bool false], .string n] W fun e w' => ∃ u, e = .returned (.agg #[u, .int .i64 fu', .bool false]) ∧ MkG 80 4 flC W w' u (fdel L n)) := Lib.hid (fun W fu' hb => without_any b cap L fu' false n W (InW.bel h hb) hl hc ln hln)
  have HIW := Lib.hid h
  have HLN := Lib.hid hln
  obtain ⟨d0, d1, d2, df0, df1, df2, dl⟩ := box3 HS0.out (i := 0) rfl
  have hsz : 1 ≤ n.size ∧ n.size ≤ 64 := by
    unfold nameD at hnm
    simp at hnm
    exact hnm
  have u1 : decide ((n.size : Int) < 1) = false := decide_eq_false (by omega)
  have u2 : decide ((64 : Int) < (n.size : Int)) = false := decide_eq_false (by omega)
  have hbl := but_le L n L.length
  rw [List.take_length] at hbl
  have hfs : f.s.size ≤ 4194304 := by
    have h1 : f.s.size ≤ fsum L := by
      have := mem_of_get hg
      exact fsum_mem this
    omega
  clear h hnm hln hsz
  go_enter Try.func28, Try.ntmps28
  go_wp2_with fail
  refine HAT.out.mono ?_
  rintro e w1 ⟨⟨q, rfl, hpos⟩, b1⟩
  have hq : ∃ i : Nat, q = i ∧ L[i]? = some (n, f) := by
    rcases hpos with ⟨_, h'⟩ | ⟨i, f', h1, h2, h3⟩
    · rw [hg] at h'; cases h'
    · rw [hg] at h3; cases h3; exact ⟨i, h1, h2⟩
  obtain ⟨i, rfl, hi⟩ := hq
  have H1 := Lib.hid (HS0.out.step_bel b1)
  clear hpos HAT d0 d1 d2 df0 df1 df2 dl HS0
  obtain ⟨d0, d1, d2, df0, df1, df2, dl⟩ := box3 H1.out (i := 0) rfl
  obtain ⟨r0, r1, r2, rf0, rf1, rf2, rl⟩ := box3 H1.out (i := 1) rfl
  have n1 : ¬ w.heap.size = w1.heap.size := by omega
  have n2 : ¬ w1.heap.size = w.heap.size := by omega
  have n3 : ¬ w.heap.size + 1 = w1.heap.size := by omega
  have n4 : ¬ w1.heap.size = w.heap.size + 1 := by omega
  have H2 := Lib.hid (h_box H1.out [.string n, .string f.s, .int .i64 (f.lasts : Int), .bool f.stays] 80)
  have hlt : i < ln := by rw [HLN.out]; exact (List.getElem?_eq_some_iff.1 hi).1
  obtain ⟨B, off, rfl, hB, c0, c1, c2, c3⟩ := fls_at HIW.out hi
  have e0 := (H1.out.bel.cell (p := ⟨B, off + i * 4, none⟩) hB).trans c0
  have e1 := (H1.out.bel.cell (p := ⟨B, off + i * 4 + 1, none⟩) hB).trans c1
  have e2 := (H1.out.bel.cell (p := ⟨B, off + i * 4 + 2, none⟩) hB).trans c2
  have e3 := (H1.out.bel.cell (p := ⟨B, off + i * 4 + 3, none⟩) hB).trans c3
  have hB1 : B < w1.heap.size := Nat.lt_of_lt_of_le hB H1.out.bel.size
  have hi0 : (0 : Int) ≤ (i : Int) := by omega
  have hi1 : (i : Int) < (ln : Int) := by omega
  have t0 : decide ((i : Int) < 0) = false := decide_eq_false (by omega)
  have H3 := H2
  clear c0 c1 c2 c3 hi b1
  go_wp2_with fail
  refine (HBY.out _ H3.out.bel).mono ?_
  rintro e w4 ⟨rfl, b4⟩
  have H4 := Lib.hid (H3.out.step_bel b4)
  clear HBY b4 d0 d1 d2 df0 df1 df2 dl r0 r1 r2 rf0 rf1 rf2 rl H1 H2 H3 e0 e1 e2 e3
  obtain ⟨d0, d1, d2, df0, df1, df2, dl⟩ := box3 H4.out (i := 0) rfl
  obtain ⟨r0, r1, r2, rf0, rf1, rf2, rl⟩ := box3 H4.out (i := 1) rfl
  obtain ⟨f0, f1, f2, f3, ff0, ff1, ff2, ff3, fl⟩ := box4 H4.out (i := 2) rfl
  generalize fsumBut n L = z at *
  have q1 : IntKind.i64.wrap ((z : Int) + (s.size : Int)) = (z : Int) + (s.size : Int) := IntWalk.i64_in _ (by omega)
  have t3 : (fu == 0) = false := by simp; omega
  have t4 : decide (0 < fu) = true := decide_eq_true h0
  have q3 : IntKind.i64.wrap (fu - 1) = fu - 1 := IntWalk.i64_in _ (by omega)
  have H5 := Lib.hid (h_set (h_set H4.out (i := 2) rfl 2 (.int .i64 (f.s.size : Int))) (i := 2) rfl 3 (.bool true))
  have H6 := Lib.hid (h_set (h_set (h_set H4.out (i := 0) rfl 1 (.int .i64 (fu - 1))) (i := 2) rfl 2 (.int .i64 (f.s.size : Int))) (i := 2) rfl 3 (.bool true))
  go_wp2_with fail
  refine (HPU.out _ (fu - 1) (⟨f.s, f.s.size, true⟩ : Fl) H6.out.bel).mono ?_
  rintro e w8 ⟨u8, rfl, m8⟩
  have HM := Lib.hid (m8.from H6.out.bel)
  have H8 := Lib.hid (h_row (H6.out) m8.bl m8.tx m8.nw)
  obtain ⟨b8, c8, hu8, _, _, _⟩ := m8.read flLen (by omega)
  clear m8 HPU HWO d0 d1 d2 df0 df1 df2 dl r0 r1 r2 rf0 rf1 rf2 rl f0 f1 f2 f3 ff0 ff1 ff2 ff3 fl
  obtain ⟨l8, hl8⟩ : ∃ l8, l8 = (fput L n (⟨f.s, f.s.size, true⟩ : Fl)).length := ⟨_, rfl⟩
  rw [← hl8] at hu8
  subst hu8
  clear hl8
  obtain ⟨d0, d1, d2, df0, df1, df2, dl⟩ := box3 H8.out (i := 0) rfl
  obtain ⟨r0, r1, r2, rf0, rf1, rf2, rl⟩ := box3 H8.out (i := 1) rfl
  go_wp2_with fail
  have H7 := h_set3 H8.out (i := 1) rfl (.slice b8 l8 c8) (.int .i64 (fu - 1)) (.bool false)
  refine bodyPost_ret (fin2 rfl rfl (h_boxAt H7 (i := 1) rfl)) rfl ⟨_, rfl, .inr (h_mk H7 (i := 3) rfl), H7.bel⟩
set_option maxRecDepth 100000 in
set_option maxHeartbeats 4000000 in
theorem rstep2_p_neg (b : Option Addr) (cap : Nat) (L : Fs) (fu : Int) (n s : ByteArray) (w : World) (h : InW w b 4 (L.map flC)) (hl : L.length ≤ 5000) (hc : L.length ≤ cap) (ln : Nat) (hln : ln = L.length) (hz : fsum L ≤ 4194304) (hs : s.size ≤ 1000) (hfu : -1 ≤ fu) (hfu2 : fu ≤ 9223372036854775807) (hnm : nameD n = true) (f : Fl) (hg : mget L n = some f) (h0 : fu < 0) :
    Calls Try.prog 28 #[.agg #[.slice b ln cap, .int .i64 fu, .bool false], .int .i64 2, .string n, .string s] w (StepPost w L (.slice b ln cap) ⟨fput L n ⟨f.s, f.s.size, true⟩, fu, false⟩ 0) := by
  have HS0 := Lib.hid (st_start w b ln cap fu false)
  have HAT := Lib.hid (at_any b cap L fu false n _ (InW.bel h HS0.out.bel) hl hc ln hln)
  have HBY : Hid (∀ W, Below w.heap.size w W → Calls Try.prog 42 #[.agg #[.slice b ln cap, .int .i64 fu, .bool false], .string n] W fun e w' => e = .returned (.int .i64 (fsumBut n L : Nat)) ∧ Below W.heap.size W w') := Lib.hid (fun W hb => bytes_any b cap L fu false n W (InW.bel h hb) hl hz hc ln hln)
  have HPU : Hid (∀ W (fu' : Int) (g : Fl), Below w.heap.size w W → Calls Try.prog 43 #[.agg #[.slice b ln cap, .int .i64 fu', .bool false], .agg #[.string n, .string g.s, .int .i64 (g.lasts : Int), .bool g.stays]] W fun e w' => ∃ u, e = .returned (.agg #[u, .int .i64 fu', .bool false]) ∧ MkG 80 4 flC W w' u (fput L n g)) := Lib.hid (fun W fu' g hb => put_any b cap L fu' false n g W (InW.bel h hb) hl hc ln hln)
  have HWO : Hid (∀ W (fu' : Int), Below w.heap.size w W → Calls Try.prog 44 #[.agg #[.slice b ln cap, .int .i64 fu', .bool false], .string n] W fun e w' => ∃ u, e = .returned (.agg #[u, .int .i64 fu', .bool false]) ∧ MkG 80 4 flC W w' u (fdel L n)) := Lib.hid (fun W fu' hb => without_any b cap L fu' false n W (InW.bel h hb) hl hc ln hln)
  have HIW := Lib.hid h
  have HLN := Lib.hid hln
  obtain ⟨d0, d1, d2, df0, df1, df2, dl⟩ := box3 HS0.out (i := 0) rfl
  have hsz : 1 ≤ n.size ∧ n.size ≤ 64 := by
    unfold nameD at hnm
    simp at hnm
    exact hnm
  have u1 : decide ((n.size : Int) < 1) = false := decide_eq_false (by omega)
  have u2 : decide ((64 : Int) < (n.size : Int)) = false := decide_eq_false (by omega)
  have hbl := but_le L n L.length
  rw [List.take_length] at hbl
  have hfs : f.s.size ≤ 4194304 := by
    have h1 : f.s.size ≤ fsum L := by
      have := mem_of_get hg
      exact fsum_mem this
    omega
  clear h hnm hln hsz
  go_enter Try.func28, Try.ntmps28
  go_wp2_with fail
  refine HAT.out.mono ?_
  rintro e w1 ⟨⟨q, rfl, hpos⟩, b1⟩
  have hq : ∃ i : Nat, q = i ∧ L[i]? = some (n, f) := by
    rcases hpos with ⟨_, h'⟩ | ⟨i, f', h1, h2, h3⟩
    · rw [hg] at h'; cases h'
    · rw [hg] at h3; cases h3; exact ⟨i, h1, h2⟩
  obtain ⟨i, rfl, hi⟩ := hq
  have H1 := Lib.hid (HS0.out.step_bel b1)
  clear hpos HAT d0 d1 d2 df0 df1 df2 dl HS0
  obtain ⟨d0, d1, d2, df0, df1, df2, dl⟩ := box3 H1.out (i := 0) rfl
  obtain ⟨r0, r1, r2, rf0, rf1, rf2, rl⟩ := box3 H1.out (i := 1) rfl
  have n1 : ¬ w.heap.size = w1.heap.size := by omega
  have n2 : ¬ w1.heap.size = w.heap.size := by omega
  have n3 : ¬ w.heap.size + 1 = w1.heap.size := by omega
  have n4 : ¬ w1.heap.size = w.heap.size + 1 := by omega
  have H2 := Lib.hid (h_box H1.out [.string n, .string f.s, .int .i64 (f.lasts : Int), .bool f.stays] 80)
  have hlt : i < ln := by rw [HLN.out]; exact (List.getElem?_eq_some_iff.1 hi).1
  obtain ⟨B, off, rfl, hB, c0, c1, c2, c3⟩ := fls_at HIW.out hi
  have e0 := (H1.out.bel.cell (p := ⟨B, off + i * 4, none⟩) hB).trans c0
  have e1 := (H1.out.bel.cell (p := ⟨B, off + i * 4 + 1, none⟩) hB).trans c1
  have e2 := (H1.out.bel.cell (p := ⟨B, off + i * 4 + 2, none⟩) hB).trans c2
  have e3 := (H1.out.bel.cell (p := ⟨B, off + i * 4 + 3, none⟩) hB).trans c3
  have hB1 : B < w1.heap.size := Nat.lt_of_lt_of_le hB H1.out.bel.size
  have hi0 : (0 : Int) ≤ (i : Int) := by omega
  have hi1 : (i : Int) < (ln : Int) := by omega
  have t0 : decide ((i : Int) < 0) = false := decide_eq_false (by omega)
  have H3 := H2
  clear c0 c1 c2 c3 hi b1
  go_wp2_with fail
  refine (HBY.out _ H3.out.bel).mono ?_
  rintro e w4 ⟨rfl, b4⟩
  have H4 := Lib.hid (H3.out.step_bel b4)
  clear HBY b4 d0 d1 d2 df0 df1 df2 dl r0 r1 r2 rf0 rf1 rf2 rl H1 H2 H3 e0 e1 e2 e3
  obtain ⟨d0, d1, d2, df0, df1, df2, dl⟩ := box3 H4.out (i := 0) rfl
  obtain ⟨r0, r1, r2, rf0, rf1, rf2, rl⟩ := box3 H4.out (i := 1) rfl
  obtain ⟨f0, f1, f2, f3, ff0, ff1, ff2, ff3, fl⟩ := box4 H4.out (i := 2) rfl
  generalize fsumBut n L = z at *
  have q1 : IntKind.i64.wrap ((z : Int) + (s.size : Int)) = (z : Int) + (s.size : Int) := IntWalk.i64_in _ (by omega)
  have t3 : (fu == 0) = false := by simp; omega
  have t4 : decide (0 < fu) = false := decide_eq_false (by omega)
  have H5 := Lib.hid (h_set (h_set H4.out (i := 2) rfl 2 (.int .i64 (f.s.size : Int))) (i := 2) rfl 3 (.bool true))
  have H6 := H5
  go_wp2_with fail
  refine (HPU.out _ fu (⟨f.s, f.s.size, true⟩ : Fl) H6.out.bel).mono ?_
  rintro e w8 ⟨u8, rfl, m8⟩
  have HM := Lib.hid (m8.from H6.out.bel)
  have H8 := Lib.hid (h_row (H6.out) m8.bl m8.tx m8.nw)
  obtain ⟨b8, c8, hu8, _, _, _⟩ := m8.read flLen (by omega)
  clear m8 HPU HWO d0 d1 d2 df0 df1 df2 dl r0 r1 r2 rf0 rf1 rf2 rl f0 f1 f2 f3 ff0 ff1 ff2 ff3 fl
  obtain ⟨l8, hl8⟩ : ∃ l8, l8 = (fput L n (⟨f.s, f.s.size, true⟩ : Fl)).length := ⟨_, rfl⟩
  rw [← hl8] at hu8
  subst hu8
  clear hl8
  obtain ⟨d0, d1, d2, df0, df1, df2, dl⟩ := box3 H8.out (i := 0) rfl
  obtain ⟨r0, r1, r2, rf0, rf1, rf2, rl⟩ := box3 H8.out (i := 1) rfl
  go_wp2_with fail
  have H7 := h_set3 H8.out (i := 1) rfl (.slice b8 l8 c8) (.int .i64 fu) (.bool false)
  refine bodyPost_ret (fin2 rfl rfl (h_boxAt H7 (i := 1) rfl)) rfl ⟨_, rfl, .inr (h_mk H7 (i := 3) rfl), H7.bel⟩
set_option maxRecDepth 100000 in
set_option maxHeartbeats 4000000 in
theorem rstep4_a_miss (b : Option Addr) (cap : Nat) (L : Fs) (fu : Int) (n s : ByteArray) (w : World) (h : InW w b 4 (L.map flC)) (hl : L.length ≤ 5000) (hc : L.length ≤ cap) (ln : Nat) (hln : ln = L.length) (hz : fsum L ≤ 4194304) (hs : s.size ≤ 1000) (hfu : -1 ≤ fu) (hfu2 : fu ≤ 9223372036854775807) (hnm : nameD n = true) (hg : mget L n = none) :
    Calls Try.prog 28 #[.agg #[.slice b ln cap, .int .i64 fu, .bool false], .int .i64 4, .string n, .string s] w (StepPost w L (.slice b ln cap) ⟨L, fu, false⟩ 6) := by
  have HS0 := Lib.hid (st_start w b ln cap fu false)
  have HAT := Lib.hid (at_any b cap L fu false n _ (InW.bel h HS0.out.bel) hl hc ln hln)
  have HBY : Hid (∀ W, Below w.heap.size w W → Calls Try.prog 42 #[.agg #[.slice b ln cap, .int .i64 fu, .bool false], .string n] W fun e w' => e = .returned (.int .i64 (fsumBut n L : Nat)) ∧ Below W.heap.size W w') := Lib.hid (fun W hb => bytes_any b cap L fu false n W (InW.bel h hb) hl hz hc ln hln)
  have HPU : Hid (∀ W (fu' : Int) (g : Fl), Below w.heap.size w W → Calls Try.prog 43 #[.agg #[.slice b ln cap, .int .i64 fu', .bool false], .agg #[.string n, .string g.s, .int .i64 (g.lasts : Int), .bool g.stays]] W fun e w' => ∃ u, e = .returned (.agg #[u, .int .i64 fu', .bool false]) ∧ MkG 80 4 flC W w' u (fput L n g)) := Lib.hid (fun W fu' g hb => put_any b cap L fu' false n g W (InW.bel h hb) hl hc ln hln)
  have HWO : Hid (∀ W (fu' : Int), Below w.heap.size w W → Calls Try.prog 44 #[.agg #[.slice b ln cap, .int .i64 fu', .bool false], .string n] W fun e w' => ∃ u, e = .returned (.agg #[u, .int .i64 fu', .bool false]) ∧ MkG 80 4 flC W w' u (fdel L n)) := Lib.hid (fun W fu' hb => without_any b cap L fu' false n W (InW.bel h hb) hl hc ln hln)
  have HIW := Lib.hid h
  have HLN := Lib.hid hln
  obtain ⟨d0, d1, d2, df0, df1, df2, dl⟩ := box3 HS0.out (i := 0) rfl
  have hsz : 1 ≤ n.size ∧ n.size ≤ 64 := by
    unfold nameD at hnm
    simp at hnm
    exact hnm
  have u1 : decide ((n.size : Int) < 1) = false := decide_eq_false (by omega)
  have u2 : decide ((64 : Int) < (n.size : Int)) = false := decide_eq_false (by omega)
  have hbl := but_le L n L.length
  rw [List.take_length] at hbl
  clear h hnm hln hsz
  go_enter Try.func28, Try.ntmps28
  go_wp2_with fail
  refine HAT.out.mono ?_
  rintro e w1 ⟨⟨q, rfl, hpos⟩, b1⟩
  have hq : q = -1 := by
    rcases hpos with ⟨h', _⟩ | ⟨i, f', h1, h2, h3⟩
    · exact h'
    · rw [hg] at h3; cases h3
  subst hq
  have H1 := Lib.hid (HS0.out.step_bel b1)
  clear hpos HAT d0 d1 d2 df0 df1 df2 dl HS0
  obtain ⟨d0, d1, d2, df0, df1, df2, dl⟩ := box3 H1.out (i := 0) rfl
  obtain ⟨r0, r1, r2, rf0, rf1, rf2, rl⟩ := box3 H1.out (i := 1) rfl
  have n1 : ¬ w.heap.size = w1.heap.size := by omega
  have n2 : ¬ w1.heap.size = w.heap.size := by omega
  have n3 : ¬ w.heap.size + 1 = w1.heap.size := by omega
  have n4 : ¬ w1.heap.size = w.heap.size + 1 := by omega
  clear HBY HPU HWO b1
  go_wp2_with fail
  have H7 := h_set3 H1.out (i := 1) rfl (.slice b ln cap) (.int .i64 fu) (.bool false)
  refine bodyPost_ret (fin2 rfl rfl (h_boxAt H7 (i := 1) rfl)) rfl ⟨_, rfl, .inl ⟨rfl, rfl⟩, H7.bel⟩
set_option maxRecDepth 100000 in
set_option maxHeartbeats 4000000 in
theorem rstep4_p_zero (b : Option Addr) (cap : Nat) (L : Fs) (fu : Int) (n s : ByteArray) (w : World) (h : InW w b 4 (L.map flC)) (hl : L.length ≤ 5000) (hc : L.length ≤ cap) (ln : Nat) (hln : ln = L.length) (hz : fsum L ≤ 4194304) (hs : s.size ≤ 1000) (hfu : -1 ≤ fu) (hfu2 : fu ≤ 9223372036854775807) (hnm : nameD n = true) (f : Fl) (hg : mget L n = some f) (h0 : fu = 0) :
    Calls Try.prog 28 #[.agg #[.slice b ln cap, .int .i64 fu, .bool false], .int .i64 4, .string n, .string s] w (StepPost w L (.slice b ln cap) ⟨L, 0, true⟩ 8) := by
  subst h0
  have HS0 := Lib.hid (st_start w b ln cap 0 false)
  have HAT := Lib.hid (at_any b cap L 0 false n _ (InW.bel h HS0.out.bel) hl hc ln hln)
  have HBY : Hid (∀ W, Below w.heap.size w W → Calls Try.prog 42 #[.agg #[.slice b ln cap, .int .i64 0, .bool false], .string n] W fun e w' => e = .returned (.int .i64 (fsumBut n L : Nat)) ∧ Below W.heap.size W w') := Lib.hid (fun W hb => bytes_any b cap L 0 false n W (InW.bel h hb) hl hz hc ln hln)
  have HPU : Hid (∀ W (fu' : Int) (g : Fl), Below w.heap.size w W → Calls Try.prog 43 #[.agg #[.slice b ln cap, .int .i64 fu', .bool false], .agg #[.string n, .string g.s, .int .i64 (g.lasts : Int), .bool g.stays]] W fun e w' => ∃ u, e = .returned (.agg #[u, .int .i64 fu', .bool false]) ∧ MkG 80 4 flC W w' u (fput L n g)) := Lib.hid (fun W fu' g hb => put_any b cap L fu' false n g W (InW.bel h hb) hl hc ln hln)
  have HWO : Hid (∀ W (fu' : Int), Below w.heap.size w W → Calls Try.prog 44 #[.agg #[.slice b ln cap, .int .i64 fu', .bool false], .string n] W fun e w' => ∃ u, e = .returned (.agg #[u, .int .i64 fu', .bool false]) ∧ MkG 80 4 flC W w' u (fdel L n)) := Lib.hid (fun W fu' hb => without_any b cap L fu' false n W (InW.bel h hb) hl hc ln hln)
  have HIW := Lib.hid h
  have HLN := Lib.hid hln
  obtain ⟨d0, d1, d2, df0, df1, df2, dl⟩ := box3 HS0.out (i := 0) rfl
  have hsz : 1 ≤ n.size ∧ n.size ≤ 64 := by
    unfold nameD at hnm
    simp at hnm
    exact hnm
  have u1 : decide ((n.size : Int) < 1) = false := decide_eq_false (by omega)
  have u2 : decide ((64 : Int) < (n.size : Int)) = false := decide_eq_false (by omega)
  have hbl := but_le L n L.length
  rw [List.take_length] at hbl
  have hfs : f.s.size ≤ 4194304 := by
    have h1 : f.s.size ≤ fsum L := by
      have := mem_of_get hg
      exact fsum_mem this
    omega
  clear h hnm hln hsz
  go_enter Try.func28, Try.ntmps28
  go_wp2_with fail
  refine HAT.out.mono ?_
  rintro e w1 ⟨⟨q, rfl, hpos⟩, b1⟩
  have hq : ∃ i : Nat, q = i ∧ L[i]? = some (n, f) := by
    rcases hpos with ⟨_, h'⟩ | ⟨i, f', h1, h2, h3⟩
    · rw [hg] at h'; cases h'
    · rw [hg] at h3; cases h3; exact ⟨i, h1, h2⟩
  obtain ⟨i, rfl, hi⟩ := hq
  have H1 := Lib.hid (HS0.out.step_bel b1)
  clear hpos HAT d0 d1 d2 df0 df1 df2 dl HS0
  obtain ⟨d0, d1, d2, df0, df1, df2, dl⟩ := box3 H1.out (i := 0) rfl
  obtain ⟨r0, r1, r2, rf0, rf1, rf2, rl⟩ := box3 H1.out (i := 1) rfl
  have n1 : ¬ w.heap.size = w1.heap.size := by omega
  have n2 : ¬ w1.heap.size = w.heap.size := by omega
  have n3 : ¬ w.heap.size + 1 = w1.heap.size := by omega
  have n4 : ¬ w1.heap.size = w.heap.size + 1 := by omega
  have H2 := Lib.hid (h_box H1.out [.string n, .string f.s, .int .i64 (f.lasts : Int), .bool f.stays] 80)
  have hlt : i < ln := by rw [HLN.out]; exact (List.getElem?_eq_some_iff.1 hi).1
  obtain ⟨B, off, rfl, hB, c0, c1, c2, c3⟩ := fls_at HIW.out hi
  have e0 := (H1.out.bel.cell (p := ⟨B, off + i * 4, none⟩) hB).trans c0
  have e1 := (H1.out.bel.cell (p := ⟨B, off + i * 4 + 1, none⟩) hB).trans c1
  have e2 := (H1.out.bel.cell (p := ⟨B, off + i * 4 + 2, none⟩) hB).trans c2
  have e3 := (H1.out.bel.cell (p := ⟨B, off + i * 4 + 3, none⟩) hB).trans c3
  have hB1 : B < w1.heap.size := Nat.lt_of_lt_of_le hB H1.out.bel.size
  have hi0 : (0 : Int) ≤ (i : Int) := by omega
  have hi1 : (i : Int) < (ln : Int) := by omega
  have t0 : decide ((i : Int) < 0) = false := decide_eq_false (by omega)
  have H3 := H2
  clear c0 c1 c2 c3 hi b1
  go_wp2_with fail
  refine (HBY.out _ H3.out.bel).mono ?_
  rintro e w4 ⟨rfl, b4⟩
  have H4 := Lib.hid (H3.out.step_bel b4)
  clear HBY b4 d0 d1 d2 df0 df1 df2 dl r0 r1 r2 rf0 rf1 rf2 rl H1 H2 H3 e0 e1 e2 e3
  obtain ⟨d0, d1, d2, df0, df1, df2, dl⟩ := box3 H4.out (i := 0) rfl
  obtain ⟨r0, r1, r2, rf0, rf1, rf2, rl⟩ := box3 H4.out (i := 1) rfl
  obtain ⟨f0, f1, f2, f3, ff0, ff1, ff2, ff3, fl⟩ := box4 H4.out (i := 2) rfl
  generalize fsumBut n L = z at *
  have q1 : IntKind.i64.wrap ((z : Int) + (s.size : Int)) = (z : Int) + (s.size : Int) := IntWalk.i64_in _ (by omega)
  clear HPU HWO
  go_wp2_with fail
  have H5 := h_set H4.out (i := 0) rfl 2 (.bool true)
  have H7 := h_set3 H5 (i := 1) rfl (.slice (some ⟨B, off, none⟩) ln cap) (.int .i64 0) (.bool true)
  refine bodyPost_ret (fin2 rfl rfl (h_boxAt H7 (i := 1) rfl)) rfl ⟨_, rfl, .inl ⟨rfl, rfl⟩, H7.bel⟩
set_option maxRecDepth 100000 in
set_option maxHeartbeats 4000000 in
theorem rstep4_p_pos (b : Option Addr) (cap : Nat) (L : Fs) (fu : Int) (n s : ByteArray) (w : World) (h : InW w b 4 (L.map flC)) (hl : L.length ≤ 5000) (hc : L.length ≤ cap) (ln : Nat) (hln : ln = L.length) (hz : fsum L ≤ 4194304) (hs : s.size ≤ 1000) (hfu : -1 ≤ fu) (hfu2 : fu ≤ 9223372036854775807) (hnm : nameD n = true) (f : Fl) (hg : mget L n = some f) (h0 : 0 < fu) :
    Calls Try.prog 28 #[.agg #[.slice b ln cap, .int .i64 fu, .bool false], .int .i64 4, .string n, .string s] w (StepPost w L (.slice b ln cap) ⟨fdel L n, fu - 1, false⟩ 0) := by
  have HS0 := Lib.hid (st_start w b ln cap fu false)
  have HAT := Lib.hid (at_any b cap L fu false n _ (InW.bel h HS0.out.bel) hl hc ln hln)
  have HBY : Hid (∀ W, Below w.heap.size w W → Calls Try.prog 42 #[.agg #[.slice b ln cap, .int .i64 fu, .bool false], .string n] W fun e w' => e = .returned (.int .i64 (fsumBut n L : Nat)) ∧ Below W.heap.size W w') := Lib.hid (fun W hb => bytes_any b cap L fu false n W (InW.bel h hb) hl hz hc ln hln)
  have HPU : Hid (∀ W (fu' : Int) (g : Fl), Below w.heap.size w W → Calls Try.prog 43 #[.agg #[.slice b ln cap, .int .i64 fu', .bool false], .agg #[.string n, .string g.s, .int .i64 (g.lasts : Int), .bool g.stays]] W fun e w' => ∃ u, e = .returned (.agg #[u, .int .i64 fu', .bool false]) ∧ MkG 80 4 flC W w' u (fput L n g)) := Lib.hid (fun W fu' g hb => put_any b cap L fu' false n g W (InW.bel h hb) hl hc ln hln)
  have HWO : Hid (∀ W (fu' : Int), Below w.heap.size w W → Calls Try.prog 44 #[.agg #[.slice b ln cap, .int .i64 fu', .bool false], .string n] W fun e w' => ∃ u, e = .returned (.agg #[u, .int .i64 fu', .bool false]) ∧ MkG 80 4 flC W w' u (fdel L n)) := Lib.hid (fun W fu' hb => without_any b cap L fu' false n W (InW.bel h hb) hl hc ln hln)
  have HIW := Lib.hid h
  have HLN := Lib.hid hln
  obtain ⟨d0, d1, d2, df0, df1, df2, dl⟩ := box3 HS0.out (i := 0) rfl
  have hsz : 1 ≤ n.size ∧ n.size ≤ 64 := by
    unfold nameD at hnm
    simp at hnm
    exact hnm
  have u1 : decide ((n.size : Int) < 1) = false := decide_eq_false (by omega)
  have u2 : decide ((64 : Int) < (n.size : Int)) = false := decide_eq_false (by omega)
  have hbl := but_le L n L.length
  rw [List.take_length] at hbl
  have hfs : f.s.size ≤ 4194304 := by
    have h1 : f.s.size ≤ fsum L := by
      have := mem_of_get hg
      exact fsum_mem this
    omega
  clear h hnm hln hsz
  go_enter Try.func28, Try.ntmps28
  go_wp2_with fail
  refine HAT.out.mono ?_
  rintro e w1 ⟨⟨q, rfl, hpos⟩, b1⟩
  have hq : ∃ i : Nat, q = i ∧ L[i]? = some (n, f) := by
    rcases hpos with ⟨_, h'⟩ | ⟨i, f', h1, h2, h3⟩
    · rw [hg] at h'; cases h'
    · rw [hg] at h3; cases h3; exact ⟨i, h1, h2⟩
  obtain ⟨i, rfl, hi⟩ := hq
  have H1 := Lib.hid (HS0.out.step_bel b1)
  clear hpos HAT d0 d1 d2 df0 df1 df2 dl HS0
  obtain ⟨d0, d1, d2, df0, df1, df2, dl⟩ := box3 H1.out (i := 0) rfl
  obtain ⟨r0, r1, r2, rf0, rf1, rf2, rl⟩ := box3 H1.out (i := 1) rfl
  have n1 : ¬ w.heap.size = w1.heap.size := by omega
  have n2 : ¬ w1.heap.size = w.heap.size := by omega
  have n3 : ¬ w.heap.size + 1 = w1.heap.size := by omega
  have n4 : ¬ w1.heap.size = w.heap.size + 1 := by omega
  have H2 := Lib.hid (h_box H1.out [.string n, .string f.s, .int .i64 (f.lasts : Int), .bool f.stays] 80)
  have hlt : i < ln := by rw [HLN.out]; exact (List.getElem?_eq_some_iff.1 hi).1
  obtain ⟨B, off, rfl, hB, c0, c1, c2, c3⟩ := fls_at HIW.out hi
  have e0 := (H1.out.bel.cell (p := ⟨B, off + i * 4, none⟩) hB).trans c0
  have e1 := (H1.out.bel.cell (p := ⟨B, off + i * 4 + 1, none⟩) hB).trans c1
  have e2 := (H1.out.bel.cell (p := ⟨B, off + i * 4 + 2, none⟩) hB).trans c2
  have e3 := (H1.out.bel.cell (p := ⟨B, off + i * 4 + 3, none⟩) hB).trans c3
  have hB1 : B < w1.heap.size := Nat.lt_of_lt_of_le hB H1.out.bel.size
  have hi0 : (0 : Int) ≤ (i : Int) := by omega
  have hi1 : (i : Int) < (ln : Int) := by omega
  have t0 : decide ((i : Int) < 0) = false := decide_eq_false (by omega)
  have H3 := H2
  clear c0 c1 c2 c3 hi b1
  go_wp2_with fail
  refine (HBY.out _ H3.out.bel).mono ?_
  rintro e w4 ⟨rfl, b4⟩
  have H4 := Lib.hid (H3.out.step_bel b4)
  clear HBY b4 d0 d1 d2 df0 df1 df2 dl r0 r1 r2 rf0 rf1 rf2 rl H1 H2 H3 e0 e1 e2 e3
  obtain ⟨d0, d1, d2, df0, df1, df2, dl⟩ := box3 H4.out (i := 0) rfl
  obtain ⟨r0, r1, r2, rf0, rf1, rf2, rl⟩ := box3 H4.out (i := 1) rfl
  obtain ⟨f0, f1, f2, f3, ff0, ff1, ff2, ff3, fl⟩ := box4 H4.out (i := 2) rfl
  generalize fsumBut n L = z at *
  have q1 : IntKind.i64.wrap ((z : Int) + (s.size : Int)) = (z : Int) + (s.size : Int) := IntWalk.i64_in _ (by omega)
  have t3 : (fu == 0) = false := by simp; omega
  have t4 : decide (0 < fu) = true := decide_eq_true h0
  have q3 : IntKind.i64.wrap (fu - 1) = fu - 1 := IntWalk.i64_in _ (by omega)
  have H6 := Lib.hid (h_set H4.out (i := 0) rfl 1 (.int .i64 (fu - 1)))
  go_wp2_with fail
  refine (HWO.out _ (fu - 1) H6.out.bel).mono ?_
  rintro e w8 ⟨u8, rfl, m8⟩
  have HM := Lib.hid (m8.from H6.out.bel)
  have H8 := Lib.hid (h_row (H6.out) m8.bl m8.tx m8.nw)
  obtain ⟨b8, c8, hu8, _, _, _⟩ := m8.read flLen (by omega)
  clear m8 HPU HWO d0 d1 d2 df0 df1 df2 dl r0 r1 r2 rf0 rf1 rf2 rl f0 f1 f2 f3 ff0 ff1 ff2 ff3 fl
  obtain ⟨l8, hl8⟩ : ∃ l8, l8 = (fdel L n).length := ⟨_, rfl⟩
  rw [← hl8] at hu8
  subst hu8
  clear hl8
  obtain ⟨d0, d1, d2, df0, df1, df2, dl⟩ := box3 H8.out (i := 0) rfl
  obtain ⟨r0, r1, r2, rf0, rf1, rf2, rl⟩ := box3 H8.out (i := 1) rfl
  go_wp2_with fail
  have H7 := h_set3 H8.out (i := 1) rfl (.slice b8 l8 c8) (.int .i64 (fu - 1)) (.bool false)
  refine bodyPost_ret (fin2 rfl rfl (h_boxAt H7 (i := 1) rfl)) rfl ⟨_, rfl, .inr (h_mk H7 (i := 3) rfl), H7.bel⟩
set_option maxRecDepth 100000 in
set_option maxHeartbeats 4000000 in
theorem rstep4_p_neg (b : Option Addr) (cap : Nat) (L : Fs) (fu : Int) (n s : ByteArray) (w : World) (h : InW w b 4 (L.map flC)) (hl : L.length ≤ 5000) (hc : L.length ≤ cap) (ln : Nat) (hln : ln = L.length) (hz : fsum L ≤ 4194304) (hs : s.size ≤ 1000) (hfu : -1 ≤ fu) (hfu2 : fu ≤ 9223372036854775807) (hnm : nameD n = true) (f : Fl) (hg : mget L n = some f) (h0 : fu < 0) :
    Calls Try.prog 28 #[.agg #[.slice b ln cap, .int .i64 fu, .bool false], .int .i64 4, .string n, .string s] w (StepPost w L (.slice b ln cap) ⟨fdel L n, fu, false⟩ 0) := by
  have HS0 := Lib.hid (st_start w b ln cap fu false)
  have HAT := Lib.hid (at_any b cap L fu false n _ (InW.bel h HS0.out.bel) hl hc ln hln)
  have HBY : Hid (∀ W, Below w.heap.size w W → Calls Try.prog 42 #[.agg #[.slice b ln cap, .int .i64 fu, .bool false], .string n] W fun e w' => e = .returned (.int .i64 (fsumBut n L : Nat)) ∧ Below W.heap.size W w') := Lib.hid (fun W hb => bytes_any b cap L fu false n W (InW.bel h hb) hl hz hc ln hln)
  have HPU : Hid (∀ W (fu' : Int) (g : Fl), Below w.heap.size w W → Calls Try.prog 43 #[.agg #[.slice b ln cap, .int .i64 fu', .bool false], .agg #[.string n, .string g.s, .int .i64 (g.lasts : Int), .bool g.stays]] W fun e w' => ∃ u, e = .returned (.agg #[u, .int .i64 fu', .bool false]) ∧ MkG 80 4 flC W w' u (fput L n g)) := Lib.hid (fun W fu' g hb => put_any b cap L fu' false n g W (InW.bel h hb) hl hc ln hln)
  have HWO : Hid (∀ W (fu' : Int), Below w.heap.size w W → Calls Try.prog 44 #[.agg #[.slice b ln cap, .int .i64 fu', .bool false], .string n] W fun e w' => ∃ u, e = .returned (.agg #[u, .int .i64 fu', .bool false]) ∧ MkG 80 4 flC W w' u (fdel L n)) := Lib.hid (fun W fu' hb => without_any b cap L fu' false n W (InW.bel h hb) hl hc ln hln)
  have HIW := Lib.hid h
  have HLN := Lib.hid hln
  obtain ⟨d0, d1, d2, df0, df1, df2, dl⟩ := box3 HS0.out (i := 0) rfl
  have hsz : 1 ≤ n.size ∧ n.size ≤ 64 := by
    unfold nameD at hnm
    simp at hnm
    exact hnm
  have u1 : decide ((n.size : Int) < 1) = false := decide_eq_false (by omega)
  have u2 : decide ((64 : Int) < (n.size : Int)) = false := decide_eq_false (by omega)
  have hbl := but_le L n L.length
  rw [List.take_length] at hbl
  have hfs : f.s.size ≤ 4194304 := by
    have h1 : f.s.size ≤ fsum L := by
      have := mem_of_get hg
      exact fsum_mem this
    omega
  clear h hnm hln hsz
  go_enter Try.func28, Try.ntmps28
  go_wp2_with fail
  refine HAT.out.mono ?_
  rintro e w1 ⟨⟨q, rfl, hpos⟩, b1⟩
  have hq : ∃ i : Nat, q = i ∧ L[i]? = some (n, f) := by
    rcases hpos with ⟨_, h'⟩ | ⟨i, f', h1, h2, h3⟩
    · rw [hg] at h'; cases h'
    · rw [hg] at h3; cases h3; exact ⟨i, h1, h2⟩
  obtain ⟨i, rfl, hi⟩ := hq
  have H1 := Lib.hid (HS0.out.step_bel b1)
  clear hpos HAT d0 d1 d2 df0 df1 df2 dl HS0
  obtain ⟨d0, d1, d2, df0, df1, df2, dl⟩ := box3 H1.out (i := 0) rfl
  obtain ⟨r0, r1, r2, rf0, rf1, rf2, rl⟩ := box3 H1.out (i := 1) rfl
  have n1 : ¬ w.heap.size = w1.heap.size := by omega
  have n2 : ¬ w1.heap.size = w.heap.size := by omega
  have n3 : ¬ w.heap.size + 1 = w1.heap.size := by omega
  have n4 : ¬ w1.heap.size = w.heap.size + 1 := by omega
  have H2 := Lib.hid (h_box H1.out [.string n, .string f.s, .int .i64 (f.lasts : Int), .bool f.stays] 80)
  have hlt : i < ln := by rw [HLN.out]; exact (List.getElem?_eq_some_iff.1 hi).1
  obtain ⟨B, off, rfl, hB, c0, c1, c2, c3⟩ := fls_at HIW.out hi
  have e0 := (H1.out.bel.cell (p := ⟨B, off + i * 4, none⟩) hB).trans c0
  have e1 := (H1.out.bel.cell (p := ⟨B, off + i * 4 + 1, none⟩) hB).trans c1
  have e2 := (H1.out.bel.cell (p := ⟨B, off + i * 4 + 2, none⟩) hB).trans c2
  have e3 := (H1.out.bel.cell (p := ⟨B, off + i * 4 + 3, none⟩) hB).trans c3
  have hB1 : B < w1.heap.size := Nat.lt_of_lt_of_le hB H1.out.bel.size
  have hi0 : (0 : Int) ≤ (i : Int) := by omega
  have hi1 : (i : Int) < (ln : Int) := by omega
  have t0 : decide ((i : Int) < 0) = false := decide_eq_false (by omega)
  have H3 := H2
  clear c0 c1 c2 c3 hi b1
  go_wp2_with fail
  refine (HBY.out _ H3.out.bel).mono ?_
  rintro e w4 ⟨rfl, b4⟩
  have H4 := Lib.hid (H3.out.step_bel b4)
  clear HBY b4 d0 d1 d2 df0 df1 df2 dl r0 r1 r2 rf0 rf1 rf2 rl H1 H2 H3 e0 e1 e2 e3
  obtain ⟨d0, d1, d2, df0, df1, df2, dl⟩ := box3 H4.out (i := 0) rfl
  obtain ⟨r0, r1, r2, rf0, rf1, rf2, rl⟩ := box3 H4.out (i := 1) rfl
  obtain ⟨f0, f1, f2, f3, ff0, ff1, ff2, ff3, fl⟩ := box4 H4.out (i := 2) rfl
  generalize fsumBut n L = z at *
  have q1 : IntKind.i64.wrap ((z : Int) + (s.size : Int)) = (z : Int) + (s.size : Int) := IntWalk.i64_in _ (by omega)
  have t3 : (fu == 0) = false := by simp; omega
  have t4 : decide (0 < fu) = false := decide_eq_false (by omega)
  have H6 := H4
  go_wp2_with fail
  refine (HWO.out _ fu H6.out.bel).mono ?_
  rintro e w8 ⟨u8, rfl, m8⟩
  have HM := Lib.hid (m8.from H6.out.bel)
  have H8 := Lib.hid (h_row (H6.out) m8.bl m8.tx m8.nw)
  obtain ⟨b8, c8, hu8, _, _, _⟩ := m8.read flLen (by omega)
  clear m8 HPU HWO d0 d1 d2 df0 df1 df2 dl r0 r1 r2 rf0 rf1 rf2 rl f0 f1 f2 f3 ff0 ff1 ff2 ff3 fl
  obtain ⟨l8, hl8⟩ : ∃ l8, l8 = (fdel L n).length := ⟨_, rfl⟩
  rw [← hl8] at hu8
  subst hu8
  clear hl8
  obtain ⟨d0, d1, d2, df0, df1, df2, dl⟩ := box3 H8.out (i := 0) rfl
  obtain ⟨r0, r1, r2, rf0, rf1, rf2, rl⟩ := box3 H8.out (i := 1) rfl
  go_wp2_with fail
  have H7 := h_set3 H8.out (i := 1) rfl (.slice b8 l8 c8) (.int .i64 fu) (.bool false)
  refine bodyPost_ret (fin2 rfl rfl (h_boxAt H7 (i := 1) rfl)) rfl ⟨_, rfl, .inr (h_mk H7 (i := 3) rfl), H7.bel⟩
end Go.Proofs.Ytemfnchiedepoaa

/- Contracts of the document's Step (layer 4): each way, more. Contract of the document's Step (layer 4). -/
import Derived.Test.YtemfnchiedepoaaRf6
import Derived.Test.YtemfnchiedepoaaRf7
namespace Go.Proofs.Ytemfnchiedepoaa
open Go.RowKit Go.MapKept Go.Maps
set_option linter.unusedVariables false
set_option linter.unusedSimpArgs false
set_option maxRecDepth 100000 in
set_option maxHeartbeats 4000000 in
theorem rstep3_p_full (b : Option Addr) (cap : Nat) (L : Fs) (fu : Int) (n s : ByteArray) (w : World) (h : InW w b 4 (L.map flC)) (hl : L.length ≤ 5000) (hc : L.length ≤ cap) (ln : Nat) (hln : ln = L.length) (hz : fsum L ≤ 4194304) (hs : s.size ≤ 1000) (hfu : -1 ≤ fu) (hfu2 : fu ≤ 9223372036854775807) (hnm : nameD n = true) (f : Fl) (hg : mget L n = some f) (hful : 4194304 < fsumBut n L + s.size) :
    Calls Try.prog 28 #[.agg #[.slice b ln cap, .int .i64 fu, .bool false], .int .i64 3, .string n, .string s] w (StepPost w L (.slice b ln cap) ⟨L, fu, false⟩ 5) := by
  have HS0 := Lib.hid (st_start w b ln cap fu false)
  have HAT := Lib.hid (at_any b cap L fu false n _ (InW.bel h HS0.out.bel) hl hc ln hln)
  have HBY : Hid (∀ W, Below w.heap.size w W → Calls Try.prog 42 #[.agg #[.slice b ln cap, .int .i64 fu, .bool false], .string n] W fun e w' => e = .returned (.int .i64 (fsumBut n L : Nat)) ∧ Below W.heap.size W w') := Lib.hid (fun W hb => bytes_any b cap L fu false n W (InW.bel h hb) hl hz hc ln hln)
  have HPU : Hid (∀ W (fu' : Int) (g : Fl), Below w.heap.size w W → Calls Try.prog 43 #[.agg #[.slice b ln cap, .int .i64 fu', .bool false], .agg #[.string n, .string g.s, .int .i64 (g.lasts : Int), .bool g.stays]] W fun e w' => ∃ u, e = .returned (.agg #[u, .int .i64 fu', .bool false]) ∧ MkG 80 4 flC W w' u (fput L n g)) := Lib.hid (fun W fu' g hb => put_any b cap L fu' false n g W (InW.bel h hb) hl hc ln hln)
  have HWO : Hid (∀ W (fu' : Int), Below w.heap.size w W → Calls Try.prog 44 #[.agg #[.slice b ln cap, .int .i64 fu', .bool false], .string n] W fun e w' => ∃ u, e = .returned (.agg #[u, .int .i64 fu', .bool false]) ∧ MkG 80 4 flC W w' u (fdel L n)) := Lib.hid (fun W fu' hb => without_any b cap L fu' false n W (InW.bel h hb) hl hc ln hln)
  have HIW := Lib.hid h
  have HLN := Lib.hid hln
  obtain ⟨d0, d1, d2, df0, df1, df2, dl⟩ := box3 HS0.out (i := 0) rfl
  have hsz : 1 ≤ n.size ∧ n.size ≤ 64 := by
    unfold nameD at hnm
    simp at hnm
    exact hnm
  have u1 : decide ((n.size : Int) < 1) = false := decide_eq_false (by omega)
  have u2 : decide ((64 : Int) < (n.size : Int)) = false := decide_eq_false (by omega)
  have hbl := but_le L n L.length
  rw [List.take_length] at hbl
  have hfs : f.s.size ≤ 4194304 := by
    have h1 : f.s.size ≤ fsum L := by
      have := mem_of_get hg
      exact fsum_mem this
    omega
  clear h hnm hln hsz
  go_enter Try.func28, Try.ntmps28
  go_wp2_with fail
  refine HAT.out.mono ?_
  rintro e w1 ⟨⟨q, rfl, hpos⟩, b1⟩
  have hq : ∃ i : Nat, q = i ∧ L[i]? = some (n, f) := by
    rcases hpos with ⟨_, h'⟩ | ⟨i, f', h1, h2, h3⟩
    · rw [hg] at h'; cases h'
    · rw [hg] at h3; cases h3; exact ⟨i, h1, h2⟩
  obtain ⟨i, rfl, hi⟩ := hq
  have H1 := Lib.hid (HS0.out.step_bel b1)
  clear hpos HAT d0 d1 d2 df0 df1 df2 dl HS0
  obtain ⟨d0, d1, d2, df0, df1, df2, dl⟩ := box3 H1.out (i := 0) rfl
  obtain ⟨r0, r1, r2, rf0, rf1, rf2, rl⟩ := box3 H1.out (i := 1) rfl
  have n1 : ¬ w.heap.size = w1.heap.size := by omega
  have n2 : ¬ w1.heap.size = w.heap.size := by omega
  have n3 : ¬ w.heap.size + 1 = w1.heap.size := by omega
  have n4 : ¬ w1.heap.size = w.heap.size + 1 := by omega
  have H2 := Lib.hid (h_box H1.out [.string n, .string f.s, .int .i64 (f.lasts : Int), .bool f.stays] 80)
  have hlt : i < ln := by rw [HLN.out]; exact (List.getElem?_eq_some_iff.1 hi).1
  obtain ⟨B, off, rfl, hB, c0, c1, c2, c3⟩ := fls_at HIW.out hi
  have e0 := (H1.out.bel.cell (p := ⟨B, off + i * 4, none⟩) hB).trans c0
  have e1 := (H1.out.bel.cell (p := ⟨B, off + i * 4 + 1, none⟩) hB).trans c1
  have e2 := (H1.out.bel.cell (p := ⟨B, off + i * 4 + 2, none⟩) hB).trans c2
  have e3 := (H1.out.bel.cell (p := ⟨B, off + i * 4 + 3, none⟩) hB).trans c3
  have hB1 : B < w1.heap.size := Nat.lt_of_lt_of_le hB H1.out.bel.size
  have hi0 : (0 : Int) ≤ (i : Int) := by omega
  have hi1 : (i : Int) < (ln : Int) := by omega
  have t0 : decide ((i : Int) < 0) = false := decide_eq_false (by omega)
  have H3 := H2
  clear c0 c1 c2 c3 hi b1
  go_wp2_with fail
  refine (HBY.out _ H3.out.bel).mono ?_
  rintro e w4 ⟨rfl, b4⟩
  have H4 := Lib.hid (H3.out.step_bel b4)
  clear HBY b4 d0 d1 d2 df0 df1 df2 dl r0 r1 r2 rf0 rf1 rf2 rl H1 H2 H3 e0 e1 e2 e3
  obtain ⟨d0, d1, d2, df0, df1, df2, dl⟩ := box3 H4.out (i := 0) rfl
  obtain ⟨r0, r1, r2, rf0, rf1, rf2, rl⟩ := box3 H4.out (i := 1) rfl
  obtain ⟨f0, f1, f2, f3, ff0, ff1, ff2, ff3, fl⟩ := box4 H4.out (i := 2) rfl
  generalize fsumBut n L = z at *
  have q1 : IntKind.i64.wrap ((z : Int) + (s.size : Int)) = (z : Int) + (s.size : Int) := IntWalk.i64_in _ (by omega)
  have t1 : decide ((4194304 : Int) < (z : Int) + (s.size : Int)) = true := decide_eq_true (by omega)
  clear HPU HWO
  go_wp2_with fail
  have H7 := h_set3 H4.out (i := 1) rfl (.slice (some ⟨B, off, none⟩) ln cap) (.int .i64 fu) (.bool false)
  refine bodyPost_ret (fin2 rfl rfl (h_boxAt H7 (i := 1) rfl)) rfl ⟨_, rfl, .inl ⟨rfl, rfl⟩, H7.bel⟩
set_option maxRecDepth 100000 in
set_option maxHeartbeats 4000000 in
theorem rstep3_p_zero (b : Option Addr) (cap : Nat) (L : Fs) (fu : Int) (n s : ByteArray) (w : World) (h : InW w b 4 (L.map flC)) (hl : L.length ≤ 5000) (hc : L.length ≤ cap) (ln : Nat) (hln : ln = L.length) (hz : fsum L ≤ 4194304) (hs : s.size ≤ 1000) (hfu : -1 ≤ fu) (hfu2 : fu ≤ 9223372036854775807) (hnm : nameD n = true) (f : Fl) (hg : mget L n = some f) (hful : fsumBut n L + s.size ≤ 4194304) (h0 : fu = 0) :
    Calls Try.prog 28 #[.agg #[.slice b ln cap, .int .i64 fu, .bool false], .int .i64 3, .string n, .string s] w (StepPost w L (.slice b ln cap) ⟨L, 0, true⟩ 8) := by
  subst h0
  have HS0 := Lib.hid (st_start w b ln cap 0 false)
  have HAT := Lib.hid (at_any b cap L 0 false n _ (InW.bel h HS0.out.bel) hl hc ln hln)
  have HBY : Hid (∀ W, Below w.heap.size w W → Calls Try.prog 42 #[.agg #[.slice b ln cap, .int .i64 0, .bool false], .string n] W fun e w' => e = .returned (.int .i64 (fsumBut n L : Nat)) ∧ Below W.heap.size W w') := Lib.hid (fun W hb => bytes_any b cap L 0 false n W (InW.bel h hb) hl hz hc ln hln)
  have HPU : Hid (∀ W (fu' : Int) (g : Fl), Below w.heap.size w W → Calls Try.prog 43 #[.agg #[.slice b ln cap, .int .i64 fu', .bool false], .agg #[.string n, .string g.s, .int .i64 (g.lasts : Int), .bool g.stays]] W fun e w' => ∃ u, e = .returned (.agg #[u, .int .i64 fu', .bool false]) ∧ MkG 80 4 flC W w' u (fput L n g)) := Lib.hid (fun W fu' g hb => put_any b cap L fu' false n g W (InW.bel h hb) hl hc ln hln)
  have HWO : Hid (∀ W (fu' : Int), Below w.heap.size w W → Calls Try.prog 44 #[.agg #[.slice b ln cap, .int .i64 fu', .bool false], .string n] W fun e w' => ∃ u, e = .returned (.agg #[u, .int .i64 fu', .bool false]) ∧ MkG 80 4 flC W w' u (fdel L n)) := Lib.hid (fun W fu' hb => without_any b cap L fu' false n W (InW.bel h hb) hl hc ln hln)
  have HIW := Lib.hid h
  have HLN := Lib.hid hln
  obtain ⟨d0, d1, d2, df0, df1, df2, dl⟩ := box3 HS0.out (i := 0) rfl
  have hsz : 1 ≤ n.size ∧ n.size ≤ 64 := by
    unfold nameD at hnm
    simp at hnm
    exact hnm
  have u1 : decide ((n.size : Int) < 1) = false := decide_eq_false (by omega)
  have u2 : decide ((64 : Int) < (n.size : Int)) = false := decide_eq_false (by omega)
  have hbl := but_le L n L.length
  rw [List.take_length] at hbl
  have hfs : f.s.size ≤ 4194304 := by
    have h1 : f.s.size ≤ fsum L := by
      have := mem_of_get hg
      exact fsum_mem this
    omega
  clear h hnm hln hsz
  go_enter Try.func28, Try.ntmps28
  go_wp2_with fail
  refine HAT.out.mono ?_
  rintro e w1 ⟨⟨q, rfl, hpos⟩, b1⟩
  have hq : ∃ i : Nat, q = i ∧ L[i]? = some (n, f) := by
    rcases hpos with ⟨_, h'⟩ | ⟨i, f', h1, h2, h3⟩
    · rw [hg] at h'; cases h'
    · rw [hg] at h3; cases h3; exact ⟨i, h1, h2⟩
  obtain ⟨i, rfl, hi⟩ := hq
  have H1 := Lib.hid (HS0.out.step_bel b1)
  clear hpos HAT d0 d1 d2 df0 df1 df2 dl HS0
  obtain ⟨d0, d1, d2, df0, df1, df2, dl⟩ := box3 H1.out (i := 0) rfl
  obtain ⟨r0, r1, r2, rf0, rf1, rf2, rl⟩ := box3 H1.out (i := 1) rfl
  have n1 : ¬ w.heap.size = w1.heap.size := by omega
  have n2 : ¬ w1.heap.size = w.heap.size := by omega
  have n3 : ¬ w.heap.size + 1 = w1.heap.size := by omega
  have n4 : ¬ w1.heap.size = w.heap.size + 1 := by omega
  have H2 := Lib.hid (h_box H1.out [.string n, .string f.s, .int .i64 (f.lasts : Int), .bool f.stays] 80)
  have hlt : i < ln := by rw [HLN.out]; exact (List.getElem?_eq_some_iff.1 hi).1
  obtain ⟨B, off, rfl, hB, c0, c1, c2, c3⟩ := fls_at HIW.out hi
  have e0 := (H1.out.bel.cell (p := ⟨B, off + i * 4, none⟩) hB).trans c0
  have e1 := (H1.out.bel.cell (p := ⟨B, off + i * 4 + 1, none⟩) hB).trans c1
  have e2 := (H1.out.bel.cell (p := ⟨B, off + i * 4 + 2, none⟩) hB).trans c2
  have e3 := (H1.out.bel.cell (p := ⟨B, off + i * 4 + 3, none⟩) hB).trans c3
  have hB1 : B < w1.heap.size := Nat.lt_of_lt_of_le hB H1.out.bel.size
  have hi0 : (0 : Int) ≤ (i : Int) := by omega
  have hi1 : (i : Int) < (ln : Int) := by omega
  have t0 : decide ((i : Int) < 0) = false := decide_eq_false (by omega)
  have H3 := H2
  clear c0 c1 c2 c3 hi b1
  go_wp2_with fail
  refine (HBY.out _ H3.out.bel).mono ?_
  rintro e w4 ⟨rfl, b4⟩
  have H4 := Lib.hid (H3.out.step_bel b4)
  clear HBY b4 d0 d1 d2 df0 df1 df2 dl r0 r1 r2 rf0 rf1 rf2 rl H1 H2 H3 e0 e1 e2 e3
  obtain ⟨d0, d1, d2, df0, df1, df2, dl⟩ := box3 H4.out (i := 0) rfl
  obtain ⟨r0, r1, r2, rf0, rf1, rf2, rl⟩ := box3 H4.out (i := 1) rfl
  obtain ⟨f0, f1, f2, f3, ff0, ff1, ff2, ff3, fl⟩ := box4 H4.out (i := 2) rfl
  generalize fsumBut n L = z at *
  have q1 : IntKind.i64.wrap ((z : Int) + (s.size : Int)) = (z : Int) + (s.size : Int) := IntWalk.i64_in _ (by omega)
  have t1 : decide ((4194304 : Int) < (z : Int) + (s.size : Int)) = false := decide_eq_false (by omega)
  clear HPU HWO
  go_wp2_with fail
  have H5 := h_set H4.out (i := 0) rfl 2 (.bool true)
  have H7 := h_set3 H5 (i := 1) rfl (.slice (some ⟨B, off, none⟩) ln cap) (.int .i64 0) (.bool true)
  refine bodyPost_ret (fin2 rfl rfl (h_boxAt H7 (i := 1) rfl)) rfl ⟨_, rfl, .inl ⟨rfl, rfl⟩, H7.bel⟩
set_option maxRecDepth 100000 in
set_option maxHeartbeats 4000000 in
theorem rstep3_p_pos (b : Option Addr) (cap : Nat) (L : Fs) (fu : Int) (n s : ByteArray) (w : World) (h : InW w b 4 (L.map flC)) (hl : L.length ≤ 5000) (hc : L.length ≤ cap) (ln : Nat) (hln : ln = L.length) (hz : fsum L ≤ 4194304) (hs : s.size ≤ 1000) (hfu : -1 ≤ fu) (hfu2 : fu ≤ 9223372036854775807) (hnm : nameD n = true) (f : Fl) (hg : mget L n = some f) (hful : fsumBut n L + s.size ≤ 4194304) (h0 : 0 < fu) :
    Calls Try.prog 28 #[.agg #[.slice b ln cap, .int .i64 fu, .bool false], .int .i64 3, .string n, .string s] w (StepPost w L (.slice b ln cap) ⟨fput L n ⟨s, s.size, true⟩, fu - 1, false⟩ 0) := by
  have HS0 := Lib.hid (st_start w b ln cap fu false)
  have HAT := Lib.hid (at_any b cap L fu false n _ (InW.bel h HS0.out.bel) hl hc ln hln)
  have HBY : Hid (∀ W, Below w.heap.size w W → Calls Try.prog 42 #[.agg #[.slice b ln cap, .int .i64 fu, .bool false], .string n] W fun e w' => e = .returned (.int .i64 (fsumBut n L : Nat)) ∧ Below W.heap.size W w') := Lib.hid (fun W hb => bytes_any b cap L fu false n W (InW.bel h hb) hl hz hc ln hln)
  have HPU : Hid (∀ W (fu' : Int) (g : Fl), Below w.heap.size w W → Calls Try.prog 43 #[.agg #[.slice b ln cap, .int .i64 fu', .bool false], .agg #[.string n, .string g.s, .int .i64 (g.lasts : Int), .bool g.stays]] W fun e w' => ∃ u, e = .returned (.agg #[u, .int .i64 fu', .bool false]) ∧ MkG 80 4 flC W w' u (fput L n g)) := Lib.hid (fun W fu' g hb => put_any b cap L fu' false n g W (InW.bel h hb) hl hc ln hln)
  have HWO : Hid (∀ W (fu' : Int), Below w.heap.size w W → Calls Try.prog 44 #[.agg #[.slice b ln cap, .int .i64 fu', .bool false], .string n] W fun e w' => ∃ u, e = .returned (.agg #[u, .int .i64 fu', .bool false]) ∧ MkG 80 4 flC W w' u (fdel L n)) := Lib.hid (fun W fu' hb => without_any b cap L fu' false n W (InW.bel h hb) hl hc ln hln)
  have HIW := Lib.hid h
  have HLN := Lib.hid hln
  obtain ⟨d0, d1, d2, df0, df1, df2, dl⟩ := box3 HS0.out (i := 0) rfl
  have hsz : 1 ≤ n.size ∧ n.size ≤ 64 := by
    unfold nameD at hnm
    simp at hnm
    exact hnm
  have u1 : decide ((n.size : Int) < 1) = false := decide_eq_false (by omega)
  have u2 : decide ((64 : Int) < (n.size : Int)) = false := decide_eq_false (by omega)
  have hbl := but_le L n L.length
  rw [List.take_length] at hbl
  have hfs : f.s.size ≤ 4194304 := by
    have h1 : f.s.size ≤ fsum L := by
      have := mem_of_get hg
      exact fsum_mem this
    omega
  clear h hnm hln hsz
  go_enter Try.func28, Try.ntmps28
  go_wp2_with fail
  refine HAT.out.mono ?_
  rintro e w1 ⟨⟨q, rfl, hpos⟩, b1⟩
  have hq : ∃ i : Nat, q = i ∧ L[i]? = some (n, f) := by
    rcases hpos with ⟨_, h'⟩ | ⟨i, f', h1, h2, h3⟩
    · rw [hg] at h'; cases h'
    · rw [hg] at h3; cases h3; exact ⟨i, h1, h2⟩
  obtain ⟨i, rfl, hi⟩ := hq
  have H1 := Lib.hid (HS0.out.step_bel b1)
  clear hpos HAT d0 d1 d2 df0 df1 df2 dl HS0
  obtain ⟨d0, d1, d2, df0, df1, df2, dl⟩ := box3 H1.out (i := 0) rfl
  obtain ⟨r0, r1, r2, rf0, rf1, rf2, rl⟩ := box3 H1.out (i := 1) rfl
  have n1 : ¬ w.heap.size = w1.heap.size := by omega
  have n2 : ¬ w1.heap.size = w.heap.size := by omega
  have n3 : ¬ w.heap.size + 1 = w1.heap.size := by omega
  have n4 : ¬ w1.heap.size = w.heap.size + 1 := by omega
  have H2 := Lib.hid (h_box H1.out [.string n, .string f.s, .int .i64 (f.lasts : Int), .bool f.stays] 80)
  have hlt : i < ln := by rw [HLN.out]; exact (List.getElem?_eq_some_iff.1 hi).1
  obtain ⟨B, off, rfl, hB, c0, c1, c2, c3⟩ := fls_at HIW.out hi
  have e0 := (H1.out.bel.cell (p := ⟨B, off + i * 4, none⟩) hB).trans c0
  have e1 := (H1.out.bel.cell (p := ⟨B, off + i * 4 + 1, none⟩) hB).trans c1
  have e2 := (H1.out.bel.cell (p := ⟨B, off + i * 4 + 2, none⟩) hB).trans c2
  have e3 := (H1.out.bel.cell (p := ⟨B, off + i * 4 + 3, none⟩) hB).trans c3
  have hB1 : B < w1.heap.size := Nat.lt_of_lt_of_le hB H1.out.bel.size
  have hi0 : (0 : Int) ≤ (i : Int) := by omega
  have hi1 : (i : Int) < (ln : Int) := by omega
  have t0 : decide ((i : Int) < 0) = false := decide_eq_false (by omega)
  have H3 := H2
  clear c0 c1 c2 c3 hi b1
  go_wp2_with fail
  refine (HBY.out _ H3.out.bel).mono ?_
  rintro e w4 ⟨rfl, b4⟩
  have H4 := Lib.hid (H3.out.step_bel b4)
  clear HBY b4 d0 d1 d2 df0 df1 df2 dl r0 r1 r2 rf0 rf1 rf2 rl H1 H2 H3 e0 e1 e2 e3
  obtain ⟨d0, d1, d2, df0, df1, df2, dl⟩ := box3 H4.out (i := 0) rfl
  obtain ⟨r0, r1, r2, rf0, rf1, rf2, rl⟩ := box3 H4.out (i := 1) rfl
  obtain ⟨f0, f1, f2, f3, ff0, ff1, ff2, ff3, fl⟩ := box4 H4.out (i := 2) rfl
  generalize fsumBut n L = z at *
  have q1 : IntKind.i64.wrap ((z : Int) + (s.size : Int)) = (z : Int) + (s.size : Int) := IntWalk.i64_in _ (by omega)
  have t1 : decide ((4194304 : Int) < (z : Int) + (s.size : Int)) = false := decide_eq_false (by omega)
  have t3 : (fu == 0) = false := by simp; omega
  have t4 : decide (0 < fu) = true := decide_eq_true h0
  have q3 : IntKind.i64.wrap (fu - 1) = fu - 1 := IntWalk.i64_in _ (by omega)
  have H5 := Lib.hid (h_set4 H4.out (i := 2) rfl (.string n) (.string s) (.int .i64 (s.size : Int)) (.bool true))
  have H6 := Lib.hid (h_set4 (h_set H4.out (i := 0) rfl 1 (.int .i64 (fu - 1))) (i := 2) rfl (.string n) (.string s) (.int .i64 (s.size : Int)) (.bool true))
  go_wp2_with fail
  refine (HPU.out _ (fu - 1) (⟨s, s.size, true⟩ : Fl) H6.out.bel).mono ?_
  rintro e w8 ⟨u8, rfl, m8⟩
  have HM := Lib.hid (m8.from H6.out.bel)
  have H8 := Lib.hid (h_row (H6.out) m8.bl m8.tx m8.nw)
  obtain ⟨b8, c8, hu8, _, _, _⟩ := m8.read flLen (by omega)
  clear m8 HPU HWO d0 d1 d2 df0 df1 df2 dl r0 r1 r2 rf0 rf1 rf2 rl f0 f1 f2 f3 ff0 ff1 ff2 ff3 fl
  obtain ⟨l8, hl8⟩ : ∃ l8, l8 = (fput L n (⟨s, s.size, true⟩ : Fl)).length := ⟨_, rfl⟩
  rw [← hl8] at hu8
  subst hu8
  clear hl8
  obtain ⟨d0, d1, d2, df0, df1, df2, dl⟩ := box3 H8.out (i := 0) rfl
  obtain ⟨r0, r1, r2, rf0, rf1, rf2, rl⟩ := box3 H8.out (i := 1) rfl
  go_wp2_with fail
  have H7 := h_set3 H8.out (i := 1) rfl (.slice b8 l8 c8) (.int .i64 (fu - 1)) (.bool false)
  refine bodyPost_ret (fin2 rfl rfl (h_boxAt H7 (i := 1) rfl)) rfl ⟨_, rfl, .inr (h_mk H7 (i := 3) rfl), H7.bel⟩
set_option maxRecDepth 100000 in
set_option maxHeartbeats 4000000 in
theorem rstep3_p_neg (b : Option Addr) (cap : Nat) (L : Fs) (fu : Int) (n s : ByteArray) (w : World) (h : InW w b 4 (L.map flC)) (hl : L.length ≤ 5000) (hc : L.length ≤ cap) (ln : Nat) (hln : ln = L.length) (hz : fsum L ≤ 4194304) (hs : s.size ≤ 1000) (hfu : -1 ≤ fu) (hfu2 : fu ≤ 9223372036854775807) (hnm : nameD n = true) (f : Fl) (hg : mget L n = some f) (hful : fsumBut n L + s.size ≤ 4194304) (h0 : fu < 0) :
    Calls Try.prog 28 #[.agg #[.slice b ln cap, .int .i64 fu, .bool false], .int .i64 3, .string n, .string s] w (StepPost w L (.slice b ln cap) ⟨fput L n ⟨s, s.size, true⟩, fu, false⟩ 0) := by
  have HS0 := Lib.hid (st_start w b ln cap fu false)
  have HAT := Lib.hid (at_any b cap L fu false n _ (InW.bel h HS0.out.bel) hl hc ln hln)
  have HBY : Hid (∀ W, Below w.heap.size w W → Calls Try.prog 42 #[.agg #[.slice b ln cap, .int .i64 fu, .bool false], .string n] W fun e w' => e = .returned (.int .i64 (fsumBut n L : Nat)) ∧ Below W.heap.size W w') := Lib.hid (fun W hb => bytes_any b cap L fu false n W (InW.bel h hb) hl hz hc ln hln)
  have HPU : Hid (∀ W (fu' : Int) (g : Fl), Below w.heap.size w W → Calls Try.prog 43 #[.agg #[.slice b ln cap, .int .i64 fu', .bool false], .agg #[.string n, .string g.s, .int .i64 (g.lasts : Int), .bool g.stays]] W fun e w' => ∃ u, e = .returned (.agg #[u, .int .i64 fu', .bool false]) ∧ MkG 80 4 flC W w' u (fput L n g)) := Lib.hid (fun W fu' g hb => put_any b cap L fu' false n g W (InW.bel h hb) hl hc ln hln)
  have HWO : Hid (∀ W (fu' : Int), Below w.heap.size w W → Calls Try.prog 44 #[.agg #[.slice b ln cap, .int .i64 fu', .bool false], .string n] W fun e w' => ∃ u, e = .returned (.agg #[u, .int .i64 fu', .bool false]) ∧ MkG 80 4 flC W w' u (fdel L n)) := Lib.hid (fun W fu' hb => without_any b cap L fu' false n W (InW.bel h hb) hl hc ln hln)
  have HIW := Lib.hid h
  have HLN := Lib.hid hln
  obtain ⟨d0, d1, d2, df0, df1, df2, dl⟩ := box3 HS0.out (i := 0) rfl
  have hsz : 1 ≤ n.size ∧ n.size ≤ 64 := by
    unfold nameD at hnm
    simp at hnm
    exact hnm
  have u1 : decide ((n.size : Int) < 1) = false := decide_eq_false (by omega)
  have u2 : decide ((64 : Int) < (n.size : Int)) = false := decide_eq_false (by omega)
  have hbl := but_le L n L.length
  rw [List.take_length] at hbl
  have hfs : f.s.size ≤ 4194304 := by
    have h1 : f.s.size ≤ fsum L := by
      have := mem_of_get hg
      exact fsum_mem this
    omega
  clear h hnm hln hsz
  go_enter Try.func28, Try.ntmps28
  go_wp2_with fail
  refine HAT.out.mono ?_
  rintro e w1 ⟨⟨q, rfl, hpos⟩, b1⟩
  have hq : ∃ i : Nat, q = i ∧ L[i]? = some (n, f) := by
    rcases hpos with ⟨_, h'⟩ | ⟨i, f', h1, h2, h3⟩
    · rw [hg] at h'; cases h'
    · rw [hg] at h3; cases h3; exact ⟨i, h1, h2⟩
  obtain ⟨i, rfl, hi⟩ := hq
  have H1 := Lib.hid (HS0.out.step_bel b1)
  clear hpos HAT d0 d1 d2 df0 df1 df2 dl HS0
  obtain ⟨d0, d1, d2, df0, df1, df2, dl⟩ := box3 H1.out (i := 0) rfl
  obtain ⟨r0, r1, r2, rf0, rf1, rf2, rl⟩ := box3 H1.out (i := 1) rfl
  have n1 : ¬ w.heap.size = w1.heap.size := by omega
  have n2 : ¬ w1.heap.size = w.heap.size := by omega
  have n3 : ¬ w.heap.size + 1 = w1.heap.size := by omega
  have n4 : ¬ w1.heap.size = w.heap.size + 1 := by omega
  have H2 := Lib.hid (h_box H1.out [.string n, .string f.s, .int .i64 (f.lasts : Int), .bool f.stays] 80)
  have hlt : i < ln := by rw [HLN.out]; exact (List.getElem?_eq_some_iff.1 hi).1
  obtain ⟨B, off, rfl, hB, c0, c1, c2, c3⟩ := fls_at HIW.out hi
  have e0 := (H1.out.bel.cell (p := ⟨B, off + i * 4, none⟩) hB).trans c0
  have e1 := (H1.out.bel.cell (p := ⟨B, off + i * 4 + 1, none⟩) hB).trans c1
  have e2 := (H1.out.bel.cell (p := ⟨B, off + i * 4 + 2, none⟩) hB).trans c2
  have e3 := (H1.out.bel.cell (p := ⟨B, off + i * 4 + 3, none⟩) hB).trans c3
  have hB1 : B < w1.heap.size := Nat.lt_of_lt_of_le hB H1.out.bel.size
  have hi0 : (0 : Int) ≤ (i : Int) := by omega
  have hi1 : (i : Int) < (ln : Int) := by omega
  have t0 : decide ((i : Int) < 0) = false := decide_eq_false (by omega)
  have H3 := H2
  clear c0 c1 c2 c3 hi b1
  go_wp2_with fail
  refine (HBY.out _ H3.out.bel).mono ?_
  rintro e w4 ⟨rfl, b4⟩
  have H4 := Lib.hid (H3.out.step_bel b4)
  clear HBY b4 d0 d1 d2 df0 df1 df2 dl r0 r1 r2 rf0 rf1 rf2 rl H1 H2 H3 e0 e1 e2 e3
  obtain ⟨d0, d1, d2, df0, df1, df2, dl⟩ := box3 H4.out (i := 0) rfl
  obtain ⟨r0, r1, r2, rf0, rf1, rf2, rl⟩ := box3 H4.out (i := 1) rfl
  obtain ⟨f0, f1, f2, f3, ff0, ff1, ff2, ff3, fl⟩ := box4 H4.out (i := 2) rfl
  generalize fsumBut n L = z at *
  have q1 : IntKind.i64.wrap ((z : Int) + (s.size : Int)) = (z : Int) + (s.size : Int) := IntWalk.i64_in _ (by omega)
  have t1 : decide ((4194304 : Int) < (z : Int) + (s.size : Int)) = false := decide_eq_false (by omega)
  have t3 : (fu == 0) = false := by simp; omega
  have t4 : decide (0 < fu) = false := decide_eq_false (by omega)
  have H5 := Lib.hid (h_set4 H4.out (i := 2) rfl (.string n) (.string s) (.int .i64 (s.size : Int)) (.bool true))
  have H6 := H5
  go_wp2_with fail
  refine (HPU.out _ fu (⟨s, s.size, true⟩ : Fl) H6.out.bel).mono ?_
  rintro e w8 ⟨u8, rfl, m8⟩
  have HM := Lib.hid (m8.from H6.out.bel)
  have H8 := Lib.hid (h_row (H6.out) m8.bl m8.tx m8.nw)
  obtain ⟨b8, c8, hu8, _, _, _⟩ := m8.read flLen (by omega)
  clear m8 HPU HWO d0 d1 d2 df0 df1 df2 dl r0 r1 r2 rf0 rf1 rf2 rl f0 f1 f2 f3 ff0 ff1 ff2 ff3 fl
  obtain ⟨l8, hl8⟩ : ∃ l8, l8 = (fput L n (⟨s, s.size, true⟩ : Fl)).length := ⟨_, rfl⟩
  rw [← hl8] at hu8
  subst hu8
  clear hl8
  obtain ⟨d0, d1, d2, df0, df1, df2, dl⟩ := box3 H8.out (i := 0) rfl
  obtain ⟨r0, r1, r2, rf0, rf1, rf2, rl⟩ := box3 H8.out (i := 1) rfl
  go_wp2_with fail
  have H7 := h_set3 H8.out (i := 1) rfl (.slice b8 l8 c8) (.int .i64 fu) (.bool false)
  refine bodyPost_ret (fin2 rfl rfl (h_boxAt H7 (i := 1) rfl)) rfl ⟨_, rfl, .inr (h_mk H7 (i := 3) rfl), H7.bel⟩
set_option maxRecDepth 100000 in
set_option maxHeartbeats 4000000 in
theorem rstep3_a_full (b : Option Addr) (cap : Nat) (L : Fs) (fu : Int) (n s : ByteArray) (w : World) (h : InW w b 4 (L.map flC)) (hl : L.length ≤ 5000) (hc : L.length ≤ cap) (ln : Nat) (hln : ln = L.length) (hz : fsum L ≤ 4194304) (hs : s.size ≤ 1000) (hfu : -1 ≤ fu) (hfu2 : fu ≤ 9223372036854775807) (hnm : nameD n = true) (hg : mget L n = none) (hful : 4194304 < fsumBut n L + s.size) :
    Calls Try.prog 28 #[.agg #[.slice b ln cap, .int .i64 fu, .bool false], .int .i64 3, .string n, .string s] w (StepPost w L (.slice b ln cap) ⟨L, fu, false⟩ 5) := by
  have HS0 := Lib.hid (st_start w b ln cap fu false)
  have HAT := Lib.hid (at_any b cap L fu false n _ (InW.bel h HS0.out.bel) hl hc ln hln)
  have HBY : Hid (∀ W, Below w.heap.size w W → Calls Try.prog 42 #[.agg #[.slice b ln cap, .int .i64 fu, .bool false], .string n] W fun e w' => e = .returned (.int .i64 (fsumBut n L : Nat)) ∧ Below W.heap.size W w') := Lib.hid (fun W hb => bytes_any b cap L fu false n W (InW.bel h hb) hl hz hc ln hln)
  have HPU : Hid (∀ W (fu' : Int) (g : Fl), Below w.heap.size w W → Calls Try.prog 43 #[.agg #[.slice b ln cap, .int .i64 fu', .bool false], .agg #[.string n, .string g.s, .int .i64 (g.lasts : Int), .bool g.stays]] W fun e w' => ∃ u, e = .returned (.agg #[u, .int .i64 fu', .bool false]) ∧ MkG 80 4 flC W w' u (fput L n g)) := Lib.hid (fun W fu' g hb => put_any b cap L fu' false n g W (InW.bel h hb) hl hc ln hln)
  have HWO : Hid (∀ W (fu' : Int), Below w.heap.size w W → Calls Try.prog 44 #[.agg #[.slice b ln cap, .int .i64 fu', .bool false], .string n] W fun e w' => ∃ u, e = .returned (.agg #[u, .int .i64 fu', .bool false]) ∧ MkG 80 4 flC W w' u (fdel L n)) := Lib.hid (fun W fu' hb => without_any b cap L fu' false n W (InW.bel h hb) hl hc ln hln)
  have HIW := Lib.hid h
  have HLN := Lib.hid hln
  obtain ⟨d0, d1, d2, df0, df1, df2, dl⟩ := box3 HS0.out (i := 0) rfl
  have hsz : 1 ≤ n.size ∧ n.size ≤ 64 := by
    unfold nameD at hnm
    simp at hnm
    exact hnm
  have u1 : decide ((n.size : Int) < 1) = false := decide_eq_false (by omega)
  have u2 : decide ((64 : Int) < (n.size : Int)) = false := decide_eq_false (by omega)
  have hbl := but_le L n L.length
  rw [List.take_length] at hbl
  clear h hnm hln hsz
  go_enter Try.func28, Try.ntmps28
  go_wp2_with fail
  refine HAT.out.mono ?_
  rintro e w1 ⟨⟨q, rfl, hpos⟩, b1⟩
  have hq : q = -1 := by
    rcases hpos with ⟨h', _⟩ | ⟨i, f', h1, h2, h3⟩
    · exact h'
    · rw [hg] at h3; cases h3
  subst hq
  have H1 := Lib.hid (HS0.out.step_bel b1)
  clear hpos HAT d0 d1 d2 df0 df1 df2 dl HS0
  obtain ⟨d0, d1, d2, df0, df1, df2, dl⟩ := box3 H1.out (i := 0) rfl
  obtain ⟨r0, r1, r2, rf0, rf1, rf2, rl⟩ := box3 H1.out (i := 1) rfl
  have n1 : ¬ w.heap.size = w1.heap.size := by omega
  have n2 : ¬ w1.heap.size = w.heap.size := by omega
  have n3 : ¬ w.heap.size + 1 = w1.heap.size := by omega
  have n4 : ¬ w1.heap.size = w.heap.size + 1 := by omega
  have H2 := Lib.hid (h_box H1.out [.string n, .string ⟨#[]⟩, .int .i64 0, .bool false] 80)
  have H3 := H2
  clear b1
  go_wp2_with fail
  refine (HBY.out _ H3.out.bel).mono ?_
  rintro e w4 ⟨rfl, b4⟩
  have H4 := Lib.hid (H3.out.step_bel b4)
  clear HBY b4 d0 d1 d2 df0 df1 df2 dl r0 r1 r2 rf0 rf1 rf2 rl H1 H2 H3
  obtain ⟨d0, d1, d2, df0, df1, df2, dl⟩ := box3 H4.out (i := 0) rfl
  obtain ⟨r0, r1, r2, rf0, rf1, rf2, rl⟩ := box3 H4.out (i := 1) rfl
  obtain ⟨f0, f1, f2, f3, ff0, ff1, ff2, ff3, fl⟩ := box4 H4.out (i := 2) rfl
  generalize fsumBut n L = z at *
  have q1 : IntKind.i64.wrap ((z : Int) + (s.size : Int)) = (z : Int) + (s.size : Int) := IntWalk.i64_in _ (by omega)
  have t1 : decide ((4194304 : Int) < (z : Int) + (s.size : Int)) = true := decide_eq_true (by omega)
  clear HPU HWO
  go_wp2_with fail
  have H7 := h_set3 H4.out (i := 1) rfl (.slice b ln cap) (.int .i64 fu) (.bool false)
  refine bodyPost_ret (fin2 rfl rfl (h_boxAt H7 (i := 1) rfl)) rfl ⟨_, rfl, .inl ⟨rfl, rfl⟩, H7.bel⟩
set_option maxRecDepth 100000 in
set_option maxHeartbeats 4000000 in
theorem rstep3_a_many (b : Option Addr) (cap : Nat) (L : Fs) (fu : Int) (n s : ByteArray) (w : World) (h : InW w b 4 (L.map flC)) (hl : L.length ≤ 5000) (hc : L.length ≤ cap) (ln : Nat) (hln : ln = L.length) (hz : fsum L ≤ 4194304) (hs : s.size ≤ 1000) (hfu : -1 ≤ fu) (hfu2 : fu ≤ 9223372036854775807) (hnm : nameD n = true) (hg : mget L n = none) (hful : fsumBut n L + s.size ≤ 4194304) (hmany : 4096 ≤ L.length) :
    Calls Try.prog 28 #[.agg #[.slice b ln cap, .int .i64 fu, .bool false], .int .i64 3, .string n, .string s] w (StepPost w L (.slice b ln cap) ⟨L, fu, false⟩ 5) := by
  have HS0 := Lib.hid (st_start w b ln cap fu false)
  have HAT := Lib.hid (at_any b cap L fu false n _ (InW.bel h HS0.out.bel) hl hc ln hln)
  have HBY : Hid (∀ W, Below w.heap.size w W → Calls Try.prog 42 #[.agg #[.slice b ln cap, .int .i64 fu, .bool false], .string n] W fun e w' => e = .returned (.int .i64 (fsumBut n L : Nat)) ∧ Below W.heap.size W w') := Lib.hid (fun W hb => bytes_any b cap L fu false n W (InW.bel h hb) hl hz hc ln hln)
  have HPU : Hid (∀ W (fu' : Int) (g : Fl), Below w.heap.size w W → Calls Try.prog 43 #[.agg #[.slice b ln cap, .int .i64 fu', .bool false], .agg #[.string n, .string g.s, .int .i64 (g.lasts : Int), .bool g.stays]] W fun e w' => ∃ u, e = .returned (.agg #[u, .int .i64 fu', .bool false]) ∧ MkG 80 4 flC W w' u (fput L n g)) := Lib.hid (fun W fu' g hb => put_any b cap L fu' false n g W (InW.bel h hb) hl hc ln hln)
  have HWO : Hid (∀ W (fu' : Int), Below w.heap.size w W → Calls Try.prog 44 #[.agg #[.slice b ln cap, .int .i64 fu', .bool false], .string n] W fun e w' => ∃ u, e = .returned (.agg #[u, .int .i64 fu', .bool false]) ∧ MkG 80 4 flC W w' u (fdel L n)) := Lib.hid (fun W fu' hb => without_any b cap L fu' false n W (InW.bel h hb) hl hc ln hln)
  have HIW := Lib.hid h
  have HLN := Lib.hid hln
  obtain ⟨d0, d1, d2, df0, df1, df2, dl⟩ := box3 HS0.out (i := 0) rfl
  have hsz : 1 ≤ n.size ∧ n.size ≤ 64 := by
    unfold nameD at hnm
    simp at hnm
    exact hnm
  have u1 : decide ((n.size : Int) < 1) = false := decide_eq_false (by omega)
  have u2 : decide ((64 : Int) < (n.size : Int)) = false := decide_eq_false (by omega)
  have hbl := but_le L n L.length
  rw [List.take_length] at hbl
  clear h hnm hln hsz
  go_enter Try.func28, Try.ntmps28
  go_wp2_with fail
  refine HAT.out.mono ?_
  rintro e w1 ⟨⟨q, rfl, hpos⟩, b1⟩
  have hq : q = -1 := by
    rcases hpos with ⟨h', _⟩ | ⟨i, f', h1, h2, h3⟩
    · exact h'
    · rw [hg] at h3; cases h3
  subst hq
  have H1 := Lib.hid (HS0.out.step_bel b1)
  clear hpos HAT d0 d1 d2 df0 df1 df2 dl HS0
  obtain ⟨d0, d1, d2, df0, df1, df2, dl⟩ := box3 H1.out (i := 0) rfl
  obtain ⟨r0, r1, r2, rf0, rf1, rf2, rl⟩ := box3 H1.out (i := 1) rfl
  have n1 : ¬ w.heap.size = w1.heap.size := by omega
  have n2 : ¬ w1.heap.size = w.heap.size := by omega
  have n3 : ¬ w.heap.size + 1 = w1.heap.size := by omega
  have n4 : ¬ w1.heap.size = w.heap.size + 1 := by omega
  have H2 := Lib.hid (h_box H1.out [.string n, .string ⟨#[]⟩, .int .i64 0, .bool false] 80)
  have H3 := H2
  clear b1
  go_wp2_with fail
  refine (HBY.out _ H3.out.bel).mono ?_
  rintro e w4 ⟨rfl, b4⟩
  have H4 := Lib.hid (H3.out.step_bel b4)
  clear HBY b4 d0 d1 d2 df0 df1 df2 dl r0 r1 r2 rf0 rf1 rf2 rl H1 H2 H3
  obtain ⟨d0, d1, d2, df0, df1, df2, dl⟩ := box3 H4.out (i := 0) rfl
  obtain ⟨r0, r1, r2, rf0, rf1, rf2, rl⟩ := box3 H4.out (i := 1) rfl
  obtain ⟨f0, f1, f2, f3, ff0, ff1, ff2, ff3, fl⟩ := box4 H4.out (i := 2) rfl
  generalize fsumBut n L = z at *
  have q1 : IntKind.i64.wrap ((z : Int) + (s.size : Int)) = (z : Int) + (s.size : Int) := IntWalk.i64_in _ (by omega)
  have t1 : decide ((4194304 : Int) < (z : Int) + (s.size : Int)) = false := decide_eq_false (by omega)
  have t2 : decide ((4096 : Int) ≤ (ln : Int)) = true := decide_eq_true (by have := HLN.out; omega)
  clear HPU HWO
  go_wp2_with fail
  have H7 := h_set3 H4.out (i := 1) rfl (.slice b ln cap) (.int .i64 fu) (.bool false)
  refine bodyPost_ret (fin2 rfl rfl (h_boxAt H7 (i := 1) rfl)) rfl ⟨_, rfl, .inl ⟨rfl, rfl⟩, H7.bel⟩
set_option maxRecDepth 100000 in
set_option maxHeartbeats 4000000 in
theorem rstep3_a_zero (b : Option Addr) (cap : Nat) (L : Fs) (fu : Int) (n s : ByteArray) (w : World) (h : InW w b 4 (L.map flC)) (hl : L.length ≤ 5000) (hc : L.length ≤ cap) (ln : Nat) (hln : ln = L.length) (hz : fsum L ≤ 4194304) (hs : s.size ≤ 1000) (hfu : -1 ≤ fu) (hfu2 : fu ≤ 9223372036854775807) (hnm : nameD n = true) (hg : mget L n = none) (hful : fsumBut n L + s.size ≤ 4194304) (hmany : L.length < 4096) (h0 : fu = 0) :
    Calls Try.prog 28 #[.agg #[.slice b ln cap, .int .i64 fu, .bool false], .int .i64 3, .string n, .string s] w (StepPost w L (.slice b ln cap) ⟨L, 0, true⟩ 8) := by
  subst h0
  have HS0 := Lib.hid (st_start w b ln cap 0 false)
  have HAT := Lib.hid (at_any b cap L 0 false n _ (InW.bel h HS0.out.bel) hl hc ln hln)
  have HBY : Hid (∀ W, Below w.heap.size w W → Calls Try.prog 42 #[.agg #[.slice b ln cap, .int .i64 0, .bool false], .string n] W fun e w' => e = .returned (.int .i64 (fsumBut n L : Nat)) ∧ Below W.heap.size W w') := Lib.hid (fun W hb => bytes_any b cap L 0 false n W (InW.bel h hb) hl hz hc ln hln)
  have HPU : Hid (∀ W (fu' : Int) (g : Fl), Below w.heap.size w W → Calls Try.prog 43 #[.agg #[.slice b ln cap, .int .i64 fu', .bool false], .agg #[.string n, .string g.s, .int .i64 (g.lasts : Int), .bool g.stays]] W fun e w' => ∃ u, e = .returned (.agg #[u, .int .i64 fu', .bool false]) ∧ MkG 80 4 flC W w' u (fput L n g)) := Lib.hid (fun W fu' g hb => put_any b cap L fu' false n g W (InW.bel h hb) hl hc ln hln)
  have HWO : Hid (∀ W (fu' : Int), Below w.heap.size w W → Calls Try.prog 44 #[.agg #[.slice b ln cap, .int .i64 fu', .bool false], .string n] W fun e w' => ∃ u, e = .returned (.agg #[u, .int .i64 fu', .bool false]) ∧ MkG 80 4 flC W w' u (fdel L n)) := Lib.hid (fun W fu' hb => without_any b cap L fu' false n W (InW.bel h hb) hl hc ln hln)
  have HIW := Lib.hid h
  have HLN := Lib.hid hln
  obtain ⟨d0, d1, d2, df0, df1, df2, dl⟩ := box3 HS0.out (i := 0) rfl
  have hsz : 1 ≤ n.size ∧ n.size ≤ 64 := by
    unfold nameD at hnm
    simp at hnm
    exact hnm
  have u1 : decide ((n.size : Int) < 1) = false := decide_eq_false (by omega)
  have u2 : decide ((64 : Int) < (n.size : Int)) = false := decide_eq_false (by omega)
  have hbl := but_le L n L.length
  rw [List.take_length] at hbl
  clear h hnm hln hsz
  go_enter Try.func28, Try.ntmps28
  go_wp2_with fail
  refine HAT.out.mono ?_
  rintro e w1 ⟨⟨q, rfl, hpos⟩, b1⟩
  have hq : q = -1 := by
    rcases hpos with ⟨h', _⟩ | ⟨i, f', h1, h2, h3⟩
    · exact h'
    · rw [hg] at h3; cases h3
  subst hq
  have H1 := Lib.hid (HS0.out.step_bel b1)
  clear hpos HAT d0 d1 d2 df0 df1 df2 dl HS0
  obtain ⟨d0, d1, d2, df0, df1, df2, dl⟩ := box3 H1.out (i := 0) rfl
  obtain ⟨r0, r1, r2, rf0, rf1, rf2, rl⟩ := box3 H1.out (i := 1) rfl
  have n1 : ¬ w.heap.size = w1.heap.size := by omega
  have n2 : ¬ w1.heap.size = w.heap.size := by omega
  have n3 : ¬ w.heap.size + 1 = w1.heap.size := by omega
  have n4 : ¬ w1.heap.size = w.heap.size + 1 := by omega
  have H2 := Lib.hid (h_box H1.out [.string n, .string ⟨#[]⟩, .int .i64 0, .bool false] 80)
  have H3 := H2
  clear b1
  go_wp2_with fail
  refine (HBY.out _ H3.out.bel).mono ?_
  rintro e w4 ⟨rfl, b4⟩
  have H4 := Lib.hid (H3.out.step_bel b4)
  clear HBY b4 d0 d1 d2 df0 df1 df2 dl r0 r1 r2 rf0 rf1 rf2 rl H1 H2 H3
  obtain ⟨d0, d1, d2, df0, df1, df2, dl⟩ := box3 H4.out (i := 0) rfl
  obtain ⟨r0, r1, r2, rf0, rf1, rf2, rl⟩ := box3 H4.out (i := 1) rfl
  obtain ⟨f0, f1, f2, f3, ff0, ff1, ff2, ff3, fl⟩ := box4 H4.out (i := 2) rfl
  generalize fsumBut n L = z at *
  have q1 : IntKind.i64.wrap ((z : Int) + (s.size : Int)) = (z : Int) + (s.size : Int) := IntWalk.i64_in _ (by omega)
  have t1 : decide ((4194304 : Int) < (z : Int) + (s.size : Int)) = false := decide_eq_false (by omega)
  have t2 : decide ((4096 : Int) ≤ (ln : Int)) = false := decide_eq_false (by have := HLN.out; omega)
  clear HPU HWO
  go_wp2_with fail
  have H5 := h_set H4.out (i := 0) rfl 2 (.bool true)
  have H7 := h_set3 H5 (i := 1) rfl (.slice b ln cap) (.int .i64 0) (.bool true)
  refine bodyPost_ret (fin2 rfl rfl (h_boxAt H7 (i := 1) rfl)) rfl ⟨_, rfl, .inl ⟨rfl, rfl⟩, H7.bel⟩
set_option maxRecDepth 100000 in
set_option maxHeartbeats 4000000 in
theorem rstep3_a_pos (b : Option Addr) (cap : Nat) (L : Fs) (fu : Int) (n s : ByteArray) (w : World) (h : InW w b 4 (L.map flC)) (hl : L.length ≤ 5000) (hc : L.length ≤ cap) (ln : Nat) (hln : ln = L.length) (hz : fsum L ≤ 4194304) (hs : s.size ≤ 1000) (hfu : -1 ≤ fu) (hfu2 : fu ≤ 9223372036854775807) (hnm : nameD n = true) (hg : mget L n = none) (hful : fsumBut n L + s.size ≤ 4194304) (hmany : L.length < 4096) (h0 : 0 < fu) :
    Calls Try.prog 28 #[.agg #[.slice b ln cap, .int .i64 fu, .bool false], .int .i64 3, .string n, .string s] w (StepPost w L (.slice b ln cap) ⟨fput L n ⟨s, s.size, true⟩, fu - 1, false⟩ 0) := by
  have HS0 := Lib.hid (st_start w b ln cap fu false)
  have HAT := Lib.hid (at_any b cap L fu false n _ (InW.bel h HS0.out.bel) hl hc ln hln)
  have HBY : Hid (∀ W, Below w.heap.size w W → Calls Try.prog 42 #[.agg #[.slice b ln cap, .int .i64 fu, .bool false], .string n] W fun e w' => e = .returned (.int .i64 (fsumBut n L : Nat)) ∧ Below W.heap.size W w') := Lib.hid (fun W hb => bytes_any b cap L fu false n W (InW.bel h hb) hl hz hc ln hln)
  have HPU : Hid (∀ W (fu' : Int) (g : Fl), Below w.heap.size w W → Calls Try.prog 43 #[.agg #[.slice b ln cap, .int .i64 fu', .bool false], .agg #[.string n, .string g.s, .int .i64 (g.lasts : Int), .bool g.stays]] W fun e w' => ∃ u, e = .returned (.agg #[u, .int .i64 fu', .bool false]) ∧ MkG 80 4 flC W w' u (fput L n g)) := Lib.hid (fun W fu' g hb => put_any b cap L fu' false n g W (InW.bel h hb) hl hc ln hln)
  have HWO : Hid (∀ W (fu' : Int), Below w.heap.size w W → Calls Try.prog 44 #[.agg #[.slice b ln cap, .int .i64 fu', .bool false], .string n] W fun e w' => ∃ u, e = .returned (.agg #[u, .int .i64 fu', .bool false]) ∧ MkG 80 4 flC W w' u (fdel L n)) := Lib.hid (fun W fu' hb => without_any b cap L fu' false n W (InW.bel h hb) hl hc ln hln)
  have HIW := Lib.hid h
  have HLN := Lib.hid hln
  obtain ⟨d0, d1, d2, df0, df1, df2, dl⟩ := box3 HS0.out (i := 0) rfl
  have hsz : 1 ≤ n.size ∧ n.size ≤ 64 := by
    unfold nameD at hnm
    simp at hnm
    exact hnm
  have u1 : decide ((n.size : Int) < 1) = false := decide_eq_false (by omega)
  have u2 : decide ((64 : Int) < (n.size : Int)) = false := decide_eq_false (by omega)
  have hbl := but_le L n L.length
  rw [List.take_length] at hbl
  clear h hnm hln hsz
  go_enter Try.func28, Try.ntmps28
  go_wp2_with fail
  refine HAT.out.mono ?_
  rintro e w1 ⟨⟨q, rfl, hpos⟩, b1⟩
  have hq : q = -1 := by
    rcases hpos with ⟨h', _⟩ | ⟨i, f', h1, h2, h3⟩
    · exact h'
    · rw [hg] at h3; cases h3
  subst hq
  have H1 := Lib.hid (HS0.out.step_bel b1)
  clear hpos HAT d0 d1 d2 df0 df1 df2 dl HS0
  obtain ⟨d0, d1, d2, df0, df1, df2, dl⟩ := box3 H1.out (i := 0) rfl
  obtain ⟨r0, r1, r2, rf0, rf1, rf2, rl⟩ := box3 H1.out (i := 1) rfl
  have n1 : ¬ w.heap.size = w1.heap.size := by omega
  have n2 : ¬ w1.heap.size = w.heap.size := by omega
  have n3 : ¬ w.heap.size + 1 = w1.heap.size := by omega
  have n4 : ¬ w1.heap.size = w.heap.size + 1 := by omega
  have H2 := Lib.hid (h_box H1.out [.string n, .string ⟨#[]⟩, .int .i64 0, .bool false] 80)
  have H3 := H2
  clear b1
  go_wp2_with fail
  refine (HBY.out _ H3.out.bel).mono ?_
  rintro e w4 ⟨rfl, b4⟩
  have H4 := Lib.hid (H3.out.step_bel b4)
  clear HBY b4 d0 d1 d2 df0 df1 df2 dl r0 r1 r2 rf0 rf1 rf2 rl H1 H2 H3
  obtain ⟨d0, d1, d2, df0, df1, df2, dl⟩ := box3 H4.out (i := 0) rfl
  obtain ⟨r0, r1, r2, rf0, rf1, rf2, rl⟩ := box3 H4.out (i := 1) rfl
  obtain ⟨f0, f1, f2, f3, ff0, ff1, ff2, ff3, fl⟩ := box4 H4.out (i := 2) rfl
  generalize fsumBut n L = z at *
  have q1 : IntKind.i64.wrap ((z : Int) + (s.size : Int)) = (z : Int) + (s.size : Int) := IntWalk.i64_in _ (by omega)
  have t1 : decide ((4194304 : Int) < (z : Int) + (s.size : Int)) = false := decide_eq_false (by omega)
  have t2 : decide ((4096 : Int) ≤ (ln : Int)) = false := decide_eq_false (by have := HLN.out; omega)
  have t3 : (fu == 0) = false := by simp; omega
  have t4 : decide (0 < fu) = true := decide_eq_true h0
  have q3 : IntKind.i64.wrap (fu - 1) = fu - 1 := IntWalk.i64_in _ (by omega)
  have H5 := Lib.hid (h_set4 H4.out (i := 2) rfl (.string n) (.string s) (.int .i64 (s.size : Int)) (.bool true))
  have H6 := Lib.hid (h_set4 (h_set H4.out (i := 0) rfl 1 (.int .i64 (fu - 1))) (i := 2) rfl (.string n) (.string s) (.int .i64 (s.size : Int)) (.bool true))
  go_wp2_with fail
  refine (HPU.out _ (fu - 1) (⟨s, s.size, true⟩ : Fl) H6.out.bel).mono ?_
  rintro e w8 ⟨u8, rfl, m8⟩
  have HM := Lib.hid (m8.from H6.out.bel)
  have H8 := Lib.hid (h_row (H6.out) m8.bl m8.tx m8.nw)
  obtain ⟨b8, c8, hu8, _, _, _⟩ := m8.read flLen (by omega)
  clear m8 HPU HWO d0 d1 d2 df0 df1 df2 dl r0 r1 r2 rf0 rf1 rf2 rl f0 f1 f2 f3 ff0 ff1 ff2 ff3 fl
  obtain ⟨l8, hl8⟩ : ∃ l8, l8 = (fput L n (⟨s, s.size, true⟩ : Fl)).length := ⟨_, rfl⟩
  rw [← hl8] at hu8
  subst hu8
  clear hl8
  obtain ⟨d0, d1, d2, df0, df1, df2, dl⟩ := box3 H8.out (i := 0) rfl
  obtain ⟨r0, r1, r2, rf0, rf1, rf2, rl⟩ := box3 H8.out (i := 1) rfl
  go_wp2_with fail
  have H7 := h_set3 H8.out (i := 1) rfl (.slice b8 l8 c8) (.int .i64 (fu - 1)) (.bool false)
  refine bodyPost_ret (fin2 rfl rfl (h_boxAt H7 (i := 1) rfl)) rfl ⟨_, rfl, .inr (h_mk H7 (i := 3) rfl), H7.bel⟩
set_option maxRecDepth 100000 in
set_option maxHeartbeats 4000000 in
theorem rstep3_a_neg (b : Option Addr) (cap : Nat) (L : Fs) (fu : Int) (n s : ByteArray) (w : World) (h : InW w b 4 (L.map flC)) (hl : L.length ≤ 5000) (hc : L.length ≤ cap) (ln : Nat) (hln : ln = L.length) (hz : fsum L ≤ 4194304) (hs : s.size ≤ 1000) (hfu : -1 ≤ fu) (hfu2 : fu ≤ 9223372036854775807) (hnm : nameD n = true) (hg : mget L n = none) (hful : fsumBut n L + s.size ≤ 4194304) (hmany : L.length < 4096) (h0 : fu < 0) :
    Calls Try.prog 28 #[.agg #[.slice b ln cap, .int .i64 fu, .bool false], .int .i64 3, .string n, .string s] w (StepPost w L (.slice b ln cap) ⟨fput L n ⟨s, s.size, true⟩, fu, false⟩ 0) := by
  have HS0 := Lib.hid (st_start w b ln cap fu false)
  have HAT := Lib.hid (at_any b cap L fu false n _ (InW.bel h HS0.out.bel) hl hc ln hln)
  have HBY : Hid (∀ W, Below w.heap.size w W → Calls Try.prog 42 #[.agg #[.slice b ln cap, .int .i64 fu, .bool false], .string n] W fun e w' => e = .returned (.int .i64 (fsumBut n L : Nat)) ∧ Below W.heap.size W w') := Lib.hid (fun W hb => bytes_any b cap L fu false n W (InW.bel h hb) hl hz hc ln hln)
  have HPU : Hid (∀ W (fu' : Int) (g : Fl), Below w.heap.size w W → Calls Try.prog 43 #[.agg #[.slice b ln cap, .int .i64 fu', .bool false], .agg #[.string n, .string g.s, .int .i64 (g.lasts : Int), .bool g.stays]] W fun e w' => ∃ u, e = .returned (.agg #[u, .int .i64 fu', .bool false]) ∧ MkG 80 4 flC W w' u (fput L n g)) := Lib.hid (fun W fu' g hb => put_any b cap L fu' false n g W (InW.bel h hb) hl hc ln hln)
  have HWO : Hid (∀ W (fu' : Int), Below w.heap.size w W → Calls Try.prog 44 #[.agg #[.slice b ln cap, .int .i64 fu', .bool false], .string n] W fun e w' => ∃ u, e = .returned (.agg #[u, .int .i64 fu', .bool false]) ∧ MkG 80 4 flC W w' u (fdel L n)) := Lib.hid (fun W fu' hb => without_any b cap L fu' false n W (InW.bel h hb) hl hc ln hln)
  have HIW := Lib.hid h
  have HLN := Lib.hid hln
  obtain ⟨d0, d1, d2, df0, df1, df2, dl⟩ := box3 HS0.out (i := 0) rfl
  have hsz : 1 ≤ n.size ∧ n.size ≤ 64 := by
    unfold nameD at hnm
    simp at hnm
    exact hnm
  have u1 : decide ((n.size : Int) < 1) = false := decide_eq_false (by omega)
  have u2 : decide ((64 : Int) < (n.size : Int)) = false := decide_eq_false (by omega)
  have hbl := but_le L n L.length
  rw [List.take_length] at hbl
  clear h hnm hln hsz
  go_enter Try.func28, Try.ntmps28
  go_wp2_with fail
  refine HAT.out.mono ?_
  rintro e w1 ⟨⟨q, rfl, hpos⟩, b1⟩
  have hq : q = -1 := by
    rcases hpos with ⟨h', _⟩ | ⟨i, f', h1, h2, h3⟩
    · exact h'
    · rw [hg] at h3; cases h3
  subst hq
  have H1 := Lib.hid (HS0.out.step_bel b1)
  clear hpos HAT d0 d1 d2 df0 df1 df2 dl HS0
  obtain ⟨d0, d1, d2, df0, df1, df2, dl⟩ := box3 H1.out (i := 0) rfl
  obtain ⟨r0, r1, r2, rf0, rf1, rf2, rl⟩ := box3 H1.out (i := 1) rfl
  have n1 : ¬ w.heap.size = w1.heap.size := by omega
  have n2 : ¬ w1.heap.size = w.heap.size := by omega
  have n3 : ¬ w.heap.size + 1 = w1.heap.size := by omega
  have n4 : ¬ w1.heap.size = w.heap.size + 1 := by omega
  have H2 := Lib.hid (h_box H1.out [.string n, .string ⟨#[]⟩, .int .i64 0, .bool false] 80)
  have H3 := H2
  clear b1
  go_wp2_with fail
  refine (HBY.out _ H3.out.bel).mono ?_
  rintro e w4 ⟨rfl, b4⟩
  have H4 := Lib.hid (H3.out.step_bel b4)
  clear HBY b4 d0 d1 d2 df0 df1 df2 dl r0 r1 r2 rf0 rf1 rf2 rl H1 H2 H3
  obtain ⟨d0, d1, d2, df0, df1, df2, dl⟩ := box3 H4.out (i := 0) rfl
  obtain ⟨r0, r1, r2, rf0, rf1, rf2, rl⟩ := box3 H4.out (i := 1) rfl
  obtain ⟨f0, f1, f2, f3, ff0, ff1, ff2, ff3, fl⟩ := box4 H4.out (i := 2) rfl
  generalize fsumBut n L = z at *
  have q1 : IntKind.i64.wrap ((z : Int) + (s.size : Int)) = (z : Int) + (s.size : Int) := IntWalk.i64_in _ (by omega)
  have t1 : decide ((4194304 : Int) < (z : Int) + (s.size : Int)) = false := decide_eq_false (by omega)
  have t2 : decide ((4096 : Int) ≤ (ln : Int)) = false := decide_eq_false (by have := HLN.out; omega)
  have t3 : (fu == 0) = false := by simp; omega
  have t4 : decide (0 < fu) = false := decide_eq_false (by omega)
  have H5 := Lib.hid (h_set4 H4.out (i := 2) rfl (.string n) (.string s) (.int .i64 (s.size : Int)) (.bool true))
  have H6 := H5
  go_wp2_with fail
  refine (HPU.out _ fu (⟨s, s.size, true⟩ : Fl) H6.out.bel).mono ?_
  rintro e w8 ⟨u8, rfl, m8⟩
  have HM := Lib.hid (m8.from H6.out.bel)
  have H8 := Lib.hid (h_row (H6.out) m8.bl m8.tx m8.nw)
  obtain ⟨b8, c8, hu8, _, _, _⟩ := m8.read flLen (by omega)
  clear m8 HPU HWO d0 d1 d2 df0 df1 df2 dl r0 r1 r2 rf0 rf1 rf2 rl f0 f1 f2 f3 ff0 ff1 ff2 ff3 fl
  obtain ⟨l8, hl8⟩ : ∃ l8, l8 = (fput L n (⟨s, s.size, true⟩ : Fl)).length := ⟨_, rfl⟩
  rw [← hl8] at hu8
  subst hu8
  clear hl8
  obtain ⟨d0, d1, d2, df0, df1, df2, dl⟩ := box3 H8.out (i := 0) rfl
  obtain ⟨r0, r1, r2, rf0, rf1, rf2, rl⟩ := box3 H8.out (i := 1) rfl
  go_wp2_with fail
  have H7 := h_set3 H8.out (i := 1) rfl (.slice b8 l8 c8) (.int .i64 fu) (.bool false)
  refine bodyPost_ret (fin2 rfl rfl (h_boxAt H7 (i := 1) rfl)) rfl ⟨_, rfl, .inr (h_mk H7 (i := 3) rfl), H7.bel⟩
def stepK (X : Dk) (k : Int) (n s : ByteArray) : Dk × Int := if k = 1 then stepA X n s else if k = 2 then stepS X n else if k = 3 then stepR X n s else stepD X n
theorem doD_stepK (X : Dk) (o : OpD) : doD X o = stepK X o.kind o.name o.s := rfl
theorem stepK_down (L : Fs) (fu : Int) (k : Int) (n s : ByteArray) : stepK ⟨L, fu, true⟩ k n s = (⟨L, fu, true⟩, 8) := by
  unfold stepK stepA stepS stepR stepD
  simp
theorem stepK_name (L : Fs) (fu : Int) (k : Int) (n s : ByteArray) (h : nameD n = false) : stepK ⟨L, fu, false⟩ k n s = (⟨L, fu, false⟩, 1) := by
  unfold stepK stepA stepS stepR stepD
  simp [h]
theorem step_cast {w w' : World} {L : Fs} {u : Value} {p q : Dk × Int} {e : Ending} (h : q = p) (hs : StepPost w L u p.1 p.2 e w') : StepPost w L u q.1 q.2 e w' := by rw [h]; exact hs
set_option maxHeartbeats 2000000 in
theorem rstep_any (L : Fs) (fu : Int) (dn : Bool) (hX : DkOk ⟨L, fu, dn⟩) (kind : Int) (hk : kind = 1 ∨ kind = 2 ∨ kind = 3 ∨ kind = 4) (n s : ByteArray) (hn : n.size ≤ 1000) (hs : s.size ≤ 1000) (b : Option Addr) (cap ln : Nat) (w : World) (h : InW w b 4 (L.map flC)) (hc : L.length ≤ cap) (hln : ln = L.length) :
    Calls Try.prog 28 #[.agg #[.slice b ln cap, .int .i64 fu, .bool dn], .int .i64 kind, .string n, .string s] w (StepPost w L (.slice b ln cap) (stepK ⟨L, fu, dn⟩ kind n s).1 (stepK ⟨L, fu, dn⟩ kind n s).2) := by
  have hl : L.length ≤ 5000 := by have := hX.len; simp only at this; omega
  have hz : fsum L ≤ 4194304 := hX.sum
  have hfu : -1 ≤ fu := hX.fuse
  have hfu2 : fu ≤ 9223372036854775807 := hX.fuse2
  have hnd := hX.rise.nodup
  cases dn with
  | true =>
    rw [stepK_down]
    exact rstep_down b cap ln L fu n s w kind
  | false =>
    cases hnm : nameD n with
    | false =>
      rw [stepK_name L fu kind n s hnm]
      exact rstep_name b cap ln L fu n s w kind hn hnm
    | true =>
      have hsum := fsum_at hnd n
      rw [sizeAt_eq] at hsum
      simp only at hsum
      rcases hk with rfl | rfl | rfl | rfl
      · cases hg : mget L n with
        | none =>
          have hgf : getF L n = emptyF := by unfold getF; rw [hg]; rfl
          rw [hgf, show emptyF.s.size = 0 from rfl] at hsum
          by_cases hful : 4194304 < fsumBut n L + s.size
          · have hful2 : 4194304 < fsum L + s.size := by omega
            have e : stepK ⟨L, fu, false⟩ 1 n s = (⟨L, fu, false⟩, 5) := by
              simp [stepK, stepA, stepS, stepR, stepD, hnm, hg, getF, burn, fullB, hful2]
            rw [e]
            exact rstep1_a_full b cap L fu n s w h hl hc ln hln hz hs hfu hfu2 hnm hg hful
          have hful2 : ¬ 4194304 < fsum L + s.size := by omega
          have hful3 : fsumBut n L + s.size ≤ 4194304 := by omega
          by_cases hmany : 4096 ≤ L.length
          · have hm := hmany
            have e : stepK ⟨L, fu, false⟩ 1 n s = (⟨L, fu, false⟩, 5) := by
              simp [stepK, stepA, stepS, stepR, stepD, hnm, hg, getF, burn, fullB, hful2, hmany]
            rw [e]
            exact rstep1_a_many b cap L fu n s w h hl hc ln hln hz hs hfu hfu2 hnm hg hful3 hmany
          have hmany2 : L.length < 4096 := by omega
          by_cases h0 : fu = 0
          · have h0' := h0
            subst h0
            have e : stepK ⟨L, 0, false⟩ 1 n s = (⟨fput L n { emptyF with s := catB emptyF.s s }, 0, true⟩, 8) := by
              simp [stepK, stepA, stepS, stepR, stepD, hnm, hg, getF, burn, fullB, hful2, hmany]
            rw [e]
            exact rstep1_a_zero b cap L 0 n s w h hl hc ln hln hz hs hfu hfu2 hnm hg hful3 hmany2 rfl
          by_cases h1 : 0 < fu
          · have h1' := h1
            have e : stepK ⟨L, fu, false⟩ 1 n s = (⟨fput L n { emptyF with s := catB emptyF.s s }, fu - 1, false⟩, 0) := by
              simp [stepK, stepA, stepS, stepR, stepD, hnm, hg, getF, burn, fullB, hful2, hmany, h0, h1]
            rw [e]
            exact rstep1_a_pos b cap L fu n s w h hl hc ln hln hz hs hfu hfu2 hnm hg hful3 hmany2 h1
          · have h2 : fu < 0 := by omega
            have e : stepK ⟨L, fu, false⟩ 1 n s = (⟨fput L n { emptyF with s := catB emptyF.s s }, fu, false⟩, 0) := by
              simp [stepK, stepA, stepS, stepR, stepD, hnm, hg, getF, burn, fullB, hful2, hmany, h0, h1]
            rw [e]
            exact rstep1_a_neg b cap L fu n s w h hl hc ln hln hz hs hfu hfu2 hnm hg hful3 hmany2 h2
        | some f =>
          have hgf : getF L n = f := by unfold getF; rw [hg]; rfl
          rw [hgf] at hsum
          by_cases hful : 4194304 < fsumBut n L + s.size + f.s.size
          · have hful2 : 4194304 < fsum L + s.size := by omega
            have e : stepK ⟨L, fu, false⟩ 1 n s = (⟨L, fu, false⟩, 5) := by
              simp [stepK, stepA, stepS, stepR, stepD, hnm, hg, getF, burn, fullB, hful2]
            rw [e]
            exact rstep1_p_full b cap L fu n s w h hl hc ln hln hz hs hfu hfu2 hnm f hg hful
          have hful2 : ¬ 4194304 < fsum L + s.size := by omega
          have hful3 : fsumBut n L + s.size + f.s.size ≤ 4194304 := by omega
          by_cases h0 : fu = 0
          · have h0' := h0
            subst h0
            have e : stepK ⟨L, 0, false⟩ 1 n s = (⟨fput L n { f with s := catB f.s s }, 0, true⟩, 8) := by
              simp [stepK, stepA, stepS, stepR, stepD, hnm, hg, getF, burn, fullB, hful2]
            rw [e]
            exact rstep1_p_zero b cap L 0 n s w h hl hc ln hln hz hs hfu hfu2 hnm f hg hful3 rfl
          by_cases h1 : 0 < fu
          · have h1' := h1
            have e : stepK ⟨L, fu, false⟩ 1 n s = (⟨fput L n { f with s := catB f.s s }, fu - 1, false⟩, 0) := by
              simp [stepK, stepA, stepS, stepR, stepD, hnm, hg, getF, burn, fullB, hful2, h0, h1]
            rw [e]
            exact rstep1_p_pos b cap L fu n s w h hl hc ln hln hz hs hfu hfu2 hnm f hg hful3 h1
          · have h2 : fu < 0 := by omega
            have e : stepK ⟨L, fu, false⟩ 1 n s = (⟨fput L n { f with s := catB f.s s }, fu, false⟩, 0) := by
              simp [stepK, stepA, stepS, stepR, stepD, hnm, hg, getF, burn, fullB, hful2, h0, h1]
            rw [e]
            exact rstep1_p_neg b cap L fu n s w h hl hc ln hln hz hs hfu hfu2 hnm f hg hful3 h2
      · cases hg : mget L n with
        | none =>
          have e : stepK ⟨L, fu, false⟩ 2 n s = (⟨L, fu, false⟩, 6) := by
            simp [stepK, stepA, stepS, stepR, stepD, hnm, hg, getF, burn, fullB]
          rw [e]
          exact rstep2_a_miss b cap L fu n s w h hl hc ln hln hz hs hfu hfu2 hnm hg
        | some f =>
          have hgf : getF L n = f := by unfold getF; rw [hg]; rfl
          rw [hgf] at hsum
          by_cases h0 : fu = 0
          · have h0' := h0
            subst h0
            have e : stepK ⟨L, 0, false⟩ 2 n s = (⟨L, 0, true⟩, 8) := by
              simp [stepK, stepA, stepS, stepR, stepD, hnm, hg, getF, burn, fullB]
            rw [e]
            exact rstep2_p_zero b cap L 0 n s w h hl hc ln hln hz hs hfu hfu2 hnm f hg rfl
          by_cases h1 : 0 < fu
          · have h1' := h1
            have e : stepK ⟨L, fu, false⟩ 2 n s = (⟨fput L n ⟨f.s, f.s.size, true⟩, fu - 1, false⟩, 0) := by
              simp [stepK, stepA, stepS, stepR, stepD, hnm, hg, getF, burn, fullB, h0, h1]
            rw [e]
            exact rstep2_p_pos b cap L fu n s w h hl hc ln hln hz hs hfu hfu2 hnm f hg h1
          · have h2 : fu < 0 := by omega
            have e : stepK ⟨L, fu, false⟩ 2 n s = (⟨fput L n ⟨f.s, f.s.size, true⟩, fu, false⟩, 0) := by
              simp [stepK, stepA, stepS, stepR, stepD, hnm, hg, getF, burn, fullB, h0, h1]
            rw [e]
            exact rstep2_p_neg b cap L fu n s w h hl hc ln hln hz hs hfu hfu2 hnm f hg h2
      · cases hg : mget L n with
        | none =>
          have hgf : getF L n = emptyF := by unfold getF; rw [hg]; rfl
          rw [hgf, show emptyF.s.size = 0 from rfl] at hsum
          by_cases hful : 4194304 < fsumBut n L + s.size
          · have hful2 : 4194304 < fsumBut n L + s.size := by omega
            have e : stepK ⟨L, fu, false⟩ 3 n s = (⟨L, fu, false⟩, 5) := by
              simp [stepK, stepA, stepS, stepR, stepD, hnm, hg, getF, burn, fullB, hful2]
            rw [e]
            exact rstep3_a_full b cap L fu n s w h hl hc ln hln hz hs hfu hfu2 hnm hg hful
          have hful2 : ¬ 4194304 < fsumBut n L + s.size := by omega
          have hful3 : fsumBut n L + s.size ≤ 4194304 := by omega
          by_cases hmany : 4096 ≤ L.length
          · have hm := hmany
            have e : stepK ⟨L, fu, false⟩ 3 n s = (⟨L, fu, false⟩, 5) := by
              simp [stepK, stepA, stepS, stepR, stepD, hnm, hg, getF, burn, fullB, hful2, hmany]
            rw [e]
            exact rstep3_a_many b cap L fu n s w h hl hc ln hln hz hs hfu hfu2 hnm hg hful3 hmany
          have hmany2 : L.length < 4096 := by omega
          by_cases h0 : fu = 0
          · have h0' := h0
            subst h0
            have e : stepK ⟨L, 0, false⟩ 3 n s = (⟨L, 0, true⟩, 8) := by
              simp [stepK, stepA, stepS, stepR, stepD, hnm, hg, getF, burn, fullB, hful2, hmany]
            rw [e]
            exact rstep3_a_zero b cap L 0 n s w h hl hc ln hln hz hs hfu hfu2 hnm hg hful3 hmany2 rfl
          by_cases h1 : 0 < fu
          · have h1' := h1
            have e : stepK ⟨L, fu, false⟩ 3 n s = (⟨fput L n ⟨s, s.size, true⟩, fu - 1, false⟩, 0) := by
              simp [stepK, stepA, stepS, stepR, stepD, hnm, hg, getF, burn, fullB, hful2, hmany, h0, h1]
            rw [e]
            exact rstep3_a_pos b cap L fu n s w h hl hc ln hln hz hs hfu hfu2 hnm hg hful3 hmany2 h1
          · have h2 : fu < 0 := by omega
            have e : stepK ⟨L, fu, false⟩ 3 n s = (⟨fput L n ⟨s, s.size, true⟩, fu, false⟩, 0) := by
              simp [stepK, stepA, stepS, stepR, stepD, hnm, hg, getF, burn, fullB, hful2, hmany, h0, h1]
            rw [e]
            exact rstep3_a_neg b cap L fu n s w h hl hc ln hln hz hs hfu hfu2 hnm hg hful3 hmany2 h2
        | some f =>
          have hgf : getF L n = f := by unfold getF; rw [hg]; rfl
          rw [hgf] at hsum
          by_cases hful : 4194304 < fsumBut n L + s.size
          · have hful2 : 4194304 < fsumBut n L + s.size := by omega
            have e : stepK ⟨L, fu, false⟩ 3 n s = (⟨L, fu, false⟩, 5) := by
              simp [stepK, stepA, stepS, stepR, stepD, hnm, hg, getF, burn, fullB, hful2]
            rw [e]
            exact rstep3_p_full b cap L fu n s w h hl hc ln hln hz hs hfu hfu2 hnm f hg hful
          have hful2 : ¬ 4194304 < fsumBut n L + s.size := by omega
          have hful3 : fsumBut n L + s.size ≤ 4194304 := by omega
          by_cases h0 : fu = 0
          · have h0' := h0
            subst h0
            have e : stepK ⟨L, 0, false⟩ 3 n s = (⟨L, 0, true⟩, 8) := by
              simp [stepK, stepA, stepS, stepR, stepD, hnm, hg, getF, burn, fullB, hful2]
            rw [e]
            exact rstep3_p_zero b cap L 0 n s w h hl hc ln hln hz hs hfu hfu2 hnm f hg hful3 rfl
          by_cases h1 : 0 < fu
          · have h1' := h1
            have e : stepK ⟨L, fu, false⟩ 3 n s = (⟨fput L n ⟨s, s.size, true⟩, fu - 1, false⟩, 0) := by
              simp [stepK, stepA, stepS, stepR, stepD, hnm, hg, getF, burn, fullB, hful2, h0, h1]
            rw [e]
            exact rstep3_p_pos b cap L fu n s w h hl hc ln hln hz hs hfu hfu2 hnm f hg hful3 h1
          · have h2 : fu < 0 := by omega
            have e : stepK ⟨L, fu, false⟩ 3 n s = (⟨fput L n ⟨s, s.size, true⟩, fu, false⟩, 0) := by
              simp [stepK, stepA, stepS, stepR, stepD, hnm, hg, getF, burn, fullB, hful2, h0, h1]
            rw [e]
            exact rstep3_p_neg b cap L fu n s w h hl hc ln hln hz hs hfu hfu2 hnm f hg hful3 h2
      · cases hg : mget L n with
        | none =>
          have e : stepK ⟨L, fu, false⟩ 4 n s = (⟨L, fu, false⟩, 6) := by
            simp [stepK, stepA, stepS, stepR, stepD, hnm, hg, getF, burn, fullB]
          rw [e]
          exact rstep4_a_miss b cap L fu n s w h hl hc ln hln hz hs hfu hfu2 hnm hg
        | some f =>
          have hgf : getF L n = f := by unfold getF; rw [hg]; rfl
          rw [hgf] at hsum
          by_cases h0 : fu = 0
          · have h0' := h0
            subst h0
            have e : stepK ⟨L, 0, false⟩ 4 n s = (⟨L, 0, true⟩, 8) := by
              simp [stepK, stepA, stepS, stepR, stepD, hnm, hg, getF, burn, fullB]
            rw [e]
            exact rstep4_p_zero b cap L 0 n s w h hl hc ln hln hz hs hfu hfu2 hnm f hg rfl
          by_cases h1 : 0 < fu
          · have h1' := h1
            have e : stepK ⟨L, fu, false⟩ 4 n s = (⟨fdel L n, fu - 1, false⟩, 0) := by
              simp [stepK, stepA, stepS, stepR, stepD, hnm, hg, getF, burn, fullB, h0, h1]
            rw [e]
            exact rstep4_p_pos b cap L fu n s w h hl hc ln hln hz hs hfu hfu2 hnm f hg h1
          · have h2 : fu < 0 := by omega
            have e : stepK ⟨L, fu, false⟩ 4 n s = (⟨fdel L n, fu, false⟩, 0) := by
              simp [stepK, stepA, stepS, stepR, stepD, hnm, hg, getF, burn, fullB, h0, h1]
            rw [e]
            exact rstep4_p_neg b cap L fu n s w h hl hc ln hln hz hs hfu hfu2 hnm f hg h2
end Go.Proofs.Ytemfnchiedepoaa

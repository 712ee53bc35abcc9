/- Contracts of the document's Step (layer 4): each way, more. -/
import Derived.Test.YtemfnchiedepoaaRf6
namespace Go.Proofs.Ytemfnchiedepoaa
open Go.RowKit Go.MapKept Go.Maps
set_option linter.unusedVariables false
set_option maxRecDepth 100000 in
set_option maxHeartbeats 4000000 in
theorem rstep1_p_full (b : Option Addr) (cap : Nat) (L : Fs) (fu : Int) (n s : ByteArray) (w : World) (h : InW w b 4 (L.map flC)) (hl : L.length ≤ 5000) (hc : L.length ≤ cap) (ln : Nat) (hln : ln = L.length) (hz : fsum L ≤ 4194304) (hs : s.size ≤ 1000) (hfu : -1 ≤ fu) (hfu2 : fu ≤ 9223372036854775807) (hnm : nameD n = true) (f : Fl) (hg : mget L n = some f) (hful : 4194304 < fsumBut n L + s.size + f.s.size) :
    Calls Try.prog 28 #[.agg #[.slice b ln cap, .int .i64 fu, .bool false], .int .i64 1, .string n, .string s] w (StepPost w L (.slice b ln cap) ⟨L, fu, false⟩ 5) := by
  have HS0 := Lib.hid (st_start w b ln cap fu false)
  have HAT := Lib.hid (at_any b cap L fu false n _ (InW.bel h HS0.out.bel) hl hc ln hln)
  have HBY : Hid (∀ W, Below w.heap.size w W → Calls Try.prog 42 #[.agg #[.slice b ln cap, .int .i64 fu, .bool false], .string n] W fun e w' => e = .returned (.int .i64 (fsumBut n L : Nat)) ∧ Below W.heap.size W w') := Lib.hid (fun W hb => bytes_any b cap L fu false n W (InW.bel h hb) hl hz hc ln hln)
  have HPU : Hid (∀ W (fu' : Int) (g : Fl), Below w.heap.size w W → Calls Try.prog 43 #[.agg #[.slice b ln cap, .int .i64 fu', .bool false], .agg #[.string n, .string g.s, .int .i64 (g.lasts : Int), .bool g.stays]] W fun e w' => ∃ u, e = .returned (.agg #[u, .int .i64 fu', .bool false]) ∧ MkG 80 4 flC W w' u (fput L n g)) := Lib.hid (fun W fu' g hb => put_any b cap L fu' false n g W (InW.bel h hb) hl hc ln hln)
  have HWO : Hid (∀ W (fu' : Int), Below w.heap.size w W → Calls Try.prog 44 #[.agg #[.slice b ln cap, .int .i64 fu', .bool false], .string n] W fun e w' => ∃ u, e = .returned (.agg #[u, .int .i64 fu', .bool false]) ∧ MkG 80 4 flC W w' u (fdel L n)) := Lib.hid (fun W fu' hb => without_any b cap L fu' false n W (InW.bel h hb) hl hc ln hln)
  have HIW := Lib.hid h
  have HLN := Lib.hid hln
  obtain ⟨d0, d1, d2, df0, df1, df2, dl⟩ := box3 HS0.out (i := 0) rfl
  have hsz : 1 ≤ n.size ∧ n.size ≤ 64 := by
    unfold nameD at hnm
    simp at hnm
    exact hnm
  have u1 : decide ((n.size : Int) < 1) = false := decide_eq_false (by omega)
  have u2 : decide ((64 : Int) < (n.size : Int)) = false := decide_eq_false (by omega)
  have hbl := but_le L n L.length
  rw [List.take_length] at hbl
  have hfs : f.s.size ≤ 4194304 := by
    have h1 : f.s.size ≤ fsum L := by
      have := mem_of_get hg
      exact fsum_mem this
    omega
  clear h hnm hln hsz
  go_enter Try.func28, Try.ntmps28
  go_wp2_with fail
  refine HAT.out.mono ?_
  rintro e w1 ⟨⟨q, rfl, hpos⟩, b1⟩
  have hq : ∃ i : Nat, q = i ∧ L[i]? = some (n, f) := by
    rcases hpos with ⟨_, h'⟩ | ⟨i, f', h1, h2, h3⟩
    · rw [hg] at h'; cases h'
    · rw [hg] at h3; cases h3; exact ⟨i, h1, h2⟩
  obtain ⟨i, rfl, hi⟩ := hq
  have H1 := Lib.hid (HS0.out.step_bel b1)
  clear hpos HAT d0 d1 d2 df0 df1 df2 dl HS0
  obtain ⟨d0, d1, d2, df0, df1, df2, dl⟩ := box3 H1.out (i := 0) rfl
  obtain ⟨r0, r1, r2, rf0, rf1, rf2, rl⟩ := box3 H1.out (i := 1) rfl
  have n1 : ¬ w.heap.size = w1.heap.size := by omega
  have n2 : ¬ w1.heap.size = w.heap.size := by omega
  have n3 : ¬ w.heap.size + 1 = w1.heap.size := by omega
  have n4 : ¬ w1.heap.size = w.heap.size + 1 := by omega
  have H2 := Lib.hid (h_box H1.out [.string n, .string f.s, .int .i64 (f.lasts : Int), .bool f.stays] 80)
  have hlt : i < ln := by rw [HLN.out]; exact (List.getElem?_eq_some_iff.1 hi).1
  obtain ⟨B, off, rfl, hB, c0, c1, c2, c3⟩ := fls_at HIW.out hi
  have e0 := (H1.out.bel.cell (p := ⟨B, off + i * 4, none⟩) hB).trans c0
  have e1 := (H1.out.bel.cell (p := ⟨B, off + i * 4 + 1, none⟩) hB).trans c1
  have e2 := (H1.out.bel.cell (p := ⟨B, off + i * 4 + 2, none⟩) hB).trans c2
  have e3 := (H1.out.bel.cell (p := ⟨B, off + i * 4 + 3, none⟩) hB).trans c3
  have hB1 : B < w1.heap.size := Nat.lt_of_lt_of_le hB H1.out.bel.size
  have hi0 : (0 : Int) ≤ (i : Int) := by omega
  have hi1 : (i : Int) < (ln : Int) := by omega
  have t0 : decide ((i : Int) < 0) = false := decide_eq_false (by omega)
  have H3 := H2
  clear c0 c1 c2 c3 hi b1
  go_wp2_with fail
  refine (HBY.out _ H3.out.bel).mono ?_
  rintro e w4 ⟨rfl, b4⟩
  have H4 := Lib.hid (H3.out.step_bel b4)
  clear HBY b4 d0 d1 d2 df0 df1 df2 dl r0 r1 r2 rf0 rf1 rf2 rl H1 H2 H3 e0 e1 e2 e3
  obtain ⟨d0, d1, d2, df0, df1, df2, dl⟩ := box3 H4.out (i := 0) rfl
  obtain ⟨r0, r1, r2, rf0, rf1, rf2, rl⟩ := box3 H4.out (i := 1) rfl
  obtain ⟨f0, f1, f2, f3, ff0, ff1, ff2, ff3, fl⟩ := box4 H4.out (i := 2) rfl
  generalize fsumBut n L = z at *
  have q1 : IntKind.i64.wrap ((z : Int) + (s.size : Int)) = (z : Int) + (s.size : Int) := IntWalk.i64_in _ (by omega)
  have q2 : IntKind.i64.wrap ((z : Int) + (s.size : Int) + (f.s.size : Int)) = (z : Int) + (s.size : Int) + (f.s.size : Int) := IntWalk.i64_in _ (by omega)
  have t1 : decide ((4194304 : Int) < (z : Int) + (s.size : Int) + (f.s.size : Int)) = true := decide_eq_true (by omega)
  clear HPU HWO
  go_wp2_with fail
  have H7 := h_set3 H4.out (i := 1) rfl (.slice (some ⟨B, off, none⟩) ln cap) (.int .i64 fu) (.bool false)
  refine bodyPost_ret (fin2 rfl rfl (h_boxAt H7 (i := 1) rfl)) rfl ⟨_, rfl, .inl ⟨rfl, rfl⟩, H7.bel⟩
set_option maxRecDepth 100000 in
set_option maxHeartbeats 4000000 in
theorem rstep1_p_zero (b : Option Addr) (cap : Nat) (L : Fs) (fu : Int) (n s : ByteArray) (w : World) (h : InW w b 4 (L.map flC)) (hl : L.length ≤ 5000) (hc : L.length ≤ cap) (ln : Nat) (hln : ln = L.length) (hz : fsum L ≤ 4194304) (hs : s.size ≤ 1000) (hfu : -1 ≤ fu) (hfu2 : fu ≤ 9223372036854775807) (hnm : nameD n = true) (f : Fl) (hg : mget L n = some f) (hful : fsumBut n L + s.size + f.s.size ≤ 4194304) (h0 : fu = 0) :
    Calls Try.prog 28 #[.agg #[.slice b ln cap, .int .i64 fu, .bool false], .int .i64 1, .string n, .string s] w (StepPost w L (.slice b ln cap) ⟨fput L n { f with s := catB f.s s }, 0, true⟩ 8) := by
  subst h0
  have HS0 := Lib.hid (st_start w b ln cap 0 false)
  have HAT := Lib.hid (at_any b cap L 0 false n _ (InW.bel h HS0.out.bel) hl hc ln hln)
  have HBY : Hid (∀ W, Below w.heap.size w W → Calls Try.prog 42 #[.agg #[.slice b ln cap, .int .i64 0, .bool false], .string n] W fun e w' => e = .returned (.int .i64 (fsumBut n L : Nat)) ∧ Below W.heap.size W w') := Lib.hid (fun W hb => bytes_any b cap L 0 false n W (InW.bel h hb) hl hz hc ln hln)
  have HPU : Hid (∀ W (fu' : Int) (g : Fl), Below w.heap.size w W → Calls Try.prog 43 #[.agg #[.slice b ln cap, .int .i64 fu', .bool false], .agg #[.string n, .string g.s, .int .i64 (g.lasts : Int), .bool g.stays]] W fun e w' => ∃ u, e = .returned (.agg #[u, .int .i64 fu', .bool false]) ∧ MkG 80 4 flC W w' u (fput L n g)) := Lib.hid (fun W fu' g hb => put_any b cap L fu' false n g W (InW.bel h hb) hl hc ln hln)
  have HWO : Hid (∀ W (fu' : Int), Below w.heap.size w W → Calls Try.prog 44 #[.agg #[.slice b ln cap, .int .i64 fu', .bool false], .string n] W fun e w' => ∃ u, e = .returned (.agg #[u, .int .i64 fu', .bool false]) ∧ MkG 80 4 flC W w' u (fdel L n)) := Lib.hid (fun W fu' hb => without_any b cap L fu' false n W (InW.bel h hb) hl hc ln hln)
  have HIW := Lib.hid h
  have HLN := Lib.hid hln
  obtain ⟨d0, d1, d2, df0, df1, df2, dl⟩ := box3 HS0.out (i := 0) rfl
  have hsz : 1 ≤ n.size ∧ n.size ≤ 64 := by
    unfold nameD at hnm
    simp at hnm
    exact hnm
  have u1 : decide ((n.size : Int) < 1) = false := decide_eq_false (by omega)
  have u2 : decide ((64 : Int) < (n.size : Int)) = false := decide_eq_false (by omega)
  have hbl := but_le L n L.length
  rw [List.take_length] at hbl
  have hfs : f.s.size ≤ 4194304 := by
    have h1 : f.s.size ≤ fsum L := by
      have := mem_of_get hg
      exact fsum_mem this
    omega
  clear h hnm hln hsz
  go_enter Try.func28, Try.ntmps28
  go_wp2_with fail
  refine HAT.out.mono ?_
  rintro e w1 ⟨⟨q, rfl, hpos⟩, b1⟩
  have hq : ∃ i : Nat, q = i ∧ L[i]? = some (n, f) := by
    rcases hpos with ⟨_, h'⟩ | ⟨i, f', h1, h2, h3⟩
    · rw [hg] at h'; cases h'
    · rw [hg] at h3; cases h3; exact ⟨i, h1, h2⟩
  obtain ⟨i, rfl, hi⟩ := hq
  have H1 := Lib.hid (HS0.out.step_bel b1)
  clear hpos HAT d0 d1 d2 df0 df1 df2 dl HS0
  obtain ⟨d0, d1, d2, df0, df1, df2, dl⟩ := box3 H1.out (i := 0) rfl
  obtain ⟨r0, r1, r2, rf0, rf1, rf2, rl⟩ := box3 H1.out (i := 1) rfl
  have n1 : ¬ w.heap.size = w1.heap.size := by omega
  have n2 : ¬ w1.heap.size = w.heap.size := by omega
  have n3 : ¬ w.heap.size + 1 = w1.heap.size := by omega
  have n4 : ¬ w1.heap.size = w.heap.size + 1 := by omega
  have H2 := Lib.hid (h_box H1.out [.string n, .string f.s, .int .i64 (f.lasts : Int), .bool f.stays] 80)
  have hlt : i < ln := by rw [HLN.out]; exact (List.getElem?_eq_some_iff.1 hi).1
  obtain ⟨B, off, rfl, hB, c0, c1, c2, c3⟩ := fls_at HIW.out hi
  have e0 := (H1.out.bel.cell (p := ⟨B, off + i * 4, none⟩) hB).trans c0
  have e1 := (H1.out.bel.cell (p := ⟨B, off + i * 4 + 1, none⟩) hB).trans c1
  have e2 := (H1.out.bel.cell (p := ⟨B, off + i * 4 + 2, none⟩) hB).trans c2
  have e3 := (H1.out.bel.cell (p := ⟨B, off + i * 4 + 3, none⟩) hB).trans c3
  have hB1 : B < w1.heap.size := Nat.lt_of_lt_of_le hB H1.out.bel.size
  have hi0 : (0 : Int) ≤ (i : Int) := by omega
  have hi1 : (i : Int) < (ln : Int) := by omega
  have t0 : decide ((i : Int) < 0) = false := decide_eq_false (by omega)
  have H3 := H2
  clear c0 c1 c2 c3 hi b1
  go_wp2_with fail
  refine (HBY.out _ H3.out.bel).mono ?_
  rintro e w4 ⟨rfl, b4⟩
  have H4 := Lib.hid (H3.out.step_bel b4)
  clear HBY b4 d0 d1 d2 df0 df1 df2 dl r0 r1 r2 rf0 rf1 rf2 rl H1 H2 H3 e0 e1 e2 e3
  obtain ⟨d0, d1, d2, df0, df1, df2, dl⟩ := box3 H4.out (i := 0) rfl
  obtain ⟨r0, r1, r2, rf0, rf1, rf2, rl⟩ := box3 H4.out (i := 1) rfl
  obtain ⟨f0, f1, f2, f3, ff0, ff1, ff2, ff3, fl⟩ := box4 H4.out (i := 2) rfl
  generalize fsumBut n L = z at *
  have q1 : IntKind.i64.wrap ((z : Int) + (s.size : Int)) = (z : Int) + (s.size : Int) := IntWalk.i64_in _ (by omega)
  have q2 : IntKind.i64.wrap ((z : Int) + (s.size : Int) + (f.s.size : Int)) = (z : Int) + (s.size : Int) + (f.s.size : Int) := IntWalk.i64_in _ (by omega)
  have t1 : decide ((4194304 : Int) < (z : Int) + (s.size : Int) + (f.s.size : Int)) = false := decide_eq_false (by omega)
  obtain ⟨cs, hcs⟩ : ∃ cs, catB f.s s = cs := ⟨_, rfl⟩
  have hcat : f.s ++ s = cs := by rw [cat_eq, hcs]
  have HCS := Lib.hid hcs
  clear hcs
  have H5 := Lib.hid (h_set H4.out (i := 2) rfl 1 (.string cs))
  have H6 := H5
  go_wp2_with fail
  refine (HPU.out _ 0 (⟨cs, f.lasts, f.stays⟩ : Fl) H6.out.bel).mono ?_
  rintro e w8 ⟨u8, rfl, m8⟩
  have HM := Lib.hid (m8.from H6.out.bel)
  have H8 := Lib.hid (h_row (H6.out) m8.bl m8.tx m8.nw)
  obtain ⟨b8, c8, hu8, _, _, _⟩ := m8.read flLen (by omega)
  clear m8 HPU HWO d0 d1 d2 df0 df1 df2 dl r0 r1 r2 rf0 rf1 rf2 rl f0 f1 f2 f3 ff0 ff1 ff2 ff3 fl
  obtain ⟨l8, hl8⟩ : ∃ l8, l8 = (fput L n (⟨cs, f.lasts, f.stays⟩ : Fl)).length := ⟨_, rfl⟩
  rw [← hl8] at hu8
  subst hu8
  clear hl8
  obtain ⟨d0, d1, d2, df0, df1, df2, dl⟩ := box3 H8.out (i := 0) rfl
  obtain ⟨r0, r1, r2, rf0, rf1, rf2, rl⟩ := box3 H8.out (i := 1) rfl
  go_upto_region 20 with fail
  have H9a := Lib.hid (h_set3 H8.out (i := 0) rfl (.slice b8 l8 c8) (.int .i64 0) (.bool false))
  clear d0 d1 d2 df0 df1 df2 dl r0 r1 r2 rf0 rf1 rf2 rl
  generalize ((w8.setCell ⟨w.heap.size, 0, none⟩ (.slice b8 l8 c8)).setCell ⟨w.heap.size, 1, none⟩ (.int .i64 0)).setCell ⟨w.heap.size, 2, none⟩ (.bool false) = W9 at *
  obtain ⟨d0, d1, d2, df0, df1, df2, dl⟩ := box3 H9a.out (i := 0) rfl
  obtain ⟨r0, r1, r2, rf0, rf1, rf2, rl⟩ := box3 H9a.out (i := 1) rfl
  go_upto_region 21 with fail
  have H9b := Lib.hid (h_set H9a.out (i := 0) rfl 2 (.bool true))
  clear d0 d1 d2 df0 df1 df2 dl r0 r1 r2 rf0 rf1 rf2 rl
  generalize W9.setCell ⟨w.heap.size, 2, none⟩ (.bool true) = W10 at *
  obtain ⟨d0, d1, d2, df0, df1, df2, dl⟩ := box3 H9b.out (i := 0) rfl
  obtain ⟨r0, r1, r2, rf0, rf1, rf2, rl⟩ := box3 H9b.out (i := 1) rfl
  go_wp2_with fail
  have H9 := H9b.out
  have H7 := h_set3 H9 (i := 1) rfl (.slice b8 l8 c8) (.int .i64 0) (.bool true)
  refine bodyPost_ret (fin2 rfl rfl (h_boxAt H7 (i := 1) rfl)) rfl ⟨_, rfl, .inr (by rw [show ({ f with s := catB f.s s } : Fl) = (⟨cs, f.lasts, f.stays⟩ : Fl) by rw [HCS.out]]; exact h_mk H7 (i := 3) rfl), H7.bel⟩
set_option maxRecDepth 100000 in
set_option maxHeartbeats 4000000 in
theorem rstep1_p_pos (b : Option Addr) (cap : Nat) (L : Fs) (fu : Int) (n s : ByteArray) (w : World) (h : InW w b 4 (L.map flC)) (hl : L.length ≤ 5000) (hc : L.length ≤ cap) (ln : Nat) (hln : ln = L.length) (hz : fsum L ≤ 4194304) (hs : s.size ≤ 1000) (hfu : -1 ≤ fu) (hfu2 : fu ≤ 9223372036854775807) (hnm : nameD n = true) (f : Fl) (hg : mget L n = some f) (hful : fsumBut n L + s.size + f.s.size ≤ 4194304) (h0 : 0 < fu) :
    Calls Try.prog 28 #[.agg #[.slice b ln cap, .int .i64 fu, .bool false], .int .i64 1, .string n, .string s] w (StepPost w L (.slice b ln cap) ⟨fput L n { f with s := catB f.s s }, fu - 1, false⟩ 0) := by
  have HS0 := Lib.hid (st_start w b ln cap fu false)
  have HAT := Lib.hid (at_any b cap L fu false n _ (InW.bel h HS0.out.bel) hl hc ln hln)
  have HBY : Hid (∀ W, Below w.heap.size w W → Calls Try.prog 42 #[.agg #[.slice b ln cap, .int .i64 fu, .bool false], .string n] W fun e w' => e = .returned (.int .i64 (fsumBut n L : Nat)) ∧ Below W.heap.size W w') := Lib.hid (fun W hb => bytes_any b cap L fu false n W (InW.bel h hb) hl hz hc ln hln)
  have HPU : Hid (∀ W (fu' : Int) (g : Fl), Below w.heap.size w W → Calls Try.prog 43 #[.agg #[.slice b ln cap, .int .i64 fu', .bool false], .agg #[.string n, .string g.s, .int .i64 (g.lasts : Int), .bool g.stays]] W fun e w' => ∃ u, e = .returned (.agg #[u, .int .i64 fu', .bool false]) ∧ MkG 80 4 flC W w' u (fput L n g)) := Lib.hid (fun W fu' g hb => put_any b cap L fu' false n g W (InW.bel h hb) hl hc ln hln)
  have HWO : Hid (∀ W (fu' : Int), Below w.heap.size w W → Calls Try.prog 44 #[.agg #[.slice b ln cap, .int .i64 fu', .bool false], .string n] W fun e w' => ∃ u, e = .returned (.agg #[u, .int .i64 fu', .bool false]) ∧ MkG 80 4 flC W w' u (fdel L n)) := Lib.hid (fun W fu' hb => without_any b cap L fu' false n W (InW.bel h hb) hl hc ln hln)
  have HIW := Lib.hid h
  have HLN := Lib.hid hln
  obtain ⟨d0, d1, d2, df0, df1, df2, dl⟩ := box3 HS0.out (i := 0) rfl
  have hsz : 1 ≤ n.size ∧ n.size ≤ 64 := by
    unfold nameD at hnm
    simp at hnm
    exact hnm
  have u1 : decide ((n.size : Int) < 1) = false := decide_eq_false (by omega)
  have u2 : decide ((64 : Int) < (n.size : Int)) = false := decide_eq_false (by omega)
  have hbl := but_le L n L.length
  rw [List.take_length] at hbl
  have hfs : f.s.size ≤ 4194304 := by
    have h1 : f.s.size ≤ fsum L := by
      have := mem_of_get hg
      exact fsum_mem this
    omega
  clear h hnm hln hsz
  go_enter Try.func28, Try.ntmps28
  go_wp2_with fail
  refine HAT.out.mono ?_
  rintro e w1 ⟨⟨q, rfl, hpos⟩, b1⟩
  have hq : ∃ i : Nat, q = i ∧ L[i]? = some (n, f) := by
    rcases hpos with ⟨_, h'⟩ | ⟨i, f', h1, h2, h3⟩
    · rw [hg] at h'; cases h'
    · rw [hg] at h3; cases h3; exact ⟨i, h1, h2⟩
  obtain ⟨i, rfl, hi⟩ := hq
  have H1 := Lib.hid (HS0.out.step_bel b1)
  clear hpos HAT d0 d1 d2 df0 df1 df2 dl HS0
  obtain ⟨d0, d1, d2, df0, df1, df2, dl⟩ := box3 H1.out (i := 0) rfl
  obtain ⟨r0, r1, r2, rf0, rf1, rf2, rl⟩ := box3 H1.out (i := 1) rfl
  have n1 : ¬ w.heap.size = w1.heap.size := by omega
  have n2 : ¬ w1.heap.size = w.heap.size := by omega
  have n3 : ¬ w.heap.size + 1 = w1.heap.size := by omega
  have n4 : ¬ w1.heap.size = w.heap.size + 1 := by omega
  have H2 := Lib.hid (h_box H1.out [.string n, .string f.s, .int .i64 (f.lasts : Int), .bool f.stays] 80)
  have hlt : i < ln := by rw [HLN.out]; exact (List.getElem?_eq_some_iff.1 hi).1
  obtain ⟨B, off, rfl, hB, c0, c1, c2, c3⟩ := fls_at HIW.out hi
  have e0 := (H1.out.bel.cell (p := ⟨B, off + i * 4, none⟩) hB).trans c0
  have e1 := (H1.out.bel.cell (p := ⟨B, off + i * 4 + 1, none⟩) hB).trans c1
  have e2 := (H1.out.bel.cell (p := ⟨B, off + i * 4 + 2, none⟩) hB).trans c2
  have e3 := (H1.out.bel.cell (p := ⟨B, off + i * 4 + 3, none⟩) hB).trans c3
  have hB1 : B < w1.heap.size := Nat.lt_of_lt_of_le hB H1.out.bel.size
  have hi0 : (0 : Int) ≤ (i : Int) := by omega
  have hi1 : (i : Int) < (ln : Int) := by omega
  have t0 : decide ((i : Int) < 0) = false := decide_eq_false (by omega)
  have H3 := H2
  clear c0 c1 c2 c3 hi b1
  go_wp2_with fail
  refine (HBY.out _ H3.out.bel).mono ?_
  rintro e w4 ⟨rfl, b4⟩
  have H4 := Lib.hid (H3.out.step_bel b4)
  clear HBY b4 d0 d1 d2 df0 df1 df2 dl r0 r1 r2 rf0 rf1 rf2 rl H1 H2 H3 e0 e1 e2 e3
  obtain ⟨d0, d1, d2, df0, df1, df2, dl⟩ := box3 H4.out (i := 0) rfl
  obtain ⟨r0, r1, r2, rf0, rf1, rf2, rl⟩ := box3 H4.out (i := 1) rfl
  obtain ⟨f0, f1, f2, f3, ff0, ff1, ff2, ff3, fl⟩ := box4 H4.out (i := 2) rfl
  generalize fsumBut n L = z at *
  have q1 : IntKind.i64.wrap ((z : Int) + (s.size : Int)) = (z : Int) + (s.size : Int) := IntWalk.i64_in _ (by omega)
  have q2 : IntKind.i64.wrap ((z : Int) + (s.size : Int) + (f.s.size : Int)) = (z : Int) + (s.size : Int) + (f.s.size : Int) := IntWalk.i64_in _ (by omega)
  have t1 : decide ((4194304 : Int) < (z : Int) + (s.size : Int) + (f.s.size : Int)) = false := decide_eq_false (by omega)
  have t3 : (fu == 0) = false := by simp; omega
  have t4 : decide (0 < fu) = true := decide_eq_true h0
  have q3 : IntKind.i64.wrap (fu - 1) = fu - 1 := IntWalk.i64_in _ (by omega)
  obtain ⟨cs, hcs⟩ : ∃ cs, catB f.s s = cs := ⟨_, rfl⟩
  have hcat : f.s ++ s = cs := by rw [cat_eq, hcs]
  have HCS := Lib.hid hcs
  clear hcs
  have H5 := Lib.hid (h_set H4.out (i := 2) rfl 1 (.string cs))
  have H6 := Lib.hid (h_set (h_set H4.out (i := 0) rfl 1 (.int .i64 (fu - 1))) (i := 2) rfl 1 (.string cs))
  go_wp2_with fail
  refine (HPU.out _ (fu - 1) (⟨cs, f.lasts, f.stays⟩ : Fl) H6.out.bel).mono ?_
  rintro e w8 ⟨u8, rfl, m8⟩
  have HM := Lib.hid (m8.from H6.out.bel)
  have H8 := Lib.hid (h_row (H6.out) m8.bl m8.tx m8.nw)
  obtain ⟨b8, c8, hu8, _, _, _⟩ := m8.read flLen (by omega)
  clear m8 HPU HWO d0 d1 d2 df0 df1 df2 dl r0 r1 r2 rf0 rf1 rf2 rl f0 f1 f2 f3 ff0 ff1 ff2 ff3 fl
  obtain ⟨l8, hl8⟩ : ∃ l8, l8 = (fput L n (⟨cs, f.lasts, f.stays⟩ : Fl)).length := ⟨_, rfl⟩
  rw [← hl8] at hu8
  subst hu8
  clear hl8
  obtain ⟨d0, d1, d2, df0, df1, df2, dl⟩ := box3 H8.out (i := 0) rfl
  obtain ⟨r0, r1, r2, rf0, rf1, rf2, rl⟩ := box3 H8.out (i := 1) rfl
  go_wp2_with fail
  have H7 := h_set3 H8.out (i := 1) rfl (.slice b8 l8 c8) (.int .i64 (fu - 1)) (.bool false)
  refine bodyPost_ret (fin2 rfl rfl (h_boxAt H7 (i := 1) rfl)) rfl ⟨_, rfl, .inr (by rw [show ({ f with s := catB f.s s } : Fl) = (⟨cs, f.lasts, f.stays⟩ : Fl) by rw [HCS.out]]; exact h_mk H7 (i := 3) rfl), H7.bel⟩
set_option maxRecDepth 100000 in
set_option maxHeartbeats 4000000 in
theorem rstep1_p_neg (b : Option Addr) (cap : Nat) (L : Fs) (fu : Int) (n s : ByteArray) (w : World) (h : InW w b 4 (L.map flC)) (hl : L.length ≤ 5000) (hc : L.length ≤ cap) (ln : Nat) (hln : ln = L.length) (hz : fsum L ≤ 4194304) (hs : s.size ≤ 1000) (hfu : -1 ≤ fu) (hfu2 : fu ≤ 9223372036854775807) (hnm : nameD n = true) (f : Fl) (hg : mget L n = some f) (hful : fsumBut n L + s.size + f.s.size ≤ 4194304) (h0 : fu < 0) :
    Calls Try.prog 28 #[.agg #[.slice b ln cap, .int .i64 fu, .bool false], .int .i64 1, .string n, .string s] w (StepPost w L (.slice b ln cap) ⟨fput L n { f with s := catB f.s s }, fu, false⟩ 0) := by
  have HS0 := Lib.hid (st_start w b ln cap fu false)
  have HAT := Lib.hid (at_any b cap L fu false n _ (InW.bel h HS0.out.bel) hl hc ln hln)
  have HBY : Hid (∀ W, Below w.heap.size w W → Calls Try.prog 42 #[.agg #[.slice b ln cap, .int .i64 fu, .bool false], .string n] W fun e w' => e = .returned (.int .i64 (fsumBut n L : Nat)) ∧ Below W.heap.size W w') := Lib.hid (fun W hb => bytes_any b cap L fu false n W (InW.bel h hb) hl hz hc ln hln)
  have HPU : Hid (∀ W (fu' : Int) (g : Fl), Below w.heap.size w W → Calls Try.prog 43 #[.agg #[.slice b ln cap, .int .i64 fu', .bool false], .agg #[.string n, .string g.s, .int .i64 (g.lasts : Int), .bool g.stays]] W fun e w' => ∃ u, e = .returned (.agg #[u, .int .i64 fu', .bool false]) ∧ MkG 80 4 flC W w' u (fput L n g)) := Lib.hid (fun W fu' g hb => put_any b cap L fu' false n g W (InW.bel h hb) hl hc ln hln)
  have HWO : Hid (∀ W (fu' : Int), Below w.heap.size w W → Calls Try.prog 44 #[.agg #[.slice b ln cap, .int .i64 fu', .bool false], .string n] W fun e w' => ∃ u, e = .returned (.agg #[u, .int .i64 fu', .bool false]) ∧ MkG 80 4 flC W w' u (fdel L n)) := Lib.hid (fun W fu' hb => without_any b cap L fu' false n W (InW.bel h hb) hl hc ln hln)
  have HIW := Lib.hid h
  have HLN := Lib.hid hln
  obtain ⟨d0, d1, d2, df0, df1, df2, dl⟩ := box3 HS0.out (i := 0) rfl
  have hsz : 1 ≤ n.size ∧ n.size ≤ 64 := by
    unfold nameD at hnm
    simp at hnm
    exact hnm
  have u1 : decide ((n.size : Int) < 1) = false := decide_eq_false (by omega)
  have u2 : decide ((64 : Int) < (n.size : Int)) = false := decide_eq_false (by omega)
  have hbl := but_le L n L.length
  rw [List.take_length] at hbl
  have hfs : f.s.size ≤ 4194304 := by
    have h1 : f.s.size ≤ fsum L := by
      have := mem_of_get hg
      exact fsum_mem this
    omega
  clear h hnm hln hsz
  go_enter Try.func28, Try.ntmps28
  go_wp2_with fail
  refine HAT.out.mono ?_
  rintro e w1 ⟨⟨q, rfl, hpos⟩, b1⟩
  have hq : ∃ i : Nat, q = i ∧ L[i]? = some (n, f) := by
    rcases hpos with ⟨_, h'⟩ | ⟨i, f', h1, h2, h3⟩
    · rw [hg] at h'; cases h'
    · rw [hg] at h3; cases h3; exact ⟨i, h1, h2⟩
  obtain ⟨i, rfl, hi⟩ := hq
  have H1 := Lib.hid (HS0.out.step_bel b1)
  clear hpos HAT d0 d1 d2 df0 df1 df2 dl HS0
  obtain ⟨d0, d1, d2, df0, df1, df2, dl⟩ := box3 H1.out (i := 0) rfl
  obtain ⟨r0, r1, r2, rf0, rf1, rf2, rl⟩ := box3 H1.out (i := 1) rfl
  have n1 : ¬ w.heap.size = w1.heap.size := by omega
  have n2 : ¬ w1.heap.size = w.heap.size := by omega
  have n3 : ¬ w.heap.size + 1 = w1.heap.size := by omega
  have n4 : ¬ w1.heap.size = w.heap.size + 1 := by omega
  have H2 := Lib.hid (h_box H1.out [.string n, .string f.s, .int .i64 (f.lasts : Int), .bool f.stays] 80)
  have hlt : i < ln := by rw [HLN.out]; exact (List.getElem?_eq_some_iff.1 hi).1
  obtain ⟨B, off, rfl, hB, c0, c1, c2, c3⟩ := fls_at HIW.out hi
  have e0 := (H1.out.bel.cell (p := ⟨B, off + i * 4, none⟩) hB).trans c0
  have e1 := (H1.out.bel.cell (p := ⟨B, off + i * 4 + 1, none⟩) hB).trans c1
  have e2 := (H1.out.bel.cell (p := ⟨B, off + i * 4 + 2, none⟩) hB).trans c2
  have e3 := (H1.out.bel.cell (p := ⟨B, off + i * 4 + 3, none⟩) hB).trans c3
  have hB1 : B < w1.heap.size := Nat.lt_of_lt_of_le hB H1.out.bel.size
  have hi0 : (0 : Int) ≤ (i : Int) := by omega
  have hi1 : (i : Int) < (ln : Int) := by omega
  have t0 : decide ((i : Int) < 0) = false := decide_eq_false (by omega)
  have H3 := H2
  clear c0 c1 c2 c3 hi b1
  go_wp2_with fail
  refine (HBY.out _ H3.out.bel).mono ?_
  rintro e w4 ⟨rfl, b4⟩
  have H4 := Lib.hid (H3.out.step_bel b4)
  clear HBY b4 d0 d1 d2 df0 df1 df2 dl r0 r1 r2 rf0 rf1 rf2 rl H1 H2 H3 e0 e1 e2 e3
  obtain ⟨d0, d1, d2, df0, df1, df2, dl⟩ := box3 H4.out (i := 0) rfl
  obtain ⟨r0, r1, r2, rf0, rf1, rf2, rl⟩ := box3 H4.out (i := 1) rfl
  obtain ⟨f0, f1, f2, f3, ff0, ff1, ff2, ff3, fl⟩ := box4 H4.out (i := 2) rfl
  generalize fsumBut n L = z at *
  have q1 : IntKind.i64.wrap ((z : Int) + (s.size : Int)) = (z : Int) + (s.size : Int) := IntWalk.i64_in _ (by omega)
  have q2 : IntKind.i64.wrap ((z : Int) + (s.size : Int) + (f.s.size : Int)) = (z : Int) + (s.size : Int) + (f.s.size : Int) := IntWalk.i64_in _ (by omega)
  have t1 : decide ((4194304 : Int) < (z : Int) + (s.size : Int) + (f.s.size : Int)) = false := decide_eq_false (by omega)
  have t3 : (fu == 0) = false := by simp; omega
  have t4 : decide (0 < fu) = false := decide_eq_false (by omega)
  obtain ⟨cs, hcs⟩ : ∃ cs, catB f.s s = cs := ⟨_, rfl⟩
  have hcat : f.s ++ s = cs := by rw [cat_eq, hcs]
  have HCS := Lib.hid hcs
  clear hcs
  have H5 := Lib.hid (h_set H4.out (i := 2) rfl 1 (.string cs))
  have H6 := H5
  go_wp2_with fail
  refine (HPU.out _ fu (⟨cs, f.lasts, f.stays⟩ : Fl) H6.out.bel).mono ?_
  rintro e w8 ⟨u8, rfl, m8⟩
  have HM := Lib.hid (m8.from H6.out.bel)
  have H8 := Lib.hid (h_row (H6.out) m8.bl m8.tx m8.nw)
  obtain ⟨b8, c8, hu8, _, _, _⟩ := m8.read flLen (by omega)
  clear m8 HPU HWO d0 d1 d2 df0 df1 df2 dl r0 r1 r2 rf0 rf1 rf2 rl f0 f1 f2 f3 ff0 ff1 ff2 ff3 fl
  obtain ⟨l8, hl8⟩ : ∃ l8, l8 = (fput L n (⟨cs, f.lasts, f.stays⟩ : Fl)).length := ⟨_, rfl⟩
  rw [← hl8] at hu8
  subst hu8
  clear hl8
  obtain ⟨d0, d1, d2, df0, df1, df2, dl⟩ := box3 H8.out (i := 0) rfl
  obtain ⟨r0, r1, r2, rf0, rf1, rf2, rl⟩ := box3 H8.out (i := 1) rfl
  go_wp2_with fail
  have H7 := h_set3 H8.out (i := 1) rfl (.slice b8 l8 c8) (.int .i64 fu) (.bool false)
  refine bodyPost_ret (fin2 rfl rfl (h_boxAt H7 (i := 1) rfl)) rfl ⟨_, rfl, .inr (by rw [show ({ f with s := catB f.s s } : Fl) = (⟨cs, f.lasts, f.stays⟩ : Fl) by rw [HCS.out]]; exact h_mk H7 (i := 3) rfl), H7.bel⟩
set_option maxRecDepth 100000 in
set_option maxHeartbeats 4000000 in
theorem rstep1_a_full (b : Option Addr) (cap : Nat) (L : Fs) (fu : Int) (n s : ByteArray) (w : World) (h : InW w b 4 (L.map flC)) (hl : L.length ≤ 5000) (hc : L.length ≤ cap) (ln : Nat) (hln : ln = L.length) (hz : fsum L ≤ 4194304) (hs : s.size ≤ 1000) (hfu : -1 ≤ fu) (hfu2 : fu ≤ 9223372036854775807) (hnm : nameD n = true) (hg : mget L n = none) (hful : 4194304 < fsumBut n L + s.size) :
    Calls Try.prog 28 #[.agg #[.slice b ln cap, .int .i64 fu, .bool false], .int .i64 1, .string n, .string s] w (StepPost w L (.slice b ln cap) ⟨L, fu, false⟩ 5) := by
  have HS0 := Lib.hid (st_start w b ln cap fu false)
  have HAT := Lib.hid (at_any b cap L fu false n _ (InW.bel h HS0.out.bel) hl hc ln hln)
  have HBY : Hid (∀ W, Below w.heap.size w W → Calls Try.prog 42 #[.agg #[.slice b ln cap, .int .i64 fu, .bool false], .string n] W fun e w' => e = .returned (.int .i64 (fsumBut n L : Nat)) ∧ Below W.heap.size W w') := Lib.hid (fun W hb => bytes_any b cap L fu false n W (InW.bel h hb) hl hz hc ln hln)
  have HPU : Hid (∀ W (fu' : Int) (g : Fl), Below w.heap.size w W → Calls Try.prog 43 #[.agg #[.slice b ln cap, .int .i64 fu', .bool false], .agg #[.string n, .string g.s, .int .i64 (g.lasts : Int), .bool g.stays]] W fun e w' => ∃ u, e = .returned (.agg #[u, .int .i64 fu', .bool false]) ∧ MkG 80 4 flC W w' u (fput L n g)) := Lib.hid (fun W fu' g hb => put_any b cap L fu' false n g W (InW.bel h hb) hl hc ln hln)
  have HWO : Hid (∀ W (fu' : Int), Below w.heap.size w W → Calls Try.prog 44 #[.agg #[.slice b ln cap, .int .i64 fu', .bool false], .string n] W fun e w' => ∃ u, e = .returned (.agg #[u, .int .i64 fu', .bool false]) ∧ MkG 80 4 flC W w' u (fdel L n)) := Lib.hid (fun W fu' hb => without_any b cap L fu' false n W (InW.bel h hb) hl hc ln hln)
  have HIW := Lib.hid h
  have HLN := Lib.hid hln
  obtain ⟨d0, d1, d2, df0, df1, df2, dl⟩ := box3 HS0.out (i := 0) rfl
  have hsz : 1 ≤ n.size ∧ n.size ≤ 64 := by
    unfold nameD at hnm
    simp at hnm
    exact hnm
  have u1 : decide ((n.size : Int) < 1) = false := decide_eq_false (by omega)
  have u2 : decide ((64 : Int) < (n.size : Int)) = false := decide_eq_false (by omega)
  have hbl := but_le L n L.length
  rw [List.take_length] at hbl
  clear h hnm hln hsz
  go_enter Try.func28, Try.ntmps28
  go_wp2_with fail
  refine HAT.out.mono ?_
  rintro e w1 ⟨⟨q, rfl, hpos⟩, b1⟩
  have hq : q = -1 := by
    rcases hpos with ⟨h', _⟩ | ⟨i, f', h1, h2, h3⟩
    · exact h'
    · rw [hg] at h3; cases h3
  subst hq
  have H1 := Lib.hid (HS0.out.step_bel b1)
  clear hpos HAT d0 d1 d2 df0 df1 df2 dl HS0
  obtain ⟨d0, d1, d2, df0, df1, df2, dl⟩ := box3 H1.out (i := 0) rfl
  obtain ⟨r0, r1, r2, rf0, rf1, rf2, rl⟩ := box3 H1.out (i := 1) rfl
  have n1 : ¬ w.heap.size = w1.heap.size := by omega
  have n2 : ¬ w1.heap.size = w.heap.size := by omega
  have n3 : ¬ w.heap.size + 1 = w1.heap.size := by omega
  have n4 : ¬ w1.heap.size = w.heap.size + 1 := by omega
  have H2 := Lib.hid (h_box H1.out [.string n, .string ⟨#[]⟩, .int .i64 0, .bool false] 80)
  have H3 := H2
  clear b1
  go_wp2_with fail
  refine (HBY.out _ H3.out.bel).mono ?_
  rintro e w4 ⟨rfl, b4⟩
  have H4 := Lib.hid (H3.out.step_bel b4)
  clear HBY b4 d0 d1 d2 df0 df1 df2 dl r0 r1 r2 rf0 rf1 rf2 rl H1 H2 H3
  obtain ⟨d0, d1, d2, df0, df1, df2, dl⟩ := box3 H4.out (i := 0) rfl
  obtain ⟨r0, r1, r2, rf0, rf1, rf2, rl⟩ := box3 H4.out (i := 1) rfl
  obtain ⟨f0, f1, f2, f3, ff0, ff1, ff2, ff3, fl⟩ := box4 H4.out (i := 2) rfl
  generalize fsumBut n L = z at *
  have q1 : IntKind.i64.wrap ((z : Int) + (s.size : Int)) = (z : Int) + (s.size : Int) := IntWalk.i64_in _ (by omega)
  have t1 : decide ((4194304 : Int) < (z : Int) + (s.size : Int)) = true := decide_eq_true (by omega)
  clear HPU HWO
  go_wp2_with fail
  have H7 := h_set3 H4.out (i := 1) rfl (.slice b ln cap) (.int .i64 fu) (.bool false)
  refine bodyPost_ret (fin2 rfl rfl (h_boxAt H7 (i := 1) rfl)) rfl ⟨_, rfl, .inl ⟨rfl, rfl⟩, H7.bel⟩
set_option maxRecDepth 100000 in
set_option maxHeartbeats 4000000 in
theorem rstep1_a_many (b : Option Addr) (cap : Nat) (L : Fs) (fu : Int) (n s : ByteArray) (w : World) (h : InW w b 4 (L.map flC)) (hl : L.length ≤ 5000) (hc : L.length ≤ cap) (ln : Nat) (hln : ln = L.length) (hz : fsum L ≤ 4194304) (hs : s.size ≤ 1000) (hfu : -1 ≤ fu) (hfu2 : fu ≤ 9223372036854775807) (hnm : nameD n = true) (hg : mget L n = none) (hful : fsumBut n L + s.size ≤ 4194304) (hmany : 4096 ≤ L.length) :
    Calls Try.prog 28 #[.agg #[.slice b ln cap, .int .i64 fu, .bool false], .int .i64 1, .string n, .string s] w (StepPost w L (.slice b ln cap) ⟨L, fu, false⟩ 5) := by
  have HS0 := Lib.hid (st_start w b ln cap fu false)
  have HAT := Lib.hid (at_any b cap L fu false n _ (InW.bel h HS0.out.bel) hl hc ln hln)
  have HBY : Hid (∀ W, Below w.heap.size w W → Calls Try.prog 42 #[.agg #[.slice b ln cap, .int .i64 fu, .bool false], .string n] W fun e w' => e = .returned (.int .i64 (fsumBut n L : Nat)) ∧ Below W.heap.size W w') := Lib.hid (fun W hb => bytes_any b cap L fu false n W (InW.bel h hb) hl hz hc ln hln)
  have HPU : Hid (∀ W (fu' : Int) (g : Fl), Below w.heap.size w W → Calls Try.prog 43 #[.agg #[.slice b ln cap, .int .i64 fu', .bool false], .agg #[.string n, .string g.s, .int .i64 (g.lasts : Int), .bool g.stays]] W fun e w' => ∃ u, e = .returned (.agg #[u, .int .i64 fu', .bool false]) ∧ MkG 80 4 flC W w' u (fput L n g)) := Lib.hid (fun W fu' g hb => put_any b cap L fu' false n g W (InW.bel h hb) hl hc ln hln)
  have HWO : Hid (∀ W (fu' : Int), Below w.heap.size w W → Calls Try.prog 44 #[.agg #[.slice b ln cap, .int .i64 fu', .bool false], .string n] W fun e w' => ∃ u, e = .returned (.agg #[u, .int .i64 fu', .bool false]) ∧ MkG 80 4 flC W w' u (fdel L n)) := Lib.hid (fun W fu' hb => without_any b cap L fu' false n W (InW.bel h hb) hl hc ln hln)
  have HIW := Lib.hid h
  have HLN := Lib.hid hln
  obtain ⟨d0, d1, d2, df0, df1, df2, dl⟩ := box3 HS0.out (i := 0) rfl
  have hsz : 1 ≤ n.size ∧ n.size ≤ 64 := by
    unfold nameD at hnm
    simp at hnm
    exact hnm
  have u1 : decide ((n.size : Int) < 1) = false := decide_eq_false (by omega)
  have u2 : decide ((64 : Int) < (n.size : Int)) = false := decide_eq_false (by omega)
  have hbl := but_le L n L.length
  rw [List.take_length] at hbl
  clear h hnm hln hsz
  go_enter Try.func28, Try.ntmps28
  go_wp2_with fail
  refine HAT.out.mono ?_
  rintro e w1 ⟨⟨q, rfl, hpos⟩, b1⟩
  have hq : q = -1 := by
    rcases hpos with ⟨h', _⟩ | ⟨i, f', h1, h2, h3⟩
    · exact h'
    · rw [hg] at h3; cases h3
  subst hq
  have H1 := Lib.hid (HS0.out.step_bel b1)
  clear hpos HAT d0 d1 d2 df0 df1 df2 dl HS0
  obtain ⟨d0, d1, d2, df0, df1, df2, dl⟩ := box3 H1.out (i := 0) rfl
  obtain ⟨r0, r1, r2, rf0, rf1, rf2, rl⟩ := box3 H1.out (i := 1) rfl
  have n1 : ¬ w.heap.size = w1.heap.size := by omega
  have n2 : ¬ w1.heap.size = w.heap.size := by omega
  have n3 : ¬ w.heap.size + 1 = w1.heap.size := by omega
  have n4 : ¬ w1.heap.size = w.heap.size + 1 := by omega
  have H2 := Lib.hid (h_box H1.out [.string n, .string ⟨#[]⟩, .int .i64 0, .bool false] 80)
  have H3 := H2
  clear b1
  go_wp2_with fail
  refine (HBY.out _ H3.out.bel).mono ?_
  rintro e w4 ⟨rfl, b4⟩
  have H4 := Lib.hid (H3.out.step_bel b4)
  clear HBY b4 d0 d1 d2 df0 df1 df2 dl r0 r1 r2 rf0 rf1 rf2 rl H1 H2 H3
  obtain ⟨d0, d1, d2, df0, df1, df2, dl⟩ := box3 H4.out (i := 0) rfl
  obtain ⟨r0, r1, r2, rf0, rf1, rf2, rl⟩ := box3 H4.out (i := 1) rfl
  obtain ⟨f0, f1, f2, f3, ff0, ff1, ff2, ff3, fl⟩ := box4 H4.out (i := 2) rfl
  generalize fsumBut n L = z at *
  have q1 : IntKind.i64.wrap ((z : Int) + (s.size : Int)) = (z : Int) + (s.size : Int) := IntWalk.i64_in _ (by omega)
  have t1 : decide ((4194304 : Int) < (z : Int) + (s.size : Int)) = false := decide_eq_false (by omega)
  have t2 : decide ((4096 : Int) ≤ (ln : Int)) = true := decide_eq_true (by have := HLN.out; omega)
  clear HPU HWO
  go_wp2_with fail
  have H7 := h_set3 H4.out (i := 1) rfl (.slice b ln cap) (.int .i64 fu) (.bool false)
  refine bodyPost_ret (fin2 rfl rfl (h_boxAt H7 (i := 1) rfl)) rfl ⟨_, rfl, .inl ⟨rfl, rfl⟩, H7.bel⟩
set_option maxRecDepth 100000 in
set_option maxHeartbeats 4000000 in
theorem rstep1_a_zero (b : Option Addr) (cap : Nat) (L : Fs) (fu : Int) (n s : ByteArray) (w : World) (h : InW w b 4 (L.map flC)) (hl : L.length ≤ 5000) (hc : L.length ≤ cap) (ln : Nat) (hln : ln = L.length) (hz : fsum L ≤ 4194304) (hs : s.size ≤ 1000) (hfu : -1 ≤ fu) (hfu2 : fu ≤ 9223372036854775807) (hnm : nameD n = true) (hg : mget L n = none) (hful : fsumBut n L + s.size ≤ 4194304) (hmany : L.length < 4096) (h0 : fu = 0) :
    Calls Try.prog 28 #[.agg #[.slice b ln cap, .int .i64 fu, .bool false], .int .i64 1, .string n, .string s] w (StepPost w L (.slice b ln cap) ⟨fput L n { emptyF with s := catB emptyF.s s }, 0, true⟩ 8) := by
  subst h0
  have HS0 := Lib.hid (st_start w b ln cap 0 false)
  have HAT := Lib.hid (at_any b cap L 0 false n _ (InW.bel h HS0.out.bel) hl hc ln hln)
  have HBY : Hid (∀ W, Below w.heap.size w W → Calls Try.prog 42 #[.agg #[.slice b ln cap, .int .i64 0, .bool false], .string n] W fun e w' => e = .returned (.int .i64 (fsumBut n L : Nat)) ∧ Below W.heap.size W w') := Lib.hid (fun W hb => bytes_any b cap L 0 false n W (InW.bel h hb) hl hz hc ln hln)
  have HPU : Hid (∀ W (fu' : Int) (g : Fl), Below w.heap.size w W → Calls Try.prog 43 #[.agg #[.slice b ln cap, .int .i64 fu', .bool false], .agg #[.string n, .string g.s, .int .i64 (g.lasts : Int), .bool g.stays]] W fun e w' => ∃ u, e = .returned (.agg #[u, .int .i64 fu', .bool false]) ∧ MkG 80 4 flC W w' u (fput L n g)) := Lib.hid (fun W fu' g hb => put_any b cap L fu' false n g W (InW.bel h hb) hl hc ln hln)
  have HWO : Hid (∀ W (fu' : Int), Below w.heap.size w W → Calls Try.prog 44 #[.agg #[.slice b ln cap, .int .i64 fu', .bool false], .string n] W fun e w' => ∃ u, e = .returned (.agg #[u, .int .i64 fu', .bool false]) ∧ MkG 80 4 flC W w' u (fdel L n)) := Lib.hid (fun W fu' hb => without_any b cap L fu' false n W (InW.bel h hb) hl hc ln hln)
  have HIW := Lib.hid h
  have HLN := Lib.hid hln
  obtain ⟨d0, d1, d2, df0, df1, df2, dl⟩ := box3 HS0.out (i := 0) rfl
  have hsz : 1 ≤ n.size ∧ n.size ≤ 64 := by
    unfold nameD at hnm
    simp at hnm
    exact hnm
  have u1 : decide ((n.size : Int) < 1) = false := decide_eq_false (by omega)
  have u2 : decide ((64 : Int) < (n.size : Int)) = false := decide_eq_false (by omega)
  have hbl := but_le L n L.length
  rw [List.take_length] at hbl
  clear h hnm hln hsz
  go_enter Try.func28, Try.ntmps28
  go_wp2_with fail
  refine HAT.out.mono ?_
  rintro e w1 ⟨⟨q, rfl, hpos⟩, b1⟩
  have hq : q = -1 := by
    rcases hpos with ⟨h', _⟩ | ⟨i, f', h1, h2, h3⟩
    · exact h'
    · rw [hg] at h3; cases h3
  subst hq
  have H1 := Lib.hid (HS0.out.step_bel b1)
  clear hpos HAT d0 d1 d2 df0 df1 df2 dl HS0
  obtain ⟨d0, d1, d2, df0, df1, df2, dl⟩ := box3 H1.out (i := 0) rfl
  obtain ⟨r0, r1, r2, rf0, rf1, rf2, rl⟩ := box3 H1.out (i := 1) rfl
  have n1 : ¬ w.heap.size = w1.heap.size := by omega
  have n2 : ¬ w1.heap.size = w.heap.size := by omega
  have n3 : ¬ w.heap.size + 1 = w1.heap.size := by omega
  have n4 : ¬ w1.heap.size = w.heap.size + 1 := by omega
  have H2 := Lib.hid (h_box H1.out [.string n, .string ⟨#[]⟩, .int .i64 0, .bool false] 80)
  have H3 := H2
  clear b1
  go_wp2_with fail
  refine (HBY.out _ H3.out.bel).mono ?_
  rintro e w4 ⟨rfl, b4⟩
  have H4 := Lib.hid (H3.out.step_bel b4)
  clear HBY b4 d0 d1 d2 df0 df1 df2 dl r0 r1 r2 rf0 rf1 rf2 rl H1 H2 H3
  obtain ⟨d0, d1, d2, df0, df1, df2, dl⟩ := box3 H4.out (i := 0) rfl
  obtain ⟨r0, r1, r2, rf0, rf1, rf2, rl⟩ := box3 H4.out (i := 1) rfl
  obtain ⟨f0, f1, f2, f3, ff0, ff1, ff2, ff3, fl⟩ := box4 H4.out (i := 2) rfl
  generalize fsumBut n L = z at *
  have q1 : IntKind.i64.wrap ((z : Int) + (s.size : Int)) = (z : Int) + (s.size : Int) := IntWalk.i64_in _ (by omega)
  have t1 : decide ((4194304 : Int) < (z : Int) + (s.size : Int)) = false := decide_eq_false (by omega)
  have t2 : decide ((4096 : Int) ≤ (ln : Int)) = false := decide_eq_false (by have := HLN.out; omega)
  obtain ⟨cs, hcs⟩ : ∃ cs, catB emptyF.s s = cs := ⟨_, rfl⟩
  have hcat : (⟨#[]⟩ : ByteArray) ++ s = cs := by rw [← hcs, ← cat_eq]; rfl
  have HCS := Lib.hid hcs
  clear hcs
  have H5 := Lib.hid (h_set H4.out (i := 2) rfl 1 (.string cs))
  have H6 := H5
  go_wp2_with fail
  refine (HPU.out _ 0 (⟨cs, 0, false⟩ : Fl) H6.out.bel).mono ?_
  rintro e w8 ⟨u8, rfl, m8⟩
  have HM := Lib.hid (m8.from H6.out.bel)
  have H8 := Lib.hid (h_row (H6.out) m8.bl m8.tx m8.nw)
  obtain ⟨b8, c8, hu8, _, _, _⟩ := m8.read flLen (by omega)
  clear m8 HPU HWO d0 d1 d2 df0 df1 df2 dl r0 r1 r2 rf0 rf1 rf2 rl f0 f1 f2 f3 ff0 ff1 ff2 ff3 fl
  obtain ⟨l8, hl8⟩ : ∃ l8, l8 = (fput L n (⟨cs, 0, false⟩ : Fl)).length := ⟨_, rfl⟩
  rw [← hl8] at hu8
  subst hu8
  clear hl8
  obtain ⟨d0, d1, d2, df0, df1, df2, dl⟩ := box3 H8.out (i := 0) rfl
  obtain ⟨r0, r1, r2, rf0, rf1, rf2, rl⟩ := box3 H8.out (i := 1) rfl
  go_upto_region 20 with fail
  have H9a := Lib.hid (h_set3 H8.out (i := 0) rfl (.slice b8 l8 c8) (.int .i64 0) (.bool false))
  clear d0 d1 d2 df0 df1 df2 dl r0 r1 r2 rf0 rf1 rf2 rl
  generalize ((w8.setCell ⟨w.heap.size, 0, none⟩ (.slice b8 l8 c8)).setCell ⟨w.heap.size, 1, none⟩ (.int .i64 0)).setCell ⟨w.heap.size, 2, none⟩ (.bool false) = W9 at *
  obtain ⟨d0, d1, d2, df0, df1, df2, dl⟩ := box3 H9a.out (i := 0) rfl
  obtain ⟨r0, r1, r2, rf0, rf1, rf2, rl⟩ := box3 H9a.out (i := 1) rfl
  go_upto_region 21 with fail
  have H9b := Lib.hid (h_set H9a.out (i := 0) rfl 2 (.bool true))
  clear d0 d1 d2 df0 df1 df2 dl r0 r1 r2 rf0 rf1 rf2 rl
  generalize W9.setCell ⟨w.heap.size, 2, none⟩ (.bool true) = W10 at *
  obtain ⟨d0, d1, d2, df0, df1, df2, dl⟩ := box3 H9b.out (i := 0) rfl
  obtain ⟨r0, r1, r2, rf0, rf1, rf2, rl⟩ := box3 H9b.out (i := 1) rfl
  go_wp2_with fail
  have H9 := H9b.out
  have H7 := h_set3 H9 (i := 1) rfl (.slice b8 l8 c8) (.int .i64 0) (.bool true)
  refine bodyPost_ret (fin2 rfl rfl (h_boxAt H7 (i := 1) rfl)) rfl ⟨_, rfl, .inr (by rw [show ({ emptyF with s := catB emptyF.s s } : Fl) = (⟨cs, 0, false⟩ : Fl) by rw [HCS.out]; rfl]; exact h_mk H7 (i := 3) rfl), H7.bel⟩
set_option maxRecDepth 100000 in
set_option maxHeartbeats 4000000 in
theorem rstep1_a_pos (b : Option Addr) (cap : Nat) (L : Fs) (fu : Int) (n s : ByteArray) (w : World) (h : InW w b 4 (L.map flC)) (hl : L.length ≤ 5000) (hc : L.length ≤ cap) (ln : Nat) (hln : ln = L.length) (hz : fsum L ≤ 4194304) (hs : s.size ≤ 1000) (hfu : -1 ≤ fu) (hfu2 : fu ≤ 9223372036854775807) (hnm : nameD n = true) (hg : mget L n = none) (hful : fsumBut n L + s.size ≤ 4194304) (hmany : L.length < 4096) (h0 : 0 < fu) :
    Calls Try.prog 28 #[.agg #[.slice b ln cap, .int .i64 fu, .bool false], .int .i64 1, .string n, .string s] w (StepPost w L (.slice b ln cap) ⟨fput L n { emptyF with s := catB emptyF.s s }, fu - 1, false⟩ 0) := by
  have HS0 := Lib.hid (st_start w b ln cap fu false)
  have HAT := Lib.hid (at_any b cap L fu false n _ (InW.bel h HS0.out.bel) hl hc ln hln)
  have HBY : Hid (∀ W, Below w.heap.size w W → Calls Try.prog 42 #[.agg #[.slice b ln cap, .int .i64 fu, .bool false], .string n] W fun e w' => e = .returned (.int .i64 (fsumBut n L : Nat)) ∧ Below W.heap.size W w') := Lib.hid (fun W hb => bytes_any b cap L fu false n W (InW.bel h hb) hl hz hc ln hln)
  have HPU : Hid (∀ W (fu' : Int) (g : Fl), Below w.heap.size w W → Calls Try.prog 43 #[.agg #[.slice b ln cap, .int .i64 fu', .bool false], .agg #[.string n, .string g.s, .int .i64 (g.lasts : Int), .bool g.stays]] W fun e w' => ∃ u, e = .returned (.agg #[u, .int .i64 fu', .bool false]) ∧ MkG 80 4 flC W w' u (fput L n g)) := Lib.hid (fun W fu' g hb => put_any b cap L fu' false n g W (InW.bel h hb) hl hc ln hln)
  have HWO : Hid (∀ W (fu' : Int), Below w.heap.size w W → Calls Try.prog 44 #[.agg #[.slice b ln cap, .int .i64 fu', .bool false], .string n] W fun e w' => ∃ u, e = .returned (.agg #[u, .int .i64 fu', .bool false]) ∧ MkG 80 4 flC W w' u (fdel L n)) := Lib.hid (fun W fu' hb => without_any b cap L fu' false n W (InW.bel h hb) hl hc ln hln)
  have HIW := Lib.hid h
  have HLN := Lib.hid hln
  obtain ⟨d0, d1, d2, df0, df1, df2, dl⟩ := box3 HS0.out (i := 0) rfl
  have hsz : 1 ≤ n.size ∧ n.size ≤ 64 := by
    unfold nameD at hnm
    simp at hnm
    exact hnm
  have u1 : decide ((n.size : Int) < 1) = false := decide_eq_false (by omega)
  have u2 : decide ((64 : Int) < (n.size : Int)) = false := decide_eq_false (by omega)
  have hbl := but_le L n L.length
  rw [List.take_length] at hbl
  clear h hnm hln hsz
  go_enter Try.func28, Try.ntmps28
  go_wp2_with fail
  refine HAT.out.mono ?_
  rintro e w1 ⟨⟨q, rfl, hpos⟩, b1⟩
  have hq : q = -1 := by
    rcases hpos with ⟨h', _⟩ | ⟨i, f', h1, h2, h3⟩
    · exact h'
    · rw [hg] at h3; cases h3
  subst hq
  have H1 := Lib.hid (HS0.out.step_bel b1)
  clear hpos HAT d0 d1 d2 df0 df1 df2 dl HS0
  obtain ⟨d0, d1, d2, df0, df1, df2, dl⟩ := box3 H1.out (i := 0) rfl
  obtain ⟨r0, r1, r2, rf0, rf1, rf2, rl⟩ := box3 H1.out (i := 1) rfl
  have n1 : ¬ w.heap.size = w1.heap.size := by omega
  have n2 : ¬ w1.heap.size = w.heap.size := by omega
  have n3 : ¬ w.heap.size + 1 = w1.heap.size := by omega
  have n4 : ¬ w1.heap.size = w.heap.size + 1 := by omega
  have H2 := Lib.hid (h_box H1.out [.string n, .string ⟨#[]⟩, .int .i64 0, .bool false] 80)
  have H3 := H2
  clear b1
  go_wp2_with fail
  refine (HBY.out _ H3.out.bel).mono ?_
  rintro e w4 ⟨rfl, b4⟩
  have H4 := Lib.hid (H3.out.step_bel b4)
  clear HBY b4 d0 d1 d2 df0 df1 df2 dl r0 r1 r2 rf0 rf1 rf2 rl H1 H2 H3
  obtain ⟨d0, d1, d2, df0, df1, df2, dl⟩ := box3 H4.out (i := 0) rfl
  obtain ⟨r0, r1, r2, rf0, rf1, rf2, rl⟩ := box3 H4.out (i := 1) rfl
  obtain ⟨f0, f1, f2, f3, ff0, ff1, ff2, ff3, fl⟩ := box4 H4.out (i := 2) rfl
  generalize fsumBut n L = z at *
  have q1 : IntKind.i64.wrap ((z : Int) + (s.size : Int)) = (z : Int) + (s.size : Int) := IntWalk.i64_in _ (by omega)
  have t1 : decide ((4194304 : Int) < (z : Int) + (s.size : Int)) = false := decide_eq_false (by omega)
  have t2 : decide ((4096 : Int) ≤ (ln : Int)) = false := decide_eq_false (by have := HLN.out; omega)
  have t3 : (fu == 0) = false := by simp; omega
  have t4 : decide (0 < fu) = true := decide_eq_true h0
  have q3 : IntKind.i64.wrap (fu - 1) = fu - 1 := IntWalk.i64_in _ (by omega)
  obtain ⟨cs, hcs⟩ : ∃ cs, catB emptyF.s s = cs := ⟨_, rfl⟩
  have hcat : (⟨#[]⟩ : ByteArray) ++ s = cs := by rw [← hcs, ← cat_eq]; rfl
  have HCS := Lib.hid hcs
  clear hcs
  have H5 := Lib.hid (h_set H4.out (i := 2) rfl 1 (.string cs))
  have H6 := Lib.hid (h_set (h_set H4.out (i := 0) rfl 1 (.int .i64 (fu - 1))) (i := 2) rfl 1 (.string cs))
  go_wp2_with fail
  refine (HPU.out _ (fu - 1) (⟨cs, 0, false⟩ : Fl) H6.out.bel).mono ?_
  rintro e w8 ⟨u8, rfl, m8⟩
  have HM := Lib.hid (m8.from H6.out.bel)
  have H8 := Lib.hid (h_row (H6.out) m8.bl m8.tx m8.nw)
  obtain ⟨b8, c8, hu8, _, _, _⟩ := m8.read flLen (by omega)
  clear m8 HPU HWO d0 d1 d2 df0 df1 df2 dl r0 r1 r2 rf0 rf1 rf2 rl f0 f1 f2 f3 ff0 ff1 ff2 ff3 fl
  obtain ⟨l8, hl8⟩ : ∃ l8, l8 = (fput L n (⟨cs, 0, false⟩ : Fl)).length := ⟨_, rfl⟩
  rw [← hl8] at hu8
  subst hu8
  clear hl8
  obtain ⟨d0, d1, d2, df0, df1, df2, dl⟩ := box3 H8.out (i := 0) rfl
  obtain ⟨r0, r1, r2, rf0, rf1, rf2, rl⟩ := box3 H8.out (i := 1) rfl
  go_wp2_with fail
  have H7 := h_set3 H8.out (i := 1) rfl (.slice b8 l8 c8) (.int .i64 (fu - 1)) (.bool false)
  refine bodyPost_ret (fin2 rfl rfl (h_boxAt H7 (i := 1) rfl)) rfl ⟨_, rfl, .inr (by rw [show ({ emptyF with s := catB emptyF.s s } : Fl) = (⟨cs, 0, false⟩ : Fl) by rw [HCS.out]; rfl]; exact h_mk H7 (i := 3) rfl), H7.bel⟩
set_option maxRecDepth 100000 in
set_option maxHeartbeats 4000000 in
theorem rstep1_a_neg (b : Option Addr) (cap : Nat) (L : Fs) (fu : Int) (n s : ByteArray) (w : World) (h : InW w b 4 (L.map flC)) (hl : L.length ≤ 5000) (hc : L.length ≤ cap) (ln : Nat) (hln : ln = L.length) (hz : fsum L ≤ 4194304) (hs : s.size ≤ 1000) (hfu : -1 ≤ fu) (hfu2 : fu ≤ 9223372036854775807) (hnm : nameD n = true) (hg : mget L n = none) (hful : fsumBut n L + s.size ≤ 4194304) (hmany : L.length < 4096) (h0 : fu < 0) :
    Calls Try.prog 28 #[.agg #[.slice b ln cap, .int .i64 fu, .bool false], .int .i64 1, .string n, .string s] w (StepPost w L (.slice b ln cap) ⟨fput L n { emptyF with s := catB emptyF.s s }, fu, false⟩ 0) := by
  have HS0 := Lib.hid (st_start w b ln cap fu false)
  have HAT := Lib.hid (at_any b cap L fu false n _ (InW.bel h HS0.out.bel) hl hc ln hln)
  have HBY : Hid (∀ W, Below w.heap.size w W → Calls Try.prog 42 #[.agg #[.slice b ln cap, .int .i64 fu, .bool false], .string n] W fun e w' => e = .returned (.int .i64 (fsumBut n L : Nat)) ∧ Below W.heap.size W w') := Lib.hid (fun W hb => bytes_any b cap L fu false n W (InW.bel h hb) hl hz hc ln hln)
  have HPU : Hid (∀ W (fu' : Int) (g : Fl), Below w.heap.size w W → Calls Try.prog 43 #[.agg #[.slice b ln cap, .int .i64 fu', .bool false], .agg #[.string n, .string g.s, .int .i64 (g.lasts : Int), .bool g.stays]] W fun e w' => ∃ u, e = .returned (.agg #[u, .int .i64 fu', .bool false]) ∧ MkG 80 4 flC W w' u (fput L n g)) := Lib.hid (fun W fu' g hb => put_any b cap L fu' false n g W (InW.bel h hb) hl hc ln hln)
  have HWO : Hid (∀ W (fu' : Int), Below w.heap.size w W → Calls Try.prog 44 #[.agg #[.slice b ln cap, .int .i64 fu', .bool false], .string n] W fun e w' => ∃ u, e = .returned (.agg #[u, .int .i64 fu', .bool false]) ∧ MkG 80 4 flC W w' u (fdel L n)) := Lib.hid (fun W fu' hb => without_any b cap L fu' false n W (InW.bel h hb) hl hc ln hln)
  have HIW := Lib.hid h
  have HLN := Lib.hid hln
  obtain ⟨d0, d1, d2, df0, df1, df2, dl⟩ := box3 HS0.out (i := 0) rfl
  have hsz : 1 ≤ n.size ∧ n.size ≤ 64 := by
    unfold nameD at hnm
    simp at hnm
    exact hnm
  have u1 : decide ((n.size : Int) < 1) = false := decide_eq_false (by omega)
  have u2 : decide ((64 : Int) < (n.size : Int)) = false := decide_eq_false (by omega)
  have hbl := but_le L n L.length
  rw [List.take_length] at hbl
  clear h hnm hln hsz
  go_enter Try.func28, Try.ntmps28
  go_wp2_with fail
  refine HAT.out.mono ?_
  rintro e w1 ⟨⟨q, rfl, hpos⟩, b1⟩
  have hq : q = -1 := by
    rcases hpos with ⟨h', _⟩ | ⟨i, f', h1, h2, h3⟩
    · exact h'
    · rw [hg] at h3; cases h3
  subst hq
  have H1 := Lib.hid (HS0.out.step_bel b1)
  clear hpos HAT d0 d1 d2 df0 df1 df2 dl HS0
  obtain ⟨d0, d1, d2, df0, df1, df2, dl⟩ := box3 H1.out (i := 0) rfl
  obtain ⟨r0, r1, r2, rf0, rf1, rf2, rl⟩ := box3 H1.out (i := 1) rfl
  have n1 : ¬ w.heap.size = w1.heap.size := by omega
  have n2 : ¬ w1.heap.size = w.heap.size := by omega
  have n3 : ¬ w.heap.size + 1 = w1.heap.size := by omega
  have n4 : ¬ w1.heap.size = w.heap.size + 1 := by omega
  have H2 := Lib.hid (h_box H1.out [.string n, .string ⟨#[]⟩, .int .i64 0, .bool false] 80)
  have H3 := H2
  clear b1
  go_wp2_with fail
  refine (HBY.out _ H3.out.bel).mono ?_
  rintro e w4 ⟨rfl, b4⟩
  have H4 := Lib.hid (H3.out.step_bel b4)
  clear HBY b4 d0 d1 d2 df0 df1 df2 dl r0 r1 r2 rf0 rf1 rf2 rl H1 H2 H3
  obtain ⟨d0, d1, d2, df0, df1, df2, dl⟩ := box3 H4.out (i := 0) rfl
  obtain ⟨r0, r1, r2, rf0, rf1, rf2, rl⟩ := box3 H4.out (i := 1) rfl
  obtain ⟨f0, f1, f2, f3, ff0, ff1, ff2, ff3, fl⟩ := box4 H4.out (i := 2) rfl
  generalize fsumBut n L = z at *
  have q1 : IntKind.i64.wrap ((z : Int) + (s.size : Int)) = (z : Int) + (s.size : Int) := IntWalk.i64_in _ (by omega)
  have t1 : decide ((4194304 : Int) < (z : Int) + (s.size : Int)) = false := decide_eq_false (by omega)
  have t2 : decide ((4096 : Int) ≤ (ln : Int)) = false := decide_eq_false (by have := HLN.out; omega)
  have t3 : (fu == 0) = false := by simp; omega
  have t4 : decide (0 < fu) = false := decide_eq_false (by omega)
  obtain ⟨cs, hcs⟩ : ∃ cs, catB emptyF.s s = cs := ⟨_, rfl⟩
  have hcat : (⟨#[]⟩ : ByteArray) ++ s = cs := by rw [← hcs, ← cat_eq]; rfl
  have HCS := Lib.hid hcs
  clear hcs
  have H5 := Lib.hid (h_set H4.out (i := 2) rfl 1 (.string cs))
  have H6 := H5
  go_wp2_with fail
  refine (HPU.out _ fu (⟨cs, 0, false⟩ : Fl) H6.out.bel).mono ?_
  rintro e w8 ⟨u8, rfl, m8⟩
  have HM := Lib.hid (m8.from H6.out.bel)
  have H8 := Lib.hid (h_row (H6.out) m8.bl m8.tx m8.nw)
  obtain ⟨b8, c8, hu8, _, _, _⟩ := m8.read flLen (by omega)
  clear m8 HPU HWO d0 d1 d2 df0 df1 df2 dl r0 r1 r2 rf0 rf1 rf2 rl f0 f1 f2 f3 ff0 ff1 ff2 ff3 fl
  obtain ⟨l8, hl8⟩ : ∃ l8, l8 = (fput L n (⟨cs, 0, false⟩ : Fl)).length := ⟨_, rfl⟩
  rw [← hl8] at hu8
  subst hu8
  clear hl8
  obtain ⟨d0, d1, d2, df0, df1, df2, dl⟩ := box3 H8.out (i := 0) rfl
  obtain ⟨r0, r1, r2, rf0, rf1, rf2, rl⟩ := box3 H8.out (i := 1) rfl
  go_wp2_with fail
  have H7 := h_set3 H8.out (i := 1) rfl (.slice b8 l8 c8) (.int .i64 fu) (.bool false)
  refine bodyPost_ret (fin2 rfl rfl (h_boxAt H7 (i := 1) rfl)) rfl ⟨_, rfl, .inr (by rw [show ({ emptyF with s := catB emptyF.s s } : Fl) = (⟨cs, 0, false⟩ : Fl) by rw [HCS.out]; rfl]; exact h_mk H7 (i := 3) rfl), H7.bel⟩
end Go.Proofs.Ytemfnchiedepoaa

/- trial.New at trials that may be, none against another. -/
import Derived.Test.YtkjcgeaoiabkjaaTNew1
namespace Go.Proofs.Ytkjcgeaoiabkjaa
open Go.RowKit Go.MapKept Go.Maps Go.ChangeShapes Go.WideShapes
set_option linter.unusedVariables false
set_option linter.unusedSimpArgs false
/-- as another, but for its slice -/
def Alike (x y : TV) : Prop := x.nm = y.nm ∧ x.ly = y.ly ∧ x.f = y.f ∧ x.t = y.t
theorem infoTr3 : (Try.prog.info? 41).map (fun i => (i.zero, i.size, i.bytes)) = some (some (.agg #[.string ⟨#[]⟩, .string ⟨#[]⟩, .int .i64 0, .int .i64 0, .slice none 0 0]), 5, 72) := by kernel_rfl
theorem n_two {w0 w : World} {a b c a' b' c' : ObN} {l : List ObN} (h : Here KN w0 w (((([a, b] ++ l) ++ [c]).set 1 b').set 0 a')) (e : c = c') : Here KN w0 w ([a', b'] ++ (l ++ [c'])) := by
  subst e
  simpa using h
set_option maxHeartbeats 3000000 in
theorem tnew_any (b : Option Addr) (cap : Nat) (ts : List TV) (arms : List ByteArray) (w : World) (hi : InW w b 5 (ts.map tvC)) (hl : ts.length ≤ cap) (hm : cap ≤ maxLen) (h2 : ts.length ≤ 100) (hx : ∀ x ∈ ts, TVOk w arms x) (ha : ∀ (i j : Nat) (x y : TV), i < j → ts[i]? = some x → ts[j]? = some y → x.nm ≠ y.nm ∧ x.ly ≠ y.ly) :
    Calls Try.prog 16 #[.slice b ts.length cap] w fun e w' => ∃ (g : Nat) (ub : Option Addr) (uc : Nat) (L : List TV), e = .returned (.tuple #[.pointer (some ⟨g, 0, none⟩), .int .i64 0]) ∧ g < w'.heap.size ∧ w'.cell? ⟨g, 0, none⟩ = some (.slice ub L.length uc) ∧ InW w' ub 5 (L.map tvC) ∧ L.length ≤ uc ∧ uc ≤ maxLen ∧ (∀ x ∈ L, TVOk w' arms x) ∧ L.length = ts.length ∧ (∀ (i : Nat) (x y : TV), L[i]? = some x → ts[i]? = some y → Alike x y) ∧ Below w.heap.size w w' := by
  have HI := Lib.hid hi
  have HX := Lib.hid hx
  have HA := Lib.hid ha
  unfold maxLen at hm
  generalize hln : ts.length = n at *
  have Hn := Lib.hid hln
  clear hi hx ha hln
  have hmm := @run_makeMap Try.prog
  go_enter Try.func16, Try.ntmps16
  go_wp2_with fail
  go_loopw [12] (fun c wr => ∃ i : Nat, i ≤ n ∧ c = .int .i64 i ∧ Below w.heap.size w wr) (fun c _ => n - (intOf c).toNat)
  case atStart => exact ⟨0, Nat.zero_le _, rfl, Below.refl _ _⟩
  case round =>
    obtain ⟨i, hin, rfl, hb⟩ := hrel
    have HB := Lib.hid hb
    clear hb
    by_cases hlt : i < n
    · obtain ⟨x, hx⟩ : ∃ x, ts[i]? = some x := ⟨ts[i]'(by have := Hn.out; omega), List.getElem?_eq_getElem _⟩
      obtain ⟨B, off, rfl, hB, d0, d1, d2, d3, d4⟩ := tv_at HI.out hx
      have hxo := HX.out x (List.mem_of_getElem? hx)
      have k0 : wr.cell? ⟨B, off + i * 5, none⟩ = some (.string x.nm) := (HB.out.cell (p := ⟨B, off + i * 5, none⟩) hB).trans d0
      have k1 : wr.cell? ⟨B, off + i * 5 + 1, none⟩ = some (.string x.ly) := (HB.out.cell (p := ⟨B, off + i * 5 + 1, none⟩) hB).trans d1
      have k2 : wr.cell? ⟨B, off + i * 5 + 2, none⟩ = some (.int .i64 x.f) := (HB.out.cell (p := ⟨B, off + i * 5 + 2, none⟩) hB).trans d2
      have k3 : wr.cell? ⟨B, off + i * 5 + 3, none⟩ = some (.int .i64 x.t) := (HB.out.cell (p := ⟨B, off + i * 5 + 3, none⟩) hB).trans d3
      have k4 : wr.cell? ⟨B, off + i * 5 + 4, none⟩ = some (.slice x.b x.n x.c) := (HB.out.cell (p := ⟨B, off + i * 5 + 4, none⟩) hB).trans d4
      have HA0 : Hid (Below wr.heap.size wr (wr.alloc (.cells #[.string x.nm, .string x.ly, .int .i64 x.f, .int .i64 x.t, .slice x.b x.n x.c] 41))) := Lib.hid ((Below.refl _ _).alloc (Nat.le_refl _) _)
      have hB1 := HB.out.trans (HA0.out.mono HB.out.size)
      have hta := tmay_any x.nm x.ly x.f x.t x.b x.c arms _ (hxo.inw.bel hB1) hxo.c hxo.m hxo.tr
      rw [← hxo.n] at hta
      have HTA := Lib.hid hta
      have hi0 : (0 : Int) ≤ (i : Int) := by omega
      have hi1 : (i : Int) < (n : Int) := by omega
      clear hx d0 d1 d2 d3 d4 hB1 hxo hta
      go_wp2_with fail
      refine HTA.out.mono ?_
      rintro e w1 ⟨rfl, b1⟩
      have HB2 := Lib.hid (HB.out.trans ((HA0.out.trans (b1.mono HA0.out.size)).mono HB.out.size))
      clear b1 HTA k0 k1 k2 k3 k4
      go_wp2_with fail
      go_roundw
      case rel => exact ⟨i + 1, by omega, by go_num, HB2.out⟩
      case measure => simp [intOf]; omega
    · have HBm := Lib.hid (HB.out.trans (((Below.refl wr.heap.size wr).alloc (Nat.le_refl _) (.map #[] 0)).mono HB.out.size))
      have HN0 := Lib.hid (n_box (Here.nil (K := KN) HBm.out) [.slice none 0 0, .map (some wr.heap.size)] 72)
      obtain ⟨m0, hm0⟩ : ∃ m0, wr.heap.size = m0 := ⟨_, rfl⟩
      have HN1 : Hid (Here KN w ((wr.alloc (.map #[] 0)).alloc (.cells #[.slice none 0 0, .map (some m0)] 72)) [.box (m0 + 1) [.slice none 0 0, .map (some m0)] 72, .row (.slice none 0 0) 41 5 0 []]) := Lib.hid (by
        have h := n_row HN0.out (Below.refl _ _) (v := .slice none 0 0) (e := 41) (sz := 5) (n := 0) (xs := []) ⟨rfl, .inl ⟨rfl, rfl⟩⟩ (by simp [Value.ownBlock])
        simpa [hm0] using h)
      clear HBm HN0
      go_wp2_with fail
      go_loopw [25] (fun c wi => ∃ (i : Nat) (u : Value) (L : List TV), i ≤ n ∧ c = .int .i64 i ∧ Here KN w wi ([.box (m0 + 1) [u, .map (some m0)] 72, .row u 41 5 L.length (L.flatMap tvC)] ++ L.map (cloneOb arms)) ∧ Hid (L.length = i ∧ (∀ x ∈ L, x.n = arms.length ∧ arms.length ≤ x.c ∧ x.c ≤ maxLen) ∧ ∀ (j : Nat) (x y : TV), L[j]? = some x → ts[j]? = some y → Alike x y)) (fun c _ => n - (intOf c).toNat)
      case atStart => exact ⟨0, .slice none 0 0, [], Nat.zero_le _, rfl, HN1.out, Lib.hid ⟨rfl, by simp, by simp⟩⟩
      case round =>
        obtain ⟨k, u, L, hk, rfl, hh, HL⟩ := hrel
        have HH := Lib.hid hh
        clear hh HN1
        by_cases hlt2 : k < n
        · obtain ⟨x, hx⟩ : ∃ x, ts[k]? = some x := ⟨ts[k]'(by have := Hn.out; omega), List.getElem?_eq_getElem _⟩
          obtain ⟨B, off, rfl, hB, d0, d1, d2, d3, d4⟩ := tv_at HI.out hx
          have hxo := HX.out x (List.mem_of_getElem? hx)
          have k0 : wr.cell? ⟨B, off + k * 5, none⟩ = some (.string x.nm) := (HH.out.bel.cell (p := ⟨B, off + k * 5, none⟩) hB).trans d0
          have k1 : wr.cell? ⟨B, off + k * 5 + 1, none⟩ = some (.string x.ly) := (HH.out.bel.cell (p := ⟨B, off + k * 5 + 1, none⟩) hB).trans d1
          have k2 : wr.cell? ⟨B, off + k * 5 + 2, none⟩ = some (.int .i64 x.f) := (HH.out.bel.cell (p := ⟨B, off + k * 5 + 2, none⟩) hB).trans d2
          have k3 : wr.cell? ⟨B, off + k * 5 + 3, none⟩ = some (.int .i64 x.t) := (HH.out.bel.cell (p := ⟨B, off + k * 5 + 3, none⟩) hB).trans d3
          have k4 : wr.cell? ⟨B, off + k * 5 + 4, none⟩ = some (.slice x.b x.n x.c) := (HH.out.bel.cell (p := ⟨B, off + k * 5 + 4, none⟩) hB).trans d4
          have HA0 : Hid (Below wr.heap.size wr (wr.alloc (.cells #[.string x.nm, .string x.ly, .int .i64 x.f, .int .i64 x.t, .slice x.b x.n x.c] 41))) := Lib.hid ((Below.refl _ _).alloc (Nat.le_refl _) _)
          obtain ⟨ub, uc, rfl, q1, q2, q3, _⟩ := inw_of_rowm tvLen (by omega) (n_rowAt HH.out (i := 1) rfl)
          have HGX := Lib.hid ((n_boxAt HH.out (i := 0) rfl).bel HA0.out)
          have y0 : (wr.alloc (.cells #[.string x.nm, .string x.ly, .int .i64 x.f, .int .i64 x.t, .slice x.b x.n x.c] 41)).cell? ⟨m0 + 1, 0, none⟩ = some (.slice ub L.length uc) := HGX.out.cell 0
          have HBX := Lib.hid (Bk.new wr [.string x.nm, .string x.ly, .int .i64 x.f, .int .i64 x.t, .slice x.b x.n x.c] 41)
          have HCN := Lib.hid (contains_no ub uc L x.nm x.ly wr.heap.size (wr.alloc (.cells #[.string x.nm, .string x.ly, .int .i64 x.f, .int .i64 x.t, .slice x.b x.n x.c] 41)) (q3.bel HA0.out) q1 q2 HBX.out.lt (HBX.out.cell 0) (HBX.out.cell 1) (fun z hz => by
            obtain ⟨j, hj⟩ := List.getElem?_of_mem hz
            have hjl := (List.getElem?_eq_some_iff.1 hj).1
            obtain ⟨y, hy⟩ : ∃ y, ts[j]? = some y := ⟨ts[j]'(by have := Hn.out; have := HL.out.1; omega), List.getElem?_eq_getElem _⟩
            obtain ⟨e1, e2, _, _⟩ := HL.out.2.2 j z y hj hy
            have := HA.out j k y x (by have := HL.out.1; omega) hy hx
            rw [e1, e2]; exact this))
          have HXO := Lib.hid hxo
          have HXK := Lib.hid hx
          have hk0 : (0 : Int) ≤ (k : Int) := by omega
          have hk1 : (k : Int) < (n : Int) := by omega
          clear d0 d1 d2 d3 d4 hxo hx q3
          go_wp2_with fail
          refine HCN.out.mono ?_
          rintro e w1 ⟨rfl, b1⟩
          have hbx1 := HBX.out.bel b1
          have y4 : w1.cell? ⟨wr.heap.size, 4, none⟩ = some (.slice x.b x.n x.c) := hbx1.cell 4
          have HB1 := Lib.hid (HA0.out.trans (b1.mono HA0.out.size))
          have hcl := clone_txt x.b x.c arms w1 (HXO.out.inw.bel (HH.out.bel.trans (HB1.out.mono HH.out.bel.size))) HXO.out.tr.a1 HXO.out.tr.a2
          rw [← HXO.out.n] at hcl
          have HCL := Lib.hid hcl
          have HBX1 := Lib.hid hbx1
          clear b1 HCN hcl hbx1 k0 k1 k2 k3 k4 y0 HGX HBX HA0
          go_wp2_with fail
          refine HCL.out.mono ?_
          rintro e w2 ⟨cb, cc, rfl, r2, nb2, b2⟩
          have hbx2 := HBX1.out.bel b2
          have z4 : w2.cell? ⟨wr.heap.size, 4, none⟩ = some (.slice x.b x.n x.c) := hbx2.cell 4
          have f4 := hbx2.free 4
          have HBX2 := Lib.hid hbx2
          have HCR := Lib.hid (And.intro r2 nb2)
          have HCC : Hid (x.n = arms.length ∧ arms.length ≤ cc ∧ cc ≤ maxLen) := Lib.hid (by
            have h := r2
            rw [HXO.out.n] at h
            obtain ⟨b', c', hv, h1, h2, _⟩ := row_txts h
            simp only [Value.slice.injEq] at hv
            obtain ⟨_, _, rfl⟩ := hv
            exact ⟨HXO.out.n, h1, h2⟩)
          have HB2 := Lib.hid (HB1.out.trans (b2.mono HB1.out.size))
          clear r2 nb2 b2 HCL hbx2 y4
          have hlt1 : wr.heap.size < w1.heap.size := HBX1.out.lt
          have h3 : Below wr.heap.size wr (w2.setCell ⟨wr.heap.size, 4, none⟩ (.slice cb x.n cc)) := below_of_fr HB2.out ((Fr.refl (fun b => b = wr.heap.size) w2).setCell _ 4 _ (.inr rfl)) (fun b hb => by subst hb; exact Nat.le_refl _)
          have hrow3 : ((w2.setCell ⟨wr.heap.size, 4, none⟩ (.slice cb x.n cc))).ownsRow 0 9 1 (.slice cb x.n cc) x.n (arms.map Value.string) := ((Fr.refl (fun b => b = wr.heap.size) w2).setCell wr.heap.size 4 (.slice cb x.n cc) (.inr rfl)).row HCR.out.1 (fun b hb e => by have := HCR.out.2 b hb; omega)
          have hN3 := n_row HH.out h3 hrow3 (fun b hb => by have := HCR.out.2 b hb; omega)
          have hB3 := HBX2.out.set 4 (.slice cb x.n cc)
          have HN3 := Lib.hid hN3
          have HB3 := Lib.hid hB3
          have H3 := Lib.hid h3
          clear h3 hrow3 hN3 hB3 hlt1 HBX1 HB1
          go_wp2_with fail
          clear z4 f4 HBX2 HCR HB2
          generalize (w2.setCell ⟨wr.heap.size, 4, none⟩ (.slice cb x.n cc)) = W3 at *
          have hg3 := n_boxAt HN3.out (i := 0) rfl
          obtain ⟨kg, k0, k1, k2, k3, k4⟩ : W3.cell? ⟨m0 + 1, 0, none⟩ = some (.slice ub L.length uc) ∧ W3.cell? ⟨wr.heap.size, 0, none⟩ = some (.string x.nm) ∧ W3.cell? ⟨wr.heap.size, 1, none⟩ = some (.string x.ly) ∧ W3.cell? ⟨wr.heap.size, 2, none⟩ = some (.int .i64 x.f) ∧ W3.cell? ⟨wr.heap.size, 3, none⟩ = some (.int .i64 x.t) ∧ W3.cell? ⟨wr.heap.size, 4, none⟩ = some (.slice cb x.n cc) := ⟨hg3.cell 0, HB3.out.cell 0, HB3.out.cell 1, HB3.out.cell 2, HB3.out.cell 3, HB3.out.cell 4⟩
          have hb4 : Below W3.heap.size W3 (W3.alloc (.cells #[.string x.nm, .string x.ly, .int .i64 x.f, .int .i64 x.t, .slice cb x.n cc] 41)).drew := ((Below.refl _ _).alloc (Nat.le_refl _) _).drew
          have hg4 := hg3.bel hb4
          have hx4 := HB3.out.bel hb4
          obtain ⟨lg, l0, l1, l2, l3, l4⟩ : (W3.alloc (.cells #[.string x.nm, .string x.ly, .int .i64 x.f, .int .i64 x.t, .slice cb x.n cc] 41)).cell? ⟨m0 + 1, 0, none⟩ = some (.slice ub L.length uc) ∧ (W3.alloc (.cells #[.string x.nm, .string x.ly, .int .i64 x.f, .int .i64 x.t, .slice cb x.n cc] 41)).cell? ⟨wr.heap.size, 0, none⟩ = some (.string x.nm) ∧ (W3.alloc (.cells #[.string x.nm, .string x.ly, .int .i64 x.f, .int .i64 x.t, .slice cb x.n cc] 41)).cell? ⟨wr.heap.size, 1, none⟩ = some (.string x.ly) ∧ (W3.alloc (.cells #[.string x.nm, .string x.ly, .int .i64 x.f, .int .i64 x.t, .slice cb x.n cc] 41)).cell? ⟨wr.heap.size, 2, none⟩ = some (.int .i64 x.f) ∧ (W3.alloc (.cells #[.string x.nm, .string x.ly, .int .i64 x.f, .int .i64 x.t, .slice cb x.n cc] 41)).cell? ⟨wr.heap.size, 3, none⟩ = some (.int .i64 x.t) ∧ (W3.alloc (.cells #[.string x.nm, .string x.ly, .int .i64 x.f, .int .i64 x.t, .slice cb x.n cc] 41)).cell? ⟨wr.heap.size, 4, none⟩ = some (.slice cb x.n cc) := ⟨hg4.cell 0, hx4.cell 0, hx4.cell 1, hx4.cell 2, hx4.cell 3, hx4.cell 4⟩
          have HROW := Lib.hid ((n_rowAt HN3.out (i := 1) rfl))
          have HN4 := Lib.hid (HN3.out.step_bel hb4)
          have HIN : Hid (InW (W3.alloc (.cells #[.string x.nm, .string x.ly, .int .i64 x.f, .int .i64 x.t, .slice cb x.n cc] 41)).drew (some ⟨W3.heap.size, 0, none⟩) 5 ([({ nm := x.nm, ly := x.ly, f := x.f, t := x.t, b := cb, n := x.n, c := cc } : TV)].map tvC)) := Lib.hid (.inr ⟨W3.heap.size, 0, rfl, by simp [World.drew], fun i r hr k' v hv => by
            cases i with
            | zero =>
              simp only [List.map_cons, List.map_nil, List.getElem?_cons_zero, Option.some.injEq] at hr
              subst hr
              have := (Bk.new W3 (tvC ({ nm := x.nm, ly := x.ly, f := x.f, t := x.t, b := cb, n := x.n, c := cc } : TV)) 41).cell k'
              rw [Nat.zero_mul, Nat.zero_add]
              exact this.trans hv
            | succ i => simp at hr⟩)
          clear hb4 hg4 hx4 hg3
          obtain ⟨i0, hi0T, hz0, hz1, hz2⟩ := info_parts infoTr3
          have HLN : Hid (L.length + ([({ nm := x.nm, ly := x.ly, f := x.f, t := x.t, b := cb, n := x.n, c := cc } : TV)]).length ≤ 1000000) := Lib.hid (by have := HL.out.1; simp only [List.length_cons, List.length_nil]; omega)
          have HUB : Hid (∀ b, (Value.slice ub L.length uc).ownBlock = some b → b ≠ wr.heap.size) := Lib.hid (fun b hb => Nat.ne_of_lt (ownN_lt (n_rowAt HH.out (i := 1) rfl) hb))
          have HROW4 := Lib.hid (n_rowAt HN4.out (i := 1) rfl)
          have HBX4 := Lib.hid (HB3.out.bel (((Below.refl W3.heap.size W3).alloc (Nat.le_refl _) (.cells #[.string x.nm, .string x.ly, .int .i64 x.f, .int .i64 x.t, .slice cb x.n cc] 41)).drew))
          go_region_law (first
            | (refine step_append_m tvLen tvOne (by rfl) _ _ _ (by rfl) 41 i0 _ 72 Try.underlying69 hi0T hz0 hz1 hz2 rfl (by decide) (by omega) (.slice ub L.length uc) L [({ nm := x.nm, ly := x.ly, f := x.f, t := x.t, b := cb, n := x.n, c := cc } : TV)] (by rfl) HROW4.out (some ⟨W3.heap.size, 0, none⟩) 1 1 (by rfl) rfl HIN.out HLN.out ?_
               intro v5 w5 o5 f5 h5
               have HN5 := Lib.hid (n_more HN4.out (i := 1) rfl o5 f5 h5)
               have hbx5 := HBX4.out.fr f5 (fun h => HUB.out _ h rfl)
               have hg5 := n_boxAt HN5.out (i := 0) rfl
               have kk5 : w5.cell? ⟨m0 + 1, 0, none⟩ = some (.slice ub L.length uc) ∧ w5.cell? ⟨wr.heap.size, 0, none⟩ = some (.string x.nm) ∧ w5.cell? ⟨wr.heap.size, 1, none⟩ = some (.string x.ly) ∧ w5.cell? ⟨wr.heap.size, 2, none⟩ = some (.int .i64 x.f) ∧ w5.cell? ⟨wr.heap.size, 3, none⟩ = some (.int .i64 x.t) ∧ w5.cell? ⟨wr.heap.size, 4, none⟩ = some (.slice cb x.n cc) := ⟨hg5.cell 0, hbx5.cell 0, hbx5.cell 1, hbx5.cell 2, hbx5.cell 3, hbx5.cell 4⟩
               have g5 := hg5.free 0
               have hw5 := inw_of_rowm tvLen (by omega) o5
               obtain ⟨ub', uc', hv5, -, -, -, -⟩ := hw5
               obtain ⟨l5, hl5⟩ : ∃ l5, l5 = (L ++ [({ nm := x.nm, ly := x.ly, f := x.f, t := x.t, b := cb, n := x.n, c := cc } : TV)]).length := ⟨_, rfl⟩
               rw [← hl5] at hv5
               subst hv5
               have HN6 := Lib.hid (n_set HN5.out (i := 0) rfl 0 (.slice ub' l5 uc'))
               obtain ⟨y5, -⟩ := kk5
               clear o5 f5 h5 hbx5 hg5 hl5)
            | fail)
          all_goals
            clear HN5 HN4 HROW HROW4 HBX4 HIN HLN HUB hi0T hz0 hz1 hz2 kg k0 k1 k2 k3 k4 lg l0 l1 l2 l3 l4 y5 g5
            go_wp2_with fail
            go_roundw
            case rel =>
              refine ⟨k + 1, .slice ub' l5 uc', L ++ [({ nm := x.nm, ly := x.ly, f := x.f, t := x.t, b := cb, n := x.n, c := cc } : TV)], by omega, by go_num, ?_, Lib.hid ⟨?_, ?_, ?_⟩⟩
              · rw [List.map_append]
                exact n_two HN6.out (by simp only [cloneOb, HXO.out.n])
              · have := HL.out.1; simp only [List.length_append, List.length_cons, List.length_nil]; omega
              · intro z hz
                rcases List.mem_append.1 hz with hz | hz
                · exact HL.out.2.1 z hz
                · simp only [List.mem_cons, List.not_mem_nil, or_false] at hz
                  subst hz
                  exact HCC.out
              · intro j z y hj hy
                by_cases hjl : j < L.length
                · rw [List.getElem?_append_left hjl] at hj
                  exact HL.out.2.2 j z y hj hy
                · rw [List.getElem?_append_right (by omega)] at hj
                  have hj2 := (List.getElem?_eq_some_iff.1 hj).1
                  simp only [List.length_cons, List.length_nil] at hj2
                  obtain rfl : j = k := by have := HL.out.1; omega
                  rw [HL.out.1, Nat.sub_self, List.getElem?_cons_zero, Option.some.injEq] at hj
                  rw [HXK.out, Option.some.injEq] at hy
                  subst hj hy
                  exact ⟨rfl, rfl, rfl, rfl⟩
            case measure => simp [intOf]; omega
        · obtain rfl : k = n := by omega
          obtain ⟨ub, uc, hu, q1, q2, q3, _⟩ := inw_of_rowm tvLen (by omega) (n_rowAt HH.out (i := 1) rfl)
          have HR : Hid (wr.cell? ⟨m0 + 1, 0, none⟩ = some (.slice ub L.length uc) ∧ m0 + 1 < wr.heap.size ∧ InW wr ub 5 (L.map tvC) ∧ L.length ≤ uc ∧ uc ≤ maxLen ∧ ∀ x ∈ L, TVOk wr arms x) := Lib.hid (by
            have hbx := n_boxAt HH.out (i := 0) rfl
            refine ⟨by rw [← hu]; exact hbx.cell 0, hbx.lt, q3, q1, q2, fun x hx => ?_⟩
            obtain ⟨j, hj⟩ := List.getElem?_of_mem hx
            have hjl := (List.getElem?_eq_some_iff.1 hj).1
            have hrow := n_rowAt HH.out (i := j + 2) (v := .slice x.b x.n x.c) (e := 9) (sz := 1) (n := arms.length) (xs := arms.map Value.string) (by
              rw [List.getElem?_append_right (by simp)]
              simp [List.getElem?_map, hj, cloneOb])
            obtain ⟨b', c', hv, r1, r2, r3⟩ := row_txts hrow
            simp only [Value.slice.injEq] at hv
            obtain ⟨rfl, hv2, rfl⟩ := hv
            obtain ⟨y, hy⟩ : ∃ y, ts[j]? = some y := ⟨ts[j]'(by have := Hn.out; have := HL.out.1; omega), List.getElem?_eq_getElem _⟩
            obtain ⟨e1, e2, e3, e4⟩ := HL.out.2.2 j x y hj hy
            have ho := (HX.out y (List.mem_of_getElem? hy)).tr
            rw [← e1, ← e2, ← e3, ← e4] at ho
            exact ⟨ho, r3, hv2, r1, r2⟩)
          clear hu q1 q2 q3
          go_wp2_with fail
          go_ret2
          exact ⟨m0 + 1, rfl, HR.out.2.1, ub, uc, L, HR.out.1, HR.out.2.2.1, HR.out.2.2.2.1, HR.out.2.2.2.2.1, HR.out.2.2.2.2.2, HL.out.1, HL.out.2.2, HH.out.bel⟩
end Go.Proofs.Ytkjcgeaoiabkjaa

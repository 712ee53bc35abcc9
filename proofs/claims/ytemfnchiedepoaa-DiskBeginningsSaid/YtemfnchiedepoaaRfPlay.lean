/- Contract of the law's Unlike: a disk, and the document's, that are the same. Contract of the law's play: a disk, and the document's, behind the same calls. -/
import Derived.Test.YtemfnchiedepoaaRf9
import Derived.Test.YtemfnchiedepoaaRf5
import Derived.Test.YtemfnchiedepoaaDkRep
import Derived.Test.YtemfnchiedepoaaDkCopy
import Derived.Test.YtemfnchiedepoaaDkLong
namespace Go.Proofs.Ytemfnchiedepoaa
open Go.RowKit Go.MapKept Go.Maps
set_option linter.unusedVariables false
set_option maxRecDepth 100000 in
set_option maxHeartbeats 2000000 in
theorem unlike_same {w0 w : World} {os : List Ob} {i0 d : Nat} {X : Dk} (h : Here K04 w0 w os) (hi : os[i0]? = some (.disk d X)) (b : Option Addr) (cap ln : Nat) (hin : InW w b 4 (X.L.map flC)) (hc : X.L.length ≤ cap) (hln : ln = X.L.length) :
    Calls Try.prog 27 #[.pointer (some ⟨d, 0, none⟩), .agg #[.slice b ln cap, .int .i64 X.fuse, .bool X.down]] w fun e w' => e = .returned (.string ⟨#[]⟩) ∧ Here K04 w0 w' os := by
  have hok := h_ok h hi
  have hl : X.L.length ≤ 5000 := by have := hok.len; omega
  have H1 := Lib.hid (h_box h [.slice b ln cap, .int .i64 X.fuse, .bool X.down] 48)
  have hi1 : (os ++ [Ob.box w.heap.size [.slice b ln cap, .int .i64 X.fuse, .bool X.down] 48])[i0]? = some (.disk d X) := by rw [List.getElem?_append_left (List.getElem?_eq_some_iff.1 hi).1]; exact hi
  have hbx : (os ++ [Ob.box w.heap.size [.slice b ln cap, .int .i64 X.fuse, .bool X.down] 48])[os.length]? = some (.box w.heap.size [.slice b ln cap, .int .i64 X.fuse, .bool X.down] 48) := by simp
  have HIN : Hid (∀ W, Below w.heap.size w W → InW W b 4 (X.L.map flC)) := Lib.hid (fun W hb => InW.bel hin hb)
  have HRD : Hid (∀ W n, n.size ≤ 1000 → Below w.heap.size w W → Calls Try.prog 24 #[.agg #[.slice b ln cap, .int .i64 X.fuse, .bool X.down], .string n] W fun e w' => e = .returned (.tuple #[.string (readD X n).1, .int .i64 (readD X n).2]) ∧ Below W.heap.size W w') := Lib.hid (fun W n hn hb => rread_any b cap X.L X.fuse X.down n W (InW.bel hin hb) hl hc hn ln hln (readD X n) rfl)
  have HNM := Lib.hid (h_names H1.out hi1)
  have HDR : Hid (∀ W n, n.size ≤ 1000 → Here K04 w0 W (os ++ [Ob.box w.heap.size [.slice b ln cap, .int .i64 X.fuse, .bool X.down] 48]) → Calls Try.prog 15 #[.pointer (some ⟨d, 0, none⟩), .string n] W fun e w' => ∃ u, e = .returned (.tuple #[u, .int .i64 (readD X n).2]) ∧ ByMk W w' u (readD X n).1 ∧ Here K04 w0 w' (os ++ [Ob.box w.heap.size [.slice b ln cap, .int .i64 X.fuse, .bool X.down] 48])) := Lib.hid (fun W n hn hH => h_read hH hi1 n hn)
  have HDN : Hid (∀ W, Here K04 w0 W (os ++ [Ob.box w.heap.size [.slice b ln cap, .int .i64 X.fuse, .bool X.down] 48]) → Calls Try.prog 14 #[.pointer (some ⟨d, 0, none⟩)] W fun e w' => e = .returned (.bool X.down) ∧ W = w') := Lib.hid (fun W hH => h_down hH hi1)
  have HBX : Hid (∀ W, Here K04 w0 W (os ++ [Ob.box w.heap.size [.slice b ln cap, .int .i64 X.fuse, .bool X.down] 48]) → W.cell? ⟨w.heap.size, 0, none⟩ = some (.slice b ln cap) ∧ W.cell? ⟨w.heap.size, 1, none⟩ = some (.int .i64 X.fuse) ∧ W.cell? ⟨w.heap.size, 2, none⟩ = some (.bool X.down)) := Lib.hid (fun W hH => ⟨(box3 hH hbx).1, (box3 hH hbx).2.1, (box3 hH hbx).2.2.1⟩)
  have HB1 : Hid (Below w.heap.size w (w.alloc (.cells #[.slice b ln cap, .int .i64 X.fuse, .bool X.down] 48))) := Lib.hid ((Below.refl _ _).alloc (Nat.le_refl _) _)
  have HN : Hid (∀ p ∈ X.L, p.1.size ≤ 64) := Lib.hid (fun p hp => by have := hok.name p hp; unfold nameD at this; simp at this; exact this.2)
  have HE : Hid (Here K04 w0 w os) := Lib.hid h
  have HLN := Lib.hid hln
  have hfl : (fnames X.L).length = X.L.length := by simp [fnames]
  rw [← hln] at hl hc hfl
  have HFL := Lib.hid hfl
  clear h hi hok hi1 hbx hin hln hfl
  generalize X.down = dn at *
  generalize X.fuse = fu at *
  go_enter Try.func27, Try.ntmps27
  go_wp2_with fail
  refine HNM.out.mono ?_
  rintro e w2 ⟨v, rfl, m2, hH2⟩
  obtain ⟨nb, nc, hv, hnc, hnm, hst⟩ := m2.tx.strs
  rw [HFL.out] at hv hnc
  subst hv
  have HST := Lib.hid hst
  have HB2 := Lib.hid (HB1.out.trans (m2.bl.mono HB1.out.size))
  have H2 := Lib.hid hH2
  have HDN2 := Lib.hid (HDN.out _ hH2.drew)
  obtain ⟨k0, k1, k2⟩ := HBX.out _ hH2
  have kk : w2.cell? ⟨w.heap.size, 0, none⟩ = some (.slice b ln cap) ∧ w2.cell? ⟨w.heap.size, 2, none⟩ = some (.bool dn) := ⟨k0, k2⟩
  unfold maxLen at hnm
  clear m2 hH2 hst HNM H1 HDN
  have t0 : ((ln : Int) != (ln : Int)) = false := by simp
  go_wp2_with fail
  go_region_held3 (fun Y => Y.cell? ⟨w.heap.size, 0, none⟩ = some (.slice b ln cap) ∧ Y.cell? ⟨w.heap.size, 2, none⟩ = some (.bool dn)) (first | assumption | go_keep)
    (first
      | (go_at_call 14
         (with_reducible refine HDN2.out.mono ?_)
         rintro e w3 ⟨rfl, rfl⟩)
      | fail)
  clear k0 k1 k2 kk HDN2
  go_wp2_with fail
  go_loopw [29] (fun c wr => ∃ i : Nat, i ≤ ln ∧ c = .int .i64 i ∧ Here K04 w0 wr (os ++ [Ob.box w.heap.size [.slice b ln cap, .int .i64 fu, .bool dn] 48]) ∧ Below w2.heap.size w2 wr) (fun c _ => ln - (intOf c).toNat)
  case atStart => exact ⟨0, by omega, rfl, H2.out.drew, (Below.refl _ _).drew⟩
  case round =>
    obtain ⟨i, hi, rfl, hH, hb⟩ := hrel
    have HH := Lib.hid hH
    have HB := Lib.hid hb
    by_cases hlt : i < ln
    · obtain ⟨p, hp⟩ : ∃ p, X.L[i]? = some p := ⟨X.L[i]'(by rw [← HLN.out]; exact hlt), List.getElem?_eq_getElem _⟩
      obtain ⟨NB, noff, rfl, hNB, hnc0⟩ := HST.out.at (i := i) (s := p.1) (by unfold fnames; rw [List.getElem?_map, hp]; rfl)
      have n0 := (hb.cell (p := ⟨NB, noff + i, none⟩) hNB).trans hnc0
      have hns := HN.out p (List.mem_of_getElem? hp)
      have HR := Lib.hid (HDR.out wr p.1 (by omega) hH)
      have HP := Lib.hid hp
      have hi0 : (0 : Int) ≤ (i : Int) := by omega
      have hi1 : (i : Int) < (ln : Int) := by omega
      have HBW : Hid (Below w.heap.size w wr) := Lib.hid (HB2.out.trans (hb.mono HB2.out.size))
      have HRD2 : Hid (∀ W, Below w.heap.size w W → Calls Try.prog 24 #[.agg #[.slice b ln cap, .int .i64 fu, .bool dn], .string p.1] W fun e w' => e = .returned (.tuple #[.string (readD X p.1).1, .int .i64 (readD X p.1).2]) ∧ Below W.heap.size W w') := Lib.hid (fun W hW => HRD.out W p.1 (by omega) hW)
      clear hp hnc0 hH hb
      generalize readD X p.1 = rd at *
      obtain ⟨rs, rr⟩ := rd
      go_wp2_with fail
      refine HR.out.mono ?_
      rintro e w4 ⟨u, rfl, m4, hH4⟩
      obtain ⟨ub, uc, rfl, _, _, hinu⟩ := m4.sl
      have HIU := Lib.hid hinu
      have H4 := Lib.hid hH4
      have HB4 := Lib.hid (HB.out.trans (m4.bl.mono HB.out.size))
      have HRX := Lib.hid (HRD2.out w4 (HBW.out.trans (m4.bl.mono HBW.out.size)))
      have HW4 := Lib.hid (HBW.out.trans (m4.bl.mono HBW.out.size))
      obtain ⟨k0, k1, k2⟩ := HBX.out _ hH4
      clear hinu hH4 m4 HR HRD2
      go_wp2_with fail
      refine HRX.out.mono ?_
      rintro e w5 ⟨rfl, b5⟩
      have hcv := text_of (InW.bel HIU.out b5) uc
      have H5 := Lib.hid (H4.out.step_bel b5)
      have HB5 := Lib.hid (HB4.out.trans (b5.mono HB4.out.size))
      have hin5 := HIN.out w5 (HW4.out.trans (b5.mono HW4.out.size))
      obtain ⟨B, off, rfl, hBl, c0, c1, c2, c3⟩ := fls_at hin5 HP.out
      clear k0 k1 k2
      obtain ⟨k0, k1, k2⟩ := HBX.out _ H5.out
      clear b5 hin5 HRX c1 c2 c3
      go_wp2_with fail
      go_roundw
      case rel => exact ⟨i + 1, by omega, by go_num, H5.out, HB5.out⟩
      case measure => simp [intOf]; omega
    · obtain rfl : i = ln := by omega
      go_wp2_with fail
      go_ret
      exact ⟨rfl, Here.init HH.out⟩
/-- some of the things -/
theorem Here.pick {Ob : Type} {K : Kind Ob} {w0 w : World} {os os' : List Ob} (h : Here K w0 w os) (f : Nat → Nat) (hj : ∀ i j, i < os'.length → j < os'.length → f i = f j → i = j) (hf : ∀ i o, os'[i]? = some o → os[f i]? = some o) : Here K w0 w os' := by
  obtain ⟨Bs, h1, h2⟩ := h.ex
  refine ⟨h.bel, fun i => Bs (f i), fun i o hi => h1 (f i) o (hf i o hi), fun i j oi oj hij hi hj' => h2 (f i) (f j) oi oj (fun e => hij (hj i j (List.getElem?_eq_some_iff.1 hi).1 (List.getElem?_eq_some_iff.1 hj').1 e)) (hf i oi hi) (hf j oj hj')⟩
theorem fin3 {fn : Func} {p q : Tmp} {tmps : Array Value} {w : World} {g : Nat} {u v x : Value} (h : fn.results = #[.tmp q, .cell p 48]) (hp : tmps.getD p undef = .pointer (some ⟨g, 0, none⟩)) (hb : Bk w g [u, v, x] 48) : (results fn tmps).run Try.prog w = .ok (.tuple #[tmps.getD q undef, .agg #[u, v, x]]) w := by
  have := run_loadVar_row (P := Try.prog) w g 48 _ _ (0, 0) _ hb Try.underlying48 rfl (by kernel_rfl)
  have hp' : tmps[p]?.getD undef = .pointer (some ⟨g, 0, none⟩) := by simpa using hp
  simp [results, h, hp', asAddr, this, Result.andThen]
theorem h_copy {w0 w : World} {os : List Ob} {i d : Nat} {X : Dk} (h : Here K04 w0 w os) (hi : os[i]? = some (.disk d X)) : Calls Try.prog 25 #[.pointer (some ⟨d, 0, none⟩)] w fun e w' => ∃ c, e = .returned (.pointer (some ⟨c, 0, none⟩)) ∧ Here K04 w0 w' (os ++ [.disk c X]) := by
  obtain ⟨B, h1, _⟩ := h.use hi
  have hd : DiskAt w d B X := h1
  obtain ⟨m, M, rfl, hr, hg⟩ := hd.ex
  have hl := len_same hr.keys hd.ok.rise hg
  refine (copy_walk hr (by have := hd.ok.len; omega) (fun x hx => ?_)).mono ?_
  · have h2 := hg x.1
    rw [get_of_mem hr.keys (a := x.1) (v := x.2) hx] at h2
    have h3 := mem_of_get h2.symm
    have h4 := hd.ok.name _ h3
    have h5 := fsum_mem h3
    have h6 := hd.ok.sum
    unfold nameD at h4
    simp at h4 h5
    exact ⟨by omega, by omega⟩
  · rintro e w' ⟨c, m2, M2, rfl, g1, g2, g3, g4⟩
    exact ⟨c, rfl, h.push g4 (o := .disk _ _) (B := dblocks c m2 M2) ⟨hd.ok, m2, M2, rfl, g1, fun n => (g2 n).trans (hg n)⟩ g3⟩
def playO (X : Dk) (o : OpD) : Dk := if o.kind = 1 ∨ o.kind = 2 ∨ o.kind = 3 ∨ o.kind = 4 then (doD X o).1 else if o.kind = 5 then crashD X o.keep else if o.kind = 6 then armD X o.n else X
def playL (l : List OpD) : Dk := l.foldl playO newD
theorem playL_take {l : List OpD} {i : Nat} {q : OpD} (h : l[i]? = some q) : playL (l.take (i + 1)) = playO (playL (l.take i)) q := by
  unfold playL
  rw [List.take_add_one, h, List.foldl_append]; rfl
abbrev plOs (r x : Nat) (u : Value) (fu : Int) (dn : Bool) (d : Nat) (L : Fs) : List Ob :=
  [.box r [.slice none 0 0, .int .i64 0, .bool false] 48, .box x [u, .int .i64 fu, .bool dn] 48, .disk d ⟨L, fu, dn⟩, .row u 80 4 L.length (L.flatMap flC)]
/-- the row of a step, whichever it is -/
theorem h_step {w0 w w' : World} {r x : Nat} {u u' : Value} {fu : Int} {dn : Bool} {d : Nat} {L L' : Fs} {o : Ob} (h : Here K04 w0 w (plOs r x u fu dn d L ++ [o])) (hb : Below w.heap.size w w') (hs : (u' = u ∧ L' = L) ∨ MkG 80 4 flC w w' u' L') :
    Here K04 w0 w' [.box r [.slice none 0 0, .int .i64 0, .bool false] 48, .box x [u, .int .i64 fu, .bool dn] 48, .disk d ⟨L, fu, dn⟩, .row u' 80 4 L'.length (L'.flatMap flC), o] := by
  rcases hs with ⟨rfl, rfl⟩ | hm
  · exact h.step_bel hb
  · have h2 := h_row h hm.bl hm.tx hm.nw
    refine h2.pick (fun i => if i = 3 then 5 else i) (fun i j hi hj e => ?_) (fun i o' hi => ?_)
    · simp at hi hj e
      split at e <;> split at e <;> omega
    · match i, hi with
      | 0, hi => exact hi
      | 1, hi => exact hi
      | 2, hi => exact hi
      | 3, hi => exact hi
      | 4, hi => exact hi
theorem h_five {w0 w : World} {a b c d e : Ob} (h : Here K04 w0 w [a, b, c, d, e]) : Here K04 w0 w [a, b, c, d] := Here.init (os := [a, b, c, d]) (us := [e]) h
theorem h_six {w0 w : World} {a b c d e f : Ob} (h : Here K04 w0 w [a, b, c, d, e, f]) : Here K04 w0 w [a, b, c, d] := Here.init (os := [a, b, c, d]) (us := [e, f]) h
set_option maxRecDepth 100000 in
set_option maxHeartbeats 8000000 in
theorem play_any (b : Option Addr) (cap : Nat) (l : List OpD) (w : World) (h : InW w b 5 (l.map opC)) (hm : cap ≤ maxLen) (hl : l.length ≤ cap) (ho : ∀ a ∈ l, OpOk w a) (hlo : longB l = false) (X : Dk) (hX : playL l = X) (ln : Nat) (hln : ln = l.length) :
    Calls Try.prog 23 #[.slice b ln cap] w fun e w' => ∃ d u, e = .returned (.tuple #[.pointer (some ⟨d, 0, none⟩), .agg #[u, .int .i64 X.fuse, .bool X.down]]) ∧ Here K04 w w' [.disk d X, .row u 80 4 X.L.length (X.L.flatMap flC)] := by
  obtain ⟨hl60, hlong⟩ := long_of hlo
  have HIW := Lib.hid h
  have HO := Lib.hid ho
  have HLO := Lib.hid hlong
  have HXX := Lib.hid hX
  have Hn := Lib.hid hln
  unfold maxLen at hm
  rw [← hln] at hl hl60
  clear h ho hlong hX hln hlo
  have HR0 := Lib.hid (h_box (Here.nil (K := K04) (Below.refl w.heap.size w)) [.slice none 0 0, .int .i64 0, .bool false] 48)
  have HN := Lib.hid (h_new HR0.out)
  go_enter Try.func23, Try.ntmps23
  go_wp2_with fail
  refine HN.out.mono ?_
  rintro e w1 ⟨d0, rfl, hd1⟩
  have HD1 := Lib.hid hd1
  have HRN := Lib.hid (rnew_any w1)
  clear hd1 HN HR0
  go_wp2_with fail
  refine HRN.out.mono ?_
  rintro e w2 ⟨rfl, b2⟩
  have H3 : Hid (Here K04 w (w2.alloc (.cells #[.slice none 0 0, .int .i64 (-1), .bool false] 48)) (plOs w.heap.size w2.heap.size (.slice none 0 0) (-1) false d0 [])) := Lib.hid (by
    have h2 := h_box (HD1.out.step_bel b2) [.slice none 0 0, .int .i64 (-1), .bool false] 48
    have h3 := h_row h2 (v := .slice none 0 0) (e := 80) (sz := 4) (n := ([] : Fs).length) (xs := ([] : Fs).flatMap flC) (Below.refl _ _) ⟨by simp, .inl ⟨rfl, rfl⟩⟩ (by simp [Value.ownBlock])
    refine h3.pick (fun i => if i = 1 then 2 else if i = 2 then 1 else i) (fun i j hi hj e => ?_) (fun i o' hi => ?_)
    · simp at hi hj e
      split at e <;> split at e <;> (try split at e) <;> (try split at e) <;> omega
    · match i, hi with
      | 0, hi => exact hi
      | 1, hi => exact hi
      | 2, hi => exact hi
      | 3, hi => exact hi)
  clear b2 HRN HD1
  go_wp2_with fail
  go_loopw [4, 17] (fun s4 c wr => ∃ (i d : Nat) (u : Value) (L : Fs) (fu : Int) (dn : Bool), i ≤ ln ∧ c = .int .i64 i ∧ s4 = .pointer (some ⟨d, 0, none⟩) ∧ Hid (playL (l.take i) = ⟨L, fu, dn⟩) ∧ Here K04 w wr (plOs w.heap.size w2.heap.size u fu dn d L)) (fun _ c _ => ln - (intOf c).toNat)
  case atStart => exact ⟨0, d0, .slice none 0 0, [], -1, false, by omega, rfl, rfl, Lib.hid rfl, H3.out⟩
  case round =>
    obtain ⟨i, d, u, L, fu, dn, hi, rfl, rfl, HPL, hH⟩ := hrel
    have HH := Lib.hid hH
    obtain ⟨ub, uc, hu, huc, hum, hin0⟩ := h_rowIn hH (i := 3) rfl
    have hok := h_ok hH (i := 2) rfl
    obtain ⟨al, hal⟩ : ∃ al, al = L.length := ⟨_, rfl⟩
    rw [← hal] at hu
    subst hu
    obtain ⟨x0, x1, x2, xf0, xf1, xf2, xl⟩ := box3 hH (i := 1) rfl
    have HAL := Lib.hid hal
    have HOK := Lib.hid hok
    have HUC := Lib.hid huc
    clear H3 hin0 hok hum hal huc
    by_cases hlt : i < ln
    · clear hH
      obtain ⟨q, hq⟩ : ∃ p, l[i]? = some p := ⟨l[i]'(by rw [← Hn.out]; exact hlt), List.getElem?_eq_getElem _⟩
      have hmem := List.mem_of_getElem? hq
      have hoq := HO.out q hmem
      obtain ⟨o1, o2, o3⟩ := HLO.out q hmem
      obtain ⟨B, off, rfl, hB, d0', d1', d2', d3', d4'⟩ := ops_at HIW.out hq
      have hB' := HH.out.bel
      have c0 := (hB'.cell (p := ⟨B, off + i * 5, none⟩) hB).trans d0'
      have c1 := (hB'.cell (p := ⟨B, off + i * 5 + 1, none⟩) hB).trans d1'
      have c2 := (hB'.cell (p := ⟨B, off + i * 5 + 2, none⟩) hB).trans d2'
      have c3 := (hB'.cell (p := ⟨B, off + i * 5 + 3, none⟩) hB).trans d3'
      have c4 := (hB'.cell (p := ⟨B, off + i * 5 + 4, none⟩) hB).trans d4'
      have hi0 : (0 : Int) ≤ (i : Int) := by omega
      have hi1 : (i : Int) < (ln : Int) := by omega
      have HNX : Hid (playL (l.take (i + 1)) = playO ⟨L, fu, dn⟩ q) := Lib.hid (by rw [playL_take hq, HPL.out])
      have HKX := Lib.hid hoq.kx
      have HKI := Lib.hid hoq.kin
      have hqn := hoq.n
      have H1 := Lib.hid (h_box HH.out [.int .i64 q.kind, .int .i64 q.n, .string q.name, .string q.s, .slice q.kb q.keep.length q.kc] 43)
      clear hq d0' d1' d2' d3' d4' hoq hB' hmem
      obtain ⟨qk, qn, qm, qs, qe, qb, qc⟩ := q
      simp only at o1 o2 o3 c0 c1 c2 c3 c4 hqn HKX HKI H1
      obtain ⟨kl, hkl⟩ : ∃ kl, kl = qe.length := ⟨_, rfl⟩
      rw [← hkl] at c4 H1 o3
      have HKL := Lib.hid hkl
      clear hkl
      by_cases k1 : qk = 1
      · subst k1
        have n1 : ¬ w2.heap.size = wr.heap.size := by omega
        have n2 : ¬ wr.heap.size = w2.heap.size := by omega
        have HPO : Hid (playO ⟨L, fu, dn⟩ ⟨1, qn, qm, qs, qe, qb, qc⟩ = (stepK ⟨L, fu, dn⟩ 1 qm qs).1) := Lib.hid rfl
        obtain ⟨ub', uc', hu', _, _, hin1⟩ := h_rowIn H1.out (i := 3) rfl
        have hub : ub' = ub := by cases hu'; rfl
        subst hub
        have HST := Lib.hid (rstep_any L fu dn HOK.out 1 (.inl rfl) qm qs (by omega) (by omega) ub' uc al _ hin1 HUC.out HAL.out)
        clear hu' hin1
        go_wp2_with fail
        refine HST.out.mono ?_
        rintro e w3 ⟨u3, rfl, hs3, b3⟩
        have H2 := Lib.hid (h_step H1.out b3 hs3)
        clear HST hs3 b3 x0 x1 x2 xf0 xf1 xf2 xl c0 c1 c2 c3 c4 H1 HH
        have HDE : Hid (doD ⟨L, fu, dn⟩ ⟨1, qn, qm, qs, qe, qb, qc⟩ = ((stepK ⟨L, fu, dn⟩ 1 qm qs).1, (stepK ⟨L, fu, dn⟩ 1 qm qs).2)) := Lib.hid rfl
        generalize (stepK ⟨L, fu, dn⟩ 1 qm qs).2 = kk at *
        generalize (stepK ⟨L, fu, dn⟩ 1 qm qs).1 = X2 at *
        obtain ⟨L2, fu2, dn2⟩ := X2
        obtain ⟨b3, c3', hu3, hc3, _, _⟩ := h_rowIn H2.out (i := 3) rfl
        obtain ⟨al3, hal3⟩ : ∃ al3, al3 = L2.length := ⟨_, rfl⟩
        simp only at hu3
        rw [← hal3] at hu3
        subst hu3
        have HAL3 := Lib.hid hal3
        clear hal3 hc3
        obtain ⟨x0, x1, x2, xf0, xf1, xf2, xl⟩ := box3 H2.out (i := 1) rfl
        have H4 := Lib.hid (h_box (h_set3 H2.out (i := 1) rfl (.slice b3 al3 c3') (.int .i64 fu2) (.bool dn2)) [.slice b3 al3 c3', .int .i64 fu2, .bool dn2] 48)
        have HDO := Lib.hid (h_do H4.out (i := 2) rfl ⟨1, qn, qm, qs, qe, qb, qc⟩ (by simp only; omega) (by simp only; omega) kl)
        rw [HDE.out] at HDO
        have ho := h_boxAt H2.out (i := 4) rfl
        have g0 := ho.cell 0
        have g1 := ho.cell 1
        have g2 := ho.cell 2
        have g3 := ho.cell 3
        have g4 := ho.cell 4
        have gl := ho.lt
        clear ho
        go_wp2_with fail
        refine HDO.out.mono ?_
        rintro e w5 ⟨rfl, h5⟩
        have H5 : Hid (Here K04 w w5 (plOs w.heap.size w2.heap.size (.slice b3 al3 c3') fu2 dn2 d L2)) := Lib.hid (h_six h5)
        clear HDO h5 x0 x1 x2 xf0 xf1 xf2 xl g0 g1 g2 g3 g4 gl H4 H2
        obtain ⟨vb, vc, hvv, hvc, _, hvin⟩ := h_rowIn H5.out (i := 3) rfl
        have hvb : vb = b3 ∧ vc = c3' := by cases hvv; exact ⟨rfl, rfl⟩
        have HUN := Lib.hid (unlike_same H5.out (i0 := 2) rfl vb vc al3 hvin hvc HAL3.out)
        rw [hvb.1, hvb.2] at HUN
        clear hvv hvc hvin hvb
        obtain ⟨x0, x1, x2, xf0, xf1, xf2, xl⟩ := box3 H5.out (i := 1) rfl
        go_wp2_with fail
        refine HUN.out.mono ?_
        rintro e w9 ⟨rfl, h9⟩
        have H9 := Lib.hid h9
        clear HUN h9 x0 x1 x2 xf0 xf1 xf2 xl
        go_wp2_with fail
        go_roundw
        case rel => exact ⟨i + 1, d, _, L2, fu2, dn2, by omega, by go_num, rfl, Lib.hid (by rw [HNX.out, HPO.out]), H9.out⟩
        case measure => simp [intOf]; omega
      have t1 : (qk == 1) = false := by simpa using k1
      by_cases k2 : qk = 2
      · subst k2
        have n1 : ¬ w2.heap.size = wr.heap.size := by omega
        have n2 : ¬ wr.heap.size = w2.heap.size := by omega
        have HPO : Hid (playO ⟨L, fu, dn⟩ ⟨2, qn, qm, qs, qe, qb, qc⟩ = (stepK ⟨L, fu, dn⟩ 2 qm qs).1) := Lib.hid rfl
        obtain ⟨ub', uc', hu', _, _, hin1⟩ := h_rowIn H1.out (i := 3) rfl
        have hub : ub' = ub := by cases hu'; rfl
        subst hub
        have HST := Lib.hid (rstep_any L fu dn HOK.out 2 (.inr (.inl rfl)) qm qs (by omega) (by omega) ub' uc al _ hin1 HUC.out HAL.out)
        clear hu' hin1
        go_wp2_with fail
        refine HST.out.mono ?_
        rintro e w3 ⟨u3, rfl, hs3, b3⟩
        have H2 := Lib.hid (h_step H1.out b3 hs3)
        clear HST hs3 b3 x0 x1 x2 xf0 xf1 xf2 xl c0 c1 c2 c3 c4 H1 HH
        have HDE : Hid (doD ⟨L, fu, dn⟩ ⟨2, qn, qm, qs, qe, qb, qc⟩ = ((stepK ⟨L, fu, dn⟩ 2 qm qs).1, (stepK ⟨L, fu, dn⟩ 2 qm qs).2)) := Lib.hid rfl
        generalize (stepK ⟨L, fu, dn⟩ 2 qm qs).2 = kk at *
        generalize (stepK ⟨L, fu, dn⟩ 2 qm qs).1 = X2 at *
        obtain ⟨L2, fu2, dn2⟩ := X2
        obtain ⟨b3, c3', hu3, hc3, _, _⟩ := h_rowIn H2.out (i := 3) rfl
        obtain ⟨al3, hal3⟩ : ∃ al3, al3 = L2.length := ⟨_, rfl⟩
        simp only at hu3
        rw [← hal3] at hu3
        subst hu3
        have HAL3 := Lib.hid hal3
        clear hal3 hc3
        obtain ⟨x0, x1, x2, xf0, xf1, xf2, xl⟩ := box3 H2.out (i := 1) rfl
        have H4 := Lib.hid (h_box (h_set3 H2.out (i := 1) rfl (.slice b3 al3 c3') (.int .i64 fu2) (.bool dn2)) [.slice b3 al3 c3', .int .i64 fu2, .bool dn2] 48)
        have HDO := Lib.hid (h_do H4.out (i := 2) rfl ⟨2, qn, qm, qs, qe, qb, qc⟩ (by simp only; omega) (by simp only; omega) kl)
        rw [HDE.out] at HDO
        have ho := h_boxAt H2.out (i := 4) rfl
        have g0 := ho.cell 0
        have g1 := ho.cell 1
        have g2 := ho.cell 2
        have g3 := ho.cell 3
        have g4 := ho.cell 4
        have gl := ho.lt
        clear ho
        go_wp2_with fail
        refine HDO.out.mono ?_
        rintro e w5 ⟨rfl, h5⟩
        have H5 : Hid (Here K04 w w5 (plOs w.heap.size w2.heap.size (.slice b3 al3 c3') fu2 dn2 d L2)) := Lib.hid (h_six h5)
        clear HDO h5 x0 x1 x2 xf0 xf1 xf2 xl g0 g1 g2 g3 g4 gl H4 H2
        obtain ⟨vb, vc, hvv, hvc, _, hvin⟩ := h_rowIn H5.out (i := 3) rfl
        have hvb : vb = b3 ∧ vc = c3' := by cases hvv; exact ⟨rfl, rfl⟩
        have HUN := Lib.hid (unlike_same H5.out (i0 := 2) rfl vb vc al3 hvin hvc HAL3.out)
        rw [hvb.1, hvb.2] at HUN
        clear hvv hvc hvin hvb
        obtain ⟨x0, x1, x2, xf0, xf1, xf2, xl⟩ := box3 H5.out (i := 1) rfl
        go_wp2_with fail
        refine HUN.out.mono ?_
        rintro e w9 ⟨rfl, h9⟩
        have H9 := Lib.hid h9
        clear HUN h9 x0 x1 x2 xf0 xf1 xf2 xl
        go_wp2_with fail
        go_roundw
        case rel => exact ⟨i + 1, d, _, L2, fu2, dn2, by omega, by go_num, rfl, Lib.hid (by rw [HNX.out, HPO.out]), H9.out⟩
        case measure => simp [intOf]; omega
      have t2 : (qk == 2) = false := by simpa using k2
      by_cases k3 : qk = 3
      · subst k3
        have n1 : ¬ w2.heap.size = wr.heap.size := by omega
        have n2 : ¬ wr.heap.size = w2.heap.size := by omega
        have HPO : Hid (playO ⟨L, fu, dn⟩ ⟨3, qn, qm, qs, qe, qb, qc⟩ = (stepK ⟨L, fu, dn⟩ 3 qm qs).1) := Lib.hid rfl
        obtain ⟨ub', uc', hu', _, _, hin1⟩ := h_rowIn H1.out (i := 3) rfl
        have hub : ub' = ub := by cases hu'; rfl
        subst hub
        have HST := Lib.hid (rstep_any L fu dn HOK.out 3 (.inr (.inr (.inl rfl))) qm qs (by omega) (by omega) ub' uc al _ hin1 HUC.out HAL.out)
        clear hu' hin1
        go_wp2_with fail
        refine HST.out.mono ?_
        rintro e w3 ⟨u3, rfl, hs3, b3⟩
        have H2 := Lib.hid (h_step H1.out b3 hs3)
        clear HST hs3 b3 x0 x1 x2 xf0 xf1 xf2 xl c0 c1 c2 c3 c4 H1 HH
        have HDE : Hid (doD ⟨L, fu, dn⟩ ⟨3, qn, qm, qs, qe, qb, qc⟩ = ((stepK ⟨L, fu, dn⟩ 3 qm qs).1, (stepK ⟨L, fu, dn⟩ 3 qm qs).2)) := Lib.hid rfl
        generalize (stepK ⟨L, fu, dn⟩ 3 qm qs).2 = kk at *
        generalize (stepK ⟨L, fu, dn⟩ 3 qm qs).1 = X2 at *
        obtain ⟨L2, fu2, dn2⟩ := X2
        obtain ⟨b3, c3', hu3, hc3, _, _⟩ := h_rowIn H2.out (i := 3) rfl
        obtain ⟨al3, hal3⟩ : ∃ al3, al3 = L2.length := ⟨_, rfl⟩
        simp only at hu3
        rw [← hal3] at hu3
        subst hu3
        have HAL3 := Lib.hid hal3
        clear hal3 hc3
        obtain ⟨x0, x1, x2, xf0, xf1, xf2, xl⟩ := box3 H2.out (i := 1) rfl
        have H4 := Lib.hid (h_box (h_set3 H2.out (i := 1) rfl (.slice b3 al3 c3') (.int .i64 fu2) (.bool dn2)) [.slice b3 al3 c3', .int .i64 fu2, .bool dn2] 48)
        have HDO := Lib.hid (h_do H4.out (i := 2) rfl ⟨3, qn, qm, qs, qe, qb, qc⟩ (by simp only; omega) (by simp only; omega) kl)
        rw [HDE.out] at HDO
        have ho := h_boxAt H2.out (i := 4) rfl
        have g0 := ho.cell 0
        have g1 := ho.cell 1
        have g2 := ho.cell 2
        have g3 := ho.cell 3
        have g4 := ho.cell 4
        have gl := ho.lt
        clear ho
        go_wp2_with fail
        refine HDO.out.mono ?_
        rintro e w5 ⟨rfl, h5⟩
        have H5 : Hid (Here K04 w w5 (plOs w.heap.size w2.heap.size (.slice b3 al3 c3') fu2 dn2 d L2)) := Lib.hid (h_six h5)
        clear HDO h5 x0 x1 x2 xf0 xf1 xf2 xl g0 g1 g2 g3 g4 gl H4 H2
        obtain ⟨vb, vc, hvv, hvc, _, hvin⟩ := h_rowIn H5.out (i := 3) rfl
        have hvb : vb = b3 ∧ vc = c3' := by cases hvv; exact ⟨rfl, rfl⟩
        have HUN := Lib.hid (unlike_same H5.out (i0 := 2) rfl vb vc al3 hvin hvc HAL3.out)
        rw [hvb.1, hvb.2] at HUN
        clear hvv hvc hvin hvb
        obtain ⟨x0, x1, x2, xf0, xf1, xf2, xl⟩ := box3 H5.out (i := 1) rfl
        go_wp2_with fail
        refine HUN.out.mono ?_
        rintro e w9 ⟨rfl, h9⟩
        have H9 := Lib.hid h9
        clear HUN h9 x0 x1 x2 xf0 xf1 xf2 xl
        go_wp2_with fail
        go_roundw
        case rel => exact ⟨i + 1, d, _, L2, fu2, dn2, by omega, by go_num, rfl, Lib.hid (by rw [HNX.out, HPO.out]), H9.out⟩
        case measure => simp [intOf]; omega
      have t3 : (qk == 3) = false := by simpa using k3
      by_cases k4 : qk = 4
      · subst k4
        have n1 : ¬ w2.heap.size = wr.heap.size := by omega
        have n2 : ¬ wr.heap.size = w2.heap.size := by omega
        have HPO : Hid (playO ⟨L, fu, dn⟩ ⟨4, qn, qm, qs, qe, qb, qc⟩ = (stepK ⟨L, fu, dn⟩ 4 qm qs).1) := Lib.hid rfl
        obtain ⟨ub', uc', hu', _, _, hin1⟩ := h_rowIn H1.out (i := 3) rfl
        have hub : ub' = ub := by cases hu'; rfl
        subst hub
        have HST := Lib.hid (rstep_any L fu dn HOK.out 4 (.inr (.inr (.inr rfl))) qm qs (by omega) (by omega) ub' uc al _ hin1 HUC.out HAL.out)
        clear hu' hin1
        go_wp2_with fail
        refine HST.out.mono ?_
        rintro e w3 ⟨u3, rfl, hs3, b3⟩
        have H2 := Lib.hid (h_step H1.out b3 hs3)
        clear HST hs3 b3 x0 x1 x2 xf0 xf1 xf2 xl c0 c1 c2 c3 c4 H1 HH
        have HDE : Hid (doD ⟨L, fu, dn⟩ ⟨4, qn, qm, qs, qe, qb, qc⟩ = ((stepK ⟨L, fu, dn⟩ 4 qm qs).1, (stepK ⟨L, fu, dn⟩ 4 qm qs).2)) := Lib.hid rfl
        generalize (stepK ⟨L, fu, dn⟩ 4 qm qs).2 = kk at *
        generalize (stepK ⟨L, fu, dn⟩ 4 qm qs).1 = X2 at *
        obtain ⟨L2, fu2, dn2⟩ := X2
        obtain ⟨b3, c3', hu3, hc3, _, _⟩ := h_rowIn H2.out (i := 3) rfl
        obtain ⟨al3, hal3⟩ : ∃ al3, al3 = L2.length := ⟨_, rfl⟩
        simp only at hu3
        rw [← hal3] at hu3
        subst hu3
        have HAL3 := Lib.hid hal3
        clear hal3 hc3
        obtain ⟨x0, x1, x2, xf0, xf1, xf2, xl⟩ := box3 H2.out (i := 1) rfl
        have H4 := Lib.hid (h_box (h_set3 H2.out (i := 1) rfl (.slice b3 al3 c3') (.int .i64 fu2) (.bool dn2)) [.slice b3 al3 c3', .int .i64 fu2, .bool dn2] 48)
        have HDO := Lib.hid (h_do H4.out (i := 2) rfl ⟨4, qn, qm, qs, qe, qb, qc⟩ (by simp only; omega) (by simp only; omega) kl)
        rw [HDE.out] at HDO
        have ho := h_boxAt H2.out (i := 4) rfl
        have g0 := ho.cell 0
        have g1 := ho.cell 1
        have g2 := ho.cell 2
        have g3 := ho.cell 3
        have g4 := ho.cell 4
        have gl := ho.lt
        clear ho
        go_wp2_with fail
        refine HDO.out.mono ?_
        rintro e w5 ⟨rfl, h5⟩
        have H5 : Hid (Here K04 w w5 (plOs w.heap.size w2.heap.size (.slice b3 al3 c3') fu2 dn2 d L2)) := Lib.hid (h_six h5)
        clear HDO h5 x0 x1 x2 xf0 xf1 xf2 xl g0 g1 g2 g3 g4 gl H4 H2
        obtain ⟨vb, vc, hvv, hvc, _, hvin⟩ := h_rowIn H5.out (i := 3) rfl
        have hvb : vb = b3 ∧ vc = c3' := by cases hvv; exact ⟨rfl, rfl⟩
        have HUN := Lib.hid (unlike_same H5.out (i0 := 2) rfl vb vc al3 hvin hvc HAL3.out)
        rw [hvb.1, hvb.2] at HUN
        clear hvv hvc hvin hvb
        obtain ⟨x0, x1, x2, xf0, xf1, xf2, xl⟩ := box3 H5.out (i := 1) rfl
        go_wp2_with fail
        refine HUN.out.mono ?_
        rintro e w9 ⟨rfl, h9⟩
        have H9 := Lib.hid h9
        clear HUN h9 x0 x1 x2 xf0 xf1 xf2 xl
        go_wp2_with fail
        go_roundw
        case rel => exact ⟨i + 1, d, _, L2, fu2, dn2, by omega, by go_num, rfl, Lib.hid (by rw [HNX.out, HPO.out]), H9.out⟩
        case measure => simp [intOf]; omega
      have t4 : (qk == 4) = false := by simpa using k4
      by_cases k5 : qk = 5
      · subst k5
        have HPO : Hid (playO ⟨L, fu, dn⟩ ⟨5, qn, qm, qs, qe, qb, qc⟩ = ⟨crashL qe 0 L, -1, false⟩) := Lib.hid rfl
        have HCR := Lib.hid (h_crash H1.out (i := 2) rfl (Below.refl _ _) qe HKX.out (by have := HKL.out; omega) qb qc (InW.bel HKI.out H1.out.bel) (IntIn.old HKI.out _) kl HKL.out)
        go_wp2_with fail
        refine HCR.out.mono ?_
        rintro e w3 ⟨rfl, h3⟩
        have H2 : Hid (Here K04 w w3 ([.box w.heap.size [.slice none 0 0, .int .i64 0, .bool false] 48, .box w2.heap.size [.slice ub al uc, .int .i64 fu, .bool dn] 48, .disk d (crashD ⟨L, fu, dn⟩ qe), .row (.slice ub al uc) 80 4 L.length (L.flatMap flC), .box wr.heap.size [.int .i64 5, .int .i64 qn, .string qm, .string qs, .slice qb kl qc] 43])) := Lib.hid h3
        clear HCR h3 x0 x1 x2 xf0 xf1 xf2 xl c0 c1 c2 c3 c4 H1 HH
        obtain ⟨ub', uc', hu', _, _, hin1⟩ := h_rowIn H2.out (i := 3) rfl
        have hub : ub' = ub := by cases hu'; rfl
        subst hub
        have HRC := Lib.hid (rcrash_any ub' uc L fu dn qb qc qe w3 hin1 (by have := HOK.out.len; simp only at this; omega) HUC.out HOK.out.last HOK.out.sum HKX.out (by have := HKL.out; omega) (InW.bel HKI.out H2.out.bel) al HAL.out kl HKL.out)
        obtain ⟨x0, x1, x2, xf0, xf1, xf2, xl⟩ := box3 H2.out (i := 1) rfl
        have g4 := (h_boxAt H2.out (i := 4) rfl).cell 4
        simp only [List.getElem?_cons_succ, List.getElem?_cons_zero] at g4
        clear hu' hin1
        go_wp2_with fail
        refine HRC.out.mono ?_
        rintro e w5 ⟨u3, rfl, m5⟩
        have h5 := h_row H2.out m5.bl m5.tx m5.nw
        obtain ⟨b3, c3', hu3, hc3, _, _⟩ := m5.read flLen (by omega)
        obtain ⟨L2, hL2⟩ : ∃ L2, L2 = crashL qe 0 L := ⟨_, rfl⟩
        rw [← hL2] at hu3 h5 HPO
        obtain ⟨al3, hal3⟩ : ∃ al3, al3 = L2.length := ⟨_, rfl⟩
        rw [← hal3] at hu3
        subst hu3
        have HAL3 := Lib.hid hal3
        have h6 := h_set3 h5 (i := 1) rfl (.slice b3 al3 c3') (.int .i64 (-1)) (.bool false)
        have H5 : Hid (Here K04 w (((w5.setCell ⟨w2.heap.size, 0, none⟩ (.slice b3 al3 c3')).setCell ⟨w2.heap.size, 1, none⟩ (.int .i64 (-1))).setCell ⟨w2.heap.size, 2, none⟩ (.bool false)) (plOs w.heap.size w2.heap.size (.slice b3 al3 c3') (-1) false d L2)) := Lib.hid (by
          rw [show crashD ⟨L, fu, dn⟩ qe = ⟨L2, -1, false⟩ by unfold crashD; rw [hL2]] at h6
          refine h6.pick (fun i => if i = 3 then 5 else i) (fun i j hi hj e => ?_) (fun i o' hi => ?_)
          · simp at hi hj e
            split at e <;> split at e <;> omega
          · match i, hi with
            | 0, hi => exact hi
            | 1, hi => exact hi
            | 2, hi => exact hi
            | 3, hi => exact hi)
        clear x0 x1 x2 xf0 xf1 xf2 xl
        obtain ⟨x0, x1, x2, xf0, xf1, xf2, xl⟩ := box3 h5 (i := 1) rfl
        clear h5 h6 m5 hc3 hal3 hL2 H2 HRC g4
        go_upto_region 26 with fail
        clear x0 x1 x2 xf0 xf1 xf2 xl
        generalize ((w5.setCell ⟨w2.heap.size, 0, none⟩ (.slice b3 al3 c3')).setCell ⟨w2.heap.size, 1, none⟩ (.int .i64 (-1))).setCell ⟨w2.heap.size, 2, none⟩ (.bool false) = w7 at *
        obtain ⟨vb, vc, hvv, hvc, _, hvin⟩ := h_rowIn H5.out (i := 3) rfl
        have hvb : vb = b3 ∧ vc = c3' := by cases hvv; exact ⟨rfl, rfl⟩
        have HUN := Lib.hid (unlike_same H5.out (i0 := 2) rfl vb vc al3 hvin hvc HAL3.out)
        rw [hvb.1, hvb.2] at HUN
        clear hvv hvc hvin hvb
        obtain ⟨x0, x1, x2, xf0, xf1, xf2, xl⟩ := box3 H5.out (i := 1) rfl
        go_wp2_with fail
        refine HUN.out.mono ?_
        rintro e w9 ⟨rfl, h9⟩
        have H9 := Lib.hid h9
        clear HUN h9 x0 x1 x2 xf0 xf1 xf2 xl
        go_wp2_with fail
        go_roundw
        case rel => exact ⟨i + 1, d, _, L2, (-1), false, by omega, by go_num, rfl, Lib.hid (by rw [HNX.out, HPO.out]), H9.out⟩
        case measure => simp [intOf]; omega
      have t5 : (qk == 5) = false := by simpa using k5
      by_cases k6 : qk = 6
      · subst k6
        have HPO : Hid (playO ⟨L, fu, dn⟩ ⟨6, qn, qm, qs, qe, qb, qc⟩ = ⟨L, if qn < 0 then -1 else qn, dn⟩) := Lib.hid rfl
        have HCR := Lib.hid (h_arm H1.out (i := 2) rfl qn hqn)
        go_wp2_with fail
        refine HCR.out.mono ?_
        rintro e w3 ⟨rfl, h3⟩
        have H2 : Hid (Here K04 w w3 ([.box w.heap.size [.slice none 0 0, .int .i64 0, .bool false] 48, .box w2.heap.size [.slice ub al uc, .int .i64 fu, .bool dn] 48, .disk d ⟨L, if qn < 0 then -1 else qn, dn⟩, .row (.slice ub al uc) 80 4 L.length (L.flatMap flC), .box wr.heap.size [.int .i64 6, .int .i64 qn, .string qm, .string qs, .slice qb kl qc] 43])) := Lib.hid h3
        clear HCR h3 x0 x1 x2 xf0 xf1 xf2 xl c0 c1 c2 c3 c4 H1 HH
        have HRA := Lib.hid (rarm_any ub uc al fu dn qn w3)
        generalize (if qn < 0 then -1 else qn) = fu3 at *
        obtain ⟨x0, x1, x2, xf0, xf1, xf2, xl⟩ := box3 H2.out (i := 1) rfl
        have g1 := (h_boxAt H2.out (i := 4) rfl).cell 1
        simp only [List.getElem?_cons_succ, List.getElem?_cons_zero] at g1
        go_wp2_with fail
        refine HRA.out.mono ?_
        rintro e w5 ⟨rfl, b5⟩
        have h5 := H2.out.step_bel b5
        have H5 : Hid (Here K04 w (((w5.setCell ⟨w2.heap.size, 0, none⟩ (.slice ub al uc)).setCell ⟨w2.heap.size, 1, none⟩ (.int .i64 fu3)).setCell ⟨w2.heap.size, 2, none⟩ (.bool dn)) (plOs w.heap.size w2.heap.size (.slice ub al uc) fu3 dn d L)) := Lib.hid (h_five (h_set3 h5 (i := 1) rfl (.slice ub al uc) (.int .i64 fu3) (.bool dn)))
        clear x0 x1 x2 xf0 xf1 xf2 xl
        obtain ⟨x0, x1, x2, xf0, xf1, xf2, xl⟩ := box3 h5 (i := 1) rfl
        clear h5 b5 H2 HRA g1
        go_upto_region 26 with fail
        clear x0 x1 x2 xf0 xf1 xf2 xl
        generalize ((w5.setCell ⟨w2.heap.size, 0, none⟩ (.slice ub al uc)).setCell ⟨w2.heap.size, 1, none⟩ (.int .i64 fu3)).setCell ⟨w2.heap.size, 2, none⟩ (.bool dn) = w7 at *
        obtain ⟨vb, vc, hvv, hvc, _, hvin⟩ := h_rowIn H5.out (i := 3) rfl
        have hvb : vb = ub ∧ vc = uc := by cases hvv; exact ⟨rfl, rfl⟩
        have HUN := Lib.hid (unlike_same H5.out (i0 := 2) rfl vb vc al hvin hvc HAL.out)
        rw [hvb.1, hvb.2] at HUN
        clear hvv hvc hvin hvb
        obtain ⟨x0, x1, x2, xf0, xf1, xf2, xl⟩ := box3 H5.out (i := 1) rfl
        go_wp2_with fail
        refine HUN.out.mono ?_
        rintro e w9 ⟨rfl, h9⟩
        have H9 := Lib.hid h9
        clear HUN h9 x0 x1 x2 xf0 xf1 xf2 xl
        go_wp2_with fail
        go_roundw
        case rel => exact ⟨i + 1, d, _, L, fu3, dn, by omega, by go_num, rfl, Lib.hid (by rw [HNX.out, HPO.out]), H9.out⟩
        case measure => simp [intOf]; omega
      have t6 : (qk == 6) = false := by simpa using k6
      by_cases k7 : qk = 7
      · subst k7
        have HPO : Hid (playO ⟨L, fu, dn⟩ ⟨7, qn, qm, qs, qe, qb, qc⟩ = ⟨L, fu, dn⟩) := Lib.hid rfl
        have HCR := Lib.hid (h_copy H1.out (i := 2) rfl)
        go_wp2_with fail
        refine HCR.out.mono ?_
        rintro e w3 ⟨dc, rfl, h3⟩
        have H5 : Hid (Here K04 w w3 (plOs w.heap.size w2.heap.size (.slice ub al uc) fu dn dc L)) := Lib.hid (by
          refine h3.pick (fun i => if i = 2 then 5 else i) (fun i j hi hj e => ?_) (fun i o' hi => ?_)
          · simp at hi hj e
            split at e <;> split at e <;> omega
          · match i, hi with
            | 0, hi => exact hi
            | 1, hi => exact hi
            | 2, hi => exact hi
            | 3, hi => exact hi)
        clear HCR h3 x0 x1 x2 xf0 xf1 xf2 xl c0 c1 c2 c3 c4 H1 HH
        obtain ⟨vb, vc, hvv, hvc, _, hvin⟩ := h_rowIn H5.out (i := 3) rfl
        have hvb : vb = ub ∧ vc = uc := by cases hvv; exact ⟨rfl, rfl⟩
        have HUN := Lib.hid (unlike_same H5.out (i0 := 2) rfl vb vc al hvin hvc HAL.out)
        rw [hvb.1, hvb.2] at HUN
        clear hvv hvc hvin hvb
        obtain ⟨x0, x1, x2, xf0, xf1, xf2, xl⟩ := box3 H5.out (i := 1) rfl
        go_wp2_with fail
        refine HUN.out.mono ?_
        rintro e w9 ⟨rfl, h9⟩
        have H9 := Lib.hid h9
        clear HUN h9 x0 x1 x2 xf0 xf1 xf2 xl
        go_wp2_with fail
        go_roundw
        case rel => exact ⟨i + 1, dc, _, L, fu, dn, by omega, by go_num, rfl, Lib.hid (by rw [HNX.out, HPO.out]), H9.out⟩
        case measure => simp [intOf]; omega
      have t7 : (qk == 7) = false := by simpa using k7
      have HPO : Hid (playO ⟨L, fu, dn⟩ ⟨qk, qn, qm, qs, qe, qb, qc⟩ = ⟨L, fu, dn⟩) := Lib.hid (by unfold playO; simp [k1, k2, k3, k4, k5, k6])
      have H5 : Hid (Here K04 w (wr.alloc (.cells #[.int .i64 qk, .int .i64 qn, .string qm, .string qs, .slice qb kl qc] 43)) (plOs w.heap.size w2.heap.size (.slice ub al uc) fu dn d L)) := Lib.hid (h_five H1.out)
      clear k1 k2 k3 k4 k5 k6 k7 H1 HH
      obtain ⟨vb, vc, hvv, hvc, _, hvin⟩ := h_rowIn H5.out (i := 3) rfl
      have hvb : vb = ub ∧ vc = uc := by cases hvv; exact ⟨rfl, rfl⟩
      have HUN := Lib.hid (unlike_same H5.out (i0 := 2) rfl vb vc al hvin hvc HAL.out)
      rw [hvb.1, hvb.2] at HUN
      clear hvv hvc hvin hvb
      obtain ⟨x0, x1, x2, xf0, xf1, xf2, xl⟩ := box3 H5.out (i := 1) rfl
      go_wp2_with fail
      refine HUN.out.mono ?_
      rintro e w9 ⟨rfl, h9⟩
      have H9 := Lib.hid h9
      clear HUN h9 x0 x1 x2 xf0 xf1 xf2 xl
      go_wp2_with fail
      go_roundw
      case rel => exact ⟨i + 1, d, _, L, fu, dn, by omega, by go_num, rfl, Lib.hid (by rw [HNX.out, HPO.out]), H9.out⟩
      case measure => simp [intOf]; omega
    · obtain rfl : i = ln := by omega
      have HE : Hid (X = ⟨L, fu, dn⟩) := Lib.hid (by
        have h1 := HPL.out
        rw [List.take_of_length_le (by rw [Hn.out]; omega), HXX.out] at h1
        exact h1)
      obtain ⟨r0, r1, r2, rf0, rf1, rf2, rl⟩ := box3 HH.out (i := 0) rfl
      clear hH HPL
      go_wp2_with fail
      go_region
      all_goals
        have H7 := h_set3 HH.out (i := 0) rfl (.slice ub al uc) (.int .i64 fu) (.bool dn)
        go_wp2_with fail
        have H8 := H7.drew
        refine bodyPost_ret (fin3 rfl rfl (h_boxAt H8 (i := 0) rfl)) rfl ?_
        rw [HE.out]
        exact ⟨d, _, rfl, H8.pick (fun i => i + 2) (fun i j _ _ e => by have e' : i + 2 = j + 2 := e; omega) (fun i o' hi => by
          match i, hi with
          | 0, hi => exact hi
          | 1, hi => exact hi)⟩
end Go.Proofs.Ytemfnchiedepoaa

/- For every input ciceronelaw04.DiskBeginnings returns true, and its arguments read behind the call as before. No conditions. -/
import Derived.Test.YtemfnchiedepoaaRfPlay
import Derived.Test.YtemfnchiedepoaaDkLast
import Derived.Test.YtemfnchiedepoaaRows
import Derived.ProofKit
import Derived.OpenShut
import Derived.ShutString
import Derived.ChangeOld
import Derived.Below
import Derived.Lib.SmallJoins
namespace Go.Proofs.Ytemfnchiedepoaa.diskBeginnings
open Go.ChangeShapes Go.WideShapes Go.ChangeAt Go.RowKit Go.Joins
open Go.ChangeMaps (open_string shut_string)
set_option linter.unusedVariables false

theorem ok_bel {w w' : World} {a : OpD} (h : OpOk w a) (hb : Below w.heap.size w w') : OpOk w' a := ⟨h.kind, h.n, h.name, h.s, h.kl, h.kc, InW.bel h.kin hb, h.kx⟩
theorem cut_le (s : ByteArray) (n : Nat) : (cutB s n).size ≤ s.size := by
  show ((s.data.toList.take n).toArray).size ≤ s.size
  have : s.data.toList.length = s.size := by simp
  simp; omega
theorem beg_law {Y : Dk} (hok : DkOk Y) (hd : Y.down = false) (keep : List Int) (hokc : DkOk (crashD Y keep)) {i : Nat} {p : ByteArray × Fl} (hp : (crashD Y keep).L[i]? = some p) :
    ∃ f k, readD Y p.1 = (f, 0) ∧ p.2.s = cutB f k ∧ k ≤ f.size ∧ p.2.s.size = k ∧ readD (crashD Y keep) p.1 = (p.2.s, 0) ∧ p.1.size ≤ 64 := by
  have hm := List.mem_of_getElem? hp
  have hn := hokc.name p hm
  obtain ⟨p0, j, h1, h2, h3⟩ := crashL_mem keep Y.L 0 p hm
  have hl := hok.last p0 h1
  have hk := keepN_le p0.2 keep j
  have hg : mget Y.L p.1 = some p0.2 := by rw [h2]; exact get_of_mem hok.rise.nodup (a := p0.1) (v := p0.2) h1
  have hgc : mget (crashD Y keep).L p.1 = some p.2 := get_of_mem hokc.rise.nodup (a := p.1) (v := p.2) hm
  have hp2 : p.2 = ⟨cutB p0.2.s (p0.2.lasts + keepN p0.2 keep j), p0.2.lasts + keepN p0.2 keep j, true⟩ := by
    unfold crashF at h3
    split at h3
    · cases h3
    · exact (Option.some.inj h3).symm
  have hns : p.1.size ≤ 64 := by unfold nameD at hn; simp at hn; exact hn.2
  have hkk : p0.2.lasts + keepN p0.2 keep j ≤ p0.2.s.size := by omega
  refine ⟨p0.2.s, p0.2.lasts + keepN p0.2 keep j, read_get hd hn hg, by rw [hp2], hkk, by rw [hp2]; exact size_cut _ _ hkk, read_get (X := crashD Y keep) rfl hn hgc, hns⟩
theorem twice_L (more : List Int) : ∀ (L : Fs) (i : Nat), (∀ p ∈ L, p.2.lasts = p.2.s.size ∧ p.2.stays = true) → crashL more i L = L
  | [], i, _ => rfl
  | p :: L, i, h => by
    obtain ⟨h1, h2⟩ := h p (by simp)
    have hk : keepN p.2 more i = 0 := by have := keepN_le p.2 more i; omega
    have e : crashF p.2 (keepN p.2 more i) = some p.2 := by
      unfold crashF
      rw [hk, h2, h1]
      obtain ⟨n, s, la, st⟩ := p
      simp only at h1 h2
      subst h1 h2
      simp [cut_all]
    rw [crashL, e, twice_L more L (i + 1) (fun q hq => h q (by simp [hq]))]
    rfl
theorem twice {Y : Dk} (hok : DkOk Y) (keep more : List Int) : crashD (crashD Y keep) more = crashD Y keep := by
  have : crashL more 0 (crashD Y keep).L = (crashD Y keep).L := twice_L more _ 0 (fun p hp => by
    obtain ⟨p0, j, h1, h2, h3⟩ := crashL_mem keep Y.L 0 p hp
    have hl := hok.last p0 h1
    have hk := keepN_le p0.2 keep j
    have hp2 : p.2 = ⟨cutB p0.2.s (p0.2.lasts + keepN p0.2 keep j), p0.2.lasts + keepN p0.2 keep j, true⟩ := by
      unfold crashF at h3
      split at h3
      · cases h3
      · exact (Option.some.inj h3).symm
    have hkk : p0.2.lasts + keepN p0.2 keep j ≤ p0.2.s.size := by omega
    rw [hp2]
    exact ⟨(size_cut _ _ hkk).symm, rfl⟩)
  unfold crashD
  unfold crashD at this
  simp only at this
  rw [this]
set_option maxRecDepth 100000 in
set_option maxHeartbeats 2000000 in
theorem same_any {w0 w : World} {os : List Ob} {ia ib da db : Nat} {X : Dk} (h : Here K04 w0 w os) (ha : os[ia]? = some (.disk da X)) (hb : os[ib]? = some (.disk db X)) :
    Calls Try.prog 26 #[.pointer (some ⟨da, 0, none⟩), .pointer (some ⟨db, 0, none⟩)] w fun e w' => e = .returned (.bool true) ∧ Here K04 w0 w' os := by
  have hok := h_ok h ha
  have hl : X.L.length ≤ 4096 := hok.len
  obtain ⟨ln, hln⟩ : ∃ ln, ln = X.L.length := ⟨_, rfl⟩
  have hfl : (fnames X.L).length = X.L.length := by simp [fnames]
  rw [← hln] at hfl hl
  have HFL := Lib.hid hfl
  have HLN := Lib.hid hln
  have HN : Hid (∀ p ∈ X.L, p.1.size ≤ 64) := Lib.hid (fun p hp => by have := hok.name p hp; unfold nameD at this; simp at this; exact this.2)
  have HN1 := Lib.hid (h_names h ha)
  have HN2 : Hid (∀ W, Here K04 w0 W os → Calls Try.prog 20 #[.pointer (some ⟨db, 0, none⟩)] W fun e w' => ∃ v : Value, e = .returned v ∧ MkT W w' v (fnames X.L) ∧ Here K04 w0 w' os) := Lib.hid (fun W hW => h_names hW hb)
  have HRA : Hid (∀ W n, n.size ≤ 1000 → Here K04 w0 W os → Calls Try.prog 15 #[.pointer (some ⟨da, 0, none⟩), .string n] W fun e w' => ∃ u, e = .returned (.tuple #[u, .int .i64 (readD X n).2]) ∧ ByMk W w' u (readD X n).1 ∧ Here K04 w0 w' os) := Lib.hid (fun W n hn hW => h_read hW ha n hn)
  have HRB : Hid (∀ W n, n.size ≤ 1000 → Here K04 w0 W os → Calls Try.prog 15 #[.pointer (some ⟨db, 0, none⟩), .string n] W fun e w' => ∃ u, e = .returned (.tuple #[u, .int .i64 (readD X n).2]) ∧ ByMk W w' u (readD X n).1 ∧ Here K04 w0 w' os) := Lib.hid (fun W n hn hW => h_read hW hb n hn)
  clear h ha hb hok hfl hln
  go_enter Try.func26, Try.ntmps26
  go_wp2_with fail
  refine HN1.out.mono ?_
  rintro e w1 ⟨v1, rfl, m1, h1⟩
  have HM2 := Lib.hid (HN2.out w1 h1)
  obtain ⟨nb1, nc1, hv1, hnc1, hnm1, hst1⟩ := m1.tx.strs
  rw [HFL.out] at hv1 hnc1
  subst hv1
  unfold maxLen at hnm1
  have HS1 := Lib.hid hst1
  clear m1 h1 hst1 HN1 HN2
  go_wp2_with fail
  refine HM2.out.mono ?_
  rintro e w2 ⟨v2, rfl, m2, h2⟩
  obtain ⟨nb2, nc2, hv2, hnc2, hnm2, hst2⟩ := m2.tx.strs
  rw [HFL.out] at hv2 hnc2
  subst hv2
  unfold maxLen at hnm2
  have HS2 := Lib.hid hst2
  have HB12 := Lib.hid m2.bl
  have H2 := Lib.hid h2
  clear m2 h2 hst2 HM2
  go_wp2_with fail
  go_loopw [23] (fun c wr => ∃ i : Nat, i ≤ ln ∧ c = .int .i64 i ∧ Here K04 w0 wr os ∧ Below w2.heap.size w2 wr) (fun c _ => ln - (intOf c).toNat)
  case atStart => exact ⟨0, by omega, rfl, H2.out, Below.refl _ _⟩
  case round =>
    obtain ⟨i, hi, rfl, hH, hb⟩ := hrel
    have HH := Lib.hid hH
    have HB := Lib.hid hb
    clear H2
    by_cases hlt : i < ln
    · obtain ⟨p, hp⟩ : ∃ p, X.L[i]? = some p := ⟨X.L[i]'(by rw [← HLN.out]; exact hlt), List.getElem?_eq_getElem _⟩
      obtain ⟨B1, o1, rfl, hB1, hc1⟩ := HS1.out.at (i := i) (s := p.1) (by unfold fnames; rw [List.getElem?_map, hp]; rfl)
      obtain ⟨B2, o2, rfl, hB2, hc2⟩ := HS2.out.at (i := i) (s := p.1) (by unfold fnames; rw [List.getElem?_map, hp]; rfl)
      have HC : Hid (∀ W, Below w2.heap.size w2 W → W.cell? ⟨B1, o1 + i, none⟩ = some (.string p.1) ∧ W.cell? ⟨B2, o2 + i, none⟩ = some (.string p.1)) := Lib.hid (fun W hW => ⟨(hW.cell (p := ⟨B1, o1 + i, none⟩) (Nat.lt_of_lt_of_le hB1 HB12.out.size)).trans ((HB12.out.cell (p := ⟨B1, o1 + i, none⟩) hB1).trans hc1), (hW.cell (p := ⟨B2, o2 + i, none⟩) hB2).trans hc2⟩)
      obtain ⟨e1, e2⟩ := HC.out wr hb
      have hns := HN.out p (List.mem_of_getElem? hp)
      have HR := Lib.hid (HRA.out wr p.1 (by omega) hH)
      have HRB2 : Hid (∀ W, Here K04 w0 W os → Calls Try.prog 15 #[.pointer (some ⟨db, 0, none⟩), .string p.1] W fun e w' => ∃ u, e = .returned (.tuple #[u, .int .i64 (readD X p.1).2]) ∧ ByMk W w' u (readD X p.1).1 ∧ Here K04 w0 w' os) := Lib.hid (fun W hW => HRB.out W p.1 (by omega) hW)
      have hi0 : (0 : Int) ≤ (i : Int) := by omega
      have hi1 : (i : Int) < (ln : Int) := by omega
      clear hp hc1 hc2 hH hb
      generalize readD X p.1 = rd at *
      obtain ⟨rs, rr⟩ := rd
      generalize p.1 = pn at *
      go_wp2_with fail
      refine HR.out.mono ?_
      rintro e w4 ⟨u4, rfl, m4, h4⟩
      obtain ⟨b4, c4, rfl, _, _, hin4⟩ := m4.sl
      have HI4 := Lib.hid hin4
      have HB4 := Lib.hid (HB.out.trans (m4.bl.mono HB.out.size))
      have HR5 := Lib.hid (HRB2.out w4 h4)
      clear e1 e2
      obtain ⟨e1, e2⟩ := HC.out w4 HB4.out
      clear m4 h4 hin4 HR HRB2
      go_wp2_with fail
      refine HR5.out.mono ?_
      rintro e w5 ⟨u5, rfl, m5, h5⟩
      obtain ⟨b5, c5, rfl, _, _, hin5⟩ := m5.sl
      have hcv4 := fun m => text_of (InW.bel (InW.bel HI4.out m5.bl) (bdrewN (Below.refl _ _) m)) c4
      have hcv5 := fun m => text_of (InW.bel hin5 (bdrewN (Below.refl _ _) m)) c5
      have HB5 := Lib.hid (HB4.out.trans (m5.bl.mono HB4.out.size))
      have H5 := Lib.hid h5
      clear e1 e2
      obtain ⟨e1, e2⟩ := HC.out w5 HB5.out
      clear m5 h5 hin5 HR5
      go_wp2_with fail
      go_quiet (fail)
      go_wp2_with fail
      go_roundw
      case rel => exact ⟨i + 1, by omega, by go_num, H5.out.drewN _, bdrewN HB5.out _⟩
      case measure => simp [intOf]; omega
    · obtain rfl : i = ln := by omega
      clear hH hb
      go_wp2_with fail
      go_ret
      exact ⟨rfl, HH.out⟩
set_option maxRecDepth 100000 in
set_option maxHeartbeats 4000000 in
theorem walk (w : World) (b : Option Addr) (cap : Nat) (l : List OpD) (hlc : l.length ≤ cap) (hm : cap ≤ maxLen) (hi : InW w b 5 (l.map opC)) (ho : ∀ a ∈ l, OpOk w a)
    (kb : Option Addr) (kc : Nat) (keep : List Int) (hlk : keep.length ≤ kc) (hkm : kc ≤ maxLen) (hik : IntIn w kb keep) (hok : ∀ a ∈ keep, I64 a)
    (mb : Option Addr) (mc : Nat) (more : List Int) (hlm : more.length ≤ mc) (hmm : mc ≤ maxLen) (him : IntIn w mb more) (hom : ∀ a ∈ more, I64 a) :
    Calls Try.prog 8 #[.slice b l.length cap, .slice kb keep.length kc, .slice mb more.length mc] w fun e w' => e = .returned (.bool true) ∧ Below w.heap.size w w' := by
  have AW := Lib.hid (fun W => awake_any W)
  have HL := Lib.hid (long_any b cap l w hi hm hlc ho)
  obtain ⟨X, hX⟩ : ∃ X, playL l = X := ⟨_, rfl⟩
  have HPL : Hid (longB l = false → ∀ W, Below w.heap.size w W → Calls Try.prog 23 #[.slice b l.length cap] W fun e w' => ∃ d u, e = .returned (.tuple #[.pointer (some ⟨d, 0, none⟩), .agg #[u, .int .i64 X.fuse, .bool X.down]]) ∧ Here K04 W w' [.disk d X, .row u 80 4 X.L.length (X.L.flatMap flC)]) := Lib.hid (fun hlo W hb => play_any b cap l W (InW.bel hi hb) hm hlc (fun a ha => ok_bel (ho a ha) hb) hlo X hX _ rfl)
  have HLG : Hid (longB l = false → l.length ≤ 60 ∧ ∀ o ∈ l, o.name.size ≤ 100 ∧ o.s.size ≤ 200 ∧ o.keep.length ≤ 20) := Lib.hid (fun h => long_of h)
  have HIW := Lib.hid hi
  have HO := Lib.hid ho
  have HIK := Lib.hid hik
  have HOKK := Lib.hid hok
  have HIM := Lib.hid him
  have HOM := Lib.hid hom
  unfold maxLen at hm hkm hmm
  clear hi ho hX hik hok him hom
  generalize hkl : keep.length = kl at *
  generalize hml : more.length = ml at *
  generalize hnl : l.length = n at *
  have Hn := Lib.hid hnl
  have HKL := Lib.hid hkl
  have HML := Lib.hid hml
  clear hkl hml hnl
  cases hlong : longB l with
  | true =>
    rw [hlong] at HL
    clear hlong HPL HLG
    go_enter Try.func8, Try.ntmps8
    go_wp2_with fail
    refine HL.out.mono ?_
    rintro e w1 ⟨rfl, b1⟩
    have B1 := Lib.hid b1
    clear b1 HL
    go_wp2_with fail
    refine (AW.out _).mono ?_
    rintro e w7 ⟨rfl, b7⟩
    have HB := Lib.hid (B1.out.trans (b7.mono B1.out.size))
    clear b7
    go_wp2_with fail
    go_ret
    exact ⟨rfl, HB.out⟩
  | false =>
    rw [hlong] at HL
    obtain ⟨hl60, hlg⟩ := HLG.out hlong
    have HLO := Lib.hid hlg
    clear hlg HLG
    by_cases q1 : kl ≤ 20
    · have t1 : decide ((20 : Int) < (kl : Int)) = false := decide_eq_false (by omega)
      by_cases q2 : ml ≤ 20
      · have t2 : decide ((20 : Int) < (ml : Int)) = false := decide_eq_false (by omega)
        go_enter Try.func8, Try.ntmps8
        go_wp2_with fail
        refine HL.out.mono ?_
        rintro e w1 ⟨rfl, b1⟩
        have HP := Lib.hid (HPL.out hlong w1 b1)
        have B1 := Lib.hid b1
        clear b1 HL HPL hlong
        go_wp2_with fail
        refine HP.out.mono ?_
        rintro e w2 ⟨d, u, rfl, h2⟩
        obtain ⟨ub, uc, hu, _, _, _⟩ := h_rowIn h2 (i := 1) rfl
        obtain ⟨al, hal⟩ : ∃ al, al = X.L.length := ⟨_, rfl⟩
        rw [← hal] at hu
        subst hu
        have H3 : Hid (Here K04 w1 (w2.alloc (.cells #[.slice ub al uc, .int .i64 X.fuse, .bool X.down] 48)) [.disk d X]) := Lib.hid ((Here.init (os := [Ob.disk d X]) (us := [_]) h2).step_bel ((Below.refl _ _).alloc (Nat.le_refl _) _))
        have HCR := Lib.hid (h_crash H3.out (i := 0) rfl (Below.refl _ _) [] (by simp) (by simp) none 0 (.inl rfl) (.inl rfl) 0 rfl)
        clear h2 hal HP H3
        go_wp2_with fail
        refine HCR.out.mono ?_
        rintro e w3 ⟨rfl, h3⟩
        have H4 : Hid (Here K04 w1 w3 [.disk d (crashD X [])]) := Lib.hid h3
        clear h3 HCR
        go_wp2_with fail
        go_loopw [43] (fun c0 wr => ∃ (i : Nat) (Y : Dk), i ≤ n ∧ c0 = .int .i64 i ∧ Here K04 w1 wr [.disk d Y] ∧ Hid (Y.fuse = -1 ∧ Y.down = false)) (fun c0 _ => n - (intOf c0).toNat)
        case atStart => exact ⟨0, _, by omega, rfl, H4.out, Lib.hid ⟨rfl, rfl⟩⟩
        case round =>
          obtain ⟨i, Y, hi, rfl, hH, HFU⟩ := hrel
          have HH := Lib.hid hH
          clear H4
          by_cases hlt : i < n
          · clear hH
            obtain ⟨q, hq⟩ : ∃ p, l[i]? = some p := ⟨l[i]'(by rw [Hn.out]; exact hlt), List.getElem?_eq_getElem _⟩
            have hmem := List.mem_of_getElem? hq
            have hoq := HO.out q hmem
            obtain ⟨o1, o2, o3⟩ := HLO.out q hmem
            obtain ⟨B, off, rfl, hB, d0', d1', d2', d3', d4'⟩ := ops_at HIW.out hq
            have hBB : Below w.heap.size w wr := B1.out.trans (HH.out.bel.mono B1.out.size)
            have c0 := (hBB.cell (p := ⟨B, off + i * 5, none⟩) hB).trans d0'
            have c1 := (hBB.cell (p := ⟨B, off + i * 5 + 1, none⟩) hB).trans d1'
            have c2 := (hBB.cell (p := ⟨B, off + i * 5 + 2, none⟩) hB).trans d2'
            have c3 := (hBB.cell (p := ⟨B, off + i * 5 + 3, none⟩) hB).trans d3'
            have c4 := (hBB.cell (p := ⟨B, off + i * 5 + 4, none⟩) hB).trans d4'
            have hi0 : (0 : Int) ≤ (i : Int) := by omega
            have hi1 : (i : Int) < (n : Int) := by omega
            have hqk := hoq.kind
            unfold I64 at hqk
            have H1 := Lib.hid (h_box HH.out [.int .i64 q.kind, .int .i64 q.n, .string q.name, .string q.s, .slice q.kb q.keep.length q.kc] 43)
            have HFU2 := Lib.hid (doD_still HFU.out.1 HFU.out.2 q)
            have HDO := Lib.hid (h_do H1.out (i := 0) rfl q (by omega) (by omega) q.keep.length)
            have H5 : Hid (Here K04 w1 (wr.alloc (.cells #[.int .i64 q.kind, .int .i64 q.n, .string q.name, .string q.s, .slice q.kb q.keep.length q.kc] 43)) [.disk d Y]) := Lib.hid (Here.init (os := [Ob.disk d Y]) (us := [_]) H1.out)
            clear hq d0' d1' d2' d3' d4' hoq hBB hmem HH H1
            generalize (doD Y q).1 = Z at *
            generalize (doD Y q).2 = kk at *
            generalize q.keep.length = kq at *
            generalize q.kind = qk at *
            generalize q.n = qn at *
            generalize q.name = qm at *
            generalize q.s = qs at *
            generalize q.kb = qb at *
            generalize q.kc = qc at *
            by_cases g1 : 1 ≤ qk
            · have t3 : decide (1 ≤ qk) = true := decide_eq_true g1
              by_cases g2 : qk ≤ 4
              · have t4 : decide (qk ≤ 4) = true := decide_eq_true g2
                go_wp2_with fail
                refine HDO.out.mono ?_
                rintro e w5 ⟨rfl, h5⟩
                have H6 : Hid (Here K04 w1 w5 [.disk d Z]) := Lib.hid (Here.init (os := [Ob.disk d Z]) (us := [Ob.box _ _ _]) h5)
                clear HDO h5 H5
                go_wp2_with fail
                go_roundw
                case rel => exact ⟨i + 1, _, by omega, by go_num, H6.out, Lib.hid ⟨HFU2.out.1, HFU2.out.2.1⟩⟩
                case measure => simp [intOf]; omega
              · have t4 : decide (qk ≤ 4) = false := decide_eq_false g2
                clear HDO
                go_wp2_with fail
                go_roundw
                case rel => exact ⟨i + 1, _, by omega, by go_num, H5.out, HFU⟩
                case measure => simp [intOf]; omega
            · have t3 : decide (1 ≤ qk) = false := decide_eq_false g1
              clear HDO
              go_wp2_with fail
              go_roundw
              case rel => exact ⟨i + 1, _, by omega, by go_num, H5.out, HFU⟩
              case measure => simp [intOf]; omega
          · obtain rfl : i = n := by omega
            have HCP := Lib.hid (h_copy hH (i := 0) rfl)
            have HYK := Lib.hid (h_ok hH (i := 0) rfl)
            clear hH HH
            go_wp2_with fail
            refine HCP.out.mono ?_
            rintro e w4 ⟨c, rfl, h4⟩
            have HC2 := Lib.hid (h_crash h4 (i := 1) rfl (Below.refl _ _) keep HOKK.out (by have := HKL.out; omega) kb kc (InW.bel HIK.out (B1.out.trans (h4.bel.mono B1.out.size))) (IntIn.old (InW.bel HIK.out B1.out) _) kl HKL.out.symm)
            clear h4 HCP
            go_wp2_with fail
            refine HC2.out.mono ?_
            rintro e w5 ⟨rfl, h5⟩
            have H5 : Hid (Here K04 w1 w5 [.disk d Y, .disk c (crashD Y keep)]) := Lib.hid h5
            have HCK := Lib.hid (h_ok h5 (i := 1) rfl)
            have HNM := Lib.hid (h_names H5.out (i := 1) rfl)
            obtain ⟨ln, hln⟩ : ∃ ln, ln = (crashD Y keep).L.length := ⟨_, rfl⟩
            have hfl : (fnames (crashD Y keep).L).length = (crashD Y keep).L.length := by simp [fnames]
            have hll := HCK.out.len
            rw [← hln] at hfl hll
            have HFL := Lib.hid hfl
            have HLN := Lib.hid hln
            have HBL := Lib.hid (fun i p (hp : (crashD Y keep).L[i]? = some p) => beg_law HYK.out HFU.out.2 keep HCK.out hp)
            have HTW := Lib.hid (twice HYK.out keep more)
            clear h5 HC2 hfl hln
            go_wp2_with fail
            refine HNM.out.mono ?_
            rintro e w6 ⟨v6, rfl, m6, h6⟩
            obtain ⟨nb, nc, hv6, hnc, hnm, hst⟩ := m6.tx.strs
            rw [HFL.out] at hv6 hnc
            subst hv6
            unfold maxLen at hnm
            have HST := Lib.hid hst
            have H6 := Lib.hid h6
            clear m6 h6 hst HNM H5
            obtain ⟨i0, hi0T, hz0, hz1, hz2⟩ := info_parts infoByte
            go_wp2_with fail
            go_loopw [69] (fun c0 wr => ∃ j : Nat, j ≤ ln ∧ c0 = .int .i64 j ∧ Here K04 w1 wr [.disk d Y, .disk c (crashD Y keep)] ∧ Below w6.heap.size w6 wr) (fun c0 _ => ln - (intOf c0).toNat)
            case atStart => exact ⟨0, by omega, rfl, H6.out, Below.refl _ _⟩
            case round =>
              obtain ⟨j, hj, rfl, hH, hb⟩ := hrel
              have HH := Lib.hid hH
              have HBB := Lib.hid hb
              clear H6
              by_cases hlt2 : j < ln
              · obtain ⟨p, hp⟩ : ∃ p, (crashD Y keep).L[j]? = some p := ⟨(crashD Y keep).L[j]'(by rw [← HLN.out]; exact hlt2), List.getElem?_eq_getElem _⟩
                obtain ⟨NB, noff, rfl, hNB, hnc0⟩ := HST.out.at (i := j) (s := p.1) (by unfold fnames; rw [List.getElem?_map, hp]; rfl)
                have n0 := (hb.cell (p := ⟨NB, noff + j, none⟩) hNB).trans hnc0
                obtain ⟨f, k, r1, r2, r3, r4, r5, r6⟩ := HBL.out j p hp
                have HR := Lib.hid (h_read hH (i := 0) rfl p.1 (by omega))
                rw [r1] at HR
                have HR2 : Hid (∀ W, Here K04 w1 W [.disk d Y, .disk c (crashD Y keep)] → Calls Try.prog 15 #[.pointer (some ⟨c, 0, none⟩), .string p.1] W fun e w' => ∃ u, e = .returned (.tuple #[u, .int .i64 0]) ∧ ByMk W w' u p.2.s ∧ Here K04 w1 w' [.disk d Y, .disk c (crashD Y keep)]) := Lib.hid (fun W hW => by
                  have := h_read hW (i := 1) rfl p.1 (by omega)
                  rw [r5] at this
                  exact this)
                have hj0 : (0 : Int) ≤ (j : Int) := by omega
                have hj1 : (j : Int) < (ln : Int) := by omega
                have HR2E := Lib.hid r2
                have HR4 := Lib.hid r4
                clear hp hnc0 hH hb r1 r2 r5
                generalize p.2.s = ps at *
                generalize p.1 = pn at *
                go_wp2_with fail
                refine HR.out.mono ?_
                rintro e w7 ⟨u7, rfl, m7, h7⟩
                obtain ⟨b7, c7, rfl, z7, z7', hin7⟩ := m7.sl
                have HI7 := Lib.hid hin7
                have HB7 := Lib.hid (HBB.out.trans (m7.bl.mono HBB.out.size))
                have HR8 := Lib.hid (HR2.out w7 h7)
                unfold maxLen at z7'
                clear m7 h7 hin7 HR HR2 n0
                go_wp2_with fail
                refine HR8.out.mono ?_
                rintro e w8 ⟨u8, rfl, m8, h8⟩
                obtain ⟨b8, c8, rfl, z8, z8', hin8⟩ := m8.sl
                have hin7' := InW.bel HI7.out m8.bl
                have hcut := by_cut hin7' k
                have hcv7 : ∀ m, (convert 28 9 (.slice b7 ps.size c7)).run Try.prog (w8.drewN m) = .ok (.string ps) (w8.drewN m) := fun m => by
                  have := text_of (InW.bel hcut (bdrewN (Below.refl _ _) m)) c7
                  rw [size_cut _ _ r3, ← HR2E.out, ← HR4.out] at this
                  exact this
                have hcv8 := fun m => text_of (InW.bel hin8 (bdrewN (Below.refl _ _) m)) c8
                have hsl : ∀ W, (Instr.slice 28 (.slice b7 f.size c7) none (some (.int .i64 (ps.size : Int))) none).run Try.prog W = .ok (.slice b7 ps.size c7) W := fun W => run_slice_to (P := Try.prog) W 28 5 b7 f.size c7 ps.size 1 Try.underlying28 ⟨i0, hi0T, hz1⟩ (by have := HR4.out; omega)
                have t7 : decide ((f.size : Int) < (ps.size : Int)) = false := decide_eq_false (by have := HR4.out; omega)
                have t7' : decide (f.size < ps.size) = false := decide_eq_false (by have := HR4.out; omega)
                have HB8 := Lib.hid (HB7.out.trans (m8.bl.mono HB7.out.size))
                have H8 := Lib.hid h8
                unfold maxLen at z8'
                clear m8 h8 hin8 hin7' hcut HR8 r4 r3 HR2E
                go_wp2_with fail
                go_quiet (fail)
                go_wp2_with fail
                go_roundw
                case rel => exact ⟨j + 1, by omega, by go_num, H8.out.drewN _, bdrewN HB8.out _⟩
                case measure => simp [intOf]; omega
              · obtain rfl : j = ln := by omega
                have HCP := Lib.hid (h_copy hH (i := 1) rfl)
                clear hH hb HH HBB
                go_wp2_with fail
                refine HCP.out.mono ?_
                rintro e w9 ⟨ag, rfl, h9⟩
                have hcr := h_crash h9 (i := 2) rfl (Below.refl _ _) more HOM.out (by have := HML.out; omega) mb mc (InW.bel HIM.out (B1.out.trans (h9.bel.mono B1.out.size))) (IntIn.old (InW.bel HIM.out B1.out) _) ml HML.out.symm
                rw [HTW.out] at hcr
                have HC9 := Lib.hid hcr
                clear h9 hcr HCP
                go_wp2_with fail
                refine HC9.out.mono ?_
                rintro e w10 ⟨rfl, h10⟩
                have HSM := Lib.hid (same_any h10 (ia := 1) (ib := 2) rfl rfl)
                clear h10 HC9
                go_wp2_with fail
                refine HSM.out.mono ?_
                rintro e w11 ⟨rfl, h11⟩
                have H11 := Lib.hid h11
                clear h11 HSM
                go_wp2_with fail
                refine (AW.out _).mono ?_
                rintro e w12 ⟨rfl, b12⟩
                have HB := Lib.hid (B1.out.trans ((H11.out.step_bel b12).bel.mono B1.out.size))
                clear b12
                go_wp2_with fail
                go_ret
                exact ⟨rfl, HB.out⟩
      · have t2 : decide ((20 : Int) < (ml : Int)) = true := decide_eq_true (by omega)
        clear HPL
        go_enter Try.func8, Try.ntmps8
        go_wp2_with fail
        refine HL.out.mono ?_
        rintro e w1 ⟨rfl, b1⟩
        have B1 := Lib.hid b1
        clear b1 HL
        go_wp2_with fail
        refine (AW.out _).mono ?_
        rintro e w7 ⟨rfl, b7⟩
        have HB := Lib.hid (B1.out.trans (b7.mono B1.out.size))
        clear b7
        go_wp2_with fail
        go_ret
        exact ⟨rfl, HB.out⟩
    · have t1 : decide ((20 : Int) < (kl : Int)) = true := decide_eq_true (by omega)
      clear HPL
      go_enter Try.func8, Try.ntmps8
      go_wp2_with fail
      refine HL.out.mono ?_
      rintro e w1 ⟨rfl, b1⟩
      have B1 := Lib.hid b1
      clear b1 HL
      go_wp2_with fail
      refine (AW.out _).mono ?_
      rintro e w7 ⟨rfl, b7⟩
      have HB := Lib.hid (B1.out.trans (b7.mono B1.out.size))
      clear b7
      go_wp2_with fail
      go_ret
      exact ⟨rfl, HB.out⟩

theorem own : ownKnob Try.prog.godebug = none := by kernel_rfl
theorem laidOut : laidOutB Try.prog = true := by kernel_rfl

set_option maxRecDepth 100000 in
theorem lifted (os : Os) (started : os.Started) (H : Type) (enc : TypeId × Value → H) :
    ReturnsInHanded {} Try.checked os 8 .any (Rows.diskBeginningsSpec.pre6 enc Try.prog Try.f8 Rows.diskBeginningsRow.domain false) (Rows.diskBeginningsSpec.post enc Try.prog Try.f8 false true false false) := by
  refine returnsInHanded_of_change (C := Try.checked) own started (by kernel_rfl) Try.func8
    (ChangeSpec.witness6 (enc := enc) (C := Try.checked) false ⟨#[], #[.slice none 0 0, .slice none 0 0, .slice none 0 0], []⟩ 8 (by kernel_rfl) (by kernel_rfl) (by kernel_rfl) (by kernel_rfl)) ?_
  intro W base args ds gs before hval0 hW hcnd _
  have hval : ∀ (j : Nat) t v, Try.f8.params[j]? = some t → args[j]? = some v → Value.okWide Try.prog W .any base t v := hval0
  have hW' := hW
  obtain ⟨p, q, hA0, hV, rfl, hfz, hnd⟩ := hW
  have hA : DataW.TrodAll enc Try.prog W 0 (fun _ => true) true Try.f8.params.toList args.toList ds p := hA0
  rw [Try.params8] at hA hval
  obtain ⟨v0, vs0, d0, ds0, p0, q0, hargs, rfl, rfl, h0, r0⟩ := trodAll_cons hA
  obtain ⟨v1, vs1, d1, ds1, p1, q1, rfl, rfl, rfl, h1, r1⟩ := trodAll_cons r0
  obtain ⟨v2, vs2, d2, ds2, p2, q2, rfl, rfl, rfl, h2, r2⟩ := trodAll_cons r1
  obtain ⟨rfl, rfl, rfl⟩ := trodAll_nil r2
  obtain rfl : args = #[v0, v1, v2] := by cases args; simp_all
  obtain ⟨rfl, rfl⟩ := trodVars_none hV
  have k0 := h0
  have lt0 : ∀ x ∈ p0, x.block < W.heap.size := by obtain ⟨m, hm⟩ := k0; exact DataW.trod_lt m _ _ _ hm
  obtain ⟨b0, c0, x0, rfl, l0, m0, i0, o0⟩ := open_ops (hval 0 40 v0 rfl rfl) h0
  have k1 := h1
  have lt1 : ∀ x ∈ p1, x.block < W.heap.size := by obtain ⟨m, hm⟩ := k1; exact DataW.trod_lt m _ _ _ hm
  obtain ⟨b1, c1, x1, rfl, l1, m1, i1, o1⟩ := open_keep (hval 1 38 v1 rfl rfl) h1
  have k2 := h2
  have lt2 : ∀ x ∈ p2, x.block < W.heap.size := by obtain ⟨m, hm⟩ := k2; exact DataW.trod_lt m _ _ _ hm
  obtain ⟨b2, c2, x2, rfl, l2, m2, i2, o2⟩ := open_keep (hval 2 38 v2 rfl rfl) h2
  clear hA0 hval0
  refine (walk W b0 c0 x0 l0 m0 i0 o0 b1 c1 x1 l1 m1 i1 o1 b2 c2 x2 l2 m2 i2 o2).mono fun e W' ⟨he, bel⟩ => ?_
  subst he
  exact ⟨_, rfl, _, _, _, [], _, [], hW', trodAll_mk1 (shut_bool Try.underlying4 _), (trodAll_cons_mk (Below.trod laidOut (by kernel_rfl) (of_decide_eq_true (by kernel_rfl)) k0 bel lt0) (trodAll_cons_mk (Below.trod laidOut (by kernel_rfl) (of_decide_eq_true (by kernel_rfl)) k1 bel lt1) (trodAll_cons_mk (Below.trod laidOut (by kernel_rfl) (of_decide_eq_true (by kernel_rfl)) k2 bel lt2) trodAll_mk0))), rfl, bel.frame _, fun h => by cases h⟩

theorem over : Rows.diskBeginningsRow.holds Try.pinned (OpenSpec.ofChange Rows.diskBeginningsSpec) :=
  OpenClaim.holds_of_wide 8 Try.f8 rfl rfl rfl rfl rfl rfl rfl ⟨rfl, rfl, rfl, rfl, rfl⟩ rfl rfl rfl rfl rfl (by kernel_rfl) Try.func8 (by kernel_rfl)
    (of_decide_eq_true (by kernel_rfl)) (by unfold Func.isWrapper; first | (rw [if_pos (by decide +kernel)]; kernel_rfl) | (rw [if_neg (by decide +kernel)]; exact ⟨rfl, rfl⟩))
    (fun os started H enc _ => lifted os started H enc)

theorem proved : Rows.DiskBeginningsSaid := over
#print axioms proved
end Go.Proofs.Ytemfnchiedepoaa.diskBeginnings

/- Contracts of package disk: Crash. -/
import Derived.Test.YtemfnchiedepoaaDk7
import Derived.Test.YtemfnchiedepoaaDkCr
import Derived.Test.YtemfnchiedepoaaSub
import Derived.Deep.DeepCutAuto
import Derived.Deep.RegionLaw
import Derived.Deep.RegionHeld3
import Derived.BigRegion
namespace Go.Proofs.Ytemfnchiedepoaa
open Go.RowKit Go.MapKept Go.Maps
set_option linter.unusedVariables false
/-- what a call of a disk's leaves -/
def DkPost (w : World) (d : Nat) (B : List Nat) (X : Dk) (w' : World) : Prop := ∃ B', DiskAt w' d B' X ∧ Fr (fun b => b ∈ B) w w' ∧ ∀ b ∈ B', b ∈ B ∨ w.heap.size ≤ b
def IntIn (w : World) (b : Option Addr) (l : List Int) : Prop := InW w b 1 (l.map fun x => [.int .i64 x])
theorem IntIn.at {w : World} {b : Option Addr} {l : List Int} (h : IntIn w b l) {i : Nat} {x : Int} (hi : l[i]? = some x) : ∃ B off, b = some ⟨B, off, none⟩ ∧ B < w.heap.size ∧ w.cell? ⟨B, off + i, none⟩ = some (.int .i64 x) := by
  rcases h with h | ⟨B, off, hb, hl, hc⟩
  · rw [List.map_eq_nil_iff.1 h] at hi; cases hi
  · refine ⟨B, off, hb, hl, ?_⟩
    have := hc i [.int .i64 x] (by rw [List.getElem?_map, hi]; rfl) 0 _ rfl
    simpa using this
/-- a crash under way -/
structure CrW (wN wr : World) (d m : Nat) (B : List Nat) (L : Fs) : Prop where
  ex : ∃ M, DiskR wr d m M (fsum L) false 0 false ∧ (∀ n, flOf M n = mget L n) ∧ ∀ b ∈ dblocks d m M, b ∈ B ∨ wN.heap.size ≤ b
  fr : Fr (fun b => b ∈ B) wN wr
theorem by_cut {w : World} {b : Option Addr} {s : ByteArray} (h : ByIn w b s) (n : Nat) : ByIn w b (cutB s n) := by
  unfold ByIn at *
  have e : (cutB s n).data.toList = s.data.toList.take n := by simp [cutB]
  rw [e]
  rcases h with h | ⟨B, off, hb, hl, hc⟩
  · left; rw [List.map_eq_nil_iff.1 h]; simp
  · refine .inr ⟨B, off, hb, hl, fun i c hi => ?_⟩
    rw [List.map_take, List.getElem?_take] at hi
    split at hi
    · exact hc i c hi
    · cases hi
theorem DiskR.gone {w : World} {d m : Nat} {M : FM} {used : Int} {lit : Bool} {fuse : Int} {down : Bool} (h : DiskR w d m M used lit fuse down) {n : ByteArray} {q : Nat} {v : Value} {g : Fl} (hg : mget M n = some (q, v, g)) : q ∉ dblocks d m (mdel M n) := by
  obtain ⟨M1, M2, e1, _, e3⟩ := split_get hg
  have nd := h.nd
  rw [e1] at nd
  have hB : dblocks d m (M1 ++ (n, (q, v, g)) :: M2) = (d :: m :: M1.flatMap fblocks) ++ (q :: (v.ownBlock.toList ++ M2.flatMap fblocks)) := by simp [dblocks, fblocks]
  rw [hB, List.nodup_append] at nd
  have hB2 : dblocks d m (M1 ++ M2) = (d :: m :: M1.flatMap fblocks) ++ M2.flatMap fblocks := by simp [dblocks]
  rw [e3, hB2]
  intro hc
  rcases List.mem_append.1 hc with hc | hc
  · exact nd.2.2 q hc q (by simp) rfl
  · exact (List.nodup_cons.1 nd.2.1).1 (by simp [hc])
section
variable {wN wr wc w8 w12 : World} {d m : Nat} {B : List Nat} {Mi : FM} {P P' : Fs} {s0 sm2 : Nat} {n : ByteArray} {q : Nat} {v u : Value} {g g' : Fl}
theorem cr_fr (hsi : ∀ b ∈ dblocks d m Mi, b ∈ B ∨ wN.heap.size ≤ b) (hfi : Fr (fun b => b ∈ B) wN wr) (bX : Below wr.heap.size wr wc) (hf8 : Fr (fun b => b = d) wc w8) (hdB : d ∈ B) (hgq : mget Mi n = some (q, v, g)) (hf : Fr (fun b => b = q ∨ v.ownBlock = some b) w8 w12) : Fr (fun b => b ∈ B) wN w12 ∧ wN.heap.size ≤ w8.heap.size := by
  have a1 := (hfi.bel bX).trans hf8 (fun b _ e => e ▸ hdB)
  refine ⟨a1.trans hf (fun b hb e => ?_), a1.size⟩
  have hin : b ∈ dblocks d m Mi := by
    rcases e with rfl | e
    · exact (mem_fblocks (d := d) (m := m) (mem_of_get hgq)).1
    · exact (mem_fblocks (d := d) (m := m) (mem_of_get hgq)).2 b e
  rcases hsi b hin with h | h
  · exact h
  · omega
theorem cr_keep (hgi : ∀ k, flOf Mi k = mget P k) (hsi : ∀ b ∈ dblocks d m Mi, b ∈ B ∨ wN.heap.size ≤ b) (hfi : Fr (fun b => b ∈ B) wN wr) (bX : Below wr.heap.size wr wc) (hf8 : Fr (fun b => b = d) wc w8) (h8 : DiskR w8 d m Mi sm2 false 0 false) (hdB : d ∈ B)
    (hgq : mget Mi n = some (q, v, g)) (hf : Fr (fun b => b = q ∨ v.ownBlock = some b) w8 w12) (hr : FileR w12 q u g') (hus : ∃ b, u.ownBlock = some b ∧ w8.heap.size ≤ b) (hs : fsum P' = sm2) (hP : ∀ k, mget P' k = if n = k then some g' else mget P k) : CrW wN w12 d m B P' := by
  obtain ⟨a1, a2⟩ := cr_fr hsi hfi bX hf8 hdB hgq hf
  have hset := h8.set hgq hf hr (.inr hus)
  refine ⟨⟨_, by rw [hs]; exact hset.1, fun k => ?_, fun b hb => ?_⟩, a1⟩
  · unfold flOf
    rw [get_put, hP]
    by_cases e : n = k
    · rw [if_pos e, if_pos e]; rfl
    · rw [if_neg e, if_neg e, ← hgi]; rfl
  · rcases hset.2 b hb with h | h
    · exact hsi b h
    · exact .inr (by omega)
theorem cr_gone {w13 w14 : World} (hgi : ∀ k, flOf Mi k = mget P k) (hsi : ∀ b ∈ dblocks d m Mi, b ∈ B ∨ wN.heap.size ≤ b) (hfi : Fr (fun b => b ∈ B) wN wr) (bX : Below wr.heap.size wr wc) (hf8 : Fr (fun b => b = d) wc w8) (h8 : DiskR w8 d m Mi sm2 false 0 false) (hdB : d ∈ B) (hmB : m ∈ B)
    (hgq : mget Mi n = some (q, v, g)) (hf : Fr (fun b => b = q ∨ v.ownBlock = some b) w8 w12) (hr : FileR w12 q u g') (hus : ∃ b, u.ownBlock = some b ∧ w8.heap.size ≤ b)
    (m13 : Mp encS okS w13 m (mdel (ptrM (mput Mi n (q, u, g'))) n)) (f13 : Fr (fun b => b = m) w12 w13) (f14 : Fr (fun b => b = q) w13 w14) (hs : fsum P' = sm2) (hP : ∀ k, mget P' k = if n = k then none else mget P k) : CrW wN w14 d m B P' := by
  obtain ⟨a1, a2⟩ := cr_fr hsi hfi bX hf8 hdB hgq hf
  have hset := h8.set hgq hf hr (.inr hus)
  have hdel := hset.1.del m13 f13
  have hgo := hset.1.gone (n := n) (q := q) (v := u) (g := g') (by rw [get_put, if_pos rfl])
  have hq := hsi q (mem_fblocks (d := d) (m := m) (mem_of_get hgq)).1
  refine ⟨⟨_, by rw [hs]; exact hdel.1.fr f14 (fun b hb e => hgo (e ▸ hb)), fun k => ?_, fun b hb => ?_⟩, (a1.trans f13 (fun b _ e => e ▸ hmB)).trans f14 (fun b hb e => ?_)⟩
  · unfold flOf
    rw [get_del (nodup_put h8.keys n _), get_put, hP]
    by_cases e : n = k
    · rw [if_pos e, if_pos e]; rfl
    · rw [if_neg e, if_neg e, if_neg e, ← hgi]; rfl
  · rcases hset.2 b (hdel.2 b hb) with h | h
    · exact hsi b h
    · exact .inr (by omega)
  · subst e
    rcases hq with h | h
    · exact h
    · omega
end
set_option maxRecDepth 100000 in
set_option maxHeartbeats 8000000 in
theorem crash_at {w : World} {d : Nat} {B : List Nat} {X : Dk} (h : DiskAt w d B X) (keep : List Int) (hk : ∀ x ∈ keep, I64 x) (hkl : keep.length ≤ 1000) (kb : Option Addr) (kc : Nat) (hin : IntIn w kb keep) (hkb : keep = [] ∨ ∀ k o, kb = some ⟨k, o, none⟩ → k ∉ B) :
    Calls Try.prog 16 #[.pointer (some ⟨d, 0, none⟩), .slice kb keep.length kc] w fun e w' => e = .returned (.tuple #[]) ∧ DkPost w d B (crashD X keep) w' := by
  obtain ⟨ok, m, M, rfl, h, hget⟩ := h
  obtain ⟨i0, hi0T, hz0, hz1, hz2⟩ := info_parts infoByte
  obtain ⟨c0, c1, c2, c3, c4⟩ := h.cells
  have f2 := h.bk.free 2
  have f3 := h.bk.free 3
  have f4 := h.bk.free 4
  have hltd := h.bk.lt
  have hdB : d ∈ dblocks d m M := by simp [dblocks]
  have hmB : m ∈ dblocks d m M := by simp [dblocks]
  have hbk : Bk (((w.setCell ⟨d, 2, none⟩ (.bool false)).setCell ⟨d, 3, none⟩ (.int .i64 0)).setCell ⟨d, 4, none⟩ (.bool false)) d [.map (some m), .int .i64 (fsum X.L), .bool false, .int .i64 0, .bool false] 62 := ((h.bk.set 2 (.bool false)).set 3 (.int .i64 0)).set 4 (.bool false)
  have hfr : Fr (fun b => b = d) w (((w.setCell ⟨d, 2, none⟩ (.bool false)).setCell ⟨d, 3, none⟩ (.int .i64 0)).setCell ⟨d, 4, none⟩ (.bool false)) := (((Fr.refl (fun b => b = d) w).setCell d 2 _ (.inr rfl)).setCell d 3 _ (.inr rfl)).setCell d 4 _ (.inr rfl)
  have h0 := h.own hbk hfr
  have hlm := len_same h.keys ok.rise hget
  have HNM := Lib.hid (names_any h0 (by have := ok.len; omega) (fnames X.L) ok.rise (keys_same h.keys ok.rise hget))
  have HLT := Lib.hid h.lt
  have H0 := Lib.hid h0
  have HFR := Lib.hid hfr
  have HOK := Lib.hid ok
  have HGET := Lib.hid hget
  have HIN : Hid (IntIn (((w.setCell ⟨d, 2, none⟩ (.bool false)).setCell ⟨d, 3, none⟩ (.int .i64 0)).setCell ⟨d, 4, none⟩ (.bool false)) kb keep) := Lib.hid (by
    rcases hkb with hkb | hkb
    · left; rw [hkb]; rfl
    · exact InW.fr hin hfr (fun k o hk e => hkb k o hk (e ▸ hdB)))
  have HKB := Lib.hid hkb
  have HK := Lib.hid hk
  clear h h0 hbk hfr hget ok hin hkb hk hlm
  obtain ⟨kn, hkn⟩ : ∃ kn, keep.length = kn := ⟨_, rfl⟩
  rw [hkn] at hkl ⊢
  have HKN := Lib.hid hkn
  clear hkn
  go_enter Try.func16, Try.ntmps16
  go_wp2_with fail
  generalize hw0 : ((w.setCell ⟨d, 2, none⟩ (.bool false)).setCell ⟨d, 3, none⟩ (.int .i64 0)).setCell ⟨d, 4, none⟩ (.bool false) = w0 at *
  refine HNM.out.mono ?_
  rintro e wN ⟨v, rfl, hmk⟩
  obtain ⟨nb, nc, hv, hnc, hnm, hst⟩ := hmk.tx.strs
  subst hv
  have HNW := Lib.hid hmk.nw
  have HBL := Lib.hid hmk.bl
  have HST := Lib.hid hst
  have hl : (fnames X.L).length = X.L.length := by simp [fnames]
  have hln := HOK.out.len
  obtain ⟨ln, hlne⟩ : ∃ ln, X.L.length = ln := ⟨_, rfl⟩
  rw [hl, hlne] at hnc ⊢
  rw [hlne] at hln
  have HLN := Lib.hid hlne
  have HC0 : Hid (CrW wN wN d m (dblocks d m M) (crashP keep X.L 0)) := Lib.hid ⟨⟨M, by rw [crashP_zero]; exact H0.out.bel hmk.bl, by rw [crashP_zero]; exact HGET.out, fun b hb => .inl hb⟩, Fr.refl _ _⟩
  clear hmk hst hl hlne hw0 c0 c1 c2 c3 c4 f2 f3 f4 HNM
  go_wp2_with fail
  go_loopw [20] (fun c wr => ∃ i : Nat, i ≤ ln ∧ c = .int .i64 i ∧ CrW wN wr d m (dblocks d m M) (crashP keep X.L i)) (fun c _ => ln - (intOf c).toNat)
  case atStart => exact ⟨0, by omega, rfl, HC0.out⟩
  case round =>
    obtain ⟨i, hi, rfl, hcr⟩ := hrel
    have HCR := Lib.hid hcr
    clear hcr
    by_cases hlt : i < ln
    · obtain ⟨p, hp⟩ : ∃ p, X.L[i]? = some p := ⟨X.L[i]'(by rw [HLN.out]; exact hlt), List.getElem?_eq_getElem _⟩
      obtain ⟨⟨Mi, k1, k2, k3⟩, k4⟩ := HCR.out
      have hpm := List.mem_of_getElem? hp
      have hla := HOK.out.last p hpm
      have hnm1 := HOK.out.name p hpm
      have hgs : p.2.s.size ≤ 4194304 := by
        have h1 := fsum_at HOK.out.rise.nodup p.1
        have h2 : sizeAt X.L p.1 = p.2.s.size := by unfold sizeAt; rw [get_of_mem HOK.out.rise.nodup (a := p.1) (v := p.2) hpm]
        have := HOK.out.sum
        omega
      have hns : p.1.size ≤ 64 := by unfold nameD at hnm1; simp at hnm1; exact hnm1.2
      have hfl : flOf Mi p.1 = some p.2 := by rw [k2, crashP_get HOK.out.rise hp]
      obtain ⟨⟨q, v, g⟩, hgq, hgg⟩ := Option.map_eq_some_iff.1 hfl
      have hgg' : g = p.2 := hgg
      subst hgg'
      have hfm : FileR wr q v p.2 := k1.fl _ (mem_of_get hgq)
      obtain ⟨vb, vc, hvv, hvc, hvm, hvin, hvo⟩ := row_of_by hfm.row
      subst hvv
      have HAP := Lib.hid (k1.apart hgq)
      have r0 : wr.cell? ⟨q, 0, none⟩ = some (.slice vb p.2.s.size vc) := hfm.bk.cell 0
      have r1 : wr.cell? ⟨q, 1, none⟩ = some (.int .i64 p.2.lasts) := hfm.bk.cell 1
      have r2 : wr.cell? ⟨q, 2, none⟩ = some (.bool p.2.stays) := hfm.bk.cell 2
      have hqlt := hfm.bk.lt
      have hdlt := k1.bk.lt
      have e0 : wr.cell? ⟨d, 0, none⟩ = some (.map (some m)) := k1.bk.cell 0
      have e1 : wr.cell? ⟨d, 1, none⟩ = some (.int .i64 (fsum (crashP keep X.L i))) := k1.bk.cell 1
      have e1f := k1.bk.free 1
      have hlk := k1.look1 p.1 (by omega)
      rw [hgq] at hlk
      have hlk' : (Instr.lookup 60 (.map (some m)) (.string p.1) false).run Try.prog wr = .ok (.pointer (some ⟨q, 0, none⟩)) wr := hlk
      obtain ⟨NB, noff, hnb, hNB, hnc0⟩ := HST.out.at (i := i) (s := p.1) (by unfold fnames; rw [List.getElem?_map, hp]; rfl)
      subst hnb
      have hNBn : NB ∉ dblocks d m M := fun c => by
        have h1 := HLT.out NB c
        have h2 := HNW.out NB rfl
        have h3 := HFR.out.size
        omega
      have n0 : wr.cell? ⟨NB, noff + i, none⟩ = some (.string p.1) := (k4.cell hNB hNBn).trans hnc0
      have hi0 : (0 : Int) ≤ (i : Int) := by omega
      have hi1 : (i : Int) < (ln : Int) := by omega
      have HKEEP : Hid (∀ (x : Int), keep[i]? = some x → ∃ KB ko, kb = some ⟨KB, ko, none⟩ ∧ wr.cell? ⟨KB, ko + i, none⟩ = some (.int .i64 x)) := Lib.hid (fun x hx => by
        obtain ⟨KB, ko, h1, h2, h3⟩ := HIN.out.at hx
        have h4 := HKB.out.resolve_left (fun e => by rw [e] at hx; cases hx) KB ko h1
        refine ⟨KB, ko, h1, ?_⟩
        rw [k4.cell (Nat.lt_of_lt_of_le h2 HBL.out.size) h4]
        exact (HBL.out.cell (p := ⟨KB, ko + i, none⟩) h2).trans h3)
      obtain ⟨K, hK⟩ : ∃ K, keepN p.2 keep i = K := ⟨_, rfl⟩
      have hKle : K ≤ p.2.s.size - p.2.lasts := hK ▸ keepN_le _ _ _
      have q1 : IntKind.i64.wrap ((p.2.s.size : Int) - (p.2.lasts : Int)) = p.2.s.size - p.2.lasts := IntWalk.i64_in _ (by omega)
      have HMI := Lib.hid k1
      have HGI := Lib.hid k2
      have HSI := Lib.hid k3
      have HFI := Lib.hid k4
      have HGQ := Lib.hid hgq
      have HVIN := Lib.hid hvin
      have HVO := Lib.hid hvo
      have HP := Lib.hid hp
      have HKK := Lib.hid hK
      have HFM := Lib.hid hfm
      clear k1 k2 k3 k4 hgq hvin hvo hp hK hfm hfl hgg hlk hnc0 hpm hnm1
      go_upto_if 34 with fail
      go_cut [7, 20] (fun s7 s20 wx => s7 = .int .i64 K ∧ s20 = .int .i64 i ∧ Below wr.heap.size wr wx)
      case first =>
        by_cases hik : i < kn
        · obtain ⟨x, hx⟩ : ∃ x, keep[i]? = some x := ⟨keep[i]'(by rw [HKN.out]; exact hik), List.getElem?_eq_getElem _⟩
          obtain ⟨KB, ko, rfl, kc0⟩ := HKEEP.out x hx
          have hx64 := HK.out x (List.mem_of_getElem? hx)
          unfold I64 at hx64
          have hik1 : (i : Int) < (kn : Int) := by omega
          have hKe : min (max x 0) ((p.2.s.size : Int) - (p.2.lasts : Int)) = (K : Int) := by
            rw [← HKK.out]; unfold keepN; rw [hx]; simp only [Option.getD_some]; omega
          clear hx
          go_wp2_with fail
          go_region
          go_wp2_with fail
          go_meet
          exact ⟨rfl, rfl, (Below.refl _ _).drew⟩
        · have hK0 : K = 0 := by
            rw [← HKK.out]; unfold keepN
            rw [List.getElem?_eq_none (by have := HKN.out; omega)]; simp
          subst hK0
          have hik1 : ¬ (i : Int) < (kn : Int) := by omega
          go_wp2_with fail
          go_meet
          exact ⟨rfl, rfl, Below.refl _ _⟩
      case rest =>
        obtain ⟨rfl, rfl, bX⟩ := hcut
        clear r0 r1 r2 e0 e1 e1f n0 hlk' hqlt hdlt
        have h1 := HMI.out.bel bX
        have hf1 : FileR wc q (.slice vb p.2.s.size vc) p.2 := h1.fl _ (mem_of_get HGQ.out)
        have r0 : wc.cell? ⟨q, 0, none⟩ = some (.slice vb p.2.s.size vc) := hf1.bk.cell 0
        have r1 : wc.cell? ⟨q, 1, none⟩ = some (.int .i64 p.2.lasts) := hf1.bk.cell 1
        have hqlt := hf1.bk.lt
        have hdlt := h1.bk.lt
        have e1 : wc.cell? ⟨d, 1, none⟩ = some (.int .i64 (fsum (crashP keep X.L i))) := h1.bk.cell 1
        have e1f := h1.bk.free 1
        obtain ⟨sm, hsm⟩ : ∃ sm, fsum (crashP keep X.L i) = sm := ⟨_, rfl⟩
        obtain ⟨sm2, hsm2⟩ : ∃ sm2, fsum (crashP keep X.L (i + 1)) = sm2 := ⟨_, rfl⟩
        have hsum := crashP_sum HP.out hla keep
        have hsle := crashP_le HOK.out.last keep i
        rw [HKK.out, hsm, hsm2] at hsum
        rw [hsm] at e1 h1 hsle
        have hstop := HOK.out.sum
        have q2 : IntKind.i64.wrap ((p.2.s.size : Int) - (p.2.lasts : Int) - (K : Int)) = p.2.s.size - p.2.lasts - K := IntWalk.i64_in _ (by omega)
        have q3 : IntKind.i64.wrap ((sm : Int) - ((p.2.s.size : Int) - (p.2.lasts : Int) - (K : Int))) = sm2 := by
          have : (sm : Int) - ((p.2.s.size : Int) - (p.2.lasts : Int) - (K : Int)) = sm2 := by omega
          rw [this]; exact IntWalk.i64_in _ (by omega)
        have hown := (h1.own (w' := wc.setCell ⟨d, 1, none⟩ (.int .i64 sm2)) (h1.bk.set 1 (.int .i64 sm2)) ((Fr.refl (fun b => b = d) _).setCell d 1 _ (.inr rfl))).bel (Below.refl _ _).drew
        have hf8 : Fr (fun b => b = d) wc (wc.setCell ⟨d, 1, none⟩ (.int .i64 sm2)).drew := ((Fr.refl (fun b => b = d) wc).setCell d 1 _ (.inr rfl)).drew
        have H8 := Lib.hid hown
        have HF8 := Lib.hid hf8
        have HSM2 := Lib.hid hsm2
        clear h1 hf1 hown hf8 hsm hsm2
        go_upto_region 9 with go_region
        generalize hw8 : (wc.setCell ⟨d, 1, none⟩ (.int .i64 sm2)).drew = w8 at *
        clear r0 r1 hqlt hdlt e1 e1f hw8
        have hf8 : FileR w8 q (.slice vb p.2.s.size vc) p.2 := H8.out.fl _ (mem_of_get HGQ.out)
        have r0 : w8.cell? ⟨q, 0, none⟩ = some (.slice vb p.2.s.size vc) := hf8.bk.cell 0
        have r1 : w8.cell? ⟨q, 1, none⟩ = some (.int .i64 p.2.lasts) := hf8.bk.cell 1
        have hq8 := hf8.bk.lt
        have q4 : IntKind.i64.wrap ((p.2.lasts : Int) + (K : Int)) = p.2.lasts + K := IntWalk.i64_in _ (by omega)
        have hsl : ∀ W, (Instr.slice 28 (.slice vb p.2.s.size vc) none (some (.int .i64 ((p.2.lasts : Int) + (K : Int)))) none).run Try.prog W = .ok (.slice vb (p.2.lasts + K) vc) W := fun W => by
          have := run_slice_to (P := Try.prog) W 28 5 vb p.2.s.size vc (p.2.lasts + K) 1 Try.underlying28 ⟨i0, hi0T, hz1⟩ (by omega)
          rw [← this]; simp
        obtain ⟨_, _, hve, _, _, hvin8, _⟩ := row_of_by hf8.row
        cases hve
        have hcs := by_cut hvin8 (p.2.lasts + K)
        have hcl := size_cut p.2.s (p.2.lasts + K) (by omega)
        obtain ⟨cs, hcse⟩ : ∃ cs, cutB p.2.s (p.2.lasts + K) = cs := ⟨_, rfl⟩
        rw [hcse] at hcs hcl
        have HCSE := Lib.hid hcse
        have hb9 := ((Below.refl w8.heap.size w8).alloc (Nat.le_refl _) (.cells #[] 5)).drew
        have HROW : Hid ((w8.alloc (.cells #[] 5)).drew.ownsRow 0 5 1 (.slice (some ⟨w8.heap.size, 0, none⟩) 0 0) ([] : List UInt8).length (([] : List UInt8).map byV)) := Lib.hid ((Fr.of_bel (S := none') (Below.refl _ _).drew).row (by_empty w8) (fun _ _ => id))
        have HIN8 : Hid (ByIn (w8.alloc (.cells #[] 5)).drew vb cs) := Lib.hid (InW.fr hcs (Fr.of_bel (S := none') hb9) (fun _ _ _ => id))
        have HN2 : Hid (p.2.lasts + K = cs.data.toList.length) := Lib.hid (by rw [len_data]; exact hcl.symm)
        have HLN2 : Hid (([] : List UInt8).length + cs.data.toList.length ≤ 100000000) := Lib.hid (by rw [len_data]; simp; omega)
        have HB9 := Lib.hid hb9
        have HCL := Lib.hid hcl
        clear hf8 hcs hcse hvin8 hb9 hcl
        go_cut [20] (fun s20 wx => s20 = .int .i64 i ∧ ∃ w9 ub uc, ByMk w8 w9 (.slice ub cs.size uc) cs ∧ (∃ b, (Value.slice ub cs.size uc).ownBlock = some b ∧ w8.heap.size ≤ b) ∧ wx = w9.setCell ⟨q, 0, none⟩ (.slice ub cs.size uc))
        case first =>
          go_region_law (first
            | (refine step_append_big byV byOne (by rfl) _ _ _ (by rfl) 5 i0 _ 1 Try.underlying28 hi0T hz0 hz1 hz2 rfl (by decide) (.slice (some ⟨w8.heap.size, 0, none⟩) 0 0) ([] : List UInt8) cs.data.toList (by rfl) HROW.out vb (p.2.lasts + K) vc (by rfl) HN2.out HIN8.out HLN2.out ?_
               intro u w9 o9 f9 e9
               have hM := by_made HB9.out (Nat.le_refl _) o9 f9 e9
               have hus := by_some (by simp) e9
               obtain ⟨ub, uc, huu⟩ := row_shape hM.tx
               subst huu
               have h9 := H8.out.bel hM.bl
               have hfr9 : FileR w9 q (.slice vb p.2.s.size vc) p.2 := h9.fl _ (mem_of_get HGQ.out)
               have p0 : w9.cell? ⟨q, 0, none⟩ = some (.slice vb p.2.s.size vc) := hfr9.bk.cell 0
               have p0f := hfr9.bk.free 0
               have hq9 := hfr9.bk.lt
               have HM9 := Lib.hid hM
               have HUS := Lib.hid hus
               clear o9 f9 e9 hM hus h9 hfr9)
            | fail)
          all_goals
            go_wp2_with fail
            go_meet
            exact ⟨rfl, _, _, _, HM9.out, HUS.out, rfl⟩
        case rest =>
          obtain ⟨rfl, w9, ub, uc, hM, hus, rfl⟩ := hcut
          have h9 := H8.out.bel hM.bl
          have hf9 : FileR w9 q (.slice vb p.2.s.size vc) p.2 := h9.fl _ (mem_of_get HGQ.out)
          have hb10 : Bk (w9.setCell ⟨q, 0, none⟩ (.slice ub cs.size uc)) q [.slice ub cs.size uc, .int .i64 p.2.lasts, .bool p.2.stays] 67 := hf9.bk.set 0 (.slice ub cs.size uc)
          have hf10 : Fr (fun b => b = q) w9 (w9.setCell ⟨q, 0, none⟩ (.slice ub cs.size uc)) := (Fr.refl (fun b => b = q) w9).setCell q 0 _ (.inr rfl)
          have h10d : Bk (w9.setCell ⟨q, 0, none⟩ (.slice ub cs.size uc)) d [.map (some m), .int .i64 sm2, .bool false, .int .i64 0, .bool false] 62 := h9.bk.fr hf10 (fun e => HAP.out.2.1 e.symm)
          have hq8' := H8.out.bk.lt
          have hnq : ∀ b, (Value.slice ub cs.size uc).ownBlock = some b → ¬ b = q := fun b hb e => by have := hM.nw b hb; omega
          have ho10 := hf10.row hM.tx hnq
          have hf810 : Fr (fun b => b = q ∨ (Value.slice vb p.2.s.size vc).ownBlock = some b) w8 (w9.setCell ⟨q, 0, none⟩ (.slice ub cs.size uc)) := (Fr.of_bel (S := fun b => b = q ∨ (Value.slice vb p.2.s.size vc).ownBlock = some b) hM.bl).trans hf10 (fun _ _ e => .inl e)
          have hmp10 := h9.mp.fr hf10 (fun e => HAP.out.2.2.1 e.symm)
          generalize w9.setCell ⟨q, 0, none⟩ (.slice ub cs.size uc) = w10 at *
          have HB10 := Lib.hid hb10
          have HF810 := Lib.hid hf810
          have HO10 := Lib.hid ho10
          have HMP10 := Lib.hid hmp10
          have s0 : w10.cell? ⟨q, 0, none⟩ = some (.slice ub cs.size uc) := hb10.cell 0
          have s1 : w10.cell? ⟨q, 1, none⟩ = some (.int .i64 p.2.lasts) := hb10.cell 1
          have s2 : w10.cell? ⟨q, 2, none⟩ = some (.bool p.2.stays) := hb10.cell 2
          have s1f := hb10.free 1
          have s2f := hb10.free 2
          have hq10 := hb10.lt
          have d0 : w10.cell? ⟨d, 0, none⟩ = some (.map (some m)) := h10d.cell 0
          have hd10 := h10d.lt
          have hqd : ¬ q = d := HAP.out.2.1
          have hdq : ¬ d = q := fun e => hqd e.symm
          have hcsz : cs.size ≤ 5000000 := by have := HCL.out; omega
          clear h9 hf9 hb10 hf10 h10d ho10 hf810 hmp10 r0 r1 hq8 hM
          cases hst : p.2.stays with
          | true =>
            rw [hst] at s2
            have HW : Hid (CrW wN ((w10.setCell ⟨q, 1, none⟩ (.int .i64 cs.size)).setCell ⟨q, 2, none⟩ (.bool true)) d m (dblocks d m M) (crashP keep X.L (i + 1))) := Lib.hid (by
              have hcf : crashF p.2 K = some ⟨cs, cs.size, true⟩ := by
                unfold crashF
                rw [HCSE.out, HCL.out, if_neg (by rw [hst]; simp)]
              have hb12 : Bk ((w10.setCell ⟨q, 1, none⟩ (.int .i64 cs.size)).setCell ⟨q, 2, none⟩ (.bool true)) q [.slice ub cs.size uc, .int .i64 cs.size, .bool true] 67 := (HB10.out.set 1 (.int .i64 cs.size)).set 2 (.bool true)
              have hf12 : Fr (fun b => b = q) w10 ((w10.setCell ⟨q, 1, none⟩ (.int .i64 cs.size)).setCell ⟨q, 2, none⟩ (.bool true)) := ((Fr.refl (fun b => b = q) w10).setCell q 1 _ (.inr rfl)).setCell q 2 _ (.inr rfl)
              exact cr_keep HGI.out HSI.out HFI.out bX HF8.out H8.out hdB HGQ.out (HF810.out.trans hf12 (fun _ _ e => .inl e)) (g' := ⟨cs, cs.size, true⟩) ⟨hb12, hf12.row HO10.out hnq⟩ hus HSM2.out (fun k => by rw [crashP_next HOK.out.rise HP.out, HKK.out, hcf]))
            go_wp2_with fail
            go_roundw
            case rel => exact ⟨i + 1, by omega, by go_num, HW.out⟩
            case measure => simp [intOf]; omega
          | false =>
            rw [hst] at s2
            by_cases hz : cs.size = 0
            · have hz1 : ((cs.size : Int) == 0) = true := by rw [beq_iff_eq]; omega
              have hz2 : (cs.size : Int) = 0 := by omega
              have hb11 : Bk (w10.setCell ⟨q, 1, none⟩ (.int .i64 0)) q [.slice ub cs.size uc, .int .i64 0, .bool p.2.stays] 67 := HB10.out.set 1 (.int .i64 0)
              have hf11 : Fr (fun b => b = q) w10 (w10.setCell ⟨q, 1, none⟩ (.int .i64 0)) := (Fr.refl (fun b => b = q) w10).setCell q 1 _ (.inr rfl)
              have HMP11 := Lib.hid (HMP10.out.fr hf11 (fun e => HAP.out.2.2.1 e.symm))
              have HF811 := Lib.hid (HF810.out.trans hf11 (fun _ _ e => .inl e))
              have HR11 : Hid (FileR (w10.setCell ⟨q, 1, none⟩ (.int .i64 0)) q (.slice ub cs.size uc) ⟨cs, 0, p.2.stays⟩) := Lib.hid ⟨hb11, hf11.row HO10.out hnq⟩
              have hok : okS p.1 := by unfold okS maxLen; omega
              have hcf : crashF p.2 K = none := by
                unfold crashF
                rw [if_pos (by rw [hst]; have := HCL.out; simp; omega)]
              have HCF := Lib.hid hcf
              clear hb11 hf11 hcf
              go_wp2_with (
                (at_delete
                 refine wpList_drop rfl _ _ rfl keyS Try.underlying60 HMP11.out rfl p.1 rfl hok ?_
                 intro w13 m13 f13 z13
                 have hb13 := HR11.out.bk.fr f13 (fun e => HAP.out.2.2.1 e)
                 have t2 : w13.cell? ⟨q, 2, none⟩ = some (.bool p.2.stays) := hb13.cell 2
                 have t2f := hb13.free 2
                 have hq13 := hb13.lt
                 have HM13 := Lib.hid m13
                 have HF13 := Lib.hid f13
                 clear m13 f13 z13 hb13))
              have HW : Hid (CrW wN (w13.setCell ⟨q, 2, none⟩ (.bool true)) d m (dblocks d m M) (crashP keep X.L (i + 1))) := Lib.hid (by
                refine cr_gone HGI.out HSI.out HFI.out bX HF8.out H8.out hdB hmB HGQ.out HF811.out HR11.out hus ?_ HF13.out ((Fr.refl (fun b => b = q) w13).setCell q 2 _ (.inr rfl)) HSM2.out (fun k => by rw [crashP_next HOK.out.rise HP.out, HKK.out, HCF.out])
                have e3 : ptrM (mput Mi p.1 (q, .slice ub cs.size uc, ⟨cs, 0, p.2.stays⟩)) = ptrM Mi := by
                  obtain ⟨M1, M2, e1, e2, _⟩ := split_get HGQ.out
                  rw [e2]; conv => rhs; rw [e1]
                  simp [ptrM]
                rw [e3]; exact HM13.out)
              go_roundw
              case rel => exact ⟨i + 1, by omega, by go_num, HW.out⟩
              case measure => simp [intOf]; omega
            · have hz1 : ((cs.size : Int) == 0) = false := by rw [beq_eq_false_iff_ne]; omega
              have hz2 : ¬ (cs.size : Int) = 0 := by omega
              have HW : Hid (CrW wN ((w10.setCell ⟨q, 1, none⟩ (.int .i64 cs.size)).setCell ⟨q, 2, none⟩ (.bool true)) d m (dblocks d m M) (crashP keep X.L (i + 1))) := Lib.hid (by
                have hcf : crashF p.2 K = some ⟨cs, cs.size, true⟩ := by
                  unfold crashF
                  rw [HCSE.out, HCL.out, if_neg (by rw [hst]; have := HCL.out; simp; omega)]
                have hb12 : Bk ((w10.setCell ⟨q, 1, none⟩ (.int .i64 cs.size)).setCell ⟨q, 2, none⟩ (.bool true)) q [.slice ub cs.size uc, .int .i64 cs.size, .bool true] 67 := (HB10.out.set 1 (.int .i64 cs.size)).set 2 (.bool true)
                have hf12 : Fr (fun b => b = q) w10 ((w10.setCell ⟨q, 1, none⟩ (.int .i64 cs.size)).setCell ⟨q, 2, none⟩ (.bool true)) := ((Fr.refl (fun b => b = q) w10).setCell q 1 _ (.inr rfl)).setCell q 2 _ (.inr rfl)
                exact cr_keep HGI.out HSI.out HFI.out bX HF8.out H8.out hdB HGQ.out (HF810.out.trans hf12 (fun _ _ e => .inl e)) (g' := ⟨cs, cs.size, true⟩) ⟨hb12, hf12.row HO10.out hnq⟩ hus HSM2.out (fun k => by rw [crashP_next HOK.out.rise HP.out, HKK.out, hcf]))
              go_wp2_with fail
              go_roundw
              case rel => exact ⟨i + 1, by omega, by go_num, HW.out⟩
              case measure => simp [intOf]; omega
    · obtain rfl : i = ln := by omega
      go_wp2_with fail
      go_end0
      refine ⟨rfl, ?_⟩
      obtain ⟨⟨M2, k1, k2, k3⟩, k4⟩ := HCR.out
      rw [← HLN.out, crashP_end] at k1 k2
      have a1 : Fr (fun b => b ∈ dblocks d m M) w wN := (HFR.out.mono (T := fun b => b ∈ dblocks d m M) (fun b _ e => e ▸ hdB)).bel HBL.out
      refine ⟨_, ⟨crashD_ok HOK.out keep, m, M2, rfl, k1, k2⟩, a1.trans k4 (fun _ _ e => e), fun b hb => ?_⟩
      rcases k3 b hb with h | h
      · exact .inl h
      · exact .inr (Nat.le_trans a1.size h)
end Go.Proofs.Ytemfnchiedepoaa

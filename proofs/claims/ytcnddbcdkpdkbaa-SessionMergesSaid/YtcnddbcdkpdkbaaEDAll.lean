/- The document's All. -/
import Derived.Test.YtcnddbcdkpdkbaaEDKind
namespace Go.Proofs.Ytcnddbcdkpdkbaa
open Go.RowKit Go.MapKept Go.Maps Go.ChangeShapes Go.WideShapes
set_option linter.unusedVariables false
set_option linter.unusedSimpArgs false
theorem infoRSesD : (Try.prog.info? 49).map (fun i => (i.zero, i.size, i.bytes)) = some (some (.agg #[.string ⟨#[]⟩, .int .i64 0, .int .i64 0, .slice none 0 0]), 4, 56) := by kernel_rfl
def uptoD (L : List Tri) (now : Int) : List Tri := L.filter fun a => decide (a.2.1 ≤ now)
theorem uptoD_snoc {L : List Tri} {i : Nat} {a : Tri} (now : Int) (h : L[i]? = some a) : uptoD (L.take (i + 1)) now = uptoD (L.take i) now ++ if a.2.1 ≤ now then [a] else [] := by
  unfold uptoD
  rw [List.take_add_one, h]
  simp [List.filter_append, List.filter_cons]
theorem dall_skip {gap now : Int} {L : List Tri} {i : Nat} {a : Tri} {S : List Se} (h : L[i]? = some a) (hS : S = allS gap (uptoD (L.take i) now)) (ha : now < a.2.1) : S = allS gap (uptoD (L.take (i + 1)) now) := by
  rw [uptoD_snoc now h, if_neg (by omega), List.append_nil]; exact hS
theorem dall_step {gap now : Int} {L : List Tri} {i : Nat} {a : Tri} {S : List Se} (h : L[i]? = some a) (hS : S = allS gap (uptoD (L.take i) now)) (ha : ¬ now < a.2.1) : stepS gap S a = allS gap (uptoD (L.take (i + 1)) now) := by
  rw [uptoD_snoc now h, if_pos (by omega), all_snoc, hS]
/-- what All has in hand -/
structure DlW (w wr : World) (p : Nat) (gap : Int) (vb : Option Addr) (n vc : Nat) (L : List Tri) : Prop where
  dc : Bk wr p [.int .i64 gap, .slice vb n vc] 62
  rw : InW wr vb 3 (L.map aC)
theorem all_rng2 {gap : Int} {L : List Tri} (h : SOk L) (now : Int) : ∀ z ∈ allS gap (uptoD L now), 0 ≤ z.t ∧ z.t ≤ 1099511627776 := fun z hz => (all_rng (fun t => 0 ≤ t ∧ t ≤ 1099511627776) (fun b hb => by
  obtain ⟨-, -, -, -, h5, h6⟩ := (okT_iff b).1 (h.ok b (List.mem_filter.1 hb).1)
  exact ⟨h5, h6⟩) z hz).2
theorem run_its (gap : Int) : ∀ (L : List Tri) (x z : Se), z ∈ runS gap x L → z.its.length ≤ x.its.length + L.length
  | [], x, z, h => by
    simp [runS] at h
    subst h; simp
  | a :: L, x, z, h => by
    unfold runS at h
    split at h
    · have h1 := run_its gap L (extS x a) z h
      have h2 := putB_len x.its a.2.2
      simp only [extS] at h1
      rw [List.length_cons]; omega
    · rcases List.mem_cons.1 h with rfl | h
      · omega
      · have h1 := run_its gap L (newS a) z h
        simp only [newS, List.length_cons, List.length_nil] at h1
        rw [List.length_cons]; omega
theorem all_its (gap : Int) (L : List Tri) {z : Se} (h : z ∈ allS gap L) : z.its.length ≤ L.length := by
  cases L with
  | nil => simp [allS] at h
  | cons a L =>
    rw [all_cons] at h
    have h1 := run_its gap L (newS a) z h
    simp only [newS, List.length_cons, List.length_nil] at h1
    rw [List.length_cons]; omega
theorem step_nil (gap : Int) (a : Tri) : stepS gap [] a = [newS a] := rfl
set_option maxRecDepth 20000 in
set_option maxHeartbeats 8000000 in
theorem dall_any {w : World} {p : Nat} {B : List Nat} {gap : Int} {L : List Tri} (h : DocAt w p B gap L) (now : Int) (hnow : I64 now) :
    Calls Try.prog 22 #[.pointer (some ⟨p, 0, none⟩), .int .i64 now] w fun e w' => ∃ (b : Option Addr) (c : Nat) (svs : List SV), e = .returned (.slice b svs.length c) ∧ svs.length ≤ c ∧ c ≤ maxLen ∧ SvIn w' b svs ∧ svs.map seOf = allS gap (uptoD L now) ∧ Below w.heap.size w w' := by
  obtain ⟨v, hd, hrow, rfl, hne⟩ := h.ex
  obtain ⟨vb, vc, rfl, hlc, hmc, hin, _⟩ := inw_of_rowm aLen (by omega) hrow
  obtain ⟨i0, hi0T, hz0, hz1, hz2⟩ := info_parts infoRSesD
  have HDC : Hid (∀ W, Below w.heap.size w W → W.cell? ⟨p, 0, none⟩ = some (.int .i64 gap) ∧ W.cell? ⟨p, 1, none⟩ = some (.slice vb L.length vc) ∧ InW W vb 3 (L.map aC)) := Lib.hid (fun W hW => ⟨(hd.bel hW).cell 0, (hd.bel hW).cell 1, hin.bel hW⟩)
  have HO := Lib.hid (OutR.nil w 49)
  have HD := Lib.hid h.ok
  have hg := h.g
  have hnn := h.n
  obtain ⟨n, hln⟩ : ∃ n, L.length = n := ⟨_, rfl⟩
  have Hn := Lib.hid hln
  rw [hln] at HDC hnn hlc
  have HLE : Hid (∀ i S, S = allS gap (uptoD (L.take i) now) → S.length ≤ 100000) := Lib.hid (fun i S hS => by
    rw [hS]
    have h1 := all_le gap (uptoD (L.take i) now)
    have h2 : (uptoD (L.take i) now).length ≤ (L.take i).length := List.length_filter_le _ _
    rw [List.length_take] at h2
    have := Hn.out
    omega)
  have HRG : Hid (∀ i z, z ∈ allS gap (uptoD (L.take i) now) → 0 ≤ z.t ∧ z.t ≤ 1099511627776) := Lib.hid (fun i z hz => all_rng2 (L := L.take i) ⟨List.Pairwise.sublist (List.take_sublist _ _) HD.out.rise, fun b hb => HD.out.ok b (List.mem_of_mem_take hb)⟩ now z hz)
  have HIT0 : Hid (∀ i z, z ∈ allS gap (uptoD (L.take i) now) → z.its.length ≤ 100000) := Lib.hid (fun i z hz => by
    have h1 := all_its gap _ hz
    have h2 : (uptoD (L.take i) now).length ≤ (L.take i).length := List.length_filter_le _ _
    rw [List.length_take] at h2
    have := Hn.out
    omega)
  clear h hd hrow hin hln hne
  unfold I64 at hnow
  go_enter Try.func22, Try.ntmps22
  go_wp2_with fail
  go_loopw [5, 6, 7, 8] (fun c5 c _ _ wr => ∃ (i : Nat) (u : Value) (svs : List SV), i ≤ n ∧ c = .int .i64 i ∧ c5 = u ∧ Hid (svs.map seOf = allS gap (uptoD (L.take i) now)) ∧ Hid (OutR w wr 49 u svs)) (fun _ c _ _ _ => n - (intOf c).toNat)
  case atStart => exact ⟨0, .slice none 0 0, [], Nat.zero_le _, rfl, rfl, Lib.hid (by simp [uptoD, allS]), HO⟩
  case round =>
    obtain ⟨i, u, svs, hi, rfl, hc5, HS, HR⟩ := hrel
    subst hc5
    clear HO
    by_cases hlt : i < n
    · obtain ⟨a, ha⟩ : ∃ a, L[i]? = some a := ⟨L[i]'(by rw [Hn.out]; exact hlt), List.getElem?_eq_getElem _⟩
      have HA := Lib.hid ha
      have hat := (okT_iff a).1 (HD.out.ok a (List.mem_of_getElem? ha))
      obtain ⟨c0, c1, hin⟩ := HDC.out wr HR.out.bl
      obtain ⟨Bx, ox, rfl, hBx, d0, d1, d2⟩ := aAt hin ha
      have hi0 : (0 : Int) ≤ (i : Int) := by omega
      have hi1 : (i : Int) < (n : Int) := by omega
      obtain ⟨g, hg2⟩ : ∃ g, wr.heap.size = g := ⟨_, rfl⟩
      have HB1 : Hid (Below wr.heap.size wr (wr.alloc (.cells #[.string a.1, .int .i64 a.2.1, .string a.2.2] 31))) := Lib.hid ((Below.refl _ _).alloc (Nat.le_refl _) _)
      have hbk := Bk.new wr [.string a.1, .int .i64 a.2.1, .string a.2.2] 31
      rw [hg2] at hbk
      have HBK := Lib.hid hbk
      have HG2 := Lib.hid hg2
      clear ha hin hbk
      by_cases hnw : now < a.2.1
      · have t1 : decide (now < a.2.1) = true := decide_eq_true hnw
        have HS2 := Lib.hid (dall_skip HA.out HS.out hnw)
        have HR2 := Lib.hid (HR.out.fr HB1.out)
        go_wp2_with fail
        go_roundw
        case rel => exact ⟨i + 1, _, svs, by omega, by go_num, rfl, HS2, HR2⟩
        case measure => simp [intOf]; omega
      · have t1 : decide (now < a.2.1) = false := decide_eq_false hnw
        have HST := Lib.hid (dall_step HA.out HS.out hnw)
        have hsl := HLE.out i _ HS.out
        rw [List.length_map] at hsl
        obtain ⟨ub, uc, rfl, hlu, hmu, _⟩ := HR.out.fin
        have HR1 := Lib.hid (HR.out.fr HB1.out)
        rcases List.eq_nil_or_concat svs with rfl | ⟨svs', z, hzz⟩
        · have HSL : Hid (([] : List SV).length = 0) := Lib.hid rfl
          have HOG : Hid (¬ (Value.slice ub 0 uc).ownBlock = some g) := Lib.hid (fun hc => by have := own_lt HR.out.rw hc; rw [HG2.out] at this; omega)
          have HNW : Hid (stepS gap (([] : List SV).map seOf) a = [newS a]) := Lib.hid rfl
          clear HR
          go_wp2_with fail
          go_quiet (fail)
          have HRV : Hid (OutR w ((wr.alloc (.cells #[.string a.1, .int .i64 a.2.1, .string a.2.2] 31)).drewN nq) 49 (.slice ub 0 uc) []) := Lib.hid (HR1.out.fr (bdrewN (Below.refl _ _) nq))
          have HBV : Hid (Bk ((wr.alloc (.cells #[.string a.1, .int .i64 a.2.1, .string a.2.2] 31)).drewN nq) g [.string a.1, .int .i64 a.2.1, .string a.2.2] 31) := Lib.hid (HBK.out.bel (bdrewN (Below.refl _ _) nq))
          clear HB1 HBK HR1 d0 d1 d2 c0 c1
          generalize (wr.alloc (.cells #[.string a.1, .int .i64 a.2.1, .string a.2.2] 31)).drewN nq = V at *
          have k0 : V.cell? ⟨g, 0, none⟩ = some (.string a.1) := HBV.out.cell 0
          have k1 : V.cell? ⟨g, 1, none⟩ = some (.int .i64 a.2.1) := HBV.out.cell 1
          have k2 : V.cell? ⟨g, 2, none⟩ = some (.string a.2.2) := HBV.out.cell 2
          have HFB : Hid (Below V.heap.size V ((V.alloc (.cells #[.string a.2.2] 9)).alloc (.cells #[.string a.1, .int .i64 a.2.1, .int .i64 a.2.1, .slice (some ⟨V.heap.size, 0, none⟩) 1 1] 49))) := Lib.hid (((Below.refl _ _).alloc (Nat.le_refl _) _).alloc (by simp) _)
          have HR3 := Lib.hid (HRV.out.fr HFB.out)
          have HIT : Hid (Bk ((V.alloc (.cells #[.string a.2.2] 9)).alloc (.cells #[.string a.1, .int .i64 a.2.1, .int .i64 a.2.1, .slice (some ⟨V.heap.size, 0, none⟩) 1 1] 49)) V.heap.size [.string a.2.2] 9) := Lib.hid ((Bk.new V [.string a.2.2] 9).old (.cells #[.string a.1, .int .i64 a.2.1, .int .i64 a.2.1, .slice (some ⟨V.heap.size, 0, none⟩) 1 1] 49))
          have HRW : Hid (((V.alloc (.cells #[.string a.2.2] 9)).alloc (.cells #[.string a.1, .int .i64 a.2.1, .int .i64 a.2.1, .slice (some ⟨V.heap.size, 0, none⟩) 1 1] 49)).ownsRow 0 49 4 (.slice ub 0 uc) ([] : List SV).length (([] : List SV).flatMap svC)) := Lib.hid HR3.out.rw
          have HIN : Hid (InW ((V.alloc (.cells #[.string a.2.2] 9)).alloc (.cells #[.string a.1, .int .i64 a.2.1, .int .i64 a.2.1, .slice (some ⟨V.heap.size, 0, none⟩) 1 1] 49)) (some ⟨V.heap.size + 1, 0, none⟩) 4 ([(⟨a.1, a.2.1, a.2.1, [a.2.2], some ⟨V.heap.size, 0, none⟩, 1⟩ : SV)].map svC)) := Lib.hid (inw_one (f := svC) (x := (⟨a.1, a.2.1, a.2.1, [a.2.2], some ⟨V.heap.size, 0, none⟩, 1⟩ : SV)) (Bk.new' V (.cells #[.string a.2.2] 9) (svC (⟨a.1, a.2.1, a.2.1, [a.2.2], some ⟨V.heap.size, 0, none⟩, 1⟩ : SV)) 49))
          have HLN : Hid (([] : List SV).length + [(⟨a.1, a.2.1, a.2.1, [a.2.2], some ⟨V.heap.size, 0, none⟩, 1⟩ : SV)].length ≤ 1000000) := Lib.hid (by rw [HSL.out, List.length_singleton]; omega)
          have HOW : Hid (∀ b, (Value.slice ub 0 uc).ownBlock = some b → b < V.heap.size) := Lib.hid (fun b hb => own_lt HRV.out.rw hb)
          go_wp2_with (at_builtin; refine wpList_append_m svLen svOne _ rfl _ _ _ rfl 49 i0 _ 56 Try.underlying34 hi0T hz0 hz1 hz2 rfl (by decide) (by omega) (.slice ub 0 uc) ([] : List SV) [(⟨a.1, a.2.1, a.2.1, [a.2.2], some ⟨V.heap.size, 0, none⟩, 1⟩ : SV)] rfl HRW.out (some ⟨V.heap.size + 1, 0, none⟩) 1 1 rfl rfl HIN.out HLN.out ?_; intro v5 w5 o5 f5 h5; have H5 : Hid (OutR w w5 49 v5 (([] : List SV) ++ [(⟨a.1, a.2.1, a.2.1, [a.2.2], some ⟨V.heap.size, 0, none⟩, 1⟩ : SV)])) := Lib.hid (HR3.out.more o5 f5 h5 ⟨inw_one (f := fun s => [.string s]) (x := a.2.2) HIT.out, Nat.le_refl _, by unfold maxLen; simp⟩ (fun B' o' e => ⟨by cases e; exact HIT.out.lt, fun hc => by cases e; have := HOW.out _ hc; omega⟩)); clear o5 f5 h5)
          go_roundw
          case rel => exact ⟨i + 1, _, ([] : List SV) ++ [(⟨a.1, a.2.1, a.2.1, [a.2.2], some ⟨V.heap.size, 0, none⟩, 1⟩ : SV)], by omega, by go_num, rfl, Lib.hid (by rw [← HST.out, HNW.out]; simp [seOf, newS]), H5⟩
          case measure => simp [intOf]; omega
        · rw [List.concat_eq_append] at hzz
          subst hzz
          obtain ⟨kk, hkk⟩ : ∃ kk, svs'.length = kk := ⟨_, rfl⟩
          have HKK := Lib.hid hkk
          have hl : (svs' ++ [z]).length = kk + 1 := by rw [List.length_append, hkk]; rfl
          have HSL := Lib.hid hl
          rw [hl] at HR1 hsl ⊢
          have hzm : seOf z ∈ (svs' ++ [z]).map seOf := List.mem_map_of_mem (by simp)
          have hzr : 0 ≤ z.t ∧ z.t ≤ 1099511627776 := HRG.out i (seOf z) (by rw [← HS.out]; exact hzm)
          have HZL : Hid (z.its.length ≤ 100000) := Lib.hid (HIT0.out i (seOf z) (by rw [← HS.out]; exact hzm))
          have hrow := HR1.out.rw
          rw [hl] at hrow
          obtain ⟨gu, cu, hub⟩ := row_block hrow (by omega)
          simp only [Value.slice.injEq] at hub
          obtain ⟨rfl, -, rfl⟩ := hub
          have HOG : Hid (¬ (Value.slice (some ⟨gu, 0, none⟩) (kk + 1) uc).ownBlock = some g) := Lib.hid (fun hc => by have h1 := HR.out.rw; rw [HSL.out] at h1; have := own_lt h1 hc; rw [HG2.out] at this; omega)
          have e0 := row_at hrow 0 (by omega)
          have e2 := row_at hrow 2 (by omega)
          rw [hkk] at e0 e2
          replace e0 : (wr.alloc (.cells #[.string a.1, .int .i64 a.2.1, .string a.2.2] 31)).cell? ⟨gu, kk * 4, none⟩ = some (.string z.p) := e0
          replace e2 : (wr.alloc (.cells #[.string a.1, .int .i64 a.2.1, .string a.2.2] 31)).cell? ⟨gu, kk * 4 + 2, none⟩ = some (.int .i64 z.t) := e2
          have k0 : (wr.alloc (.cells #[.string a.1, .int .i64 a.2.1, .string a.2.2] 31)).cell? ⟨g, 0, none⟩ = some (.string a.1) := HBK.out.cell 0
          have k1 : (wr.alloc (.cells #[.string a.1, .int .i64 a.2.1, .string a.2.2] 31)).cell? ⟨g, 1, none⟩ = some (.int .i64 a.2.1) := HBK.out.cell 1
          have f0 : (wr.alloc (.cells #[.string a.1, .int .i64 a.2.1, .string a.2.2] 31)).cell? ⟨p, 0, none⟩ = some (.int .i64 gap) := (HDC.out _ (HR.out.fr HB1.out).bl).1
          have qk : IntKind.i64.wrap (kk : Int) = (kk : Int) := IntWalk.i64_in _ (by omega)
          have hkk0 : (0 : Int) ≤ (kk : Int) := by omega
          have hkk1 : (kk : Int) < (kk : Int) + 1 := by omega
          have qs : IntKind.i64.wrap (a.2.1 - z.t) = a.2.1 - z.t := IntWalk.i64_in _ (by omega)
          clear HR hrow hl hkk hzm
          by_cases ep : z.p = a.1
          · have u1 : (z.p.toList == a.1.toList) = true := by rw [bytesEq]; exact decide_eq_true ep
            have u1c : z.p.toList = a.1.toList := by rw [ep]
            by_cases ej : a.2.1 - z.t ≤ gap
            · have u2 : decide (a.2.1 - z.t ≤ gap) = true := decide_eq_true ej
              have HNW : Hid (stepS gap ((svs' ++ [z]).map seOf) a = svs'.map seOf ++ [extS (seOf z) a]) := Lib.hid (by
                rw [List.map_append, List.map_cons, List.map_nil, step_last, if_pos]
                simp [joinB, seOf, ep, ej])
              have HEP := Lib.hid ep
              clear ep ej u1c
              go_wp2_with fail
              go_quiet (fail)
              have HRV : Hid (OutR w ((wr.alloc (.cells #[.string a.1, .int .i64 a.2.1, .string a.2.2] 31)).drewN nq) 49 (.slice (some ⟨gu, 0, none⟩) (kk + 1) uc) (svs' ++ [z])) := Lib.hid (HR1.out.fr (bdrewN (Below.refl _ _) nq))
              have HBV : Hid (Bk ((wr.alloc (.cells #[.string a.1, .int .i64 a.2.1, .string a.2.2] 31)).drewN nq) g [.string a.1, .int .i64 a.2.1, .string a.2.2] 31) := Lib.hid (HBK.out.bel (bdrewN (Below.refl _ _) nq))
              clear HB1 HBK HR1 d0 d1 d2 c0 c1 e0 e2 k0 k1 f0
              generalize (wr.alloc (.cells #[.string a.1, .int .i64 a.2.1, .string a.2.2] 31)).drewN nq = V at *
              have HSF : Hid (∀ X, Below V.heap.size V X → (X.cell? ⟨g, 0, none⟩ = some (.string a.1) ∧ X.cell? ⟨g, 1, none⟩ = some (.int .i64 a.2.1) ∧ X.cell? ⟨g, 2, none⟩ = some (.string a.2.2) ∧ X.cell? ⟨gu, kk * 4, none⟩ = some (.string z.p) ∧ X.cell? ⟨gu, kk * 4 + 1, none⟩ = some (.int .i64 z.f) ∧ X.cell? ⟨gu, kk * 4 + 2, none⟩ = some (.int .i64 z.t) ∧ X.cell? ⟨gu, kk * 4 + 3, none⟩ = some (.slice z.ib z.its.length z.ic))) := Lib.hid (fun X hX => by
                have k1 := HBV.out.bel hX
                have k2 := (HRV.out.fr hX).rw
                rw [HSL.out] at k2
                have j0 := row_at k2 0 (by omega)
                have j1 := row_at k2 1 (by omega)
                have j2 := row_at k2 2 (by omega)
                have j3 := row_at k2 3 (by omega)
                rw [HKK.out] at j0 j1 j2 j3
                exact ⟨k1.cell 0, k1.cell 1, k1.cell 2, j0, j1, j2, j3⟩)
              have HFZ : Hid (∀ X, Below V.heap.size V X → ∀ k, X.frozen? ⟨gu, k, none⟩ = false) := Lib.hid (fun X hX k => by have h2 := (HRV.out.fr hX).rw; rw [HSL.out] at h2; exact own_free h2 k)
              have HZI := Lib.hid (HRV.out.it z (by simp))
              have HINS : Hid (∀ W, Below V.heap.size V W → Calls Try.prog 35 #[.slice z.ib z.its.length z.ic, .string a.2.2] W fun e w' => ∃ (b' : Option Addr) (c' : Nat), e = .returned (.slice b' (putB z.its a.2.2).length c') ∧ (putB z.its a.2.2).length ≤ c' ∧ c' ≤ maxLen ∧ InW w' b' 1 ((putB z.its a.2.2).map tC) ∧ (b' = z.ib ∨ ∀ B o, b' = some ⟨B, o, none⟩ → W.heap.size ≤ B) ∧ Below W.heap.size W w') := Lib.hid (fun W hW => insert_any z.ib z.ic z.its a.2.2 W (HZI.out.1.bel hW) HZL.out HZI.out.2.1 HZI.out.2.2)
              obtain ⟨zl, hzl⟩ : ∃ zl, (putB z.its a.2.2).length = zl := ⟨_, rfl⟩
              have HZL2 := Lib.hid hzl
              rw [hzl] at HINS
              clear hzl
              go_wp2_with fail
              refine region_last (S := fun X => X.cell? ⟨g, 0, none⟩ = some (.string a.1) ∧ X.cell? ⟨g, 1, none⟩ = some (.int .i64 a.2.1) ∧ X.cell? ⟨g, 2, none⟩ = some (.string a.2.2) ∧ X.cell? ⟨gu, kk * 4, none⟩ = some (.string z.p) ∧ X.cell? ⟨gu, kk * 4 + 1, none⟩ = some (.int .i64 z.f) ∧ X.cell? ⟨gu, kk * 4 + 2, none⟩ = some (.int .i64 z.t) ∧ X.cell? ⟨gu, kk * 4 + 3, none⟩ = some (.slice z.ib z.its.length z.ic)) 21 _ (by kernel_rfl) (by rfl) rfl rfl (by kernel_rfl) (HSF.out _ (Below.refl _ _).drew) (fun hHeld => ?_)
              simp only [List.dropLast]
              refine take_at (i := 0) (v := ?_) (some 59) rfl rfl (by kernel_rfl) (by kernel_rfl) (by kernel_rfl) (fun _ _ _ h => h) (by rfl) ?_ (by assumption) ?_
              rotate_left
              · intro w hSw
                (try dsimp only at hSw)
                go_simp
                try (with_reducible rfl)
              (try simp only [Act.put, List.setIfInBounds_toArray, List.set_cons_zero, List.set_cons_succ])
              refine take_at (i := 1) (v := ?_) (some 60) rfl rfl (by kernel_rfl) (by kernel_rfl) (by kernel_rfl) (fun _ _ _ h => h) (by rfl) ?_ (by assumption) ?_
              rotate_left
              · intro w hSw
                (try dsimp only at hSw)
                go_simp
                try (with_reducible rfl)
              (try simp only [Act.put, List.setIfInBounds_toArray, List.set_cons_zero, List.set_cons_succ])
              refine take_at (i := 2) (v := ?_) (some 61) rfl rfl (by kernel_rfl) (by kernel_rfl) (by kernel_rfl) (fun _ _ _ h => h) (by rfl) ?_ (by assumption) ?_
              rotate_left
              · intro w hSw
                (try dsimp only at hSw)
                go_simp
                try (with_reducible rfl)
              (try simp only [Act.put, List.setIfInBounds_toArray, List.set_cons_zero, List.set_cons_succ])
              refine take_at (i := 3) (v := ?_) (some 62) rfl rfl (by kernel_rfl) (by kernel_rfl) (by kernel_rfl) (fun _ _ _ h => h) (by rfl) ?_ (by assumption) ?_
              rotate_left
              · intro w hSw
                (try dsimp only at hSw)
                go_simp
                try (with_reducible rfl)
              (try simp only [Act.put, List.setIfInBounds_toArray, List.set_cons_zero, List.set_cons_succ])
              refine take_at (i := 4) (v := ?_) (some 63) rfl rfl (by kernel_rfl) (by kernel_rfl) (by kernel_rfl) (fun _ _ _ h => h) (by rfl) ?_ (by assumption) ?_
              rotate_left
              · intro w hSw
                (try dsimp only at hSw)
                go_simp
                try (with_reducible rfl)
              (try simp only [Act.put, List.setIfInBounds_toArray, List.set_cons_zero, List.set_cons_succ])
              refine take_at (i := 5) (v := ?_) (some 64) rfl rfl (by kernel_rfl) (by kernel_rfl) (by kernel_rfl) (fun _ _ _ h => h) (by rfl) ?_ (by assumption) ?_
              rotate_left
              · intro w hSw
                (try dsimp only at hSw)
                go_simp
                try (with_reducible rfl)
              (try simp only [Act.put, List.setIfInBounds_toArray, List.set_cons_zero, List.set_cons_succ])
              refine take_at (i := 6) (v := ?_) (some 65) rfl rfl (by kernel_rfl) (by kernel_rfl) (by kernel_rfl) (fun _ _ _ h => h) (by rfl) ?_ (by assumption) ?_
              rotate_left
              · intro w hSw
                (try dsimp only at hSw)
                go_simp
                try (with_reducible rfl)
              (try simp only [Act.put, List.setIfInBounds_toArray, List.set_cons_zero, List.set_cons_succ])
              refine take_at (i := 7) (v := ?_) (some 66) rfl rfl (by kernel_rfl) (by kernel_rfl) (by kernel_rfl) (fun _ _ _ h => h) (by rfl) ?_ (by assumption) ?_
              rotate_left
              · intro w hSw
                (try dsimp only at hSw)
                go_simp
                try (with_reducible rfl)
              (try simp only [Act.put, List.setIfInBounds_toArray, List.set_cons_zero, List.set_cons_succ])
              refine take_at (i := 8) (v := ?_) (some 67) rfl rfl (by kernel_rfl) (by kernel_rfl) (by kernel_rfl) (fun _ _ _ h => h) (by rfl) ?_ (by assumption) ?_
              rotate_left
              · intro w hSw
                (try dsimp only at hSw)
                go_simp
                try (with_reducible rfl)
              (try simp only [Act.put, List.setIfInBounds_toArray, List.set_cons_zero, List.set_cons_succ])
              refine take_at (i := 9) (v := ?_) (some 68) rfl rfl (by kernel_rfl) (by kernel_rfl) (by kernel_rfl) (fun _ _ _ h => h) (by rfl) ?_ (by assumption) ?_
              rotate_left
              · intro w hSw
                (try dsimp only at hSw)
                go_simp
                try (with_reducible rfl)
              (try simp only [Act.put, List.setIfInBounds_toArray, List.set_cons_zero, List.set_cons_succ])
              refine take_at (i := 10) (v := ?_) (some 69) rfl rfl (by kernel_rfl) (by kernel_rfl) (by kernel_rfl) (fun _ _ _ h => h) (by rfl) ?_ (by assumption) ?_
              rotate_left
              · intro w hSw
                (try dsimp only at hSw)
                go_simp
                try (with_reducible rfl)
              (try simp only [Act.put, List.setIfInBounds_toArray, List.set_cons_zero, List.set_cons_succ])
              refine take_at (i := 11) (v := ?_) (some 70) rfl rfl (by kernel_rfl) (by kernel_rfl) (by kernel_rfl) (fun _ _ _ h => h) (by rfl) ?_ (by assumption) ?_
              rotate_left
              · intro w hSw
                (try dsimp only at hSw)
                go_simp
                try (with_reducible rfl)
              (try simp only [Act.put, List.setIfInBounds_toArray, List.set_cons_zero, List.set_cons_succ])
              refine take_at (i := 12) (v := ?_) (some 71) rfl rfl (by kernel_rfl) (by kernel_rfl) (by kernel_rfl) (fun _ _ _ h => h) (by rfl) ?_ (by assumption) ?_
              rotate_left
              · intro w hSw
                (try dsimp only at hSw)
                go_simp
                try (with_reducible rfl)
              (try simp only [Act.put, List.setIfInBounds_toArray, List.set_cons_zero, List.set_cons_succ])
              refine take_at (i := 13) (v := ?_) (some 72) rfl rfl (by kernel_rfl) (by kernel_rfl) (by kernel_rfl) (fun _ _ _ h => h) (by rfl) ?_ (by assumption) ?_
              rotate_left
              · intro w hSw
                (try dsimp only at hSw)
                go_simp
                try (with_reducible rfl)
              (try simp only [Act.put, List.setIfInBounds_toArray, List.set_cons_zero, List.set_cons_succ])
              refine take_at (i := 14) (v := ?_) (some 73) rfl rfl (by kernel_rfl) (by kernel_rfl) (by kernel_rfl) (fun _ _ _ h => h) (by rfl) ?_ (by assumption) ?_
              rotate_left
              · intro w hSw
                (try dsimp only at hSw)
                go_simp
                try (with_reducible rfl)
              (try simp only [Act.put, List.setIfInBounds_toArray, List.set_cons_zero, List.set_cons_succ])
              refine take_at (i := 15) (v := ?_) (some 74) rfl rfl (by kernel_rfl) (by kernel_rfl) (by kernel_rfl) (fun _ _ _ h => h) (by rfl) ?_ (by assumption) ?_
              rotate_left
              · intro w hSw
                (try dsimp only at hSw)
                go_simp
                try (with_reducible rfl)
              (try simp only [Act.put, List.setIfInBounds_toArray, List.set_cons_zero, List.set_cons_succ])
              refine take_at (i := 16) (v := ?_) (some 75) rfl rfl (by kernel_rfl) (by kernel_rfl) (by kernel_rfl) (fun _ _ _ h => h) (by rfl) ?_ (by assumption) ?_
              rotate_left
              · intro w hSw
                (try dsimp only at hSw)
                go_simp
                try (with_reducible rfl)
              (try simp only [Act.put, List.setIfInBounds_toArray, List.set_cons_zero, List.set_cons_succ])
              refine take_at (i := 17) (v := ?_) (some 76) rfl rfl (by kernel_rfl) (by kernel_rfl) (by kernel_rfl) (fun _ _ _ h => h) (by rfl) ?_ (by assumption) ?_
              rotate_left
              · intro w hSw
                (try dsimp only at hSw)
                go_simp
                try (with_reducible rfl)
              (try simp only [Act.put, List.setIfInBounds_toArray, List.set_cons_zero, List.set_cons_succ])
              refine wpAnyH_ready (rs := [18]) (by kernel_rfl) (by simp) ?_
              refine AllReadyH.cons rfl (fun K hK => ?_) AllReadyH.nil
              go_simp
              refine (HINS.out _ (Below.refl _ _).drew).mono ?_
              rintro e w2 ⟨b', c', rfl, q1, q2, q3, q4, q5⟩
              have HB2 : Hid (Below V.heap.size V w2) := Lib.hid ((Below.refl V.heap.size V).drew.trans q5)
              refine hK.out _ _ (HSF.out _ HB2.out) (fun hHeld => ?_)
              clear hK K
              (try simp only [Act.put, List.setIfInBounds_toArray, List.set_cons_zero, List.set_cons_succ])
              refine take_at (i := 19) (v := ?_) (some 78) rfl rfl (by kernel_rfl) (by kernel_rfl) (by kernel_rfl) (fun _ _ _ h => h) (by rfl) ?_ (by assumption) ?_
              rotate_left
              · intro w hSw
                (try dsimp only at hSw)
                go_simp
                try (with_reducible rfl)
              (try simp only [Act.put, List.setIfInBounds_toArray, List.set_cons_zero, List.set_cons_succ])
              refine take_at (i := 20) (v := ?_) (some 79) rfl rfl (by kernel_rfl) (by kernel_rfl) (by kernel_rfl) (fun _ _ _ h => h) (by rfl) ?_ (by assumption) ?_
              rotate_left
              · intro w hSw
                (try dsimp only at hSw)
                go_simp
                try (with_reducible rfl)
              (try simp only [Act.put, List.setIfInBounds_toArray, List.set_cons_zero, List.set_cons_succ])
              refine wpAnyH_done (by kernel_rfl) ?_ _
              obtain ⟨-, -, -, r0, r1, r2, r3⟩ := HSF.out _ HB2.out
              have z0 := HFZ.out _ HB2.out (kk * 4)
              have z1 := HFZ.out _ HB2.out (kk * 4 + 1)
              have z2 := HFZ.out _ HB2.out (kk * 4 + 2)
              have z3 := HFZ.out _ HB2.out (kk * 4 + 3)
              simp only [LastQ]
              go_simp
              have HR4 : Hid (OutR w ((((w2.setCell ⟨gu, kk * 4, none⟩ (.string a.1)).setCell ⟨gu, kk * 4 + 1, none⟩ (.int .i64 z.f)).setCell ⟨gu, kk * 4 + 2, none⟩ (.int .i64 a.2.1)).setCell ⟨gu, kk * 4 + 3, none⟩ (.slice b' zl c')) 49 (.slice (some ⟨gu, 0, none⟩) (kk + 1) uc) (svs' ++ [⟨a.1, z.f, a.2.1, putB z.its a.2.2, b', c'⟩])) := Lib.hid (by
                have hr2 := HRV.out.fr HB2.out
                have := hr2.last (z' := ⟨a.1, z.f, a.2.1, putB z.its a.2.2, b', c'⟩) (by rw [HKK.out]) ⟨q3, by rw [HZL2.out]; exact q1, q2⟩ (fun B' o' e => by
                  have hown : (Value.slice (some ⟨gu, 0, none⟩) (kk + 1) uc).ownBlock = some gu := rfl
                  rcases q4 with k | k
                  · have e' : z.ib = some ⟨B', o', none⟩ := by rw [← k]; exact e
                    exact ⟨fun c => HRV.out.ap z (by simp) B' o' e' (by rw [hown, c]), Nat.lt_of_lt_of_le (HRV.out.lt z (by simp) B' o' e') HB2.out.size⟩
                  · have h1 := k B' o' e
                    have h2 : gu < V.heap.size := own_lt HRV.out.rw hown
                    have h3 : V.drew.heap.size = V.heap.size := rfl
                    have e' : b' = some ⟨B', o', none⟩ := e
                    rw [e'] at q3
                    exact ⟨by omega, inw_lt q3 (by simp; exact putB_ne _ _)⟩)
                rw [HKK.out] at this
                unfold setSV at this
                simp only [HZL2.out] at this
                exact this)
              go_wp2_with fail
              go_roundw
              case rel => exact ⟨i + 1, _, svs' ++ [⟨a.1, z.f, a.2.1, putB z.its a.2.2, b', c'⟩], by omega, by go_num, rfl, Lib.hid (by rw [← HST.out, HNW.out]; simp [seOf, extS, HEP.out]), HR4⟩
              case measure => simp [intOf]; omega
            · have u2 : decide (a.2.1 - z.t ≤ gap) = false := decide_eq_false ej
              have HNW : Hid (stepS gap ((svs' ++ [z]).map seOf) a = (svs' ++ [z]).map seOf ++ [newS a]) := Lib.hid (by
                rw [List.map_append, List.map_cons, List.map_nil, step_last, if_neg]
                simp [joinB, seOf, ej])
              clear ep ej u1c
              go_wp2_with fail
              go_quiet (fail)
              have HRV : Hid (OutR w ((wr.alloc (.cells #[.string a.1, .int .i64 a.2.1, .string a.2.2] 31)).drewN nq) 49 (.slice (some ⟨gu, 0, none⟩) (kk + 1) uc) (svs' ++ [z])) := Lib.hid (HR1.out.fr (bdrewN (Below.refl _ _) nq))
              have HBV : Hid (Bk ((wr.alloc (.cells #[.string a.1, .int .i64 a.2.1, .string a.2.2] 31)).drewN nq) g [.string a.1, .int .i64 a.2.1, .string a.2.2] 31) := Lib.hid (HBK.out.bel (bdrewN (Below.refl _ _) nq))
              clear HB1 HBK HR1 d0 d1 d2 c0 c1 e0 e2 k0 k1 f0
              generalize (wr.alloc (.cells #[.string a.1, .int .i64 a.2.1, .string a.2.2] 31)).drewN nq = V at *
              have k0 : V.cell? ⟨g, 0, none⟩ = some (.string a.1) := HBV.out.cell 0
              have k1 : V.cell? ⟨g, 1, none⟩ = some (.int .i64 a.2.1) := HBV.out.cell 1
              have k2 : V.cell? ⟨g, 2, none⟩ = some (.string a.2.2) := HBV.out.cell 2
              have HFB : Hid (Below V.heap.size V ((V.alloc (.cells #[.string a.2.2] 9)).alloc (.cells #[.string a.1, .int .i64 a.2.1, .int .i64 a.2.1, .slice (some ⟨V.heap.size, 0, none⟩) 1 1] 49))) := Lib.hid (((Below.refl _ _).alloc (Nat.le_refl _) _).alloc (by simp) _)
              have HR3 := Lib.hid (HRV.out.fr HFB.out)
              have HIT : Hid (Bk ((V.alloc (.cells #[.string a.2.2] 9)).alloc (.cells #[.string a.1, .int .i64 a.2.1, .int .i64 a.2.1, .slice (some ⟨V.heap.size, 0, none⟩) 1 1] 49)) V.heap.size [.string a.2.2] 9) := Lib.hid ((Bk.new V [.string a.2.2] 9).old (.cells #[.string a.1, .int .i64 a.2.1, .int .i64 a.2.1, .slice (some ⟨V.heap.size, 0, none⟩) 1 1] 49))
              have HRW : Hid (((V.alloc (.cells #[.string a.2.2] 9)).alloc (.cells #[.string a.1, .int .i64 a.2.1, .int .i64 a.2.1, .slice (some ⟨V.heap.size, 0, none⟩) 1 1] 49)).ownsRow 0 49 4 (.slice (some ⟨gu, 0, none⟩) (kk + 1) uc) (svs' ++ [z]).length ((svs' ++ [z]).flatMap svC)) := Lib.hid HR3.out.rw
              have HIN : Hid (InW ((V.alloc (.cells #[.string a.2.2] 9)).alloc (.cells #[.string a.1, .int .i64 a.2.1, .int .i64 a.2.1, .slice (some ⟨V.heap.size, 0, none⟩) 1 1] 49)) (some ⟨V.heap.size + 1, 0, none⟩) 4 ([(⟨a.1, a.2.1, a.2.1, [a.2.2], some ⟨V.heap.size, 0, none⟩, 1⟩ : SV)].map svC)) := Lib.hid (inw_one (f := svC) (x := (⟨a.1, a.2.1, a.2.1, [a.2.2], some ⟨V.heap.size, 0, none⟩, 1⟩ : SV)) (Bk.new' V (.cells #[.string a.2.2] 9) (svC (⟨a.1, a.2.1, a.2.1, [a.2.2], some ⟨V.heap.size, 0, none⟩, 1⟩ : SV)) 49))
              have HLN : Hid ((svs' ++ [z]).length + [(⟨a.1, a.2.1, a.2.1, [a.2.2], some ⟨V.heap.size, 0, none⟩, 1⟩ : SV)].length ≤ 1000000) := Lib.hid (by rw [HSL.out, List.length_singleton]; omega)
              have HOW : Hid (∀ b, (Value.slice (some ⟨gu, 0, none⟩) (kk + 1) uc).ownBlock = some b → b < V.heap.size) := Lib.hid (fun b hb => own_lt HRV.out.rw hb)
              go_wp2_with (at_builtin; refine wpList_append_m svLen svOne _ rfl _ _ _ rfl 49 i0 _ 56 Try.underlying34 hi0T hz0 hz1 hz2 rfl (by decide) (by omega) (.slice (some ⟨gu, 0, none⟩) (kk + 1) uc) (svs' ++ [z]) [(⟨a.1, a.2.1, a.2.1, [a.2.2], some ⟨V.heap.size, 0, none⟩, 1⟩ : SV)] rfl HRW.out (some ⟨V.heap.size + 1, 0, none⟩) 1 1 rfl rfl HIN.out HLN.out ?_; intro v5 w5 o5 f5 h5; have H5 : Hid (OutR w w5 49 v5 ((svs' ++ [z]) ++ [(⟨a.1, a.2.1, a.2.1, [a.2.2], some ⟨V.heap.size, 0, none⟩, 1⟩ : SV)])) := Lib.hid (HR3.out.more o5 f5 h5 ⟨inw_one (f := fun s => [.string s]) (x := a.2.2) HIT.out, Nat.le_refl _, by unfold maxLen; simp⟩ (fun B' o' e => ⟨by cases e; exact HIT.out.lt, fun hc => by cases e; have := HOW.out _ hc; omega⟩)); clear o5 f5 h5)
              go_roundw
              case rel => exact ⟨i + 1, _, (svs' ++ [z]) ++ [(⟨a.1, a.2.1, a.2.1, [a.2.2], some ⟨V.heap.size, 0, none⟩, 1⟩ : SV)], by omega, by go_num, rfl, Lib.hid (by rw [← HST.out, HNW.out]; simp [seOf, newS]), H5⟩
              case measure => simp [intOf]; omega
          · have u1 : (z.p.toList == a.1.toList) = false := by rw [bytesEq]; exact decide_eq_false ep
            have u1c : ¬ z.p.toList = a.1.toList := by intro h; rw [h] at u1; simp at u1
            have HNW : Hid (stepS gap ((svs' ++ [z]).map seOf) a = (svs' ++ [z]).map seOf ++ [newS a]) := Lib.hid (by
              rw [List.map_append, List.map_cons, List.map_nil, step_last, if_neg]
              simp [joinB, seOf, ep])
            clear ep u1c
            go_wp2_with fail
            go_quiet (fail)
            have HRV : Hid (OutR w ((wr.alloc (.cells #[.string a.1, .int .i64 a.2.1, .string a.2.2] 31)).drewN nq) 49 (.slice (some ⟨gu, 0, none⟩) (kk + 1) uc) (svs' ++ [z])) := Lib.hid (HR1.out.fr (bdrewN (Below.refl _ _) nq))
            have HBV : Hid (Bk ((wr.alloc (.cells #[.string a.1, .int .i64 a.2.1, .string a.2.2] 31)).drewN nq) g [.string a.1, .int .i64 a.2.1, .string a.2.2] 31) := Lib.hid (HBK.out.bel (bdrewN (Below.refl _ _) nq))
            clear HB1 HBK HR1 d0 d1 d2 c0 c1 e0 e2 k0 k1 f0
            generalize (wr.alloc (.cells #[.string a.1, .int .i64 a.2.1, .string a.2.2] 31)).drewN nq = V at *
            have k0 : V.cell? ⟨g, 0, none⟩ = some (.string a.1) := HBV.out.cell 0
            have k1 : V.cell? ⟨g, 1, none⟩ = some (.int .i64 a.2.1) := HBV.out.cell 1
            have k2 : V.cell? ⟨g, 2, none⟩ = some (.string a.2.2) := HBV.out.cell 2
            have HFB : Hid (Below V.heap.size V ((V.alloc (.cells #[.string a.2.2] 9)).alloc (.cells #[.string a.1, .int .i64 a.2.1, .int .i64 a.2.1, .slice (some ⟨V.heap.size, 0, none⟩) 1 1] 49))) := Lib.hid (((Below.refl _ _).alloc (Nat.le_refl _) _).alloc (by simp) _)
            have HR3 := Lib.hid (HRV.out.fr HFB.out)
            have HIT : Hid (Bk ((V.alloc (.cells #[.string a.2.2] 9)).alloc (.cells #[.string a.1, .int .i64 a.2.1, .int .i64 a.2.1, .slice (some ⟨V.heap.size, 0, none⟩) 1 1] 49)) V.heap.size [.string a.2.2] 9) := Lib.hid ((Bk.new V [.string a.2.2] 9).old (.cells #[.string a.1, .int .i64 a.2.1, .int .i64 a.2.1, .slice (some ⟨V.heap.size, 0, none⟩) 1 1] 49))
            have HRW : Hid (((V.alloc (.cells #[.string a.2.2] 9)).alloc (.cells #[.string a.1, .int .i64 a.2.1, .int .i64 a.2.1, .slice (some ⟨V.heap.size, 0, none⟩) 1 1] 49)).ownsRow 0 49 4 (.slice (some ⟨gu, 0, none⟩) (kk + 1) uc) (svs' ++ [z]).length ((svs' ++ [z]).flatMap svC)) := Lib.hid HR3.out.rw
            have HIN : Hid (InW ((V.alloc (.cells #[.string a.2.2] 9)).alloc (.cells #[.string a.1, .int .i64 a.2.1, .int .i64 a.2.1, .slice (some ⟨V.heap.size, 0, none⟩) 1 1] 49)) (some ⟨V.heap.size + 1, 0, none⟩) 4 ([(⟨a.1, a.2.1, a.2.1, [a.2.2], some ⟨V.heap.size, 0, none⟩, 1⟩ : SV)].map svC)) := Lib.hid (inw_one (f := svC) (x := (⟨a.1, a.2.1, a.2.1, [a.2.2], some ⟨V.heap.size, 0, none⟩, 1⟩ : SV)) (Bk.new' V (.cells #[.string a.2.2] 9) (svC (⟨a.1, a.2.1, a.2.1, [a.2.2], some ⟨V.heap.size, 0, none⟩, 1⟩ : SV)) 49))
            have HLN : Hid ((svs' ++ [z]).length + [(⟨a.1, a.2.1, a.2.1, [a.2.2], some ⟨V.heap.size, 0, none⟩, 1⟩ : SV)].length ≤ 1000000) := Lib.hid (by rw [HSL.out, List.length_singleton]; omega)
            have HOW : Hid (∀ b, (Value.slice (some ⟨gu, 0, none⟩) (kk + 1) uc).ownBlock = some b → b < V.heap.size) := Lib.hid (fun b hb => own_lt HRV.out.rw hb)
            go_wp2_with (at_builtin; refine wpList_append_m svLen svOne _ rfl _ _ _ rfl 49 i0 _ 56 Try.underlying34 hi0T hz0 hz1 hz2 rfl (by decide) (by omega) (.slice (some ⟨gu, 0, none⟩) (kk + 1) uc) (svs' ++ [z]) [(⟨a.1, a.2.1, a.2.1, [a.2.2], some ⟨V.heap.size, 0, none⟩, 1⟩ : SV)] rfl HRW.out (some ⟨V.heap.size + 1, 0, none⟩) 1 1 rfl rfl HIN.out HLN.out ?_; intro v5 w5 o5 f5 h5; have H5 : Hid (OutR w w5 49 v5 ((svs' ++ [z]) ++ [(⟨a.1, a.2.1, a.2.1, [a.2.2], some ⟨V.heap.size, 0, none⟩, 1⟩ : SV)])) := Lib.hid (HR3.out.more o5 f5 h5 ⟨inw_one (f := fun s => [.string s]) (x := a.2.2) HIT.out, Nat.le_refl _, by unfold maxLen; simp⟩ (fun B' o' e => ⟨by cases e; exact HIT.out.lt, fun hc => by cases e; have := HOW.out _ hc; omega⟩)); clear o5 f5 h5)
            go_roundw
            case rel => exact ⟨i + 1, _, (svs' ++ [z]) ++ [(⟨a.1, a.2.1, a.2.1, [a.2.2], some ⟨V.heap.size, 0, none⟩, 1⟩ : SV)], by omega, by go_num, rfl, Lib.hid (by rw [← HST.out, HNW.out]; simp [seOf, newS]), H5⟩
            case measure => simp [intOf]; omega
    · obtain rfl : i = n := by omega
      have HF : Hid (svs.map seOf = allS gap (uptoD L now)) := Lib.hid (by have := HS.out; rwa [List.take_of_length_le (by rw [Hn.out]; exact Nat.le_refl _)] at this)
      obtain ⟨c0, c1, -⟩ := HDC.out wr HR.out.bl
      go_wp2_with fail
      go_ret
      obtain ⟨b, c, rfl, h2, h3, h4⟩ := HR.out.fin
      exact ⟨b, c, svs, rfl, h2, h3, h4, HF.out, HR.out.bl⟩
end Go.Proofs.Ytcnddbcdkpdkbaa

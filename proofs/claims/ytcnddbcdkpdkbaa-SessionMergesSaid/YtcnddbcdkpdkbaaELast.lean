/- Contracts of Sessions.Last and Drop. -/
import Derived.Test.YtcnddbcdkpdkbaaEAll
namespace Go.Proofs.Ytcnddbcdkpdkbaa
open Go.RowKit Go.MapKept Go.Maps Go.ChangeShapes Go.WideShapes
set_option linter.unusedVariables false
set_option linter.unusedSimpArgs false
/-- a session handed back by value -/
theorem finS {fn : Func} {p q : Tmp} {tmps : Array Value} {w : World} {g : Nat} {a b c d : Value} (h : fn.results = #[.cell p 45, .tmp q]) (hp : tmps.getD p undef = .pointer (some ⟨g, 0, none⟩)) (hb : Bk w g [a, b, c, d] 45) : (results fn tmps).run Try.prog w = .ok (.tuple #[.agg #[a, b, c, d], tmps.getD q undef]) w := by
  rw [results_cell_tmp h, hp]
  have := run_loadVar_row (P := Try.prog) w g 45 _ _ (0, 0) _ hb Try.underlying45 rfl (by kernel_rfl)
  simp [asAddr, this, Result.andThen]
theorem nil_or_snoc {α : Type} (l : List α) : l = [] ∨ ∃ s x, l = s ++ [x] := by
  rcases List.eq_nil_or_concat l with h | ⟨s, x, h⟩
  · exact .inl h
  · exact .inr ⟨s, x, by rw [h, List.concat_eq_append]⟩
def zeroS : SV := ⟨⟨#[]⟩, 0, 0, [], none, 0⟩
def lastV (svs : List SV) : SV := svs.getLast?.getD zeroS
section
variable {w : World} {s : Nat} {B : List Nat} {gap : Int} {L : List Tri}
theorem ses_set4 {w : World} {g : Nat} {a b c d a' b' c' d' : Value} {t : TypeId} (h : Bk w g [a, b, c, d] t) : Bk ((((w.setCell ⟨g, 0, none⟩ a').setCell ⟨g, 1, none⟩ b').setCell ⟨g, 2, none⟩ c').setCell ⟨g, 3, none⟩ d') g [a', b', c', d'] t := (((h.set 0 a').set 1 b').set 2 c').set 3 d'
set_option maxRecDepth 20000 in
set_option maxHeartbeats 2000000 in
theorem slast_any (h : SesAt w s B gap L) (p : ByteArray) (now : Int) (hp : p.size ≤ maxLen) (hnow : I64 now) :
    Calls Try.prog 24 #[.pointer (some ⟨s, 0, none⟩), .string p, .int .i64 now] w fun e w' => ∃ svs : List SV, e = .returned (.tuple #[.agg (svC (lastV svs)).toArray, .bool (decide (svs ≠ []))]) ∧ (∀ x ∈ svs, InW w' x.ib 1 (x.its.map fun s => [.string s]) ∧ x.its.length ≤ x.ic ∧ x.ic ≤ maxLen) ∧ svs.map seOf = allS gap (uptoT L p now) ∧ Below w.heap.size w w' := by
  have hb1 := (Below.refl w.heap.size w).alloc (Nat.le_refl _) (.cells #[.string ⟨#[]⟩, .int .i64 0, .int .i64 0, .slice none 0 0] 45)
  have HO := Lib.hid (of_any (h.bel hb1) p now hp hnow)
  have HBK := Lib.hid (Bk.new w [.string ⟨#[]⟩, .int .i64 0, .int .i64 0, .slice none 0 0] 45)
  have HB1 := Lib.hid hb1
  clear h hb1
  go_enter Try.func24, Try.ntmps24
  go_wp2_with fail
  refine HO.out.mono ?_
  rintro e w2 ⟨b, c, svs, rfl, h1, h2, h3, h4, h5, h6⟩
  have hbk2 := HBK.out.bel h6
  have HB2 : Hid (Below w.heap.size w w2) := Lib.hid (HB1.out.trans (h6.mono HB1.out.size))
  have HS := Lib.hid (And.intro h3.it h5)
  obtain ⟨g, hg⟩ : ∃ g, w.heap.size = g := ⟨_, rfl⟩
  rw [hg] at hbk2 ⊢
  have HG : Hid (w.heap.size ≤ g) := Lib.hid (by omega)
  have k0 : w2.cell? ⟨g, 0, none⟩ = some (.string ⟨#[]⟩) := hbk2.cell 0
  have k1 : w2.cell? ⟨g, 1, none⟩ = some (.int .i64 0) := hbk2.cell 1
  have k2 : w2.cell? ⟨g, 2, none⟩ = some (.int .i64 0) := hbk2.cell 2
  have k3 : w2.cell? ⟨g, 3, none⟩ = some (.slice none 0 0) := hbk2.cell 3
  have f0 := hbk2.free 0
  have f1 := hbk2.free 1
  have f2 := hbk2.free 2
  have f3 := hbk2.free 3
  rcases nil_or_snoc svs with rfl | ⟨ss, x, rfl⟩
  · have HK := Lib.hid (ses_set4 (a' := .string ⟨#[]⟩) (b' := .int .i64 0) (c' := .int .i64 0) (d' := .slice none 0 0) hbk2)
    have HF : Hid (Below w.heap.size w ((((w2.setCell ⟨g, 0, none⟩ (.string ⟨#[]⟩)).setCell ⟨g, 1, none⟩ (.int .i64 0)).setCell ⟨g, 2, none⟩ (.int .i64 0)).setCell ⟨g, 3, none⟩ (.slice none 0 0))) := Lib.hid (below_of_fr HB2.out (((((Fr.refl (fun b => b = g) w2).setCell g 0 _ (.inr rfl)).setCell g 1 _ (.inr rfl)).setCell g 2 _ (.inr rfl)).setCell g 3 _ (.inr rfl)) (fun b hb => by subst hb; exact HG.out))
    clear hbk2 h1 h2 h3 h4 h5 h6 HO HBK HB1 hg
    go_wp2_with fail
    exact bodyPost_ret (finS rfl rfl HK.out) rfl ⟨[], rfl, by simp, HS.out.2, HF.out⟩
  · have hlen : (ss ++ [x]).length = ss.length + 1 := by simp
    obtain ⟨k, hk⟩ : ∃ k, ss.length = k := ⟨_, rfl⟩
    have hkm : k + 1 ≤ maxLen := by rw [hlen, hk] at h1; omega
    rw [hlen, hk]
    have hcell : ∃ Bq oq, b = some ⟨Bq, oq, none⟩ ∧ ∀ (j : Nat) (u : Value), (svC x)[j]? = some u → w2.cell? ⟨Bq, oq + k * 4 + j, none⟩ = some u := by
      rcases h3.i with h | ⟨Bq, oq, e, _, hc⟩
      · simp at h
      · exact ⟨Bq, oq, e, fun j u hj => by rw [← hk]; exact hc ss.length (svC x) (by rw [List.getElem?_map]; simp) j u hj⟩
    obtain ⟨Bq, oq, rfl, hcq⟩ := hcell
    have d0 : w2.cell? ⟨Bq, oq + k * 4, none⟩ = some (.string x.p) := hcq 0 _ rfl
    have d1 : w2.cell? ⟨Bq, oq + k * 4 + 1, none⟩ = some (.int .i64 x.f) := hcq 1 _ rfl
    have d2 : w2.cell? ⟨Bq, oq + k * 4 + 2, none⟩ = some (.int .i64 x.t) := hcq 2 _ rfl
    have d3 : w2.cell? ⟨Bq, oq + k * 4 + 3, none⟩ = some (.slice x.ib x.its.length x.ic) := hcq 3 _ rfl
    have HK := Lib.hid (ses_set4 (a' := .string x.p) (b' := .int .i64 x.f) (c' := .int .i64 x.t) (d' := .slice x.ib x.its.length x.ic) hbk2)
    have hfr := (((((Fr.refl (fun b => b = g) w2).setCell g 0 (.string x.p) (.inr rfl)).setCell g 1 (.int .i64 x.f) (.inr rfl)).setCell g 2 (.int .i64 x.t) (.inr rfl)).setCell g 3 (.slice x.ib x.its.length x.ic) (.inr rfl))
    have HF : Hid (Below w.heap.size w ((((w2.setCell ⟨g, 0, none⟩ (.string x.p)).setCell ⟨g, 1, none⟩ (.int .i64 x.f)).setCell ⟨g, 2, none⟩ (.int .i64 x.t)).setCell ⟨g, 3, none⟩ (.slice x.ib x.its.length x.ic))) := Lib.hid (below_of_fr HB2.out hfr (fun b hb => by subst hb; exact HG.out))
    have HI : Hid (∀ y ∈ ss ++ [x], InW ((((w2.setCell ⟨g, 0, none⟩ (.string x.p)).setCell ⟨g, 1, none⟩ (.int .i64 x.f)).setCell ⟨g, 2, none⟩ (.int .i64 x.t)).setCell ⟨g, 3, none⟩ (.slice x.ib x.its.length x.ic)) y.ib 1 (y.its.map fun s => [.string s]) ∧ y.its.length ≤ y.ic ∧ y.ic ≤ maxLen) := Lib.hid (fun y hy => by
      obtain ⟨g1, g2⟩ := h3.it y hy
      refine ⟨InW.fr2 g1 hfr (fun B o e hc => ?_), g2⟩
      have := h4 y hy B o e
      simp at this
      omega)
    have qk : IntKind.i64.wrap (k : Int) = (k : Int) := IntWalk.i64_in _ (by unfold maxLen at hkm; omega)
    have hk0 : (0 : Int) ≤ (k : Int) := by omega
    have hk1 : (k : Int) < (k : Int) + 1 := by omega
    have t0 : ((k : Int) + 1 == 0) = false := by simp; omega
    have HV : Hid (svC (lastV (ss ++ [x])) = svC x) := Lib.hid (by unfold lastV; rw [List.getLast?_append]; simp)
    clear hbk2 h1 h2 h3 h4 h5 h6 HO HBK HB1 hg hcq hfr hlen hk
    go_wp2_with fail
    refine bodyPost_ret (finS rfl rfl HK.out) rfl ⟨ss ++ [x], ?_, HI.out, HS.out.2, HF.out⟩
    rw [HV.out, decide_eq_true (by simp)]
    rfl
set_option maxRecDepth 20000 in
set_option maxHeartbeats 1000000 in
theorem sdrop_any (h : SesAt w s B gap L) (p : ByteArray) (hp : p.size ≤ maxLen) :
    Calls Try.prog 26 #[.pointer (some ⟨s, 0, none⟩), .string p] w fun e w' => e = .returned (.int .i64 ((allS gap (ofP L p)).length : Nat)) ∧ SesAt w' s B gap (L.filter fun a => !decide (a.1 = p)) ∧ Fr (fun b => b ∈ B) w w' := by
  have HO := Lib.hid (sof_any h p hp)
  have H := Lib.hid h
  clear h
  go_enter Try.func26, Try.ntmps26
  go_wp2_with fail
  refine HO.out.mono ?_
  rintro e w2 ⟨b, c, svs, rfl, h1, h2, h3, h4, h5, h6⟩
  have hl : svs.length = (allS gap (ofP L p)).length := by rw [← h5, List.length_map]
  have hs2 := H.out.bel h6
  obtain ⟨r, mr, mt, mi, role, g1, g2⟩ := hs2.ex
  have c1 : w2.cell? ⟨s, 1, none⟩ = some (.map (some r)) := g1.bk.cell 1
  have hgone : ∀ w3, Mp encS okS w3 r (mdel (vals vMap mr) p) → Fr (fun x => x = r) w2 w3 → SesAt w3 s B gap (L.filter fun a => !decide (a.1 = p)) := fun w3 m3 f3 => by
    have g3 := g1.gone m3 f3
    have hnd : (mkeys mr).Nodup := by have := g1.mp.nd; rwa [vals_keys] at this
    refine ⟨hs2.ok.filter _, hs2.g, Nat.le_trans (List.length_filter_le _ _) hs2.n, r, mdel mr p, mt, mi, role, g3, ⟨fun p' t i => ?_, fun p' b hb => ?_, fun p' b t c hb hc => ?_⟩⟩
    · rw [List.mem_filter, g2.mem, get_del hnd]
      simp only [Bool.not_eq_true', decide_eq_false_iff_not]
      by_cases e : p = p'
      · subst e
        rw [if_pos rfl]
        constructor
        · rintro ⟨_, h⟩; exact absurd rfl h
        · rintro ⟨b, c, h, _⟩; cases h
      · rw [if_neg e]
        exact ⟨fun h => h.1, fun h => ⟨h, fun c => e c.symm⟩⟩
    · rw [get_del hnd] at hb
      split at hb
      · cases hb
      · exact g2.np p' b hb
    · rw [get_del hnd] at hb
      split at hb
      · cases hb
      · exact g2.nt p' b t c hb hc
  obtain ⟨w3, x3, m3, f3, z3⟩ := g1.mp.drop (P := Try.prog) keyS Try.underlying58 (a := p) hp 0
  have y3 : (Builtin.delete_ #[58, 9] 0 #[.map (some r), .string p]).run Try.prog w2 = .ok (.tuple #[]) w3 := x3
  have HSR := Lib.hid (hgone w3 m3 f3)
  have HF4 : Hid (Fr (fun b => b ∈ B) w w3) := Lib.hid ((Fr.of_bel (S := fun b => b ∈ B) h6).trans f3 (fun i _ e => by subst e; exact g1.inB _ _ g1.rr))
  have HL := Lib.hid hl
  rw [hl]
  clear h1 h2 h3 h4 h5 h6 hs2 g1 g2 hgone x3 m3 f3 z3 hl HO
  obtain ⟨ln, hln⟩ : ∃ ln, (allS gap (ofP L p)).length = ln := ⟨_, rfl⟩
  rw [hln]
  go_wp2_with fail
  go_ret
  exact ⟨congrArg (fun n : Nat => Ending.returned (.int .i64 (n : Int))) hln.symm, HSR.out, HF4.out⟩
end
end Go.Proofs.Ytcnddbcdkpdkbaa

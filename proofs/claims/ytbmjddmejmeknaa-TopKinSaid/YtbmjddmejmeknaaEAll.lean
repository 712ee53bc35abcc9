/- Contracts of Sessions.Of, All, Drop. -/
import Derived.Test.YtbmjddmejmeknaaEOf
namespace Go.Proofs.Ytbmjddmejmeknaa
open Go.RowKit Go.MapKept Go.Maps Go.ChangeShapes Go.WideShapes
set_option linter.unusedVariables false
set_option linter.unusedSimpArgs false
theorem upto_all {L : List Tri} (h : SOk L) (p : ByteArray) : uptoT L p 1099511627776 = ofP L p := by
  unfold uptoT ofP
  refine List.filter_congr fun a ha => ?_
  have := (okT_iff a).1 (h.ok a ha)
  rw [decide_eq_true (show a.2.1 ≤ 1099511627776 by omega), Bool.and_true]
theorem ofP_mem (L : List Tri) (p : ByteArray) (a : Tri) : a ∈ ofP L p ↔ a ∈ L ∧ a.1 = p := by unfold ofP; rw [List.mem_filter]; simp
/-- the sessions of persons, one behind the other -/
theorem all_flat (gap : Int) (L : List Tri) : ∀ (ps : List ByteArray), Rise ps → allS gap (ps.flatMap (ofP L)) = ps.flatMap fun p => allS gap (ofP L p)
  | [], _ => rfl
  | p :: ps, h => by
    have h' := List.pairwise_cons.1 h
    rw [List.flatMap_cons, List.flatMap_cons, all_app, all_flat gap L ps h'.2]
    intro a ha b hb e
    have ha' := ((ofP_mem L p a).1 ha).2
    obtain ⟨q, hq, hb⟩ := List.mem_flatMap.1 hb
    have hb' := ((ofP_mem L q b).1 hb).2
    have := h'.1 q hq
    rw [← hb', ← e, ha'] at this
    exact ltB_irrefl _ this
theorem flat_rise {L : List Tri} (h : RiseT L) : ∀ (ps : List ByteArray), Rise ps → RiseT (ps.flatMap (ofP L))
  | [], _ => by unfold RiseT RiseG; simp
  | p :: ps, hp => by
    have h' := List.pairwise_cons.1 hp
    rw [List.flatMap_cons]
    unfold RiseT RiseG
    rw [List.pairwise_append]
    refine ⟨h.filter _, flat_rise h ps h'.2, fun a ha b hb => ?_⟩
    have ha' := ((ofP_mem L p a).1 ha).2
    obtain ⟨q, hq, hb⟩ := List.mem_flatMap.1 hb
    have hb' := ((ofP_mem L q b).1 hb).2
    exact .inl (by rw [ha', hb']; exact h'.1 q hq)
theorem flat_filter {L : List Tri} (h : RiseT L) {ps : List ByteArray} (hp : Rise ps) : ps.flatMap (ofP L) = L.filter fun a : Tri => memB ps a.1 := by
  refine RiseG.ext ordA (flat_rise h ps hp) (h.filter _) (fun x => ?_)
  rw [List.mem_flatMap, List.mem_filter, memB_iff]
  constructor
  · rintro ⟨q, hq, hx⟩
    obtain ⟨h1, rfl⟩ := (ofP_mem L q x).1 hx
    exact ⟨h1, hq⟩
  · rintro ⟨h1, h2⟩
    exact ⟨x.1, h2, (ofP_mem L x.1 x).2 ⟨h1, rfl⟩⟩
theorem flat_whole {L : List Tri} (h : RiseT L) {ps : List ByteArray} (hp : Rise ps) (hm : ∀ a ∈ L, a.1 ∈ ps) : ps.flatMap (ofP L) = L := by
  rw [flat_filter h hp]
  exact List.filter_eq_self.2 (fun a ha => (memB_iff _ _).2 (hm a ha))
theorem run_le (gap : Int) : ∀ (L : List Tri) (x : Se), (runS gap x L).length ≤ L.length + 1
  | [], x => by simp [runS]
  | a :: L, x => by
    rw [runS]
    split
    · have := run_le gap L (extS x a); simp; omega
    · have := run_le gap L (newS a); simp; omega
theorem all_le (gap : Int) (L : List Tri) : (allS gap L).length ≤ L.length := by
  cases L with
  | nil => simp [allS]
  | cons a L => rw [all_cons]; have := run_le gap L (newS a); simpa using this
section
variable {w : World} {s : Nat} {B : List Nat} {gap : Int} {L : List Tri}
theorem sof_any (h : SesAt w s B gap L) (p : ByteArray) (hp : p.size ≤ maxLen) :
    Calls Try.prog 23 #[.pointer (some ⟨s, 0, none⟩), .string p] w fun e w' => ∃ (b : Option Addr) (c : Nat) (svs : List SV), e = .returned (.slice b svs.length c) ∧ svs.length ≤ c ∧ c ≤ maxLen ∧ SvIn w' b svs ∧ SvNew w.heap.size svs ∧ svs.map seOf = allS gap (ofP L p) ∧ Below w.heap.size w w' := by
  have HO := Lib.hid (of_any h p 1099511627776 hp (by unfold I64; omega))
  have HL := Lib.hid h.ok
  clear h
  go_enter Try.func23, Try.ntmps23
  go_wp2_with fail
  refine HO.out.mono ?_
  rintro e w2 ⟨b, c, svs, rfl, h1, h2, h3, h4, h5, h6⟩
  rw [upto_all HL.out] at h5
  have HR := Lib.hid (And.intro h1 (And.intro h2 (And.intro h3 (And.intro h4 (And.intro h5 h6)))))
  clear h1 h2 h3 h4 h5 h6 HO
  go_wp2_with fail
  go_ret
  exact ⟨b, c, svs, rfl, HR.out.1, HR.out.2.1, HR.out.2.2.1, HR.out.2.2.2.1, HR.out.2.2.2.2.1, HR.out.2.2.2.2.2⟩
/-- a row of sessions that a call is making -/
structure AllW (w wr : World) (u : Value) (acc : List SV) : Prop where
  row : MkG 31 4 svC w wr u acc
  it : ∀ x ∈ acc, InW wr x.ib 1 (x.its.map fun s => [.string s]) ∧ x.its.length ≤ x.ic ∧ x.ic ≤ maxLen
  ne : ∀ x ∈ acc, ∀ (B o : Nat), x.ib = some ⟨B, o, none⟩ → (x.its ≠ [] → u.ownBlock ≠ some B ∧ B < wr.heap.size) ∧ w.heap.size ≤ B
theorem InW.fr2 {S : Nat → Prop} {w w' : World} {b : Option Addr} {sz : Nat} {css : List (List Value)} (h : InW w b sz css) (hf : Fr S w w') (hs : ∀ k o, b = some ⟨k, o, none⟩ → ¬ S k) : InW w' b sz css := by
  rcases h with h | ⟨B, off, rfl, hl, hc⟩
  · exact .inl h
  · refine .inr ⟨B, off, rfl, Nat.lt_of_lt_of_le hl hf.size, fun i c hi j u hj => ?_⟩
    have e : w'.cell? ⟨B, off + i * sz + j, none⟩ = w.cell? ⟨B, off + i * sz + j, none⟩ := by
      unfold World.cell?
      rw [hf.block B hl (hs B off rfl)]
    rw [e]; exact hc i c hi j u hj
theorem inw_lt {w : World} {B o sz : Nat} {css : List (List Value)} (h : InW w (some ⟨B, o, none⟩) sz css) (hn : css ≠ []) : B < w.heap.size := by
  rcases h with h | ⟨B', o', e, hl, _⟩
  · exact absurd h hn
  · cases e; exact hl
set_option maxRecDepth 20000 in
set_option maxHeartbeats 2000000 in
theorem sall_any (h : SesAt w s B gap L) :
    Calls Try.prog 9 #[.pointer (some ⟨s, 0, none⟩)] w fun e w' => ∃ (b : Option Addr) (c : Nat) (svs : List SV), e = .returned (.slice b svs.length c) ∧ svs.length ≤ c ∧ c ≤ maxLen ∧ SvIn w' b svs ∧ SvNew w.heap.size svs ∧ svs.map seOf = allS gap L ∧ Below w.heap.size w w' := by
  obtain ⟨i0, hi0T, hz0, hz1, hz2⟩ := info_parts infoSes
  obtain ⟨r, mr, mt, mi, role, h1, h2⟩ := h.ex
  have c1 : w.cell? ⟨s, 1, none⟩ = some (.map (some r)) := h1.bk.cell 1
  have hkey : ∀ p, p ∈ mkeys mr ↔ ∃ t i, ((p, t, i) : Tri) ∈ L := fun p => by
    rw [key_iff]
    constructor
    · rintro ⟨b, hb⟩
      obtain ⟨y, l, hy⟩ := List.exists_cons_of_ne_nil (h2.np p b hb)
      have hc : mget (mt p) y.1 = some y.2 := by rw [hy]; simp [mget]
      obtain ⟨z, l', hz⟩ := List.exists_cons_of_ne_nil (h2.nt p b y.1 y.2 hb hc)
      exact ⟨y.1, z.1, (h2.mem _ _ _).2 ⟨b, y.2, hb, hc, by rw [hz]; simp [mget]⟩⟩
    · rintro ⟨t, i, hi⟩
      obtain ⟨b, c, hb, _⟩ := (h2.mem p t i).1 hi
      exact ⟨b, hb⟩
  have hml : mr.length ≤ L.length := by
    have hn : (mkeys mr).Nodup := by have := h1.mp.nd; rwa [vals_keys] at this
    have := nodup_len (m := L.map fun a => a.1) hn (fun p hp => by
      obtain ⟨t, i, hi⟩ := (hkey p).1 hp
      exact List.mem_map.2 ⟨_, hi, rfl⟩)
    simpa [mkeys] using this
  have hL := h.n
  have HK := Lib.hid (keysP_fn (some r) w)
  have hb1 := (Below.refl w.heap.size w).alloc (Nat.le_refl _) (.cells #[.map (some r)] 56)
  have HSO := Lib.hid (sortedP_any r (vals vMap mr) (w.alloc (.cells #[.map (some r)] 56)) (h1.mp.bel hb1) (by rw [vals_len]; omega) w.heap.size (by simp) (by have := (Bk.new w [.map (some r)] 56).cell 0; exact this))
  have HB1 := Lib.hid hb1
  have H := Lib.hid h
  have HKEY := Lib.hid hkey
  clear h h1 h2 hb1 hkey
  go_enter Try.func9, Try.ntmps9
  go_wp2_with fail
  refine HK.out.mono ?_
  rintro e w4 ⟨rfl, rfl⟩
  go_wp2_with fail
  refine HSO.out.mono ?_
  rintro e w5 ⟨v, ps, rfl, q1, q2, q3, q4, b5⟩
  have hst := q3.strs
  obtain ⟨pb, pc, rfl, -, -, hin⟩ := hst
  have HIN := Lib.hid hin
  have HPS : Hid (Rise ps ∧ ∀ p, p ∈ ps ↔ ∃ t i, ((p, t, i) : Tri) ∈ L) := Lib.hid ⟨q1, fun p => by rw [q2, vals_keys]; exact HKEY.out p⟩
  have HB5 := Lib.hid (HB1.out.trans (b5.mono HB1.out.size))
  obtain ⟨n, hn⟩ : ∃ n, ps.length = n := ⟨_, rfl⟩
  have HN := Lib.hid hn
  have HW0 : Hid (AllW w5 w5 (.slice none 0 0) []) := Lib.hid ⟨MkG.nil w5, by simp, by simp⟩
  rw [hn]
  clear q1 q2 q3 q4 b5 hin hn HK HSO c1
  have hn1 : n ≤ 100000 := by
    have h1 := nodup_len (m := L.map fun a => a.1) HPS.out.1.nodup (fun p hp => by
      obtain ⟨t, i, hi⟩ := (HPS.out.2 p).1 hp
      exact List.mem_map.2 ⟨_, hi, rfl⟩)
    rw [List.length_map, HN.out] at h1
    omega
  go_wp2_with fail
  go_loopw [3, 13] (fun u c wr => ∃ (k : Nat) (acc : List SV), k ≤ n ∧ c = .int .i64 k ∧ Hid (acc.map seOf = (ps.take k).flatMap fun p => allS gap (ofP L p)) ∧ Hid (AllW w5 wr u acc)) (fun _ c _ => n - (intOf c).toNat)
  case atStart => exact ⟨0, [], Nat.zero_le _, rfl, Lib.hid rfl, HW0⟩
  case round =>
    obtain ⟨k, acc, hk, rfl, HA, HW⟩ := hrel
    clear HW0
    by_cases hlt : k < n
    · obtain ⟨p, hp⟩ : ∃ p, ps[k]? = some p := ⟨ps[k]'(by rw [HN.out]; exact hlt), List.getElem?_eq_getElem _⟩
      have hpo : p.size ≤ maxLen := by
        obtain ⟨t, i, hi⟩ := (HPS.out.2 p).1 (List.mem_of_getElem? hp)
        have := (okT_iff _).1 (H.out.ok.ok _ hi)
        unfold maxLen
        have := this.2.1
        show p.size ≤ _
        simp only at this
        omega
      obtain ⟨Bp, op, rfl, hBp, hcp⟩ := inw_at Value.string HIN.out hp
      have d0 : wr.cell? ⟨Bp, op + k, none⟩ = some (.string p) := (HW.out.row.bl.cell (p := ⟨Bp, op + k, none⟩) hBp).trans hcp
      have hk0 : (0 : Int) ≤ (k : Int) := by omega
      have hk1 : (k : Int) < (n : Int) := by omega
      have HO := Lib.hid (sof_any (H.out.bel (HB5.out.trans (HW.out.row.bl.mono HB5.out.size))) p hpo)
      have HP := Lib.hid hp
      clear hp hcp hpo
      go_wp2_with fail
      refine HO.out.mono ?_
      rintro e w6 ⟨b6, c6, svs, rfl, x1, x2, x3, x4, x5, x6⟩
      obtain ⟨ln, hln⟩ : ∃ ln, svs.length = ln := ⟨_, rfl⟩
      have hrow := (HW.out.row.bel x6).tx
      have HLN : Hid (acc.length + svs.length ≤ 1000000) := Lib.hid (by
        have e1 : (acc ++ svs).map seOf = allS gap ((ps.take (k + 1)).flatMap (ofP L)) := by
          rw [all_flat gap L _ (List.Pairwise.sublist (List.take_sublist _ _) HPS.out.1), List.map_append, HA.out, x5, List.take_add_one, HP.out, List.flatMap_append]
          simp
        have e2 := all_le gap ((ps.take (k + 1)).flatMap (ofP L))
        rw [← e1, flat_filter H.out.ok.rise (List.Pairwise.sublist (List.take_sublist _ _) HPS.out.1)] at e2
        have e3 := List.length_filter_le (fun a : Tri => memB (ps.take (k + 1)) a.1) L
        rw [List.length_map, List.length_append] at e2
        omega)
      have HA2 : Hid ((acc ++ svs).map seOf = (ps.take (k + 1)).flatMap fun p => allS gap (ofP L p)) := Lib.hid (by
        rw [List.map_append, HA.out, x5, List.take_add_one, HP.out, List.flatMap_append]
        simp)
      have HROW := Lib.hid hrow
      have HIS := Lib.hid x3
      have HSN := Lib.hid x4
      have HB6 := Lib.hid x6
      have HLE : Hid (ln = svs.length) := Lib.hid hln.symm
      rw [hln]
      clear x1 x2 x3 x4 x5 x6 hrow hln HO
      go_wp2_with (at_builtin; refine wpList_append_m svLen svOne _ rfl _ _ _ rfl 31 i0 _ 56 Try.underlying25 hi0T hz0 hz1 hz2 rfl (by decide) (by omega) u3 acc svs rfl HROW.out b6 ln c6 rfl HLE.out HIS.out.i HLN.out ?_; intro v7 w7 o7 f7 h7)
      have HW7 : Hid (AllW w5 w7 v7 (acc ++ svs)) := Lib.hid (by
        have hr6 := HW.out.row.bel HB6.out
        have hu : ∀ B o, (∃ x ∈ svs, x.ib = some ⟨B, o, none⟩) → u3.ownBlock ≠ some B := fun B o ⟨x, hx, e⟩ hc => by
          have h1 := HSN.out x hx B o e
          have h2 := own_lt (HW.out.row.tx) hc
          omega
        refine ⟨hr6.more o7 f7 h7, fun x hx => ?_, fun x hx B o e => ?_⟩
        · by_cases hx0 : x.its = []
          · refine ⟨.inl (by rw [hx0]; rfl), ?_⟩
            rcases List.mem_append.1 hx with hx | hx
            · exact (HW.out.it x hx).2
            · exact (HIS.out.it x hx).2
          · rcases List.mem_append.1 hx with hx | hx
            · obtain ⟨g1, g2⟩ := HW.out.it x hx
              exact ⟨InW.fr2 (g1.bel HB6.out) f7 (fun B o e hc => ((HW.out.ne x hx B o e).1 hx0).1 hc), g2⟩
            · obtain ⟨g1, g2⟩ := HIS.out.it x hx
              exact ⟨InW.fr2 g1 f7 (fun B o e hc => hu B o ⟨x, hx, e⟩ hc), g2⟩
        · have hz := HB6.out.size
          have hz7 := f7.size
          have hz5 := HW.out.row.bl.size
          refine ⟨fun hx0 => ?_, ?_⟩
          · have hown : u3.ownBlock ≠ some B ∧ B < w6.heap.size := by
              rcases List.mem_append.1 hx with hx | hx
              · obtain ⟨g1, g2⟩ := (HW.out.ne x hx B o e).1 hx0
                exact ⟨g1, by omega⟩
              · have g := (HIS.out.it x hx).1
                rw [e] at g
                exact ⟨hu B o ⟨x, hx, e⟩, inw_lt g (fun c => hx0 (List.map_eq_nil_iff.1 c))⟩
            refine ⟨fun c => ?_, by omega⟩
            rcases h7 with h7 | h7
            · rw [h7] at c; exact hown.1 c
            · rw [h7] at c
              have := Option.some.inj c
              omega
          · rcases List.mem_append.1 hx with hx | hx
            · exact (HW.out.ne x hx B o e).2
            · have := HSN.out x hx B o e; omega)
      clear o7 f7 h7
      go_wp2_with fail
      go_roundw
      case rel => exact ⟨k + 1, acc ++ svs, by omega, by go_num, HA2, HW7⟩
      case measure => simp [intOf]; omega
    · obtain rfl : k = n := by omega
      obtain ⟨ub, uc, hu, h1, h2, h3⟩ := HW.out.row.read svLen (by omega)
      have HFA : Hid (acc.map seOf = allS gap L) := Lib.hid (by
        rw [HA.out, List.take_of_length_le (by rw [HN.out]; omega), ← all_flat gap L ps HPS.out.1, flat_whole H.out.ok.rise HPS.out.1 (fun a ha => (HPS.out.2 a.1).2 ⟨a.2.1, a.2.2, ha⟩)])
      have HF := Lib.hid (And.intro h1 (And.intro h2 h3))
      subst hu
      clear h1 h2 h3
      go_wp2_with fail
      go_ret
      exact ⟨ub, uc, acc, rfl, HF.out.1, HF.out.2.1, ⟨HF.out.2.2, HW.out.it⟩, fun x hx B o e => Nat.le_trans HB5.out.size (HW.out.ne x hx B o e).2, HFA.out, HB5.out.trans (HW.out.row.bl.mono HB5.out.size)⟩
end
end Go.Proofs.Ytbmjddmejmeknaa

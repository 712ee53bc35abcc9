/- The document's New and Add as things at hand (K12); sessions that a call of the document lays out. -/
import Derived.Test.YtcnddbcdkpdkbaaEDAdd
import Derived.Test.YtcnddbcdkpdkbaaEApart
namespace Go.Proofs.Ytcnddbcdkpdkbaa
open Go.RowKit Go.MapKept Go.Maps Go.ChangeShapes Go.WideShapes
set_option linter.unusedVariables false
set_option linter.unusedSimpArgs false
theorem put_same {L : List Tri} {a : Tri} (h : L[belowG aheadP L a]? = some a) : insT L a = L := by
  unfold insT putG; rw [if_pos h]
theorem dadd_any {w : World} {p : Nat} {B : List Nat} {gap : Int} {L : List Tri} (h : DocAt w p B gap L) (a : Tri) (ha : aOk a) (hn : L.length + 1 ≤ 100000) :
    Calls Try.prog 16 #[.pointer (some ⟨p, 0, none⟩), .agg #[.string a.1, .int .i64 a.2.1, .string a.2.2]] w fun e w' => e = .returned (.bool (okT a)) ∧ (∃ B', DocAt w' p B' gap (addT L a) ∧ Sprd w B B') ∧ Fr (fun b => b ∈ B) w w' := by
  by_cases hok : okT a = true
  · rw [show addT L a = insT L a by unfold addT; rw [if_pos hok], hok]
    by_cases hk : L[belowG aheadP L a]? = some a
    · refine (dadd_same h a hok hn hk).mono ?_
      rintro e w' ⟨rfl, hb⟩
      rw [put_same hk]
      exact ⟨rfl, ⟨B, h.bel hb, fun b hb => .inl hb⟩, Fr.of_bel hb⟩
    · exact dadd_new h a hok hn hk
  · have hok2 : okT a = false := by simpa using hok
    rw [show addT L a = L by unfold addT; rw [if_neg hok], hok2]
    refine (dadd_no (some ⟨p, 0, none⟩) a w ha hok2).mono ?_
    rintro e w' ⟨rfl, hb⟩
    exact ⟨rfl, ⟨B, h.bel hb, fun b hb => .inl hb⟩, Fr.of_bel hb⟩
section
variable {w0 w : World} {os : List Ob12} {i p : Nat} {gap : Int} {L : List Tri}
theorem h_doc (h : Here K12 w0 w os) (hi : os[i]? = some (.doc p gap L)) : ∃ B, DocAt w p B gap L := by
  obtain ⟨B, h1, _⟩ := h.use hi
  exact ⟨B, h1⟩
theorem h_dnew (h : Here K12 w0 w os) (x : Int) (hx : I64 x) :
    Calls Try.prog 14 #[.int .i64 x] w fun e w' => e = .returned (.pointer (some ⟨w.heap.size, 0, none⟩)) ∧ Here K12 w0 w' (os ++ [.doc w.heap.size (gapOf x) []]) := by
  refine (doc_new x w hx).mono ?_
  rintro e w' ⟨rfl, h1, h2⟩
  exact ⟨rfl, h.push h2 (o := .doc _ _ _) h1 (fun b hb => by simp at hb; omega)⟩
theorem h_dadd (h : Here K12 w0 w os) (hi : os[i]? = some (.doc p gap L)) (a : Tri) (ha : aOk a) (hn : L.length + 1 ≤ 100000) :
    Calls Try.prog 16 #[.pointer (some ⟨p, 0, none⟩), .agg #[.string a.1, .int .i64 a.2.1, .string a.2.2]] w fun e w' => e = .returned (.bool (okT a)) ∧ Here K12 w0 w' (os.set i (.doc p gap (addT L a))) := by
  obtain ⟨B, h1, _, h3, _⟩ := h.use hi
  refine (dadd_any h1 a ha hn).mono ?_
  rintro e w' ⟨rfl, ⟨B', h4, h5⟩, h6⟩
  exact ⟨rfl, h3 w' (.doc p gap (addT L a)) B' h4 h6 h5⟩
end
/-- sessions that the document's All lays out: a row of its own, and each one's items -/
structure OutR (w wr : World) (e : TypeId) (u : Value) (svs : List SV) : Prop where
  bl : Below w.heap.size w wr
  rw : wr.ownsRow 0 e 4 u svs.length (svs.flatMap svC)
  nw : ∀ b, u.ownBlock = some b → w.heap.size ≤ b
  it : ∀ x ∈ svs, InW wr x.ib 1 (x.its.map fun s => [.string s]) ∧ x.its.length ≤ x.ic ∧ x.ic ≤ maxLen
  ap : ∀ x ∈ svs, ∀ B o, x.ib = some ⟨B, o, none⟩ → u.ownBlock ≠ some B
  lt : ∀ x ∈ svs, ∀ B o, x.ib = some ⟨B, o, none⟩ → B < wr.heap.size
theorem OutR.nil (w : World) (e : TypeId) : OutR w w e (.slice none 0 0) [] := ⟨Below.refl _ _, ⟨rfl, .inl ⟨rfl, rfl⟩⟩, by simp [Value.ownBlock], by simp, by simp, by simp⟩
theorem OutR.fr {w wr w' : World} {e : TypeId} {u : Value} {svs : List SV} (h : OutR w wr e u svs) (hb : Below wr.heap.size wr w') : OutR w w' e u svs :=
  ⟨h.bl.trans (hb.mono h.bl.size), (Fr.of_bel (S := none') hb).row h.rw (fun _ _ => id), h.nw, fun x hx => ⟨(h.it x hx).1.bel hb, (h.it x hx).2⟩, h.ap, fun x hx B o hB => Nat.lt_of_lt_of_le (h.lt x hx B o hB) hb.size⟩
/-- one more, its items laid ahead of it -/
theorem OutR.more {w wr w' : World} {e : TypeId} {u u' : Value} {svs : List SV} {z : SV} (h : OutR w wr e u svs) (ho : w'.ownsRow 0 e 4 u' (svs ++ [z]).length ((svs ++ [z]).flatMap svC)) (hf : Fr (fun b => u.ownBlock = some b) wr w') (he : Hence u u' wr)
    (hz : InW wr z.ib 1 (z.its.map fun s => [.string s]) ∧ z.its.length ≤ z.ic ∧ z.ic ≤ maxLen) (hzb : ∀ B o, z.ib = some ⟨B, o, none⟩ → B < wr.heap.size ∧ u.ownBlock ≠ some B) : OutR w w' e u' (svs ++ [z]) := by
  have hbl : Below w.heap.size w w' := below_of_fr h.bl hf (fun b hb => h.nw b hb)
  have hap : ∀ x ∈ svs ++ [z], ∀ B o, x.ib = some ⟨B, o, none⟩ → B < wr.heap.size ∧ u.ownBlock ≠ some B := fun x hx B o hB => by
    rcases List.mem_append.1 hx with hx | hx
    · exact ⟨h.lt x hx B o hB, h.ap x hx B o hB⟩
    · simp at hx; subst hx; exact hzb B o hB
  refine ⟨hbl, ho, fun b hb => ?_, fun x hx => ?_, fun x hx B o hB hc => ?_, fun x hx B o hB => Nat.lt_of_lt_of_le (hap x hx B o hB).1 hf.size⟩
  · rcases he with k | k
    · exact h.nw b (by rw [← k]; exact hb)
    · rw [k] at hb; cases hb; exact h.bl.size
  · have hx2 : InW wr x.ib 1 (x.its.map fun s => [.string s]) ∧ x.its.length ≤ x.ic ∧ x.ic ≤ maxLen := by
      rcases List.mem_append.1 hx with hx | hx
      · exact h.it x hx
      · simp at hx; subst hx; exact hz
    exact ⟨InW.fr2 hx2.1 hf (fun k o hk => (hap x hx k o hk).2), hx2.2⟩
  · obtain ⟨h1, h2⟩ := hap x hx B o hB
    rcases he with k | k
    · rw [k] at hc; exact h2 hc
    · rw [k] at hc; cases hc; omega
theorem row_at {w : World} {e : TypeId} {g cap : Nat} {svs : List SV} {z : SV} {n : Nat} (h : w.ownsRow 0 e 4 (.slice (some ⟨g, 0, none⟩) n cap) n ((svs ++ [z]).flatMap svC)) (k : Nat) (hk : k < 4) : w.cell? ⟨g, svs.length * 4 + k, none⟩ = (svC z)[k]? := by
  have hc := h.cells (g := g) rfl (svs.length * 4 + k)
  cases hv : (svC z)[k]? with
  | none => rw [List.getElem?_eq_none_iff] at hv; rw [svLen] at hv; omega
  | some v =>
    have := hc v (flat_at svLen (xs := svs ++ [z]) (i := svs.length) (x := z) (by simp) hv)
    rw [Addr.add_lit, Nat.zero_add] at this
    exact this
def setSV (w : World) (g k : Nat) (z : SV) : World := (((w.setCell ⟨g, k, none⟩ (.string z.p)).setCell ⟨g, k + 1, none⟩ (.int .i64 z.f)).setCell ⟨g, k + 2, none⟩ (.int .i64 z.t)).setCell ⟨g, k + 3, none⟩ (.slice z.ib z.its.length z.ic)
/-- the last one laid anew -/
theorem OutR.last {w wr : World} {e : TypeId} {g cap n : Nat} {svs : List SV} {z z' : SV} (h : OutR w wr e (.slice (some ⟨g, 0, none⟩) n cap) (svs ++ [z])) (hn : n = svs.length + 1)
    (hz : InW wr z'.ib 1 (z'.its.map fun s => [.string s]) ∧ z'.its.length ≤ z'.ic ∧ z'.ic ≤ maxLen) (hzb : ∀ B o, z'.ib = some ⟨B, o, none⟩ → B ≠ g ∧ B < wr.heap.size) : OutR w (setSV wr g (svs.length * 4) z') e (.slice (some ⟨g, 0, none⟩) n cap) (svs ++ [z']) := by
  have hl : (svs ++ [z]).length = n := by rw [hn, List.length_append]; rfl
  have hl' : (svs ++ [z']).length = n := by rw [hn, List.length_append]; rfl
  have hr := h.rw
  rw [hl] at hr
  have hg : (Value.slice (some ⟨g, 0, none⟩) n cap).ownBlock = some g := rfl
  have f0 : Fr (fun b => b = g) wr (setSV wr g (svs.length * 4) z') := ((((Fr.refl (fun b => b = g) wr).setCell g _ _ (.inr rfl)).setCell g _ _ (.inr rfl)).setCell g _ _ (.inr rfl)).setCell g _ _ (.inr rfl)
  have hit : ∀ x ∈ svs ++ [z'], (InW wr x.ib 1 (x.its.map fun s => [.string s]) ∧ x.its.length ≤ x.ic ∧ x.ic ≤ maxLen) ∧ ∀ B o, x.ib = some ⟨B, o, none⟩ → B ≠ g ∧ B < wr.heap.size := fun x hx => by
    rcases List.mem_append.1 hx with hx | hx
    · exact ⟨h.it x (List.mem_append_left _ hx), fun B o hB => ⟨fun e => h.ap x (List.mem_append_left _ hx) B o hB (by rw [hg, e]), h.lt x (List.mem_append_left _ hx) B o hB⟩⟩
    · simp at hx; subst hx; exact ⟨hz, hzb⟩
  refine ⟨below_of_fr h.bl f0 (fun b hb => by subst hb; exact h.nw _ hg), ?_, h.nw, fun x hx => ⟨InW.fr2 (hit x hx).1.1 f0 (fun k o hk => ((hit x hx).2 k o hk).1), (hit x hx).1.2⟩, fun x hx B o hB hc => ((hit x hx).2 B o hB).1 (by rw [hg] at hc; exact (Option.some.inj hc).symm), fun x hx B o hB => Nat.lt_of_lt_of_le ((hit x hx).2 B o hB).2 f0.size⟩
  rw [hl']
  have r1 := own_set hr (k := svs.length * 4) (u := .string z'.p) (by omega)
  have r2 := own_set r1 (k := svs.length * 4 + 1) (u := .int .i64 z'.f) (by omega)
  have r3 := own_set r2 (k := svs.length * 4 + 2) (u := .int .i64 z'.t) (by omega)
  have r4 := own_set r3 (k := svs.length * 4 + 3) (u := .slice z'.ib z'.its.length z'.ic) (by omega)
  have e4 : (((((svs ++ [z]).flatMap svC).set (svs.length * 4) (.string z'.p)).set (svs.length * 4 + 1) (.int .i64 z'.f)).set (svs.length * 4 + 2) (.int .i64 z'.t)).set (svs.length * 4 + 3) (.slice z'.ib z'.its.length z'.ic) = (svs ++ [z']).flatMap svC := by
    have s0 := flat_set svs z 0 (.string z'.p) (by omega)
    rw [Nat.add_zero] at s0
    have g1 : svs.flatMap svC ++ (svC z).set 0 (.string z'.p) = (svs ++ [({ z with p := z'.p } : SV)]).flatMap svC := by rw [List.flatMap_append]; rfl
    rw [s0, g1, flat_set svs _ 1 _ (by omega)]
    have g2 : svs.flatMap svC ++ (svC { z with p := z'.p }).set 1 (.int .i64 z'.f) = (svs ++ [({ z with p := z'.p, f := z'.f } : SV)]).flatMap svC := by rw [List.flatMap_append]; rfl
    rw [g2, flat_set svs _ 2 _ (by omega)]
    have g3 : svs.flatMap svC ++ (svC { z with p := z'.p, f := z'.f }).set 2 (.int .i64 z'.t) = (svs ++ [({ z with p := z'.p, f := z'.f, t := z'.t } : SV)]).flatMap svC := by rw [List.flatMap_append]; rfl
    rw [g3, flat_set svs _ 3 _ (by omega), List.flatMap_append]
    rfl
  rw [e4] at r4
  exact r4
/-- what is handed out -/
theorem OutR.fin {w wr : World} {e : TypeId} {u : Value} {svs : List SV} (h : OutR w wr e u svs) : ∃ b c, u = .slice b svs.length c ∧ svs.length ≤ c ∧ c ≤ maxLen ∧ SvIn wr b svs := by
  obtain ⟨b, c, h1, h2, h3, h4, _⟩ := inw_of_rowm svLen (by omega) h.rw
  exact ⟨b, c, h1, h2, h3, h4, h.it⟩
end Go.Proofs.Ytcnddbcdkpdkbaa

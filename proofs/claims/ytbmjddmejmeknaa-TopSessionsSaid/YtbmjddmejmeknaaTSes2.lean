/- The top's laws over sessions: small facts that join sessions and pairs. -/
import Derived.Test.YtbmjddmejmeknaaTSes
namespace Go.Proofs.Ytbmjddmejmeknaa
open Go.RowKit Go.MapKept Go.Maps Go.ChangeShapes Go.WideShapes
open Pn (AddT atC atOk ats_at fewT)
set_option linter.unusedVariables false
set_option linter.unusedSimpArgs false
theorem svAt {w : World} {b : Option Addr} {l : List SV} (h : InW w b 4 (l.map svC)) {i : Nat} {a : SV} (ha : l[i]? = some a) : ∃ B off, b = some ⟨B, off, none⟩ ∧ B < w.heap.size ∧ w.cell? ⟨B, off + i * 4, none⟩ = some (.string a.p) ∧ w.cell? ⟨B, off + i * 4 + 1, none⟩ = some (.int .i64 a.f) ∧ w.cell? ⟨B, off + i * 4 + 2, none⟩ = some (.int .i64 a.t) ∧ w.cell? ⟨B, off + i * 4 + 3, none⟩ = some (.slice a.ib a.its.length a.ic) := by
  have hm : (l.map svC)[i]? = some (svC a) := by rw [List.getElem?_map, ha]; rfl
  rcases h with h | ⟨B, off, hb, hl, hc⟩
  · rw [h] at hm; simp at hm
  · exact ⟨B, off, hb, hl, hc i _ hm 0 _ rfl, hc i _ hm 1 _ rfl, hc i _ hm 2 _ rfl, hc i _ hm 3 _ rfl⟩
def itN (k : ByteArray) (x : SV) : Nat := Pr.c1 x.its k
def toPr (x : SV) : Pr.Sv := ⟨x.p, x.f, x.t, x.ib, x.ic, x.its⟩
theorem its_cnt (k : ByteArray) : ∀ svs : List SV, (∀ x ∈ svs, Rise x.its) → (svs.map (itN k)).sum = Pr.cntB (svs.map toPr) k k
  | [], _ => rfl
  | x :: svs, h => by
    have ih := its_cnt k svs (fun y hy => h y (by simp [hy]))
    have e1 : Pr.cntB ((x :: svs).map toPr) k k = Pr.cntB (svs.map toPr) k k + if Pr.hasB (toPr x) k k = true then 1 else 0 := by
      unfold Pr.cntB; rw [List.map_cons, List.countP_cons]
    rw [List.map_cons, List.sum_cons, ih, e1]
    unfold itN
    rw [Pr.c1_nodup (h x (by simp)).nodup]
    by_cases e : k ∈ x.its
    · have : Pr.hasB (toPr x) k k = true := by unfold Pr.hasB; rw [Bool.and_self]; exact (memB_iff _ _).2 e
      rw [if_pos e, if_pos this]; omega
    · have : Pr.hasB (toPr x) k k = false := by unfold Pr.hasB; rw [Bool.and_self]; exact memB_no e
      rw [if_neg e, this]; simp
theorem sum_snoc {svs : List SV} {j : Nat} {x : SV} (h : svs[j]? = some x) (f : SV → Nat) : ((svs.take (j + 1)).map f).sum = ((svs.take j).map f).sum + f x := by
  rw [List.take_add_one, h, Option.toList_some, List.map_append, List.sum_append]
  simp
theorem c1_snoc {l : List ByteArray} {j : Nat} {x : ByteArray} (h : l[j]? = some x) (k : ByteArray) : Pr.c1 (l.take (j + 1)) k = Pr.c1 (l.take j) k + if x = k then 1 else 0 := by
  unfold Pr.c1
  rw [List.take_add_one, h, Option.toList_some, List.countP_append]
  congr 1
  by_cases e : x = k <;> simp [e]
def covB (q : Int) (x : SV) : Bool := decide (x.f ≤ q) && decide (q ≤ x.t)
theorem cov_snoc {svs : List SV} {j : Nat} {x : SV} (h : svs[j]? = some x) (q : Int) : (svs.take (j + 1)).countP (covB q) = (svs.take j).countP (covB q) + if covB q x = true then 1 else 0 := by
  rw [List.take_add_one, h, Option.toList_some, List.countP_append]
  congr 1
  by_cases e : covB q x = true <;> simp [e]
theorem cov_map (svs : List SV) (q : Int) : (svs.map seOf).countP (fun z => decide (z.f ≤ q) && decide (q ≤ z.t)) = svs.countP (covB q) := by
  rw [List.countP_map]
  rfl
theorem pr_in {w : World} {b : Option Addr} {svs : List SV} (h : SvIn w b svs) (hs : ∀ x ∈ svs, ∀ i ∈ x.its, i.size ≤ 24) : Pr.SvIn w b (svs.map toPr) := by
  refine ⟨?_, fun y hy => ?_⟩
  · have e : (svs.map toPr).map Pr.svC = svs.map svC := by
      rw [List.map_map]; rfl
    rw [e]; exact h.i
  · obtain ⟨x, hx, rfl⟩ := List.mem_map.1 hy
    obtain ⟨h1, h2, h3⟩ := h.it x hx
    exact ⟨h1, h2, h3, fun s hs' => by have := hs x hx s hs'; unfold maxLen; omega⟩
/-- sessions in memory that are those of the visits -/
structure SeIn (w : World) (b : Option Addr) (l : List AddT) (g : Int) (svs : List SV) : Prop where
  si : SvIn w b svs
  fi : Fine l g (svs.map seOf)
theorem SeIn.bel {w w' : World} {b : Option Addr} {l : List AddT} {g : Int} {svs : List SV} (h : SeIn w b l g svs) (hb : Below w.heap.size w w') : SeIn w' b l g svs := ⟨h.si.bel hb, h.fi⟩
theorem SeIn.ok {w : World} {b : Option Addr} {l : List AddT} {g : Int} {svs : List SV} (h : SeIn w b l g svs) {x : SV} (hx : x ∈ svs) : FineS (seOf x) ∧ ((0 ≤ x.f ∧ x.f ≤ 65535) ∧ (0 ≤ x.t ∧ x.t ≤ 65535)) ∧ x.its.length ≤ 100 ∧ ∀ i ∈ x.its, i.size ≤ 24 := by
  have hm : seOf x ∈ svs.map seOf := List.mem_map.2 ⟨x, hx, rfl⟩
  exact ⟨h.fi.fi _ hm, h.fi.rg _ hm, h.fi.sz _ hm⟩
theorem SeIn.gap {w : World} {b : Option Addr} {l : List AddT} {g : Int} {svs : List SV} (h : SeIn w b l g svs) {j : Nat} {z x : SV} (hz : svs[j]? = some z) (hx : svs[j + 1]? = some x) : g < x.f - z.t := by
  have hap := h.fi.ap
  have e1 : (svs.map seOf)[j]? = some (seOf z) := by rw [List.getElem?_map, hz]; rfl
  have e2 : (svs.map seOf)[j + 1]? = some (seOf x) := by rw [List.getElem?_map, hx]; rfl
  obtain ⟨a1, b1⟩ := List.getElem?_eq_some_iff.1 e1
  obtain ⟨a2, b2⟩ := List.getElem?_eq_some_iff.1 e2
  have := List.pairwise_iff_getElem.1 hap j (j + 1) a1 a2 (by omega)
  rw [b1, b2] at this
  exact this
theorem SeIn.light {w : World} {b : Option Addr} {l : List AddT} {g : Int} {svs : List SV} (h : SeIn w b l g svs) : Pr.Light (svs.map toPr) := by
  have := h.fi.ln
  rw [List.length_map] at this
  refine ⟨by rw [List.length_map]; exact this, fun y hy => ?_⟩
  obtain ⟨x, hx, rfl⟩ := List.mem_map.1 hy
  exact (h.ok hx).2.2.1
theorem SeIn.one {w : World} {b : Option Addr} {l : List AddT} {g : Int} {svs : List SV} (h : SeIn w b l g svs) {a : AddT} (ha : a ∈ l) : svs.countP (covB ((a.2.1 : Nat) : Int)) = 1 := by
  rw [← cov_map]
  exact h.fi.on a ha
theorem gap_of {g : Int} (h1 : 1 ≤ g) (h2 : g ≤ 256) : gapOf g = g := by unfold gapOf; omega
/-- All, of visits -/
theorem all_vis {w0 w : World} {s : Nat} {g : Int} {l : List AddT} (h : VisI w0 w s g (Lp l)) (hg : 0 ≤ g) (hl : l.length ≤ 60) (ho : ∀ a ∈ l, okT (vis a) = true) (h16 : ∀ a ∈ l, atOk a) :
    Calls Try.prog 9 #[.pointer (some ⟨s, 0, none⟩)] w fun e w' => ∃ (b : Option Addr) (c : Nat) (svs : List SV), e = .returned (.slice b svs.length c) ∧ svs.length ≤ c ∧ c ≤ maxLen ∧ SeIn w' b l g svs ∧ svs.map seOf = allS g (Lp l) ∧ Below w.heap.size w w' := by
  obtain ⟨B, h1, _⟩ := h.se
  refine (sall_any h1).mono ?_
  rintro e w' ⟨b, c, svs, h2, h3, h4, h5, _, h7, h8⟩
  exact ⟨b, c, svs, h2, h3, h4, ⟨h5, by rw [h7]; exact fine_of hg hl ho h16⟩, h7, h8⟩
end Go.Proofs.Ytbmjddmejmeknaa

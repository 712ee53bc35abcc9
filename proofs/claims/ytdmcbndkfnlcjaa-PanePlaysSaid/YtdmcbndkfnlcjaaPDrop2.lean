/- Contract of (*pane.Panes).Drop: the walk. -/
import Derived.Test.YtdmcbndkfnlcjaaPDrop
import Derived.Test.YtdmcbndkfnlcjaaRowAny
namespace Go.Proofs.Ytdmcbndkfnlcjaa
open Go.RowKit Go.MapKept Go.Maps
set_option linter.unusedVariables false
theorem PaneR.parts {w : World} {p s r : Nat} {wd ad : Int} {sm : List (CK × Int)} {rw : Rows} (h : PaneR w p s r wd ad sm rw) :
    (p ≠ s ∧ p ≠ r ∧ p ∉ rw.filterMap (fun x => x.2.1.ownBlock)) ∧ (s ≠ r ∧ s ∉ rw.filterMap (fun x => x.2.1.ownBlock)) ∧ r ∉ rw.filterMap (fun x => x.2.1.ownBlock) ∧ (rw.filterMap (fun x => x.2.1.ownBlock)).Nodup := by
  have nd := h.nd
  simp only [pblocks, List.nodup_cons, List.mem_cons, not_or] at nd
  exact nd
theorem PaneR.delSum {w w' : World} {p s r : Nat} {wd ad : Int} {sm : List (CK × Int)} {rw : Rows} (h : PaneR w p s r wd ad sm rw) {c : CK}
    (m1 : Mp encC okC w' s (mdel (sm.map fun x => (x.1, .int .i64 x.2)) c)) (f : Fr (fun b => b = s) w w') : PaneR w' p s r wd ad (mdel sm c) rw := by
  obtain ⟨⟨n1, n2, n3⟩, ⟨n4, n5⟩, n6, n7⟩ := h.parts
  refine ⟨h.bk.fr f n1, ?_, h.rows.fr f (Ne.symm n4), fun x hx => f.row (h.own x hx) (fun b hb e => n5 (e ▸ List.mem_filterMap.2 ⟨x, hx, hb⟩)), h.nd⟩
  rw [← mdel_map (fun x => Value.int .i64 x)]; exact m1
theorem PaneR.delRow {w w' : World} {p s r : Nat} {wd ad : Int} {sm : List (CK × Int)} {rw : Rows} (h : PaneR w p s r wd ad sm rw) {k : ByteArray}
    (m1 : Mp encS okS w' r (mdel (rw.map fun x => (x.1, x.2.1)) k)) (f : Fr (fun b => b = r) w w') : PaneR w' p s r wd ad sm (mdel rw k) ∧ ∀ b ∈ pblocks p s r (mdel rw k), b ∈ pblocks p s r rw := by
  obtain ⟨⟨n1, n2, n3⟩, ⟨n4, n5⟩, n6, n7⟩ := h.parts
  have hsub : ((mdel rw k).filterMap (fun x => x.2.1.ownBlock)).Sublist (rw.filterMap (fun x => x.2.1.ownBlock)) := (del_sub rw k).filterMap _
  refine ⟨⟨h.bk.fr f n2, h.sums.fr f n4, ?_, fun x hx => f.row (h.own x ((del_sub rw k).subset hx)) (fun b hb e => n6 (e ▸ List.mem_filterMap.2 ⟨x, (del_sub rw k).subset hx, hb⟩)), ?_⟩, fun b hb => ?_⟩
  · rw [← mdel_map (fun x : Value × List Int => x.1)]; exact m1
  · exact h.nd.sublist ((hsub.cons_cons r).cons_cons s |>.cons_cons p)
  · simp only [pblocks, List.mem_cons] at hb ⊢
    rcases hb with h | h | h | h
    · exact .inl h
    · exact .inr (.inl h)
    · exact .inr (.inr (.inl h))
    · exact .inr (.inr (.inr (hsub.subset h)))
theorem PaneR.putRow {w w' : World} {p s r : Nat} {wd ad : Int} {sm : List (CK × Int)} {rw : Rows} (h : PaneR w p s r wd ad sm rw) {k : ByteArray} {v : Value} {l : List Int}
    (m1 : Mp encS okS w' r (mput (rw.map fun x => (x.1, x.2.1)) k v)) (f : Fr (fun b => b = r) w w') (ho : w.ownsRow 0 3 1 v l.length (l.map (Value.int .i64)))
    (hv : ∀ b, v.ownBlock = some b → b ∉ pblocks p s r rw) : PaneR w' p s r wd ad sm (mput rw k (v, l)) ∧ ∀ b ∈ pblocks p s r (mput rw k (v, l)), b ∈ pblocks p s r rw ∨ v.ownBlock = some b := by
  obtain ⟨⟨n1, n2, n3⟩, ⟨n4, n5⟩, n6, n7⟩ := h.parts
  have hv' : ∀ b, v.ownBlock = some b → b ≠ p ∧ b ≠ s ∧ b ≠ r ∧ b ∉ rw.filterMap (fun x => x.2.1.ownBlock) := fun b hb => by
    have := hv b hb
    simp only [pblocks, List.mem_cons, not_or] at this
    exact this
  have hout : ∀ b, b ∉ rw.filterMap (fun x => x.2.1.ownBlock) → v.ownBlock ≠ some b → b ∉ (mput rw k (v, l)).filterMap (fun x => x.2.1.ownBlock) := fun b h1 h2 h3 => by
    rcases mem_fm_put h3 with h | h
    · exact h2 h
    · exact h1 h
  refine ⟨⟨h.bk.fr f n2, h.sums.fr f n4, ?_, fun x hx => ?_, ?_⟩, fun b hb => ?_⟩
  · rw [← mput_map (fun x : Value × List Int => x.1)]; exact m1
  · rcases mem_put hx with rfl | hx'
    · exact f.row ho (fun b hb e => (hv' b hb).2.2.1 e)
    · by_cases hk : x.1 = k
      · have hget := get_of_mem (nodup_put (nodup_of_map h.rows.nd) k (v, l)) hx
        rw [get_put, if_pos hk.symm] at hget
        have : x.2 = (v, l) := (Option.some.inj hget).symm
        rw [this]; exact f.row ho (fun b hb e => (hv' b hb).2.2.1 e)
      · exact f.row (h.own x hx') (fun b hb e => n6 (e ▸ List.mem_filterMap.2 ⟨x, hx', hb⟩))
  · simp only [pblocks, List.nodup_cons, List.mem_cons, not_or]
    exact ⟨⟨n1, n2, hout p n3 (fun e => (hv' p e).1 rfl)⟩, ⟨n4, hout s n5 (fun e => (hv' s e).2.1 rfl)⟩, hout r n6 (fun e => (hv' r e).2.2.1 rfl), nodup_fm_put n7 (.inr (fun b hb => (hv' b hb).2.2.2))⟩
  · simp only [pblocks, List.mem_cons] at hb ⊢
    rcases hb with h | h | h | h
    · exact .inl (.inl h)
    · exact .inl (.inr (.inl h))
    · exact .inl (.inr (.inr (.inl h)))
    · rcases mem_fm_put h with h | h
      · exact .inr h
      · exact .inl (.inr (.inr (.inr h)))
structure DropW (w0 wr : World) (B0 : List Nat) (p s r : Nat) (wd ad : Int) (sm : List (CK × Int)) (rw : Rows) (kv : Value) (ks : List ByteArray) : Prop where
  pr : PaneR wr p s r wd ad sm rw
  kt : TextsAt wr kv ks
  kb : ∀ b, kv.ownBlock = some b → w0.heap.size ≤ b ∧ b ∉ pblocks p s r rw
  sp : Spread w0 B0 (pblocks p s r rw)
  fr : Fr (fun b => b ∈ B0) w0 wr
theorem DropW.in_ {w0 wr w' : World} {B0 : List Nat} {p s r : Nat} {wd ad : Int} {sm : List (CK × Int)} {rw : Rows} {kv : Value} {ks : List ByteArray} (h : DropW w0 wr B0 p s r wd ad sm rw kv ks) {S : Nat → Prop} (hf : Fr S wr w') (hS : ∀ b, S b → b ∈ pblocks p s r rw ∨ w0.heap.size ≤ b) : Fr (fun b => b ∈ B0) w0 w' :=
  h.fr.trans hf (fun b hlt hs => by
    rcases hS b hs with h' | h'
    · rcases h.sp b h' with h'' | h''
      · exact h''
      · omega
    · omega)
/-- one of the sums is gone -/
theorem DropW.sum {w0 wr w' : World} {B0 : List Nat} {p s r : Nat} {wd ad : Int} {sm : List (CK × Int)} {rw : Rows} {kv : Value} {ks : List ByteArray} (h : DropW w0 wr B0 p s r wd ad sm rw kv ks) {c : CK}
    (m1 : Mp encC okC w' s (mdel (sm.map fun x => (x.1, .int .i64 x.2)) c)) (f : Fr (fun b => b = s) wr w') : DropW w0 w' B0 p s r wd ad (mdel sm c) rw kv ks :=
  ⟨h.pr.delSum m1 f, f.row h.kt (fun b hb e => (h.kb b hb).2 (by rw [e]; simp [pblocks])), h.kb, h.sp, h.in_ f (fun b e => .inl (by rw [e]; simp [pblocks]))⟩
/-- a row of the call's own is written that is no one's -/
theorem DropW.side {w0 wr w' : World} {B0 : List Nat} {p s r : Nat} {wd ad : Int} {sm : List (CK × Int)} {rw : Rows} {kv : Value} {ks : List ByteArray} (h : DropW w0 wr B0 p s r wd ad sm rw kv ks) {v : Value}
    (hv : ∀ b, v.ownBlock = some b → w0.heap.size ≤ b ∧ b ∉ pblocks p s r rw ∧ kv.ownBlock ≠ some b) (f : Fr (fun b => v.ownBlock = some b) wr w') : DropW w0 w' B0 p s r wd ad sm rw kv ks :=
  ⟨h.pr.fr f (fun b hb e => (hv b e).2.1 hb), f.row h.kt (fun b hb e => (hv b e).2.2 hb), h.kb, h.sp, h.in_ f (fun b e => .inr (hv b e).1)⟩
theorem DropW.row {w0 wr w' : World} {B0 : List Nat} {p s r : Nat} {wd ad : Int} {sm : List (CK × Int)} {rw : Rows} {kv : Value} {ks : List ByteArray} (h : DropW w0 wr B0 p s r wd ad sm rw kv ks) {v : Value} {k : ByteArray} {l : List Int}
    (hv : ∀ b, v.ownBlock = some b → w0.heap.size ≤ b ∧ b ∉ pblocks p s r rw ∧ kv.ownBlock ≠ some b) (m1 : Mp encS okS w' r (mput (rw.map fun x => (x.1, x.2.1)) k v)) (f : Fr (fun b => b = r) wr w') (ho : wr.ownsRow 0 3 1 v l.length (l.map (Value.int .i64))) :
    DropW w0 w' B0 p s r wd ad sm (mput rw k (v, l)) kv ks := by
  obtain ⟨h1, h2⟩ := h.pr.putRow m1 f ho (fun b hb => (hv b hb).2.1)
  refine ⟨h1, f.row h.kt (fun b hb e => (h.kb b hb).2 (by rw [e]; simp [pblocks])), fun b hb => ⟨(h.kb b hb).1, fun hm => ?_⟩, fun b hb => ?_, h.in_ f (fun b e => .inl (by rw [e]; simp [pblocks]))⟩
  · rcases h2 b hm with h' | h'
    · exact (h.kb b hb).2 h'
    · exact (hv b h').2.2 hb
  · rcases h2 b hb with h' | h'
    · exact h.sp b h'
    · exact .inr (hv b h').1
theorem DropW.gone {w0 wr w' : World} {B0 : List Nat} {p s r : Nat} {wd ad : Int} {sm : List (CK × Int)} {rw : Rows} {kv : Value} {ks : List ByteArray} (h : DropW w0 wr B0 p s r wd ad sm rw kv ks) {k : ByteArray}
    (m1 : Mp encS okS w' r (mdel (rw.map fun x => (x.1, x.2.1)) k)) (f : Fr (fun b => b = r) wr w') : DropW w0 w' B0 p s r wd ad sm (mdel rw k) kv ks := by
  obtain ⟨h1, h2⟩ := h.pr.delRow m1 f
  exact ⟨h1, f.row h.kt (fun b hb e => (h.kb b hb).2 (by rw [e]; simp [pblocks])), fun b hb => ⟨(h.kb b hb).1, fun hm => (h.kb b hb).2 (h2 b hm)⟩, fun b hb => h.sp b (h2 b hb), h.in_ f (fun b e => .inl (by rw [e]; simp [pblocks]))⟩
/-- how many sums are gone -/
def lowSum (rw : Rows) (least : Int) : List ByteArray → Nat
  | [] => 0
  | k :: l => (lowOf least (rowL rw k)).length + lowSum rw least l
theorem lowSum_snoc (rw : Rows) (least : Int) (l : List ByteArray) (k : ByteArray) : lowSum rw least (l ++ [k]) = lowSum rw least l + (lowOf least (rowL rw k)).length := by
  induction l with
  | nil => simp [lowSum]
  | cons x l ih => simp only [List.cons_append, lowSum, ih]; omega
end Go.Proofs.Ytdmcbndkfnlcjaa

/- Chapter 12: sessions, the document's sessions and boxes beside one another; the adds and sessions that came in, read. -/
import Derived.Test.YtcnddbcdkpdkbaaELast
namespace Go.Proofs.Ytcnddbcdkpdkbaa
open Go.RowKit Go.MapKept Go.Maps Go.ChangeShapes Go.WideShapes
set_option linter.unusedVariables false
set_option linter.unusedSimpArgs false
def aC (a : Tri) : List Value := [.string a.1, .int .i64 a.2.1, .string a.2.2]
def aOk (a : Tri) : Prop := a.1.size ≤ maxLen ∧ I64 a.2.1 ∧ a.2.2.size ≤ maxLen
theorem aLen (a : Tri) : (aC a).length = 3 := rfl
theorem aOne (a : Tri) : ∀ u ∈ aC a, u.oneCell' = true := fun u hu => by
  simp only [aC, List.mem_cons, List.not_mem_nil, or_false] at hu
  rcases hu with rfl | rfl | rfl <;> rfl
theorem aAt {w : World} {b : Option Addr} {l : List Tri} (h : InW w b 3 (l.map aC)) {i : Nat} {a : Tri} (ha : l[i]? = some a) : ∃ B off, b = some ⟨B, off, none⟩ ∧ B < w.heap.size ∧ w.cell? ⟨B, off + i * 3, none⟩ = some (.string a.1) ∧ w.cell? ⟨B, off + i * 3 + 1, none⟩ = some (.int .i64 a.2.1) ∧ w.cell? ⟨B, off + i * 3 + 2, none⟩ = some (.string a.2.2) := by
  have hm : (l.map aC)[i]? = some (aC a) := by rw [List.getElem?_map, ha]; rfl
  rcases h with h | ⟨B, off, hb, hl, hc⟩
  · rw [h] at hm; simp at hm
  · exact ⟨B, off, hb, hl, hc i _ hm 0 _ rfl, hc i _ hm 1 _ rfl, hc i _ hm 2 _ rfl⟩
theorem svAt {w : World} {b : Option Addr} {l : List SV} (h : InW w b 4 (l.map svC)) {i : Nat} {a : SV} (ha : l[i]? = some a) : ∃ B off, b = some ⟨B, off, none⟩ ∧ B < w.heap.size ∧ w.cell? ⟨B, off + i * 4, none⟩ = some (.string a.p) ∧ w.cell? ⟨B, off + i * 4 + 1, none⟩ = some (.int .i64 a.f) ∧ w.cell? ⟨B, off + i * 4 + 2, none⟩ = some (.int .i64 a.t) ∧ w.cell? ⟨B, off + i * 4 + 3, none⟩ = some (.slice a.ib a.its.length a.ic) := by
  have hm : (l.map svC)[i]? = some (svC a) := by rw [List.getElem?_map, ha]; rfl
  rcases h with h | ⟨B, off, hb, hl, hc⟩
  · rw [h] at hm; simp at hm
  · exact ⟨B, off, hb, hl, hc i _ hm 0 _ rfl, hc i _ hm 1 _ rfl, hc i _ hm 2 _ rfl, hc i _ hm 3 _ rfl⟩
/-- the document's sessions -/
structure DocAt (w : World) (p : Nat) (B : List Nat) (gap : Int) (L : List Tri) : Prop where
  ok : SOk L
  g : 0 ≤ gap ∧ gap ≤ 1099511627776
  n : L.length ≤ 100000
  ex : ∃ v, Bk w p [.int .i64 gap, v] 62 ∧ w.ownsRow 0 31 3 v L.length (L.flatMap aC) ∧ B = p :: v.ownBlock.toList ∧ v.ownBlock ≠ some p
theorem DocAt.fr {S : Nat → Prop} {w w' : World} {p : Nat} {B : List Nat} {gap : Int} {L : List Tri} (h : DocAt w p B gap L) (hf : Fr S w w') (hs : ∀ b ∈ B, ¬ S b) : DocAt w' p B gap L := by
  obtain ⟨v, h1, h2, rfl, h4⟩ := h.ex
  exact ⟨h.ok, h.g, h.n, v, h1.fr hf (hs p (by simp)), hf.row h2 (fun b hb => hs b (by simp [hb])), rfl, h4⟩
theorem DocAt.bel {w w' : World} {p : Nat} {B : List Nat} {gap : Int} {L : List Tri} (h : DocAt w p B gap L) (hb : Below w.heap.size w w') : DocAt w' p B gap L := h.fr (Fr.of_bel (S := none') hb) (fun _ _ => id)
theorem DocAt.lt {w : World} {p : Nat} {B : List Nat} {gap : Int} {L : List Tri} (h : DocAt w p B gap L) : ∀ b ∈ B, b < w.heap.size := by
  obtain ⟨v, h1, h2, rfl, h4⟩ := h.ex
  intro b hb
  rcases List.mem_cons.1 hb with rfl | hb
  · exact h1.lt
  · exact own_lt h2 (Option.mem_toList.1 hb)
inductive Ob12 where
  | ses (s : Nat) (gap : Int) (L : List Tri)
  | doc (p : Nat) (gap : Int) (L : List Tri)
  | box (b : Nat) (cs : List Value) (t : TypeId)
def Holds12 (w : World) : Ob12 → List Nat → Prop
  | .ses s gap L, B => SesAt w s B gap L
  | .doc p gap L, B => DocAt w p B gap L
  | .box b cs t, B => Bk w b cs t ∧ B = [b]
theorem Holds12.fr {S : Nat → Prop} {w w' : World} {o : Ob12} {B : List Nat} (h : Holds12 w o B) (hf : Fr S w w') (hs : ∀ b ∈ B, ¬ S b) : Holds12 w' o B := by
  cases o with
  | ses s gap L => exact SesAt.fr h hf hs
  | doc p gap L => exact DocAt.fr h hf hs
  | box b cs t =>
    obtain ⟨h1, rfl⟩ := h
    exact ⟨h1.fr hf (hs b (by simp)), rfl⟩
theorem Holds12.lt {w : World} {o : Ob12} {B : List Nat} (h : Holds12 w o B) : ∀ b ∈ B, b < w.heap.size := by
  cases o with
  | ses s gap L => exact SesAt.lt h
  | doc p gap L => exact DocAt.lt h
  | box b cs t =>
    obtain ⟨h1, rfl⟩ := h
    intro b' hb
    simp at hb
    subst hb
    exact h1.lt
def K12 : Kind Ob12 := ⟨Holds12, Holds12.fr, Holds12.lt⟩
section
variable {w0 w : World} {os : List Ob12} {i s p : Nat} {gap : Int} {L : List Tri}
theorem h_box (h : Here K12 w0 w os) (cs : List Value) (t : TypeId) : Here K12 w0 (w.alloc (.cells cs.toArray t)) (os ++ [.box w.heap.size cs t]) :=
  h.push ((Below.refl _ _).alloc (Nat.le_refl _) _) (o := .box _ _ _) ⟨Bk.new w cs t, rfl⟩ (fun b hb => by simp at hb; omega)
theorem h_boxAt {b : Nat} {cs : List Value} {t : TypeId} (h : Here K12 w0 w os) (hi : os[i]? = some (.box b cs t)) : Bk w b cs t := by
  obtain ⟨B, h1, _⟩ := h.use hi
  exact h1.1
theorem h_ses (h : Here K12 w0 w os) (hi : os[i]? = some (.ses s gap L)) : ∃ B, SesAt w s B gap L := by
  obtain ⟨B, h1, _⟩ := h.use hi
  exact ⟨B, h1⟩
theorem h_snew (h : Here K12 w0 w os) (x : Int) (hx : I64 x) :
    Calls Try.prog 13 #[.int .i64 x] w fun e w' => e = .returned (.pointer (some ⟨w.heap.size + 1, 0, none⟩)) ∧ Here K12 w0 w' (os ++ [.ses (w.heap.size + 1) (gapOf x) []]) := by
  refine (ses_new x w hx).mono ?_
  rintro e w' ⟨rfl, h1, h2⟩
  exact ⟨rfl, h.push h2 (o := .ses _ _ _) h1 (fun b hb => by simp at hb; omega)⟩
theorem h_sadd (h : Here K12 w0 w os) (hi : os[i]? = some (.ses s gap L)) (a : Tri) (ha : aOk a) (hn : L.length + 1 ≤ 100000) :
    Calls Try.prog 15 #[.pointer (some ⟨s, 0, none⟩), .string a.1, .int .i64 a.2.1, .string a.2.2] w fun e w' => e = .returned (.bool (okT a)) ∧ Here K12 w0 w' (os.set i (.ses s gap (addT L a))) := by
  obtain ⟨B, h1, _, h3, _⟩ := h.use hi
  refine (add_any h1 a.1 a.2.2 a.2.1 ha.1 ha.2.2 ha.2.1 hn).mono ?_
  rintro e w' ⟨rfl, ⟨B', h4, h5⟩, h6⟩
  exact ⟨rfl, h3 w' (.ses s gap (addT L a)) B' h4 h6 h5⟩
theorem h_sof (h : Here K12 w0 w os) (hi : os[i]? = some (.ses s gap L)) (p : ByteArray) (hp : p.size ≤ maxLen) :
    Calls Try.prog 19 #[.pointer (some ⟨s, 0, none⟩), .string p] w fun e w' => ∃ (b : Option Addr) (c : Nat) (svs : List SV), e = .returned (.slice b svs.length c) ∧ svs.length ≤ c ∧ c ≤ maxLen ∧ SvIn w' b svs ∧ svs.map seOf = allS gap (ofP L p) ∧ Below w.heap.size w w' := by
  obtain ⟨B, h1⟩ := h_ses h hi
  refine (sof_any h1 p hp).mono ?_
  rintro e w' ⟨b, c, svs, h2, h3, h4, h5, h6, h7, h8⟩
  exact ⟨b, c, svs, h2, h3, h4, h5, h7, h8⟩
theorem h_sall (h : Here K12 w0 w os) (hi : os[i]? = some (.ses s gap L)) :
    Calls Try.prog 21 #[.pointer (some ⟨s, 0, none⟩)] w fun e w' => ∃ (b : Option Addr) (c : Nat) (svs : List SV), e = .returned (.slice b svs.length c) ∧ svs.length ≤ c ∧ c ≤ maxLen ∧ SvIn w' b svs ∧ svs.map seOf = allS gap L ∧ Below w.heap.size w w' := by
  obtain ⟨B, h1⟩ := h_ses h hi
  refine (sall_any h1).mono ?_
  rintro e w' ⟨b, c, svs, h2, h3, h4, h5, h6, h7, h8⟩
  exact ⟨b, c, svs, h2, h3, h4, h5, h7, h8⟩
theorem h_slast (h : Here K12 w0 w os) (hi : os[i]? = some (.ses s gap L)) (p : ByteArray) (now : Int) (hp : p.size ≤ maxLen) (hnow : I64 now) :
    Calls Try.prog 24 #[.pointer (some ⟨s, 0, none⟩), .string p, .int .i64 now] w fun e w' => ∃ svs : List SV, e = .returned (.tuple #[.agg (svC (lastV svs)).toArray, .bool (decide (svs ≠ []))]) ∧ (∀ x ∈ svs, InW w' x.ib 1 (x.its.map fun s => [.string s]) ∧ x.its.length ≤ x.ic ∧ x.ic ≤ maxLen) ∧ svs.map seOf = allS gap (uptoT L p now) ∧ Below w.heap.size w w' := by
  obtain ⟨B, h1⟩ := h_ses h hi
  exact slast_any h1 p now hp hnow
theorem h_sdrop (h : Here K12 w0 w os) (hi : os[i]? = some (.ses s gap L)) (p : ByteArray) (hp : p.size ≤ maxLen) :
    Calls Try.prog 26 #[.pointer (some ⟨s, 0, none⟩), .string p] w fun e w' => e = .returned (.int .i64 ((allS gap (ofP L p)).length : Nat)) ∧ Here K12 w0 w' (os.set i (.ses s gap (L.filter fun a => !decide (a.1 = p)))) := by
  obtain ⟨B, h1, _, h3, _⟩ := h.use hi
  refine (sdrop_any h1 p hp).mono ?_
  rintro e w' ⟨rfl, h4, h5⟩
  exact ⟨rfl, h3 w' (.ses s gap _) B h4 h5 (fun b hb => .inl hb)⟩
end
end Go.Proofs.Ytcnddbcdkpdkbaa

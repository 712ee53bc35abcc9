/- Sessions: one person's adds, tick by tick: plain laws; the sessions in memory, as of one person. -/
import Derived.Test.YtbmjddmejmeknaaEEnd
namespace Go.Proofs.Ytbmjddmejmeknaa
open Go.RowKit Go.MapKept Go.Maps
set_option linter.unusedVariables false
def addsOf (p : ByteArray) (itm : Int → List ByteArray) (ts : List Int) : List Tri := ts.flatMap fun t => (itm t).map fun i => ((p, t, i) : Tri)
theorem addsOf_mem (p : ByteArray) (itm : Int → List ByteArray) (ts : List Int) (x : Tri) : x ∈ addsOf p itm ts ↔ x.1 = p ∧ x.2.1 ∈ ts ∧ x.2.2 ∈ itm x.2.1 := by
  unfold addsOf
  rw [List.mem_flatMap]
  constructor
  · rintro ⟨t, ht, hx⟩
    obtain ⟨i, hi, rfl⟩ := List.mem_map.1 hx
    exact ⟨rfl, ht, hi⟩
  · rintro ⟨h1, h2, h3⟩
    exact ⟨x.2.1, h2, List.mem_map.2 ⟨x.2.2, h3, by rw [← h1]⟩⟩
theorem addsOf_rise (p : ByteArray) (itm : Int → List ByteArray) : ∀ (ts : List Int), RiseI ts → (∀ t ∈ ts, Rise (itm t)) → RiseT (addsOf p itm ts)
  | [], _, _ => by unfold RiseT RiseG addsOf; simp
  | t :: ts, h, hr => by
    have h' := List.pairwise_cons.1 h
    have ih := addsOf_rise p itm ts h'.2 (fun t' ht' => hr t' (by simp [ht']))
    have e : addsOf p itm (t :: ts) = ((itm t).map fun i => ((p, t, i) : Tri)) ++ addsOf p itm ts := by unfold addsOf; rw [List.flatMap_cons]
    rw [e]
    unfold RiseT RiseG
    rw [List.pairwise_append]
    refine ⟨?_, ih, fun a ha b hb => ?_⟩
    · rw [List.pairwise_map]
      exact List.Pairwise.imp (fun {a b} h => .inr ⟨rfl, .inr ⟨rfl, h⟩⟩) (hr t (by simp))
    · obtain ⟨i, _, rfl⟩ := List.mem_map.1 ha
      obtain ⟨b1, b2, _⟩ := (addsOf_mem p itm ts b).1 hb
      exact .inr ⟨b1.symm, .inl (h'.1 _ b2)⟩
theorem addsOf_snoc {p : ByteArray} {itm : Int → List ByteArray} {ts : List Int} {k : Nat} {t : Int} (h : ts[k]? = some t) : addsOf p itm (ts.take (k + 1)) = addsOf p itm (ts.take k) ++ (itm t).map fun i => ((p, t, i) : Tri) := by
  unfold addsOf
  rw [List.take_add_one, h, List.flatMap_append]
  simp
def itmF (L : List Tri) (p : ByteArray) (t : Int) : List ByteArray := (L.filter fun a => decide (a.1 = p) && decide (a.2.1 = t)).map fun a => a.2.2
theorem itmF_mem (L : List Tri) (p : ByteArray) (t : Int) (i : ByteArray) : i ∈ itmF L p t ↔ ((p, t, i) : Tri) ∈ L := by
  unfold itmF
  rw [List.mem_map]
  constructor
  · rintro ⟨a, ha, rfl⟩
    obtain ⟨h1, h2⟩ := List.mem_filter.1 ha
    simp only [Bool.and_eq_true, decide_eq_true_eq] at h2
    obtain ⟨rfl, rfl⟩ := h2
    exact h1
  · intro h
    exact ⟨(p, t, i), List.mem_filter.2 ⟨h, by simp⟩, rfl⟩
theorem itmF_rise {L : List Tri} (h : RiseT L) (p : ByteArray) (t : Int) : Rise (itmF L p t) := by
  unfold itmF Rise
  rw [List.pairwise_map]
  refine List.Pairwise.imp_of_mem (fun {a b} ha hb hab => ?_) (h.filter (fun a => decide (a.1 = p) && decide (a.2.1 = t)))
  have ha' := (List.mem_filter.1 ha).2
  have hb' := (List.mem_filter.1 hb).2
  simp only [Bool.and_eq_true, decide_eq_true_eq] at ha' hb'
  rcases hab with k | ⟨_, k | ⟨_, k⟩⟩
  · rw [ha'.1, hb'.1] at k; exact absurd k (ltB_irrefl _)
  · rw [ha'.2, hb'.2] at k; omega
  · exact k
/-- one person's adds up to a tick -/
def uptoT (L : List Tri) (p : ByteArray) (now : Int) : List Tri := L.filter fun a => decide (a.1 = p) && decide (a.2.1 ≤ now)
theorem adds_upto {L : List Tri} (h : RiseT L) {p : ByteArray} {now : Int} {ts : List Int} (hr : RiseI ts) (hm : ∀ t, t ∈ ts ↔ ((∃ i, ((p, t, i) : Tri) ∈ L) ∧ t ≤ now)) : addsOf p (itmF L p) ts = uptoT L p now := by
  unfold uptoT
  refine RiseG.ext ordA (addsOf_rise p _ ts hr (fun t _ => itmF_rise h p t)) (h.filter _) (fun x => ?_)
  rw [addsOf_mem, List.mem_filter, itmF_mem]
  simp only [Bool.and_eq_true, decide_eq_true_eq]
  obtain ⟨a, b, c⟩ := x
  simp only
  constructor
  · rintro ⟨rfl, h2, h3⟩
    exact ⟨h3, rfl, ((hm b).1 h2).2⟩
  · rintro ⟨h1, rfl, h3⟩
    exact ⟨rfl, (hm b).2 ⟨⟨c, h1⟩, h3⟩, h1⟩
theorem riseI_nodup {l : List Int} (h : RiseI l) : l.Nodup := List.Pairwise.imp (fun {a b} (h : a < b) (e : a = b) => by omega) h
/-- what is below a tick of rising ones, and what isn't -/
theorem rise_cut {ts : List Int} (h : RiseI ts) {k : Nat} {t : Int} (hk : ts[k]? = some t) : ∀ x ∈ ts, x ∉ ts.take k → t ≤ x := by
  intro x hx hn
  obtain ⟨j, hj, ej⟩ := List.mem_iff_getElem.1 hx
  obtain ⟨hkl, hke⟩ := List.getElem?_eq_some_iff.1 hk
  by_cases e : j < k
  · exact absurd (List.mem_take_iff_getElem.2 ⟨j, by omega, ej⟩) hn
  · by_cases e2 : j = k
    · subst e2
      rw [hke] at ej
      omega
    · have := List.pairwise_iff_getElem.1 h k j hkl hj (by omega)
      rw [hke, ej] at this
      omega
/-- of sessions in memory: one person's ticks, and their items -/
structure TickR (w : World) (b : Nat) (m : MT) (im : Int → MI) (L : List Tri) (p : ByteArray) : Prop where
  tk : Mp encI okI w b (vals vMap m)
  it : ∀ t c, mget m t = some c → Mp encS okS w c (vals vT (im t))
  mem : ∀ t i, ((p, t, i) : Tri) ∈ L ↔ ∃ c, mget m t = some c ∧ mget (im t) i = some ()
  ne : ∀ t c, mget m t = some c → im t ≠ []
theorem TickR.bel {w w' : World} {b : Nat} {m : MT} {im : Int → MI} {L : List Tri} {p : ByteArray} (h : TickR w b m im L p) (hb : Below w.heap.size w w') : TickR w' b m im L p :=
  ⟨h.tk.bel hb, fun t c hc => (h.it t c hc).bel hb, h.mem, h.ne⟩
theorem SesR.ticks {w : World} {s r : Nat} {gap : Int} {mr : MR} {mt : ByteArray → MT} {mi : ByteArray → Int → MI} {role : Nat → Option Role} {B : List Nat} {L : List Tri} (h : SesR w s r gap mr mt mi role B) (hr : SRel L mr mt mi) {p : ByteArray} {b : Nat} (hb : mget mr p = some b) : TickR w b (mt p) (mi p) L p :=
  ⟨h.tk p b hb, fun t c hc => h.it p b t c hb hc, fun t i => by
    rw [hr.mem]
    constructor
    · rintro ⟨b', c, h1, h2, h3⟩; exact ⟨c, h2, h3⟩
    · rintro ⟨c, h2, h3⟩; exact ⟨b, c, hb, h2, h3⟩, fun t c hc => hr.nt p b t c hb hc⟩
section
variable {w : World} {b : Nat} {m : MT} {im : Int → MI} {L : List Tri} {p : ByteArray}
theorem TickR.key (h : TickR w b m im L p) (t : Int) : t ∈ mkeys m ↔ ∃ i, ((p, t, i) : Tri) ∈ L := by
  rw [key_iff]
  constructor
  · rintro ⟨c, hc⟩
    obtain ⟨x, l, hx⟩ := List.exists_cons_of_ne_nil (h.ne t c hc)
    refine ⟨x.1, (h.mem t x.1).2 ⟨c, hc, ?_⟩⟩
    rw [hx]
    simp [mget]
  · rintro ⟨i, hi⟩
    obtain ⟨c, hc, _⟩ := (h.mem t i).1 hi
    exact ⟨c, hc⟩
theorem TickR.len (h : TickR w b m im L p) : m.length ≤ L.length := by
  have hn : (mkeys m).Nodup := by have := h.tk.nd; rwa [vals_keys] at this
  have := nodup_len (m := L.map fun a => a.2.1) hn (fun t ht => by
    obtain ⟨i, hi⟩ := (h.key t).1 ht
    exact List.mem_map.2 ⟨_, hi, rfl⟩)
  simpa [mkeys] using this
end
end Go.Proofs.Ytbmjddmejmeknaa

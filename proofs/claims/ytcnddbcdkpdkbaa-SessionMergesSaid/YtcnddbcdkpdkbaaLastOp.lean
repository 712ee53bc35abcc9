/- A region that draws its order and ends with one operation that waits for all others (a store): the others are walked under a condition that the last one may break. No program in sight. -/
import Derived.Test.YtcnddbcdkpdkbaaHeld
namespace Go.Proofs.Ytcnddbcdkpdkbaa
set_option linter.unusedVariables false
set_option linter.unusedSimpArgs false
section
variable {P : Program} {ops opsA : Array Oper} {Q : Exit → Act → World → Prop} {md : Region.Mode} {n : Nat} {z : Oper}
/-- what is to be shown behind the others: the last one is carried out -/
def LastQ (P : Program) (z : Oper) (Q : Exit → Act → World → Prop) : Exit → Act → World → Prop
  | .normal, a, w => z.wp P a w (Q .normal) Q
  | e, a, w => Q e a w
theorem LastQ.lets (h : LetsOut (LastQ P z Q)) : LetsOut Q := by
  obtain ⟨a, w, h⟩ := h
  exact ⟨a, w, h⟩
theorem LastQ.wp {o : Oper} {a : Act} {w : World} {K : Act → World → Prop} (h : o.wp P a w K (LastQ P z Q)) : o.wp P a w K Q := by
  unfold Oper.wp at *
  generalize (execOp a.eval o).run P w = r at *
  cases r with
  | ok m w' =>
    cases m <;> simp only [Oper.upon] at h ⊢ <;>
      first
        | exact h
        | exact Calls.mono h (fun e w'' he => by cases e <;> first | exact he | exact LastQ.lets he)
  | halt x w' => cases x <;> simp only [Oper.upon] at h ⊢ <;> exact h
structure TailOk (md : Region.Mode) (ops opsA : Array Oper) (n : Nat) (z : Oper) : Prop where
  pre : ∀ j, j < n → ops[j]? = opsA[j]?
  sz : ops.size = n + 1
  szA : opsA.size = n
  last : ops[n]? = some z
  lg : z.guard = none
  dep : ∀ j, j < n → ∃ k, j < k ∧ k ≤ n ∧ ∃ o : Oper, ops[k]? = some o ∧ ∃ e ∈ o.after, Region.binds md e = true ∧ e.on = j
  below : ∀ (k : Nat) (o : Oper), ops[k]? = some o → ∀ e ∈ o.after, e.on < k
  gd : ∀ (k : Nat) (o : Oper) (g : Nat) (b : Bool), k < n → ops[k]? = some o → o.guard = some (g, b) → g < n
structure Sam (n : Nat) (L L1 : Array Bool) : Prop where
  s : L.size = n
  s1 : L1.size = n + 1
  e : ∀ j, j < n → L1[j]? = L[j]?
  z : L1[n]? = some false
theorem Sam.set {L L1 : Array Bool} (h : Sam n L L1) {i : Nat} (hi : i < n) : Sam n (L.setIfInBounds i true) (L1.setIfInBounds i true) := by
  refine ⟨by simp [h.s], by simp [h.s1], fun j hj => ?_, ?_⟩
  · rw [Array.getElem?_setIfInBounds, Array.getElem?_setIfInBounds, h.e j hj, h.s, h.s1]
    by_cases e : i = j
    · subst e; simp [hi, show i < n + 1 by omega]
    · simp [e]
  · rw [Array.getElem?_setIfInBounds, if_neg (by omega)]; exact h.z
def Inv (md : Region.Mode) (opsA : Array Oper) (L : Array Bool) : Prop := ∀ j : Nat, L[j]? = some true → ∀ o : Oper, opsA[j]? = some o → ∀ e ∈ o.after, Region.binds md e = true → L[e.on]? = some true
theorem getD_true {L : Array Bool} {j : Nat} (h : L.getD j false = true) : L[j]? = some true := by
  rw [Array.getD_eq_getD_getElem?] at h
  cases hj : L[j]? with
  | none => rw [hj] at h; simp at h
  | some b => rw [hj] at h; simp at h; rw [h]
theorem getD_of {L : Array Bool} {j : Nat} {b d : Bool} (h : L[j]? = some b) : L.getD j d = b := by
  rw [Array.getD_eq_getD_getElem?, h]; rfl
theorem getD_false {L : Array Bool} {j : Nat} (h : L.getD j true = false) : L[j]? = some false := by
  rw [Array.getD_eq_getD_getElem?] at h
  cases hj : L[j]? with
  | none => rw [hj] at h; simp at h
  | some b => rw [hj] at h; simp at h; rw [h]
theorem Inv.set {L : Array Bool} (h : Inv md opsA L) {i : Nat} (hr : i ∈ Region.ready md opsA L) : Inv md opsA (L.setIfInBounds i true) := by
  obtain ⟨hf, o, ho, hd⟩ := mem_ready.1 hr
  have up : ∀ k, L[k]? = some true → (L.setIfInBounds i true)[k]? = some true := fun k hk => by
    rw [Array.getElem?_setIfInBounds]
    split
    · rename_i e; subst e; rw [getD_false hf] at hk; cases hk
    · exact hk
  intro j hj o' ho' e he hb
  by_cases hji : i = j
  · subst hji
    rw [ho] at ho'; cases ho'
    exact up _ (getD_true (hd e he hb))
  · rw [Array.getElem?_setIfInBounds, if_neg hji] at hj
    exact up _ (h j hj o' ho' e he hb)
theorem TailOk.all_listed (T : TailOk md ops opsA n z) {L L1 : Array Bool} (hs : Sam n L L1) (hI : Inv md opsA L) (hz : ∀ e ∈ z.after, Region.binds md e = true → L1[e.on]? = some true) : ∀ d j, j < n → n - j ≤ d → L[j]? = some true := by
  intro d
  induction d with
  | zero => intro j hj hd; omega
  | succ d ih =>
    intro j hj hd
    obtain ⟨k, hjk, hkn, o, ho, e, he, hb, rfl⟩ := T.dep j hj
    by_cases hk : k = n
    · subst hk
      rw [T.last] at ho; cases ho
      rw [← hs.e _ hj]; exact hz e he hb
    · exact hI k (ih k (by omega) (by omega)) o (by rw [← T.pre k (by omega)]; exact ho) e he hb
theorem TailOk.progress (T : TailOk md ops opsA n z) {L L1 : Array Bool} (hs : Sam n L L1) (hr : Region.ready md opsA L = []) : ∀ j, j < n → L[j]? = some true := by
  intro j
  induction j using Nat.strongRecOn with
  | ind j ih =>
    intro hj
    obtain ⟨o, ho⟩ : ∃ o, ops[j]? = some o := ⟨ops[j]'(by rw [T.sz]; omega), Array.getElem?_eq_getElem _⟩
    cases hl : L[j]? with
    | none => rw [Array.getElem?_eq_none_iff, hs.s] at hl; omega
    | some b =>
      cases b with
      | true => rfl
      | false =>
        have : j ∈ Region.ready md opsA L := mem_ready.2 ⟨getD_of hl, o, by rw [← T.pre j hj]; exact ho, fun e he _ => getD_of (ih e.on (T.below j o ho e he) (by have := T.below j o ho e he; omega))⟩
        rw [hr] at this; cases this
theorem TailOk.n_ready (T : TailOk md ops opsA n z) {L L1 : Array Bool} (hs : Sam n L L1) (ha : ∀ j, j < n → L[j]? = some true) : n ∈ Region.ready md ops L1 :=
  mem_ready.2 ⟨getD_of hs.z, z, T.last, fun e he _ => getD_of (by
    have := T.below n z T.last e he
    rw [hs.e _ this]; exact ha _ this)⟩
theorem TailOk.behind (_T : TailOk md ops opsA n z) {L L1 : Array Bool} (hs : Sam n L L1) (ha : ∀ j, j < n → L[j]? = some true) : Region.ready md ops (L1.setIfInBounds n true) = [] := by
  rw [List.eq_nil_iff_forall_not_mem]
  intro j hj
  obtain ⟨hf, -⟩ := mem_ready.1 hj
  have hf := getD_false hf
  rw [Array.getElem?_setIfInBounds] at hf
  split at hf
  · rename_i e; subst e; simp [hs.s1] at hf
  · rename_i hne
    have hl : j < n := by
      have := (Array.getElem?_eq_some_iff.1 hf).1
      rw [hs.s1] at this; omega
    rw [hs.e j hl, ha j hl] at hf; cases hf
theorem TailOk.fin (T : TailOk md ops opsA n z) {L L1 : Array Bool} (hs : Sam n L L1) (ha : ∀ j, j < n → L[j]? = some true) {a : Act} {w : World} (h : z.wp P a w (Q .normal) Q) (m : Nat) : wpAny P md ops Q (m + 1) L1 a w := by
  have hn := T.n_ready hs ha
  refine ⟨fun e => (by rw [e] at hn; cases hn), fun i hi => ?_⟩
  obtain ⟨hf, -⟩ := mem_ready.1 hi
  have hf := getD_false hf
  have hin : i = n := by
    have hl := (Array.getElem?_eq_some_iff.1 hf).1
    rw [hs.s1] at hl
    by_cases hl2 : i < n
    · rw [hs.e i hl2, ha i hl2] at hf; cases hf
    · omega
  subst hin
  unfold wpOp
  rw [T.last]
  have hw : Region.wanted z (yielded ops a.tmps) = true := by unfold Region.wanted; rw [T.lg]
  simp only [hw, if_true]
  refine .inl (Oper.wp_mono (fun a' w' hq => ?_) h)
  have hb := T.behind hs ha
  cases m with
  | zero => exact ⟨hb, hq⟩
  | succ m => exact ⟨fun _ => hq, fun i hi => by rw [hb] at hi; cases hi⟩
theorem TailOk.step (T : TailOk md ops opsA n z) {i : Nat} (hi : i < n) {K K' : Act → World → Prop} (hK : ∀ a w, K a w → K' a w) {a : Act} {w : World} (h : wpOp P opsA (LastQ P z Q) i K a w) : wpOp P ops Q i K' a w := by
  unfold wpOp at *
  rw [T.pre i hi]
  cases ho : opsA[i]? with
  | none => rw [ho] at h; exact hK _ _ h
  | some o =>
    rw [ho] at h
    have hw : Region.wanted o (yielded ops a.tmps) = Region.wanted o (yielded opsA a.tmps) := by
      unfold Region.wanted
      cases hg : o.guard with
      | none => rfl
      | some p =>
        obtain ⟨g, b⟩ := p
        have hgn := T.gd i o g b hi (by rw [T.pre i hi]; exact ho) hg
        simp only [yielded, T.pre g hgn]
    simp only at h ⊢
    rw [hw]
    split
    · rename_i hw2
      rw [if_pos hw2] at h
      exact h.imp (fun h => Oper.wp_mono hK (LastQ.wp h)) (fun h => ⟨h.1, LastQ.lets h.2⟩)
    · rename_i hw2
      rw [if_neg hw2] at h
      exact hK _ _ h
theorem TailOk.any (T : TailOk md ops opsA n z) : ∀ (fuel : Nat) (L L1 : Array Bool) (a : Act) (w : World), Sam n L L1 → Inv md opsA L → wpAny P md opsA (LastQ P z Q) fuel L a w → wpAny P md ops Q (fuel + 1) L1 a w := by
  intro fuel
  induction fuel with
  | zero =>
    intro L L1 a w hs hI h
    exact T.fin hs (T.progress hs h.1) h.2 _
  | succ fuel ih =>
    intro L L1 a w hs hI h
    by_cases hall : ∀ j, j < n → L[j]? = some true
    · refine T.fin hs hall (h.1 ?_) _
      rw [List.eq_nil_iff_forall_not_mem]
      intro j hj
      obtain ⟨hf, -⟩ := mem_ready.1 hj
      have hf := getD_false hf
      have hl := (Array.getElem?_eq_some_iff.1 hf).1
      rw [hall j (by rw [hs.s] at hl; exact hl)] at hf; cases hf
    · have sub : ∀ i, i ∈ Region.ready md opsA L → i ∈ Region.ready md ops L1 := fun i hi => by
        obtain ⟨hf, o, ho, hd⟩ := mem_ready.1 hi
        have hin : i < n := by
          have hl := (Array.getElem?_eq_some_iff.1 (getD_false hf)).1
          rw [hs.s] at hl; exact hl
        refine mem_ready.2 ⟨getD_of (by rw [hs.e i hin]; exact getD_false hf), o, by rw [T.pre i hin]; exact ho, fun e he hb => getD_of ?_⟩
        have h2 := T.below i o (by rw [T.pre i hin]; exact ho) e he
        rw [hs.e _ (by omega)]
        exact getD_true (hd e he hb)
      refine ⟨fun e => absurd (T.progress hs ?_) hall, fun i hi => ?_⟩
      · rw [List.eq_nil_iff_forall_not_mem]
        intro i hi
        have := sub i hi
        rw [e] at this; cases this
      · obtain ⟨hf, o, ho, hd⟩ := mem_ready.1 hi
        have hin : i < n := by
          have hl := (Array.getElem?_eq_some_iff.1 (getD_false hf)).1
          rw [hs.s1] at hl
          by_cases hl2 : i < n
          · exact hl2
          · obtain rfl : i = n := by omega
            rw [T.last] at ho; cases ho
            exact absurd (fun j hj => T.all_listed hs hI (fun e he hb => getD_true (hd e he hb)) _ j hj (Nat.le_refl _)) hall
        have hiA : i ∈ Region.ready md opsA L := by
          refine mem_ready.2 ⟨getD_of (by rw [← hs.e i hin]; exact getD_false hf), o, by rw [← T.pre i hin]; exact ho, fun e he hb => getD_of ?_⟩
          have h2 := T.below i o ho e he
          rw [← hs.e _ (by omega)]
          exact getD_true (hd e he hb)
        exact T.step hin (fun a' w' hk => ih _ _ a' w' (hs.set hin) (hI.set hiA) hk) (h.2 i hiA)
/-- the check that the kernel carries out -/
def tailB (ops : Array Oper) (n : Nat) : Bool :=
  ((List.range n).all fun j => (List.range (n + 1)).any fun k => decide (j < k) && ((ops[k]?).map fun o => o.after.any fun e => Region.binds .any e && e.on == j).getD false) &&
  ((List.range (n + 1)).all fun k => ((ops[k]?).map fun o => o.after.all fun e => decide (e.on < k)).getD false) &&
  ((List.range n).all fun k => ((ops[k]?).map fun o => match o.guard with | none => true | some (g, _) => decide (g < n)).getD false)
theorem tail_ok {l : List Oper} (hn : l.length = n + 1) (hz : l[n]? = some z) (hg : z.guard = none) (hb : tailB l.toArray n = true) : TailOk .any l.toArray l.dropLast.toArray n z := by
  simp only [tailB, Bool.and_eq_true] at hb
  obtain ⟨⟨h1, h2⟩, h3⟩ := hb
  refine ⟨fun j hj => ?_, by simp [hn], by simp [hn], by simpa using hz, hg, fun j hj => ?_, fun k o ho e he => ?_, fun k o g b hk ho hog => ?_⟩
  · simp [hn, hj]
  · rw [List.all_eq_true] at h1
    have := h1 j (List.mem_range.2 hj)
    rw [List.any_eq_true] at this
    obtain ⟨k, hk, hh⟩ := this
    rw [Bool.and_eq_true] at hh
    obtain ⟨a1, a2⟩ := hh
    refine ⟨k, of_decide_eq_true a1, by have := List.mem_range.1 hk; omega, ?_⟩
    cases ho : (l.toArray)[k]? with
    | none => rw [ho] at a2; simp at a2
    | some o =>
      rw [ho] at a2
      simp only [Option.map_some, Option.getD_some, Array.any_eq_true', Bool.and_eq_true, beq_iff_eq] at a2
      obtain ⟨e, he, hb, hj2⟩ := a2
      exact ⟨o, rfl, e, he, hb, hj2⟩
  · rw [List.all_eq_true] at h2
    have hkn : k < n + 1 := by
      have := (Array.getElem?_eq_some_iff.1 ho).1
      simpa [hn] using this
    have := h2 k (List.mem_range.2 hkn)
    rw [ho] at this
    simp only [Option.map_some, Option.getD_some, Array.all_eq_true_iff_forall_mem] at this
    exact of_decide_eq_true (this e he)
  · rw [List.all_eq_true] at h3
    have := h3 k (List.mem_range.2 hk)
    rw [ho] at this
    simp only [Option.map_some, Option.getD_some, hog] at this
    exact of_decide_eq_true this
/-- the region, its last operation put off -/
theorem region_last {S : World → Prop} {l : List Oper} {id : Nat} {a : Act} {w : World} (n : Nat) (z : Oper) (hm : P.follows .mixedOrders = true) (hn : l.length = n + 1) (hz : l[n]? = some z) (hg : z.guard = none) (hb : tailB l.toArray n = true)
    (hS : S w.drew) (h : S w.drew → wpAnyH P .any l.dropLast.toArray (LastQ P z Q) S n (Array.replicate n false) a w.drew) : (Code.region id l.toArray true).wp P Q a w := by
  refine wp_region_any hm ?_
  rw [List.size_toArray, hn]
  refine (tail_ok hn hz hg hb).any n (Array.replicate n false) _ a _ ⟨by simp, by simp, fun j hj => ?_, ?_⟩ (fun j hj => ?_) (wpAny_of_held _ _ _ _ (h hS))
  · rw [Array.getElem?_replicate, Array.getElem?_replicate, if_pos hj, if_pos (by omega)]
  · rw [Array.getElem?_replicate, if_pos (by omega)]
  · rw [Array.getElem?_replicate] at hj
    split at hj <;> cases hj
end
end Go.Proofs.Ytcnddbcdkpdkbaa

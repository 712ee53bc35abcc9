/- Sessions of one person rise and are apart; each add lies in just one: plain law. No program in sight. -/
import Derived.Test.YtbmjddmejmeknaaEGaps
namespace Go.Proofs.Ytbmjddmejmeknaa
set_option linter.unusedVariables false
/-- one session ahead of another one -/
def befS (gap : Int) (x y : Se) : Prop := ltB x.p y.p ∨ (x.p = y.p ∧ gap < y.f - x.t)
structure FineS (x : Se) : Prop where
  ft : x.f ≤ x.t
  ne : x.its ≠ []
  ri : Rise x.its
def covS (x : Se) (a : Tri) : Prop := x.p = a.1 ∧ x.f ≤ a.2.1 ∧ a.2.1 ≤ x.t
instance (x : Se) (a : Tri) : Decidable (covS x a) := inferInstanceAs (Decidable (_ ∧ _))
def nxtS (x : Se) (L : List Tri) : Prop := ∀ a ∈ L, ltB x.p a.1 ∨ (x.p = a.1 ∧ x.t ≤ a.2.1)
theorem nxt_tail {a : Tri} {L : List Tri} (h : RiseT (a :: L)) (y : Se) (hy : y.p = a.1) (ht : y.t = a.2.1) : nxtS y L := by
  intro b hb
  rcases (List.pairwise_cons.1 h).1 b hb with k | ⟨e, k | ⟨k, _⟩⟩
  · exact .inl (by rw [hy]; exact k)
  · exact .inr ⟨hy.trans e, by omega⟩
  · exact .inr ⟨hy.trans e, by omega⟩
theorem fine_new (a : Tri) : FineS (newS a) := ⟨Int.le_refl _, by simp [newS], by unfold Rise newS; simp⟩
theorem putB_ne (ks : List ByteArray) (i : ByteArray) : putB ks i ≠ [] := fun h => by
  have := (putB_mem ks i i).2 (.inl rfl)
  rw [h] at this
  simp at this
theorem fine_ext {x : Se} (h : FineS x) {a : Tri} (ht : x.t ≤ a.2.1) : FineS (extS x a) := ⟨by have := h.ft; show x.f ≤ a.2.1; omega, putB_ne _ _, putB_rise h.ri _⟩
theorem run_start (gap : Int) : ∀ (L : List Tri) (x z : Se), z ∈ runS gap x L → (z.p = x.p ∧ z.f = x.f) ∨ ∃ b ∈ L, z.p = b.1 ∧ z.f = b.2.1
  | [], x, z, h => by simp [runS] at h; rw [h]; exact .inl ⟨rfl, rfl⟩
  | a :: L, x, z, h => by
    rw [runS] at h
    by_cases e : joinB gap x a
    · rw [if_pos e] at h
      rcases run_start gap L _ z h with h | ⟨b, hb, h⟩
      · exact .inl h
      · exact .inr ⟨b, by simp [hb], h⟩
    · rw [if_neg e] at h
      rcases List.mem_cons.1 h with rfl | h
      · exact .inl ⟨rfl, rfl⟩
      · rcases run_start gap L _ z h with h | ⟨b, hb, h⟩
        · exact .inr ⟨a, by simp, h⟩
        · exact .inr ⟨b, by simp [hb], h⟩
theorem run_fine {gap : Int} (hg : 0 ≤ gap) : ∀ (L : List Tri) (x : Se), RiseT L → nxtS x L → FineS x → (runS gap x L).Pairwise (befS gap) ∧ ∀ z ∈ runS gap x L, FineS z
  | [], x, _, _, hf => ⟨by simp [runS], fun z hz => by simp [runS] at hz; rw [hz]; exact hf⟩
  | a :: L, x, hr, hn, hf => by
    have hr' := (List.pairwise_cons.1 hr).2
    rw [runS]
    by_cases e : joinB gap x a
    · rw [if_pos e]
      obtain ⟨e1, e2⟩ := joinB_iff.1 e
      have ht : x.t ≤ a.2.1 := by
        rcases hn a (by simp) with k | ⟨_, k⟩
        · rw [e1] at k; exact absurd k (ltB_irrefl _)
        · exact k
      exact run_fine hg L _ hr' (nxt_tail hr _ e1 rfl) (fine_ext hf ht)
    · rw [if_neg e]
      obtain ⟨h1, h2⟩ := run_fine hg L (newS a) hr' (nxt_tail hr _ rfl rfl) (fine_new a)
      have hxa : ltB x.p a.1 ∨ (x.p = a.1 ∧ gap < a.2.1 - x.t) := by
        rcases hn a (by simp) with k | ⟨e1, k⟩
        · exact .inl k
        · refine .inr ⟨e1, ?_⟩
          have : ¬ a.2.1 - x.t ≤ gap := fun c => e (joinB_iff.2 ⟨e1, c⟩)
          omega
      refine ⟨List.pairwise_cons.2 ⟨fun z hz => ?_, h1⟩, fun z hz => ?_⟩
      · unfold befS
        rcases run_start gap L _ z hz with ⟨zp, zf⟩ | ⟨b, hb, zp, zf⟩
        · rw [zp, zf]; exact hxa
        · rw [zp, zf]
          rcases (List.pairwise_cons.1 hr).1 b hb with k | ⟨e1, k⟩
          · rcases hxa with c | ⟨c, _⟩
            · exact .inl (ltB_trans c k)
            · exact .inl (by rw [c]; exact k)
          · rcases hxa with c | ⟨c, d⟩
            · exact .inl (by rw [← e1]; exact c)
            · refine .inr ⟨c.trans e1, ?_⟩
              rcases k with k | ⟨k, _⟩ <;> omega
      · rcases List.mem_cons.1 hz with rfl | hz
        · exact hf
        · exact h2 z hz
theorem run_cov {gap : Int} (hg : 0 ≤ gap) : ∀ (L : List Tri) (x : Se), RiseT L → nxtS x L → FineS x → ∀ a : Tri, ((covS x a ∧ a.2.2 ∈ x.its) ∨ a ∈ L) → ∃ z ∈ runS gap x L, covS z a ∧ a.2.2 ∈ z.its
  | [], x, _, _, _, a, h => by
    rcases h with h | h
    · exact ⟨x, by simp [runS], h⟩
    · simp at h
  | c :: L, x, hr, hn, hf, a, h => by
    have hr' := (List.pairwise_cons.1 hr).2
    rw [runS]
    by_cases e : joinB gap x c
    · rw [if_pos e]
      obtain ⟨e1, e2⟩ := joinB_iff.1 e
      have ht : x.t ≤ c.2.1 := by
        rcases hn c (by simp) with k | ⟨_, k⟩
        · rw [e1] at k; exact absurd k (ltB_irrefl _)
        · exact k
      refine run_cov hg L (extS x c) hr' (nxt_tail hr _ e1 rfl) (fine_ext hf ht) a ?_
      rcases h with ⟨⟨h1, h2, h3⟩, h4⟩ | h
      · exact .inl ⟨⟨h1, h2, by show a.2.1 ≤ c.2.1; omega⟩, (putB_mem _ _ _).2 (.inr h4)⟩
      · rcases List.mem_cons.1 h with rfl | h
        · refine .inl ⟨⟨e1, ?_, Int.le_refl _⟩, (putB_mem _ _ _).2 (.inl rfl)⟩
          have := hf.ft
          show x.f ≤ a.2.1
          omega
        · exact .inr h
    · rw [if_neg e]
      rcases h with h | h
      · exact ⟨x, by simp, h⟩
      · obtain ⟨z, hz, h2⟩ := run_cov hg L (newS c) hr' (nxt_tail hr _ rfl rfl) (fine_new c) a (by
          rcases List.mem_cons.1 h with rfl | h
          · exact .inl ⟨⟨rfl, Int.le_refl _, Int.le_refl _⟩, by simp [newS]⟩
          · exact .inr h)
        exact ⟨z, by simp [hz], h2⟩
/-- how often an item of an add is told in the sessions over its tick -/
def cntI (a : Tri) (its : List ByteArray) : Nat := (its.filter fun i => decide (i = a.2.2)).length
def cntS (a : Tri) (S : List Se) : Nat := (S.map fun x => if covS x a then cntI a x.its else 0).sum
theorem cntI_one {a : Tri} : ∀ {its : List ByteArray}, Rise its → a.2.2 ∈ its → cntI a its = 1
  | [], _, h => by simp at h
  | i :: its, hr, h => by
    have h' := List.pairwise_cons.1 hr
    have hz : a.2.2 = i → cntI a its = 0 := fun e => by
      unfold cntI
      rw [List.length_eq_zero_iff, List.filter_eq_nil_iff]
      intro j hj c
      simp only [decide_eq_true_eq] at c
      have := h'.1 j hj
      rw [c, e] at this
      exact ltB_irrefl _ this
    by_cases e : i = a.2.2
    · have := hz e.symm
      unfold cntI at this ⊢
      rw [List.filter_cons, if_pos (by simpa using e), List.length_cons, this]
    · rcases List.mem_cons.1 h with h | h
      · exact absurd h.symm e
      · have := cntI_one h'.2 h
        unfold cntI at this ⊢
        rw [List.filter_cons, if_neg (by simpa using e), this]
theorem cntS_zero {a : Tri} {S : List Se} (h : ∀ z ∈ S, ¬ covS z a) : cntS a S = 0 := by
  induction S with
  | nil => rfl
  | cons x S ih =>
    have := ih (fun z hz => h z (by simp [hz]))
    unfold cntS at this ⊢
    rw [List.map_cons, List.sum_cons, if_neg (h x (by simp)), this]
theorem bef_cov {gap : Int} (hg : 0 ≤ gap) {x y : Se} {a : Tri} (h : befS gap x y) (hx : covS x a) (hy : covS y a) : False := by
  obtain ⟨x1, x2, x3⟩ := hx
  obtain ⟨y1, y2, y3⟩ := hy
  rcases h with k | ⟨_, k⟩
  · rw [x1, y1] at k; exact ltB_irrefl _ k
  · omega
theorem cntS_one {gap : Int} (hg : 0 ≤ gap) {a : Tri} : ∀ {S : List Se}, S.Pairwise (befS gap) → (∀ z ∈ S, FineS z) → (∃ z ∈ S, covS z a ∧ a.2.2 ∈ z.its) → cntS a S = 1
  | [], _, _, ⟨z, hz, _⟩ => by simp at hz
  | x :: S, hp, hf, ⟨z, hz, hc, hi⟩ => by
    have hp' := List.pairwise_cons.1 hp
    rcases List.mem_cons.1 hz with rfl | hz
    · have h0 := cntS_zero (a := a) (S := S) (fun y hy c => bef_cov hg (hp'.1 y hy) hc c)
      unfold cntS at h0 ⊢
      rw [List.map_cons, List.sum_cons, if_pos hc, h0, cntI_one (hf z (by simp)).ri hi]
    · have h1 := cntS_one hg hp'.2 (fun y hy => hf y (by simp [hy])) ⟨z, hz, hc, hi⟩
      unfold cntS at h1 ⊢
      rw [List.map_cons, List.sum_cons, if_neg (fun c => bef_cov hg (hp'.1 z hz) c hc), h1]
theorem all_apart {gap : Int} (hg : 0 ≤ gap) {L : List Tri} (h : RiseT L) : (allS gap L).Pairwise (befS gap) ∧ (∀ z ∈ allS gap L, FineS z) ∧ ∀ a ∈ L, cntS a (allS gap L) = 1 := by
  cases L with
  | nil => exact ⟨by simp [allS], by simp [allS], by simp⟩
  | cons c L =>
    rw [all_cons]
    have hr' := (List.pairwise_cons.1 h).2
    have hn : nxtS (newS c) L := nxt_tail h _ rfl rfl
    obtain ⟨h1, h2⟩ := run_fine hg L (newS c) hr' hn (fine_new c)
    refine ⟨h1, h2, fun a ha => cntS_one hg h1 h2 (run_cov hg L (newS c) hr' hn (fine_new c) a ?_)⟩
    rcases List.mem_cons.1 ha with rfl | ha
    · exact .inl ⟨⟨rfl, Int.le_refl _, Int.le_refl _⟩, by simp [newS]⟩
    · exact .inr ha
theorem run_rng {gap : Int} (Q : Int → Prop) : ∀ (L : List Tri) (x : Se), Q x.f → Q x.t → (∀ b ∈ L, Q b.2.1) → ∀ z ∈ runS gap x L, Q z.f ∧ Q z.t
  | [], x, h1, h2, _, z, hz => by simp [runS] at hz; rw [hz]; exact ⟨h1, h2⟩
  | a :: L, x, h1, h2, h3, z, hz => by
    rw [runS] at hz
    have h3' : ∀ b ∈ L, Q b.2.1 := fun b hb => h3 b (by simp [hb])
    by_cases e : joinB gap x a
    · rw [if_pos e] at hz
      exact run_rng Q L (extS x a) h1 (h3 a (by simp)) h3' z hz
    · rw [if_neg e] at hz
      rcases List.mem_cons.1 hz with rfl | hz
      · exact ⟨h1, h2⟩
      · exact run_rng Q L (newS a) (h3 a (by simp)) (h3 a (by simp)) h3' z hz
theorem all_rng {gap : Int} (Q : Int → Prop) {L : List Tri} (h : ∀ b ∈ L, Q b.2.1) : ∀ z ∈ allS gap L, Q z.f ∧ Q z.t := by
  cases L with
  | nil => simp [allS]
  | cons a L =>
    rw [all_cons]
    exact run_rng Q L (newS a) (h a (by simp)) (h a (by simp)) (fun b hb => h b (by simp [hb]))
theorem cntS_snoc (a : Tri) (S : List Se) (x : Se) : cntS a (S ++ [x]) = cntS a S + if covS x a then cntI a x.its else 0 := by
  unfold cntS
  rw [List.map_append, List.sum_append]
  simp
theorem cntI_snoc (a : Tri) (its : List ByteArray) (i : ByteArray) : cntI a (its ++ [i]) = cntI a its + if i = a.2.2 then 1 else 0 := by
  unfold cntI
  rw [List.filter_append, List.length_append]
  by_cases e : i = a.2.2 <;> simp [e]
theorem cntI_le (a : Tri) (its : List ByteArray) : cntI a its ≤ its.length := List.length_filter_le _ _
theorem cntS_take (a : Tri) (S : List Se) (k : Nat) : cntS a (S.take k) ≤ cntS a S := by
  have h : cntS a S = cntS a (S.take k) + cntS a (S.drop k) := by
    conv => lhs; rw [← List.take_append_drop k S]
    unfold cntS
    rw [List.map_append, List.sum_append]
  omega
theorem cntI_take (a : Tri) (its : List ByteArray) (k : Nat) : cntI a (its.take k) ≤ cntI a its := by
  unfold cntI
  exact ((List.take_sublist k its).filter _).length_le
end Go.Proofs.Ytbmjddmejmeknaa

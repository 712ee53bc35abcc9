/- Sessions in memory: a map of persons, of each a map of ticks, of each a map of items; each block has one role. -/
import Derived.Test.YtbmjddmejmeknaaEPlain
import Derived.Test.YtbmjddmejmeknaaEIter
namespace Go.Proofs.Ytbmjddmejmeknaa
open Go.RowKit Go.MapKept Go.Maps
set_option linter.unusedVariables false
inductive Role where
  | box
  | root
  | pers (p : ByteArray)
  | tick (p : ByteArray) (t : Int)
def vMap (b : Nat) : Value := .map (some b)
def vT (_ : Unit) : Value := .bool true
abbrev MR := List (ByteArray × Nat)
abbrev MT := List (Int × Nat)
abbrev MI := List (ByteArray × Unit)
def vals {α β : Type} (f : β → Value) (m : List (α × β)) : List (α × Value) := m.map fun x => (x.1, f x.2)
section
variable {α β : Type} [DecidableEq α]
theorem vals_get (f : β → Value) (m : List (α × β)) (a : α) : mget (vals f m) a = (mget m a).map f := mget_map f m a
theorem vals_put (f : β → Value) (m : List (α × β)) (a : α) (v : β) : mput (vals f m) a (f v) = vals f (mput m a v) := mput_map f m a v
theorem vals_del (f : β → Value) (m : List (α × β)) (a : α) : mdel (vals f m) a = vals f (mdel m a) := mdel_map f m a
omit [DecidableEq α] in
theorem vals_keys (f : β → Value) (m : List (α × β)) : mkeys (vals f m) = mkeys m := mkeys_map f m
omit [DecidableEq α] in
theorem vals_len (f : β → Value) (m : List (α × β)) : (vals f m).length = m.length := by unfold vals; rw [List.length_map]
theorem key_iff (m : List (α × β)) (a : α) : a ∈ mkeys m ↔ ∃ v, mget m a = some v := by
  induction m with
  | nil => simp [mkeys, mget]
  | cons p m ih =>
    simp only [mget]
    by_cases e : p.1 = a
    · rw [if_pos e]
      exact ⟨fun _ => ⟨_, rfl⟩, fun _ => by simp [mkeys, e]⟩
    · rw [if_neg e, ← ih]
      simp only [mkeys, List.map_cons, List.mem_cons]
      exact ⟨fun h => h.elim (fun h => absurd h.symm e) id, .inr⟩
/-- no more of one kind than of the other -/
theorem nodup_len : ∀ {l m : List α}, l.Nodup → (∀ x ∈ l, x ∈ m) → l.length ≤ m.length
  | [], m, _, _ => Nat.zero_le _
  | a :: l, m, hn, h => by
    have ha := h a (by simp)
    have hn' := List.nodup_cons.1 hn
    have := nodup_len (l := l) (m := m.erase a) hn'.2 (fun x hx => by
      have hne : x ≠ a := fun e => hn'.1 (e ▸ hx)
      exact (List.mem_erase_of_ne hne).2 (h x (by simp [hx])))
    rw [List.length_erase_of_mem ha] at this
    have := List.length_pos_of_mem ha
    rw [List.length_cons]; omega
end
def upd {α β : Type} [DecidableEq α] (f : α → β) (a : α) (v : β) : α → β := fun x => if x = a then v else f x
theorem upd_same {α β : Type} [DecidableEq α] (f : α → β) (a : α) (v : β) : upd f a v a = v := by simp [upd]
theorem upd_ne {α β : Type} [DecidableEq α] (f : α → β) {a x : α} (v : β) (h : x ≠ a) : upd f a v x = f x := by simp [upd, h]
def upd2 (f : ByteArray → Int → MI) (p : ByteArray) (t : Int) (v : MI) : ByteArray → Int → MI := fun p' t' => if p' = p ∧ t' = t then v else f p' t'
theorem upd2_same (f : ByteArray → Int → MI) (p : ByteArray) (t : Int) (v : MI) : upd2 f p t v p t = v := by simp [upd2]
theorem upd2_ne (f : ByteArray → Int → MI) {p p' : ByteArray} {t t' : Int} (v : MI) (h : ¬ (p' = p ∧ t' = t)) : upd2 f p t v p' t' = f p' t' := by simp only [upd2, if_neg h]
structure SesR (w : World) (s r : Nat) (gap : Int) (mr : MR) (mt : ByteArray → MT) (mi : ByteArray → Int → MI) (role : Nat → Option Role) (B : List Nat) : Prop where
  bk : Bk w s [.int .i64 gap, .map (some r)] 59
  mp : Mp encS okS w r (vals vMap mr)
  tk : ∀ p b, mget mr p = some b → Mp encI okI w b (vals vMap (mt p))
  it : ∀ p b t c, mget mr p = some b → mget (mt p) t = some c → Mp encS okS w c (vals vT (mi p t))
  rs : role s = some .box
  rr : role r = some .root
  rp : ∀ p b, mget mr p = some b → role b = some (.pers p)
  rt : ∀ p b t c, mget mr p = some b → mget (mt p) t = some c → role c = some (.tick p t)
  inB : ∀ b k, role b = some k → b ∈ B
  lt : ∀ b ∈ B, b < w.heap.size
section
variable {w w' : World} {s r : Nat} {gap : Int} {mr : MR} {mt : ByteArray → MT} {mi : ByteArray → Int → MI} {role : Nat → Option Role} {B : List Nat}
theorem SesR.fr {S : Nat → Prop} (h : SesR w s r gap mr mt mi role B) (hf : Fr S w w') (hs : ∀ b ∈ B, ¬ S b) : SesR w' s r gap mr mt mi role B where
  bk := h.bk.fr hf (hs _ (h.inB _ _ h.rs))
  mp := h.mp.fr hf (hs _ (h.inB _ _ h.rr))
  tk p b hb := (h.tk p b hb).fr hf (hs _ (h.inB _ _ (h.rp p b hb)))
  it p b t c hb hc := (h.it p b t c hb hc).fr hf (hs _ (h.inB _ _ (h.rt p b t c hb hc)))
  rs := h.rs
  rr := h.rr
  rp := h.rp
  rt := h.rt
  inB := h.inB
  lt b hb := Nat.lt_of_lt_of_le (h.lt b hb) hf.size
theorem SesR.bel (h : SesR w s r gap mr mt mi role B) (hb : Below w.heap.size w w') : SesR w' s r gap mr mt mi role B := h.fr (Fr.of_bel (S := none') hb) (fun _ _ => id)
/-- a person, to whom nothing was added yet -/
theorem SesR.person (h : SesR w s r gap mr mt mi role B) {w1 w2 : World} {b : Nat} {p : ByteArray} (hw : Below w.heap.size w w1) (hb : Mp encI okI w1 b []) (hn : w.heap.size ≤ b) (hm : Mp encS okS w2 r (mput (vals vMap mr) p (vMap b))) (hf : Fr (fun x => x = r) w1 w2) :
    SesR w2 s r gap (mput mr p b) (upd mt p []) mi (upd role b (some (.pers p))) (b :: B) := by
  have h1 := h.bel hw
  have hne : ∀ x k, role x = some k → x ≠ b := fun x k hx e => by have := h.lt x (h.inB x k hx); omega
  have hkr : ∀ x k, role x = some k → upd role b (some (.pers p)) x = some k := fun x k hx => by rw [upd_ne _ _ (hne x k hx)]; exact hx
  have hnr : ∀ x k, role x = some k → k ≠ .root → x ≠ r := fun x k hx hk e => hk (by rw [e, h.rr] at hx; exact (Option.some.inj hx).symm)
  have hbr : b ≠ r := fun e => hne r _ h.rr e.symm
  have hsz := hf.size
  have hsz1 := hw.size
  refine ⟨h1.bk.fr hf (hnr s _ h.rs (by simp)), by rw [vals_put] at hm; exact hm, fun p' b' hb' => ?_, fun p' b' t c hb' hc => ?_, hkr _ _ h.rs, hkr _ _ h.rr, fun p' b' hb' => ?_, fun p' b' t c hb' hc => ?_, fun x k hx => ?_, fun x hx => ?_⟩
  · rw [get_put] at hb'
    by_cases e : p = p'
    · subst e
      rw [if_pos rfl] at hb'
      cases hb'
      rw [upd_same]
      exact hb.fr hf hbr
    · rw [if_neg e] at hb'
      rw [upd_ne _ _ (fun c => e c.symm)]
      exact (h1.tk p' b' hb').fr hf (hnr _ _ (h.rp p' b' hb') (by simp))
  · rw [get_put] at hb'
    by_cases e : p = p'
    · subst e
      rw [upd_same] at hc
      cases hc
    · rw [if_neg e] at hb'
      rw [upd_ne _ _ (fun c => e c.symm)] at hc
      exact (h1.it p' b' t c hb' hc).fr hf (hnr _ _ (h.rt p' b' t c hb' hc) (by simp))
  · rw [get_put] at hb'
    by_cases e : p = p'
    · subst e
      rw [if_pos rfl] at hb'
      cases hb'
      exact upd_same _ _ _
    · rw [if_neg e] at hb'
      exact hkr _ _ (h.rp p' b' hb')
  · rw [get_put] at hb'
    by_cases e : p = p'
    · subst e
      rw [upd_same] at hc
      cases hc
    · rw [if_neg e] at hb'
      rw [upd_ne _ _ (fun c => e c.symm)] at hc
      exact hkr _ _ (h.rt p' b' t c hb' hc)
  · by_cases e : x = b
    · simp [e]
    · rw [upd_ne _ _ e] at hx
      simp [h.inB x k hx]
  · rcases List.mem_cons.1 hx with rfl | hx
    · have := hb.lt; omega
    · have := h.lt x hx; omega
/-- a tick of a person, at which nothing was added yet -/
theorem SesR.tickNew (h : SesR w s r gap mr mt mi role B) {w1 w2 : World} {b c : Nat} {p : ByteArray} {t : Int} (hp : mget mr p = some b) (hw : Below w.heap.size w w1) (hc : Mp encS okS w1 c []) (hn : w.heap.size ≤ c) (hm : Mp encI okI w2 b (mput (vals vMap (mt p)) t (vMap c))) (hf : Fr (fun x => x = b) w1 w2) :
    SesR w2 s r gap mr (upd mt p (mput (mt p) t c)) (upd2 mi p t []) (upd role c (some (.tick p t))) (c :: B) := by
  have h1 := h.bel hw
  have hne : ∀ x k, role x = some k → x ≠ c := fun x k hx e => by have := h.lt x (h.inB x k hx); omega
  have hkr : ∀ x k, role x = some k → upd role c (some (.tick p t)) x = some k := fun x k hx => by rw [upd_ne _ _ (hne x k hx)]; exact hx
  have hnr : ∀ x k, role x = some k → k ≠ .pers p → x ≠ b := fun x k hx hk e => hk (by rw [e, h.rp p b hp] at hx; exact (Option.some.inj hx).symm)
  have hcb : c ≠ b := fun e => hne b _ (h.rp p b hp) e.symm
  have hsz := hf.size
  have hsz1 := hw.size
  refine ⟨h1.bk.fr hf (hnr s _ h.rs (by simp)), h1.mp.fr hf (hnr r _ h.rr (by simp)), fun p' b' hb' => ?_, fun p' b' t' c' hb' hc' => ?_, hkr _ _ h.rs, hkr _ _ h.rr, fun p' b' hb' => hkr _ _ (h.rp p' b' hb'), fun p' b' t' c' hb' hc' => ?_, fun x k hx => ?_, fun x hx => ?_⟩
  · by_cases e : p' = p
    · subst e
      rw [hp] at hb'
      cases hb'
      rw [upd_same, ← vals_put]
      exact hm
    · rw [upd_ne _ _ e]
      exact (h1.tk p' b' hb').fr hf (hnr _ _ (h.rp p' b' hb') (by simpa using e))
  · by_cases e : p' = p
    · subst e
      rw [upd_same, get_put] at hc'
      by_cases et : t = t'
      · subst et
        rw [if_pos rfl] at hc'
        cases hc'
        rw [upd2_same]
        exact hc.fr hf hcb
      · rw [if_neg et] at hc'
        rw [upd2_ne _ _ (fun q => et q.2.symm)]
        exact (h1.it p' b' t' c' hb' hc').fr hf (hnr _ _ (h.rt p' b' t' c' hb' hc') (by simp))
    · rw [upd_ne _ _ e] at hc'
      rw [upd2_ne _ _ (fun q => e q.1)]
      exact (h1.it p' b' t' c' hb' hc').fr hf (hnr _ _ (h.rt p' b' t' c' hb' hc') (by simp))
  · by_cases e : p' = p
    · subst e
      rw [upd_same, get_put] at hc'
      by_cases et : t = t'
      · subst et
        rw [if_pos rfl] at hc'
        cases hc'
        exact upd_same _ _ _
      · rw [if_neg et] at hc'
        exact hkr _ _ (h.rt p' b' t' c' hb' hc')
    · rw [upd_ne _ _ e] at hc'
      exact hkr _ _ (h.rt p' b' t' c' hb' hc')
  · by_cases e : x = c
    · simp [e]
    · rw [upd_ne _ _ e] at hx
      simp [h.inB x k hx]
  · rcases List.mem_cons.1 hx with rfl | hx
    · have := hc.lt; omega
    · have := h.lt x hx; omega
/-- an item at a tick -/
theorem SesR.item (h : SesR w s r gap mr mt mi role B) {w2 : World} {b c : Nat} {p i : ByteArray} {t : Int} (hp : mget mr p = some b) (ht : mget (mt p) t = some c) (hm : Mp encS okS w2 c (mput (vals vT (mi p t)) i (.bool true))) (hf : Fr (fun x => x = c) w w2) :
    SesR w2 s r gap mr mt (upd2 mi p t (mput (mi p t) i ())) role B := by
  have hrc := h.rt p b t c hp ht
  have hnr : ∀ x k, role x = some k → k ≠ .tick p t → x ≠ c := fun x k hx hk e => hk (by rw [e, hrc] at hx; exact (Option.some.inj hx).symm)
  refine ⟨h.bk.fr hf (hnr s _ h.rs (by simp)), h.mp.fr hf (hnr r _ h.rr (by simp)), fun p' b' hb' => (h.tk p' b' hb').fr hf (hnr _ _ (h.rp p' b' hb') (by simp)), fun p' b' t' c' hb' hc' => ?_, h.rs, h.rr, h.rp, h.rt, h.inB, fun x hx => Nat.lt_of_lt_of_le (h.lt x hx) hf.size⟩
  by_cases e : p' = p ∧ t' = t
  · obtain ⟨rfl, rfl⟩ := e
    rw [hp] at hb'
    cases hb'
    rw [ht] at hc'
    cases hc'
    rw [upd2_same, ← vals_put]
    exact hm
  · rw [upd2_ne _ _ e]
    exact (h.it p' b' t' c' hb' hc').fr hf (hnr _ _ (h.rt p' b' t' c' hb' hc') (by simpa using e))
/-- a person who is dropped -/
theorem SesR.gone (h : SesR w s r gap mr mt mi role B) {w2 : World} {p : ByteArray} (hm : Mp encS okS w2 r (mdel (vals vMap mr) p)) (hf : Fr (fun x => x = r) w w2) : SesR w2 s r gap (mdel mr p) mt mi role B := by
  have hnr : ∀ x k, role x = some k → k ≠ .root → x ≠ r := fun x k hx hk e => hk (by rw [e, h.rr] at hx; exact (Option.some.inj hx).symm)
  have hnd : (mkeys mr).Nodup := by have := h.mp.nd; rwa [vals_keys] at this
  have hg : ∀ p' b', mget (mdel mr p) p' = some b' → mget mr p' = some b' := fun p' b' hb' => by
    rw [get_del hnd] at hb'
    split at hb'
    · cases hb'
    · exact hb'
  exact ⟨h.bk.fr hf (hnr s _ h.rs (by simp)), by rw [vals_del] at hm; exact hm, fun p' b' hb' => (h.tk p' b' (hg _ _ hb')).fr hf (hnr _ _ (h.rp p' b' (hg _ _ hb')) (by simp)), fun p' b' t c hb' hc => (h.it p' b' t c (hg _ _ hb') hc).fr hf (hnr _ _ (h.rt p' b' t c (hg _ _ hb') hc) (by simp)), h.rs, h.rr, fun p' b' hb' => h.rp p' b' (hg _ _ hb'), fun p' b' t c hb' hc => h.rt p' b' t c (hg _ _ hb') hc, h.inB, fun x hx => Nat.lt_of_lt_of_le (h.lt x hx) hf.size⟩
end
/-- what the maps hold -/
structure SRel (L : List Tri) (mr : MR) (mt : ByteArray → MT) (mi : ByteArray → Int → MI) : Prop where
  mem : ∀ p t i, ((p, t, i) : Tri) ∈ L ↔ ∃ b c, mget mr p = some b ∧ mget (mt p) t = some c ∧ mget (mi p t) i = some ()
  np : ∀ p b, mget mr p = some b → mt p ≠ []
  nt : ∀ p b t c, mget mr p = some b → mget (mt p) t = some c → mi p t ≠ []
structure SesAt (w : World) (s : Nat) (B : List Nat) (gap : Int) (L : List Tri) : Prop where
  ok : SOk L
  g : 0 ≤ gap ∧ gap ≤ 1099511627776
  n : L.length ≤ 100000
  ex : ∃ r mr mt mi role, SesR w s r gap mr mt mi role B ∧ SRel L mr mt mi
theorem SesAt.fr {S : Nat → Prop} {w w' : World} {s : Nat} {B : List Nat} {gap : Int} {L : List Tri} (h : SesAt w s B gap L) (hf : Fr S w w') (hs : ∀ b ∈ B, ¬ S b) : SesAt w' s B gap L := by
  obtain ⟨r, mr, mt, mi, role, h1, h2⟩ := h.ex
  exact ⟨h.ok, h.g, h.n, r, mr, mt, mi, role, h1.fr hf hs, h2⟩
theorem SesAt.bel {w w' : World} {s : Nat} {B : List Nat} {gap : Int} {L : List Tri} (h : SesAt w s B gap L) (hb : Below w.heap.size w w') : SesAt w' s B gap L := h.fr (Fr.of_bel (S := none') hb) (fun _ _ => id)
theorem SesAt.lt {w : World} {s : Nat} {B : List Nat} {gap : Int} {L : List Tri} (h : SesAt w s B gap L) : ∀ b ∈ B, b < w.heap.size := by
  obtain ⟨r, mr, mt, mi, role, h1, h2⟩ := h.ex
  exact h1.lt
/-- an item more, at a tick that is there -/
theorem SRel.item {L : List Tri} {mr : MR} {mt : ByteArray → MT} {mi : ByteArray → Int → MI} (h : SRel L mr mt mi) {p i : ByteArray} {t : Int} {b c : Nat} (hp : mget mr p = some b) (ht : mget (mt p) t = some c) (hok : okT (p, t, i) = true) : SRel (addT L (p, t, i)) mr mt (upd2 mi p t (mput (mi p t) i ())) where
  mem p' t' i' := by
    rw [mem_add, h.mem]
    by_cases e : p' = p ∧ t' = t
    · obtain ⟨rfl, rfl⟩ := e
      rw [upd2_same]
      simp only [get_put]
      constructor
      · rintro (⟨e, _⟩ | ⟨b', c', h1, h2, h3⟩)
        · simp only [Prod.mk.injEq, true_and] at e
          exact ⟨b, c, hp, ht, by rw [if_pos e.symm]⟩
        · exact ⟨b', c', h1, h2, by split <;> simp_all⟩
      · rintro ⟨b', c', h1, h2, h3⟩
        by_cases e : i = i'
        · exact .inl ⟨by rw [e], hok⟩
        · rw [if_neg e] at h3
          exact .inr ⟨b', c', h1, h2, h3⟩
    · rw [upd2_ne _ _ e]
      constructor
      · rintro (⟨e', _⟩ | h')
        · simp only [Prod.mk.injEq] at e'
          exact absurd ⟨e'.1, e'.2.1⟩ e
        · exact h'
      · exact .inr
  np := h.np
  nt p' b' t' c' h1 h2 := by
    by_cases e : p' = p ∧ t' = t
    · obtain ⟨rfl, rfl⟩ := e
      rw [upd2_same]
      intro c0
      have := congrArg (fun m => mget m i) c0
      simp only [get_put, if_pos, mget] at this
      cases this
    · rw [upd2_ne _ _ e]
      exact h.nt p' b' t' c' h1 h2
/-- the first item at a new tick -/
theorem SRel.tick {L : List Tri} {mr : MR} {mt : ByteArray → MT} {mi : ByteArray → Int → MI} (h : SRel L mr mt mi) {p i : ByteArray} {t : Int} {b c : Nat} (hp : mget mr p = some b) (ht : mget (mt p) t = none) (hok : okT (p, t, i) = true) :
    SRel (addT L (p, t, i)) mr (upd mt p (mput (mt p) t c)) (upd2 (upd2 mi p t []) p t (mput (upd2 mi p t [] p t) i ())) where
  mem p' t' i' := by
    rw [mem_add, h.mem, upd2_same]
    by_cases e : p' = p
    · subst e
      rw [upd_same]
      by_cases et : t' = t
      · subst et
        rw [upd2_same]
        simp only [get_put, if_pos, mget]
        constructor
        · rintro (⟨e, _⟩ | ⟨b', c', h1, h2, h3⟩)
          · simp only [Prod.mk.injEq, true_and] at e
            exact ⟨b, c, hp, rfl, by rw [if_pos e.symm]⟩
          · rw [ht] at h2; cases h2
        · rintro ⟨b', c', h1, h2, h3⟩
          by_cases e : i = i'
          · exact .inl ⟨by rw [e], hok⟩
          · rw [if_neg e] at h3; cases h3
      · rw [upd2_ne _ _ (fun q => et q.2), upd2_ne _ _ (fun q => et q.2)]
        simp only [get_put, if_neg (fun q => et q.symm : ¬ t = t')]
        constructor
        · rintro (⟨e, _⟩ | h')
          · simp only [Prod.mk.injEq] at e
            exact absurd e.2.1 et
          · exact h'
        · exact .inr
    · rw [upd_ne _ _ e, upd2_ne _ _ (fun q => e q.1), upd2_ne _ _ (fun q => e q.1)]
      constructor
      · rintro (⟨e', _⟩ | h')
        · simp only [Prod.mk.injEq] at e'
          exact absurd e'.1 e
        · exact h'
      · exact .inr
  np p' b' h1 := by
    by_cases e : p' = p
    · subst e
      rw [upd_same]
      intro c0
      have := congrArg (fun m => mget m t) c0
      simp only [get_put, if_pos, mget] at this
      cases this
    · rw [upd_ne _ _ e]; exact h.np p' b' h1
  nt p' b' t' c' h1 h2 := by
    by_cases e : p' = p ∧ t' = t
    · obtain ⟨rfl, rfl⟩ := e
      rw [upd2_same]
      intro c0
      have := congrArg (fun m => mget m i) c0
      simp only [get_put, if_pos, mget] at this
      cases this
    · rw [upd2_ne _ _ e, upd2_ne _ _ e]
      by_cases ep : p' = p
      · subst ep
        rw [upd_same, get_put, if_neg (fun q => e ⟨rfl, q.symm⟩)] at h2
        exact h.nt p' b' t' c' h1 h2
      · rw [upd_ne _ _ ep] at h2
        exact h.nt p' b' t' c' h1 h2
/-- the first item of a new person -/
theorem SRel.pers {L : List Tri} {mr : MR} {mt : ByteArray → MT} {mi : ByteArray → Int → MI} (h : SRel L mr mt mi) {p i : ByteArray} {t : Int} {b c : Nat} (hp : mget mr p = none) (hok : okT (p, t, i) = true) :
    SRel (addT L (p, t, i)) (mput mr p b) (upd (upd mt p []) p (mput (upd mt p [] p) t c)) (upd2 (upd2 mi p t []) p t (mput (upd2 mi p t [] p t) i ())) where
  mem p' t' i' := by
    rw [mem_add, h.mem, upd2_same, upd_same]
    by_cases e : p' = p
    · subst e
      rw [upd_same]
      simp only [get_put, if_pos, hp]
      by_cases et : t' = t
      · subst et
        rw [upd2_same]
        simp only [if_pos, mget, mput]
        constructor
        · rintro (⟨e, _⟩ | ⟨b', c', h1, h2, h3⟩)
          · simp only [Prod.mk.injEq, true_and] at e
            exact ⟨b, c, rfl, rfl, by rw [if_pos e.symm]⟩
          · cases h1
        · rintro ⟨b', c', h1, h2, h3⟩
          by_cases e : i = i'
          · exact .inl ⟨by rw [e], hok⟩
          · rw [if_neg e] at h3; cases h3
      · simp only [if_neg (fun q => et q.symm : ¬ t = t'), mget]
        constructor
        · rintro (⟨e, _⟩ | ⟨b', c', h1, h2, h3⟩)
          · simp only [Prod.mk.injEq] at e
            exact absurd e.2.1 et
          · cases h1
        · rintro ⟨b', c', h1, h2, h3⟩
          cases h2
    · rw [upd_ne _ _ e, upd_ne _ _ e, upd2_ne _ _ (fun q => e q.1), upd2_ne _ _ (fun q => e q.1)]
      simp only [get_put, if_neg (fun q => e q.symm : ¬ p = p')]
      constructor
      · rintro (⟨e', _⟩ | h')
        · simp only [Prod.mk.injEq] at e'
          exact absurd e'.1 e
        · exact h'
      · exact .inr
  np p' b' h1 := by
    by_cases e : p' = p
    · subst e
      rw [upd_same]
      intro c0
      have := congrArg (fun m => mget m t) c0
      simp only [get_put, if_pos, mget] at this
      cases this
    · rw [upd_ne _ _ e, upd_ne _ _ e]
      rw [get_put, if_neg (fun q => e q.symm)] at h1
      exact h.np p' b' h1
  nt p' b' t' c' h1 h2 := by
    by_cases e : p' = p ∧ t' = t
    · obtain ⟨rfl, rfl⟩ := e
      rw [upd2_same]
      intro c0
      have := congrArg (fun m => mget m i) c0
      simp only [get_put, if_pos, mget] at this
      cases this
    · rw [upd2_ne _ _ e, upd2_ne _ _ e]
      by_cases ep : p' = p
      · subst ep
        rw [upd_same, upd_same, get_put, if_neg (fun q => e ⟨rfl, q.symm⟩)] at h2
        cases h2
      · rw [upd_ne _ _ ep, upd_ne _ _ ep] at h2
        rw [get_put, if_neg (fun q => ep q.symm)] at h1
        exact h.nt p' b' t' c' h1 h2
end Go.Proofs.Ytbmjddmejmeknaa

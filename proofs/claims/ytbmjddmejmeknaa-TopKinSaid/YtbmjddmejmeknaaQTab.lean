/- Tables of pairs in memory: a map of singles, and a map of rows, each a map of counts; each block has one role. -/
import Derived.Test.YtbmjddmejmeknaaQIter
namespace Go.Proofs.Ytbmjddmejmeknaa.Pr
open Go.RowKit Go.MapKept Go.Maps
set_option linter.unusedVariables false
inductive RoleQ where
  | tab
  | sing
  | rows
  | row (a : ByteArray)
def vMap (b : Nat) : Value := .map (some b)
def vI (x : Int) : Value := .int .i64 x
abbrev MR := List (ByteArray × Nat)
abbrev MC := List (ByteArray × Int)
def vals {α β : Type} (f : β → Value) (m : List (α × β)) : List (α × Value) := m.map fun x => (x.1, f x.2)
section
variable {α β : Type} [DecidableEq α]
theorem vals_get (f : β → Value) (m : List (α × β)) (a : α) : mget (vals f m) a = (mget m a).map f := mget_map f m a
theorem vals_put (f : β → Value) (m : List (α × β)) (a : α) (v : β) : mput (vals f m) a (f v) = vals f (mput m a v) := mput_map f m a v
theorem vals_del (f : β → Value) (m : List (α × β)) (a : α) : mdel (vals f m) a = vals f (mdel m a) := mdel_map f m a
omit [DecidableEq α] in
theorem vals_keys (f : β → Value) (m : List (α × β)) : mkeys (vals f m) = mkeys m := mkeys_map f m
omit [DecidableEq α] in
theorem vals_len (f : β → Value) (m : List (α × β)) : (vals f m).length = m.length := by unfold vals; rw [List.length_map]
theorem key_iff (m : List (α × β)) (a : α) : a ∈ mkeys m ↔ ∃ v, mget m a = some v := by
  induction m with
  | nil => simp [mkeys, mget]
  | cons p m ih =>
    simp only [mget]
    by_cases e : p.1 = a
    · rw [if_pos e]
      exact ⟨fun _ => ⟨_, rfl⟩, fun _ => by simp [mkeys, e]⟩
    · rw [if_neg e, ← ih]
      simp only [mkeys, List.map_cons, List.mem_cons]
      exact ⟨fun h => h.elim (fun h => absurd h.symm e) id, .inr⟩
/-- no more of one kind than of the other -/
theorem nodup_len : ∀ {l m : List α}, l.Nodup → (∀ x ∈ l, x ∈ m) → l.length ≤ m.length
  | [], m, _, _ => Nat.zero_le _
  | a :: l, m, hn, h => by
    have ha := h a (by simp)
    have hn' := List.nodup_cons.1 hn
    have := nodup_len (l := l) (m := m.erase a) hn'.2 (fun x hx => by
      have hne : x ≠ a := fun e => hn'.1 (e ▸ hx)
      exact (List.mem_erase_of_ne hne).2 (h x (by simp [hx])))
    rw [List.length_erase_of_mem ha] at this
    have := List.length_pos_of_mem ha
    rw [List.length_cons]; omega
end
def upd {α β : Type} [DecidableEq α] (f : α → β) (a : α) (v : β) : α → β := fun x => if x = a then v else f x
theorem upd_same {α β : Type} [DecidableEq α] (f : α → β) (a : α) (v : β) : upd f a v a = v := by simp [upd]
theorem upd_ne {α β : Type} [DecidableEq α] (f : α → β) {a x : α} (v : β) (h : x ≠ a) : upd f a v x = f x := by simp [upd, h]
/-- a table in memory: t the box, s the singles, r the rows -/
structure TabR (w : World) (t s r : Nat) (ms : MC) (mr : MR) (mt : ByteArray → MC) (role : Nat → Option RoleQ) (B : List Nat) : Prop where
  bk : Bk w t [.map (some s), .map (some r)] 66
  sg : Mp encS okS w s (vals vI ms)
  mp : Mp encS okS w r (vals vMap mr)
  rw' : ∀ p b, mget mr p = some b → Mp encS okS w b (vals vI (mt p))
  rt : role t = some .tab
  rs : role s = some .sing
  rr : role r = some .rows
  rp : ∀ p b, mget mr p = some b → role b = some (.row p)
  inB : ∀ b k, role b = some k → b ∈ B
  lt : ∀ b ∈ B, b < w.heap.size
section
variable {w w' : World} {t s r : Nat} {ms : MC} {mr : MR} {mt : ByteArray → MC} {role : Nat → Option RoleQ} {B : List Nat}
theorem TabR.fr {S : Nat → Prop} (h : TabR w t s r ms mr mt role B) (hf : Fr S w w') (hs : ∀ b ∈ B, ¬ S b) : TabR w' t s r ms mr mt role B where
  bk := h.bk.fr hf (hs _ (h.inB _ _ h.rt))
  sg := h.sg.fr hf (hs _ (h.inB _ _ h.rs))
  mp := h.mp.fr hf (hs _ (h.inB _ _ h.rr))
  rw' p b hb := (h.rw' p b hb).fr hf (hs _ (h.inB _ _ (h.rp p b hb)))
  rt := h.rt
  rs := h.rs
  rr := h.rr
  rp := h.rp
  inB := h.inB
  lt b hb := Nat.lt_of_lt_of_le (h.lt b hb) hf.size
theorem TabR.bel (h : TabR w t s r ms mr mt role B) (hb : Below w.heap.size w w') : TabR w' t s r ms mr mt role B := h.fr (Fr.of_bel (S := none') hb) (fun _ _ => id)
/-- the singles, changed -/
theorem TabR.sing (h : TabR w t s r ms mr mt role B) {ms' : MC} (hm : Mp encS okS w' s (vals vI ms')) (hf : Fr (fun x => x = s) w w') : TabR w' t s r ms' mr mt role B := by
  have hnr : ∀ x k, role x = some k → k ≠ .sing → x ≠ s := fun x k hx hk e => hk (by rw [e, h.rs] at hx; exact (Option.some.inj hx).symm)
  exact ⟨h.bk.fr hf (hnr t _ h.rt (by simp)), hm, h.mp.fr hf (hnr r _ h.rr (by simp)), fun p b hb => (h.rw' p b hb).fr hf (hnr _ _ (h.rp p b hb) (by simp)), h.rt, h.rs, h.rr, h.rp, h.inB, fun x hx => Nat.lt_of_lt_of_le (h.lt x hx) hf.size⟩
/-- a row, changed -/
theorem TabR.row (h : TabR w t s r ms mr mt role B) {p : ByteArray} {b : Nat} {m : MC} (hp : mget mr p = some b) (hm : Mp encS okS w' b (vals vI m)) (hf : Fr (fun x => x = b) w w') : TabR w' t s r ms mr (upd mt p m) role B := by
  have hrb := h.rp p b hp
  have hnr : ∀ x k, role x = some k → k ≠ .row p → x ≠ b := fun x k hx hk e => hk (by rw [e, hrb] at hx; exact (Option.some.inj hx).symm)
  refine ⟨h.bk.fr hf (hnr t _ h.rt (by simp)), h.sg.fr hf (hnr s _ h.rs (by simp)), h.mp.fr hf (hnr r _ h.rr (by simp)), fun p' b' hb' => ?_, h.rt, h.rs, h.rr, h.rp, h.inB, fun x hx => Nat.lt_of_lt_of_le (h.lt x hx) hf.size⟩
  by_cases e : p' = p
  · subst e
    rw [hp] at hb'
    cases hb'
    rw [upd_same]; exact hm
  · rw [upd_ne _ _ e]
    exact (h.rw' p' b' hb').fr hf (hnr _ _ (h.rp p' b' hb') (by simpa using e))
/-- a new row -/
theorem TabR.more (h : TabR w t s r ms mr mt role B) {w1 w2 : World} {b : Nat} {p : ByteArray} {m : MC} (hw : Below w.heap.size w w1) (hb : Mp encS okS w1 b (vals vI m)) (hn : w.heap.size ≤ b) (hm : Mp encS okS w2 r (mput (vals vMap mr) p (vMap b))) (hf : Fr (fun x => x = r) w1 w2) :
    TabR w2 t s r ms (mput mr p b) (upd mt p m) (upd role b (some (.row p))) (b :: B) := by
  have h1 := h.bel hw
  have hne : ∀ x k, role x = some k → x ≠ b := fun x k hx e => by have := h.lt x (h.inB x k hx); omega
  have hkr : ∀ x k, role x = some k → upd role b (some (.row p)) x = some k := fun x k hx => by rw [upd_ne _ _ (hne x k hx)]; exact hx
  have hnr : ∀ x k, role x = some k → k ≠ .rows → x ≠ r := fun x k hx hk e => hk (by rw [e, h.rr] at hx; exact (Option.some.inj hx).symm)
  have hbr : b ≠ r := fun e => hne r _ h.rr e.symm
  have hsz := hf.size
  have hsz1 := hw.size
  refine ⟨h1.bk.fr hf (hnr t _ h.rt (by simp)), h1.sg.fr hf (hnr s _ h.rs (by simp)), by rw [vals_put] at hm; exact hm, fun p' b' hb' => ?_, hkr _ _ h.rt, hkr _ _ h.rs, hkr _ _ h.rr, fun p' b' hb' => ?_, fun x k hx => ?_, fun x hx => ?_⟩
  · rw [get_put] at hb'
    by_cases e : p = p'
    · subst e
      rw [if_pos rfl] at hb'
      cases hb'
      rw [upd_same]
      exact hb.fr hf hbr
    · rw [if_neg e] at hb'
      rw [upd_ne _ _ (fun c => e c.symm)]
      exact (h1.rw' p' b' hb').fr hf (hnr _ _ (h.rp p' b' hb') (by simp))
  · rw [get_put] at hb'
    by_cases e : p = p'
    · subst e
      rw [if_pos rfl] at hb'
      cases hb'
      exact upd_same _ _ _
    · rw [if_neg e] at hb'
      exact hkr _ _ (h.rp p' b' hb')
  · by_cases e : x = b
    · simp [e]
    · rw [upd_ne _ _ e] at hx
      simp [h.inB x k hx]
  · rcases List.mem_cons.1 hx with rfl | hx
    · have := hb.lt; omega
    · have := h.lt x hx; omega
/-- a row less -/
theorem TabR.less (h : TabR w t s r ms mr mt role B) {p : ByteArray} (hm : Mp encS okS w' r (mdel (vals vMap mr) p)) (hf : Fr (fun x => x = r) w w') : TabR w' t s r ms (mdel mr p) mt role B := by
  have hnr : ∀ x k, role x = some k → k ≠ .rows → x ≠ r := fun x k hx hk e => hk (by rw [e, h.rr] at hx; exact (Option.some.inj hx).symm)
  have hnd : (mkeys mr).Nodup := by have := h.mp.nd; rwa [vals_keys] at this
  have hg : ∀ p' b', mget (mdel mr p) p' = some b' → mget mr p' = some b' := fun p' b' hb' => by
    rw [get_del hnd] at hb'
    split at hb'
    · cases hb'
    · exact hb'
  exact ⟨h.bk.fr hf (hnr t _ h.rt (by simp)), h.sg.fr hf (hnr s _ h.rs (by simp)), by rw [vals_del] at hm; exact hm, fun p' b' hb' => (h.rw' p' b' (hg _ _ hb')).fr hf (hnr _ _ (h.rp p' b' (hg _ _ hb')) (by simp)), h.rt, h.rs, h.rr, fun p' b' hb' => h.rp p' b' (hg _ _ hb'), h.inB, fun x hx => Nat.lt_of_lt_of_le (h.lt x hx) hf.size⟩
end
/-- how often two things are together; of one with itself: how often it is there -/
abbrev CF := ByteArray → ByteArray → Int
def nz (x : Int) : Option Int := if x = 0 then none else some x
theorem nz_getD (x : Int) : (nz x).getD 0 = x := by unfold nz; split <;> simp_all
theorem nz_some {x y : Int} (h : nz x = some y) : x = y ∧ x ≠ 0 := by unfold nz at h; split at h; cases h; cases h; exact ⟨rfl, by assumption⟩
/-- what the maps hold -/
structure TRel (C : CF) (ms : MC) (mr : MR) (mt : ByteArray → MC) : Prop where
  s0 : ∀ a, mget ms a = nz (C a a)
  r0 : ∀ a k, mget mr a = some k → ∀ b, mget (mt a) b = if b = a then none else nz (C a b)
  r1 : ∀ a, mget mr a = none → ∀ b, b ≠ a → C a b = 0
  ne : ∀ a k, mget mr a = some k → mt a ≠ []
structure TabAt (w : World) (t : Nat) (B : List Nat) (C : CF) : Prop where
  ex : ∃ s r ms mr mt role, TabR w t s r ms mr mt role B ∧ TRel C ms mr mt
  io : ∀ a b, I64 (C a b)
theorem TabAt.fr {S : Nat → Prop} {w w' : World} {t : Nat} {B : List Nat} {C : CF} (h : TabAt w t B C) (hf : Fr S w w') (hs : ∀ b ∈ B, ¬ S b) : TabAt w' t B C := by
  obtain ⟨s, r, ms, mr, mt, role, h1, h2⟩ := h.ex
  exact ⟨⟨s, r, ms, mr, mt, role, h1.fr hf hs, h2⟩, h.io⟩
theorem TabAt.bel {w w' : World} {t : Nat} {B : List Nat} {C : CF} (h : TabAt w t B C) (hb : Below w.heap.size w w') : TabAt w' t B C := h.fr (Fr.of_bel (S := none') hb) (fun _ _ => id)
theorem TabAt.lt {w : World} {t : Nat} {B : List Nat} {C : CF} (h : TabAt w t B C) : ∀ b ∈ B, b < w.heap.size := by
  obtain ⟨s, r, ms, mr, mt, role, h1, h2⟩ := h.ex
  exact h1.lt
def bump (C : CF) (a b : ByteArray) (n : Int) : CF := fun x y => if x = a ∧ y = b then C x y + n else C x y
theorem bump_same (C : CF) (a b : ByteArray) (n : Int) : bump C a b n a b = C a b + n := by simp [bump]
theorem bump_ne (C : CF) {a b x y : ByteArray} (n : Int) (h : ¬ (x = a ∧ y = b)) : bump C a b n x y = C x y := by simp only [bump, if_neg h]
section
variable {C : CF} {ms ms' : MC} {mr : MR} {mt : ByteArray → MC} {a b : ByteArray} {n : Int}
theorem TRel.single (h : TRel C ms mr mt) (hm : ∀ x, mget ms' x = if x = a then nz (C a a + n) else mget ms x) : TRel (bump C a a n) ms' mr mt where
  s0 x := by
    rw [hm]
    by_cases e : x = a
    · subst e; rw [if_pos rfl, bump_same]
    · rw [if_neg e, bump_ne _ _ (fun q => e q.1)]; exact h.s0 x
  r0 x k hk y := by
    rw [h.r0 x k hk]
    by_cases e : y = x
    · rw [if_pos e, if_pos e]
    · rw [if_neg e, if_neg e, bump_ne _ _ (fun q => e (q.2.trans q.1.symm))]
  r1 x hx y hy := by rw [bump_ne _ _ (fun q => hy (q.2.trans q.1.symm))]; exact h.r1 x hx y hy
  ne := h.ne
theorem TRel.pair (h : TRel C ms mr mt) (hab : b ≠ a) {k : Nat} (hk : mget mr a = some k) {m : MC} (hm : ∀ y, mget m y = if y = b then nz (C a b + n) else mget (mt a) y) (hne : m ≠ []) : TRel (bump C a b n) ms mr (upd mt a m) where
  s0 x := by rw [bump_ne _ _ (fun q => hab (q.2.symm.trans q.1))]; exact h.s0 x
  r0 x k' hk' y := by
    by_cases e : x = a
    · subst e
      rw [upd_same, hm]
      by_cases ey : y = b
      · subst ey; rw [if_pos rfl, if_neg hab, bump_same]
      · rw [if_neg ey, h.r0 x k' hk', bump_ne _ _ (fun q => ey q.2)]
    · rw [upd_ne _ _ e, bump_ne _ _ (fun q => e q.1)]
      exact h.r0 x k' hk' y
  r1 x hx y hy := by
    have e : x ≠ a := fun e => by rw [e, hk] at hx; cases hx
    rw [bump_ne _ _ (fun q => e q.1)]; exact h.r1 x hx y hy
  ne x k' hk' := by
    by_cases e : x = a
    · subst e; rw [upd_same]; exact hne
    · rw [upd_ne _ _ e]; exact h.ne x k' hk'
theorem TRel.gone (h : TRel C ms mr mt) (hab : b ≠ a) (hnd : (mkeys mr).Nodup) {k : Nat} (hk : mget mr a = some k) {m : MC} (hm : ∀ y, mget m y = if y = b then nz (C a b + n) else mget (mt a) y) (hne : m = []) : TRel (bump C a b n) ms (mdel mr a) mt where
  s0 x := by rw [bump_ne _ _ (fun q => hab (q.2.symm.trans q.1))]; exact h.s0 x
  r0 x k' hk' y := by
    rw [get_del hnd] at hk'
    by_cases e : a = x
    · rw [if_pos e] at hk'; cases hk'
    · rw [if_neg e] at hk'
      rw [bump_ne _ _ (fun q => e q.1.symm)]
      exact h.r0 x k' hk' y
  r1 x hx y hy := by
    rw [get_del hnd] at hx
    by_cases e : a = x
    · subst e
      have := hm y
      rw [hne] at this
      simp only [mget] at this
      by_cases ey : y = b
      · subst ey
        rw [if_pos rfl] at this
        rw [bump_same]
        unfold nz at this
        split at this
        · assumption
        · cases this
      · rw [if_neg ey, h.r0 a k hk, if_neg hy] at this
        rw [bump_ne _ _ (fun q => ey q.2)]
        unfold nz at this
        split at this
        · assumption
        · cases this
    · rw [if_neg e] at hx
      rw [bump_ne _ _ (fun q => e q.1.symm)]
      exact h.r1 x hx y hy
  ne x k' hk' := by
    rw [get_del hnd] at hk'
    by_cases e : a = x
    · rw [if_pos e] at hk'; cases hk'
    · rw [if_neg e] at hk'
      exact h.ne x k' hk'
theorem TRel.new (h : TRel C ms mr mt) (hab : b ≠ a) {k : Nat} (hk : mget mr a = none) (hn : n ≠ 0) : TRel (bump C a b n) ms (mput mr a k) (upd mt a [(b, n)]) where
  s0 x := by rw [bump_ne _ _ (fun q => hab (q.2.symm.trans q.1))]; exact h.s0 x
  r0 x k' hk' y := by
    rw [get_put] at hk'
    by_cases e : a = x
    · subst e
      rw [upd_same]
      simp only [mget]
      by_cases ey : b = y
      · subst ey
        rw [if_pos rfl, if_neg hab, bump_same, h.r1 a hk b hab, Int.zero_add]
        unfold nz; rw [if_neg hn]
      · rw [if_neg ey]
        by_cases ea : y = a
        · rw [if_pos ea]
        · rw [if_neg ea, bump_ne _ _ (fun q => ey q.2.symm), h.r1 a hk y ea]
          rfl
    · rw [if_neg e] at hk'
      rw [upd_ne _ _ (fun q => e q.symm), bump_ne _ _ (fun q => e q.1.symm)]
      exact h.r0 x k' hk' y
  r1 x hx y hy := by
    rw [get_put] at hx
    by_cases e : a = x
    · rw [if_pos e] at hx; cases hx
    · rw [if_neg e] at hx
      rw [bump_ne _ _ (fun q => e q.1.symm)]; exact h.r1 x hx y hy
  ne x k' hk' := by
    rw [get_put] at hk'
    by_cases e : a = x
    · subst e; rw [upd_same]; simp
    · rw [if_neg e] at hk'
      rw [upd_ne _ _ (fun q => e q.symm)]; exact h.ne x k' hk'
end
end Go.Proofs.Ytbmjddmejmeknaa.Pr

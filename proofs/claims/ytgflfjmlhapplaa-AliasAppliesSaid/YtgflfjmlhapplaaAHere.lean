/- Aliases by what was joined; aliases and rows beside one another, contracts by one word. -/
import Derived.Test.YtgflfjmlhapplaaAl4
import Derived.Test.YtgflfjmlhapplaaARef2
namespace Go.Proofs.Ytgflfjmlhapplaa
open Go.RowKit Go.MapKept Go.Maps
set_option linter.unusedVariables false
/-- aliases at p that joins l have made -/
def AlAt (w : World) (p : Nat) (B : List Nat) (l : List Two) : Prop := ∃ m M r, B = [p, m] ∧ AlR w p m M ∧ AInv M r ∧ AOf l r
theorem AlAt.fr {S : Nat → Prop} {w w' : World} {p : Nat} {B : List Nat} {l : List Two} (h : AlAt w p B l) (hf : Fr S w w') (hs : ∀ b ∈ B, ¬ S b) : AlAt w' p B l := by
  obtain ⟨m, M, r, rfl, h1, h2, h3⟩ := h
  exact ⟨m, M, r, rfl, h1.fr hf (hs p (by simp)) (hs m (by simp)), h2, h3⟩
theorem AlAt.bel {w w' : World} {p : Nat} {B : List Nat} {l : List Two} (h : AlAt w p B l) (hb : Below w.heap.size w w') : AlAt w' p B l := h.fr (Fr.of_bel (S := none') hb) (fun _ _ => id)
theorem AlAt.lt {w : World} {p : Nat} {B : List Nat} {l : List Two} (h : AlAt w p B l) : ∀ b ∈ B, b < w.heap.size := by
  obtain ⟨m, M, r, rfl, h1, h2, h3⟩ := h
  intro b hb
  simp at hb
  rcases hb with rfl | rfl
  · exact h1.bk.lt
  · exact h1.mp.lt
theorem AOf.congr {l l' : List Two} {r : ByteArray → ByteArray} (h : AOf l r) (hc : ∀ f, Compat l f ↔ Compat l' f) : AOf l' r := by
  refine ⟨fun p hp ht => ?_, fun f hf => h.only f ((hc f).2 hf)⟩
  have h1 : Compat l' (fun z => r z = r p.1) := (hc _).1 (fun q hq hq' => by rw [h.both q hq hq'])
  exact ((h1 p hp ht).1 rfl).symm
theorem AlAt.congr {w : World} {p : Nat} {B : List Nat} {l l' : List Two} (h : AlAt w p B l) (hc : ∀ f, Compat l f ↔ Compat l' f) : AlAt w p B l' := by
  obtain ⟨m, M, r, rfl, h1, h2, h3⟩ := h
  exact ⟨m, M, r, rfl, h1, h2, h3.congr hc⟩
theorem Compat.append {l m : List Two} {f : ByteArray → Prop} : Compat (l ++ m) f ↔ Compat l f ∧ Compat m f := by
  unfold Compat
  constructor
  · exact fun h => ⟨fun p hp => h p (by simp [hp]), fun p hp => h p (by simp [hp])⟩
  · intro h p hp
    rcases List.mem_append.1 hp with hp | hp
    · exact h.1 p hp
    · exact h.2 p hp
/-- the map's own steps, as joins -/
theorem AInv.compat {l : List Two} {M : List (ByteArray × ByteArray)} {r : ByteArray → ByteArray} (hi : AInv M r) (h : AOf l r) (f : ByteArray → Prop) : Compat M f ↔ Compat l f := by
  constructor
  · intro hc
    have key : ∀ (n : Nat) (k : ByteArray), rankA M k ≤ n → (f (r k) ↔ f k) := by
      intro n
      induction n with
      | zero =>
        intro k hk
        cases e : mget M k with
        | none => rw [hi.top k e]
        | some v => have := rankA_lt hi.nd ((keys_get hi.nd).2 ⟨v, e⟩) (hi.step k v e).1; omega
      | succ n ih =>
        intro k hk
        cases e : mget M k with
        | none => rw [hi.top k e]
        | some v =>
          have h1 := rankA_lt hi.nd ((keys_get hi.nd).2 ⟨v, e⟩) (hi.step k v e).1
          rw [← (hi.step k v e).2, ih v (by omega)]
          exact (hc (k, v) (mem_of_get e) (by unfold twoB; rw [(hi.ok k v e).1, (hi.ok k v e).2]; rfl)).symm
    intro p hp ht
    rw [← key _ p.1 (Nat.le_refl _), ← key _ p.2 (Nat.le_refl _), h.both p hp ht]
  · intro hc p hp ht
    have h1 := get_of_mem hi.nd (a := p.1) (v := p.2) hp
    rw [← h.only f hc p.1, ← h.only f hc p.2, (hi.step p.1 p.2 h1).2]
/-- does a join make one group of two? -/
def canB (l : List Two) (x y : ByteArray) : Bool := nameB x && nameB y && !memB (groupR l x) y
theorem canB_eq {l : List Two} {r : ByteArray → ByteArray} (h : AOf l r) (x y : ByteArray) : joinV r x y = canB l x y := by
  unfold joinV canB
  cases hx : nameB x with
  | false => rfl
  | true =>
    have hg := groupR_of l x
    unfold GroupOf at hg
    rw [if_pos hx] at hg
    by_cases e : r x = r y
    · rw [decide_eq_true e, (memB_iff _ _).2 ((hg.2 y).2 ((h.cls x y).2 e.symm))]
    · rw [decide_eq_false e, memB_no (fun c => e ((h.cls x y).1 ((hg.2 y).1 c)).symm)]
theorem new_at (w : World) :
    Calls Try.prog 10 #[] w fun e w' => ∃ p, e = .returned (.pointer (some ⟨p, 0, none⟩)) ∧ AlAt w' p [p, w.heap.size] [] ∧ w.heap.size ≤ p ∧ Below w.heap.size w w' := by
  refine (new_any w).mono ?_
  rintro e w' ⟨rfl, h1, h2, h3⟩
  exact ⟨_, rfl, ⟨_, [], id, rfl, h1, AInv.empty, AOf.empty⟩, by omega, h2⟩
theorem join_at {p : Nat} {B : List Nat} {l : List Two} {w : World} (h : AlAt w p B l) (x y : ByteArray) (hx : x.size ≤ 1000) (hy : y.size ≤ 1000) :
    Calls Try.prog 14 #[.pointer (some ⟨p, 0, none⟩), .string x, .string y] w fun e w' => e = .returned (.bool (canB l x y)) ∧ AlAt w' p B (l ++ [(x, y)]) ∧ Fr (fun b => b ∈ B) w w' := by
  obtain ⟨m, M, r, rfl, h1, h2, h3⟩ := h
  refine (join_any p m M r x y w h1 h2 hx hy).mono ?_
  rintro e w' ⟨rfl, M', g1, g2, g3⟩
  refine ⟨by rw [canB_eq h3], ?_, g2.mono (fun b _ e => by simp [e])⟩
  rcases g3 with ⟨g3, g4⟩ | ⟨g3, nx, ny, rr, g4, g5⟩
  · refine ⟨m, M', r, rfl, g1, g4, h3.skip (fun ht => ?_)⟩
    unfold twoB at ht
    unfold joinV at g3
    simp only [Bool.and_eq_true] at ht
    rw [ht.1, ht.2] at g3
    simpa using g3
  · rcases g5 with rfl | rfl
    · exact ⟨m, M', _, rfl, g1, g4, h3.join (.inl ⟨rfl, rfl⟩) nx ny⟩
    · exact ⟨m, M', _, rfl, g1, g4, h3.join (.inr ⟨rfl, rfl⟩) nx ny⟩
theorem name_at {p : Nat} {B : List Nat} {l : List Two} {w : World} (h : AlAt w p B l) (x : ByteArray) (hx : x.size ≤ 1000) :
    Calls Try.prog 18 #[.pointer (some ⟨p, 0, none⟩), .string x] w fun e w' => e = .returned (.string (nameR l x)) ∧ w = w' := by
  obtain ⟨m, M, r, rfl, h1, h2, h3⟩ := h
  rw [nameR_eq h3 h2]
  exact name_any p m M r x w h1 h2 hx
theorem group_at {p : Nat} {B : List Nat} {l : List Two} {w : World} (h : AlAt w p B l) (hl : l.length ≤ 10000) (x : ByteArray) (hx : x.size ≤ 1000) :
    Calls Try.prog 17 #[.pointer (some ⟨p, 0, none⟩), .string x] w fun e w' => ∃ v, e = .returned v ∧ MkT w w' v (groupR l x) := by
  obtain ⟨m, M, r, rfl, h1, h2, h3⟩ := h
  cases hn : nameB x with
  | true =>
    refine (group_yes p m M r x w h1 h2 hn (by have := AInv.len h3 h2; omega)).mono ?_
    rintro e w' ⟨v, g, rfl, g1, g2, g3, g4, g5⟩
    have e1 : groupR l x = g := GroupOf.uniq (groupR_of l x) (by
      unfold GroupOf
      rw [if_pos hn]
      exact ⟨g4, fun z => by rw [g5, h3.cls]⟩)
    rw [e1]
    exact ⟨v, rfl, g1, g2, g3⟩
  | false =>
    refine (group_no _ x w hn (by omega)).mono ?_
    rintro e w' ⟨rfl, rfl⟩
    have e1 : groupR l x = [] := by unfold groupR; rw [hn]; rfl
    rw [e1]
    exact ⟨_, rfl, MkT.nil w⟩
theorem count_at {p : Nat} {B : List Nat} {l : List Two} {w : World} (h : AlAt w p B l) (hl : l.length ≤ 10000) :
    Calls Try.prog 26 #[.pointer (some ⟨p, 0, none⟩)] w fun e w' => e = .returned (.int .i64 (countN l l).length) ∧ Below w.heap.size w w' := by
  obtain ⟨m, M, r, rfl, h1, h2, h3⟩ := h
  refine (count_any p m M r w h1 h2 (by have := AInv.len h3 h2; omega)).mono ?_
  rintro e w' ⟨K, rfl, g1, g2, g3⟩
  exact ⟨by rw [count_eq h3 h2 g1 g2], g3⟩
inductive Ob where
  | alias (p : Nat) (l : List Two)
  | row (t : TypeId) (sz : Nat) (v : Value) (n : Nat) (cs : List Value)
def Holds (w : World) : Ob → List Nat → Prop
  | .alias p l, B => AlAt w p B l
  | .row t sz v n cs, B => w.ownsRow 0 t sz v n cs ∧ B = v.ownBlock.toList
theorem Holds.fr {S : Nat → Prop} {w w' : World} {o : Ob} {B : List Nat} (h : Holds w o B) (hf : Fr S w w') (hs : ∀ b ∈ B, ¬ S b) : Holds w' o B := by
  cases o with
  | alias p l => exact AlAt.fr h hf hs
  | row t sz v n cs =>
    obtain ⟨h1, rfl⟩ := h
    exact ⟨hf.row h1 (fun b hb => hs b (by simp [hb])), rfl⟩
theorem Holds.lt {w : World} {o : Ob} {B : List Nat} (h : Holds w o B) : ∀ b ∈ B, b < w.heap.size := by
  cases o with
  | alias p l => exact AlAt.lt h
  | row t sz v n cs =>
    obtain ⟨h1, rfl⟩ := h
    exact fun b hb => own_lt h1 (Option.mem_toList.1 hb)
def K45 : Kind Ob := ⟨Holds, Holds.fr, Holds.lt⟩
section
variable {w0 w : World} {os : List Ob}
theorem h_at (h : Here K45 w0 w os) {i p : Nat} {l : List Two} (hi : os[i]? = some (.alias p l)) : ∃ B, AlAt w p B l := by
  obtain ⟨B, h1, _⟩ := h.use hi
  exact ⟨B, h1⟩
theorem h_rowAt (h : Here K45 w0 w os) {i : Nat} {t : TypeId} {sz : Nat} {v : Value} {n : Nat} {cs : List Value} (hi : os[i]? = some (.row t sz v n cs)) : w.ownsRow 0 t sz v n cs := by
  obtain ⟨B, h1, _⟩ := h.use hi
  exact h1.1
theorem h_row {w' : World} (h : Here K45 w0 w os) {t : TypeId} {sz : Nat} {v : Value} {n : Nat} {cs : List Value} (hb : Below w.heap.size w w') (ho : w'.ownsRow 0 t sz v n cs) (hn : ∀ b, v.ownBlock = some b → w.heap.size ≤ b) : Here K45 w0 w' (os ++ [.row t sz v n cs]) :=
  h.push hb (o := .row _ _ _ _ _) ⟨ho, rfl⟩ (fun b hb => hn b (Option.mem_toList.1 hb))
/-- behind an append to a row -/
theorem h_more {w' : World} (h : Here K45 w0 w os) {i : Nat} {t : TypeId} {sz : Nat} {v v' : Value} {n n' : Nat} {cs cs' : List Value} (hi : os[i]? = some (.row t sz v n cs)) (ho : w'.ownsRow 0 t sz v' n' cs') (hf : Fr (fun b => v.ownBlock = some b) w w') (he : Hence v v' w) : Here K45 w0 w' (os.set i (.row t sz v' n' cs')) := by
  obtain ⟨B, ⟨h1, rfl⟩, _, h3, _⟩ := h.use hi
  refine h3 w' (.row _ _ _ _ _) v'.ownBlock.toList ⟨ho, rfl⟩ (hf.mono (fun b _ e => by simp [e])) (fun b hb => ?_)
  have hb' := Option.mem_toList.1 hb
  rcases he with e | e
  · exact .inl (Option.mem_toList.2 (by rw [← e]; exact hb'))
  · exact .inr (by have := Option.some.inj (e.symm.trans hb'); omega)
theorem h_new (h : Here K45 w0 w os) :
    Calls Try.prog 10 #[] w fun e w' => ∃ p, e = .returned (.pointer (some ⟨p, 0, none⟩)) ∧ Here K45 w0 w' (os ++ [.alias p []]) := by
  refine (new_at w).mono ?_
  rintro e w' ⟨p, rfl, h1, h2, h3⟩
  exact ⟨p, rfl, h.push h3 (o := .alias p []) h1 (fun b hb => by simp at hb; omega)⟩
theorem h_join (h : Here K45 w0 w os) {i p : Nat} {l : List Two} (hi : os[i]? = some (.alias p l)) (x y : ByteArray) (hx : x.size ≤ 1000) (hy : y.size ≤ 1000) :
    Calls Try.prog 14 #[.pointer (some ⟨p, 0, none⟩), .string x, .string y] w fun e w' => e = .returned (.bool (canB l x y)) ∧ Here K45 w0 w' (os.set i (.alias p (l ++ [(x, y)]))) := by
  obtain ⟨B, h1, _, h3, _⟩ := h.use hi
  refine (join_at h1 x y hx hy).mono ?_
  rintro e w' ⟨rfl, g1, g2⟩
  exact ⟨rfl, h3 w' (.alias _ _) B g1 g2 (fun b hb => .inl hb)⟩
theorem h_congr (h : Here K45 w0 w os) {i p : Nat} {l l' : List Two} (hi : os[i]? = some (.alias p l)) (hc : ∀ f, Compat l f ↔ Compat l' f) : Here K45 w0 w (os.set i (.alias p l')) := by
  obtain ⟨B, h1, _, h3, _⟩ := h.use hi
  exact h3 w (.alias _ _) B (AlAt.congr h1 hc) (Fr.refl _ _) (fun b hb => .inl hb)
end
/-- even's texts -/
def evenT (x : ByteArray) (l : List Two) : List ByteArray := x :: l.flatMap fun p => [p.1, p.2]
theorem evenT_snoc (x : ByteArray) (l : List Two) (p : Two) : evenT x (l ++ [p]) = evenT x l ++ [p.1, p.2] := by simp [evenT]
theorem evenT_len (x : ByteArray) (l : List Two) : (evenT x l).length = 1 + 2 * l.length := by
  induction l with
  | nil => rfl
  | cons p l ih => simp only [evenT, List.flatMap_cons, List.length_cons, List.length_append, List.length_nil] at ih ⊢; omega
theorem evenT_size {x : ByteArray} {l : List Two} (hx : x.size ≤ 1000) (ho : ∀ p ∈ l, okTwo p) : ∀ s ∈ evenT x l, s.size ≤ 1000 := by
  intro s hs
  rcases List.mem_cons.1 hs with rfl | hs
  · exact hx
  · obtain ⟨p, hp, h⟩ := List.mem_flatMap.1 hs
    simp at h
    rcases h with rfl | rfl
    · exact (ho p hp).1
    · exact (ho p hp).2
theorem TextsAt.at' {w : World} {v : Value} {ks : List ByteArray} (h : TextsAt w v ks) {i : Nat} {s : ByteArray} (hi : ks[i]? = some s) : ∃ B cap, v = .slice (some ⟨B, 0, none⟩) ks.length cap ∧ B < w.heap.size ∧ w.cell? ⟨B, i, none⟩ = some (.string s) := by
  have hil := (List.getElem?_eq_some_iff.1 hi).1
  rcases h.2 with ⟨_, h0⟩ | ⟨g, cap, cur, rfl, _, hg, hn, hm, hs, ht⟩
  · omega
  · refine ⟨g, cap, rfl, lt_of_at hg, ?_⟩
    have h2 := h.cells (g := g) rfl i (.string s) (by rw [List.getElem?_map, hi]; rfl)
    rw [Addr.add_lit] at h2
    simpa using h2
end Go.Proofs.Ytgflfjmlhapplaa

/- What all chapters' memory shares: maps with texts for keys, rows of texts, small facts. -/
import Derived.Test.YthkdcbmcknndnaaMapRange
import Derived.Test.YthkdcbmcknndnaaInsR
import Derived.Test.YthkdcbmcknndnaaIns
import Derived.Test.YthkdcbmcknndnaaHere
import Derived.Test.YthkdcbmcknndnaaProg
import Derived.KernelRfl
import Derived.IntWalk
import Derived.LoopTactic
import Derived.Deep.LoopGhost
import Derived.Deep.QuietTactic
import Derived.BigQuiet
import Derived.StillTailTactics
import Derived.Deep.RegionHeld3
import Derived.Deep.RegionLaw
import Derived.Deep.RegionWith
import Derived.Outline
import Derived.WalkLawsBesides
import Derived.WalkSpells
namespace Go.Proofs.Ythkdcbmcknndnaa
open Go.RowKit Go.MapKept Go.Maps
set_option linter.unusedVariables false
def encS (s : ByteArray) : Value := .string s
def okS (s : ByteArray) : Prop := s.size ≤ maxLen
theorem keyS : KeyEnc Try.prog 9 encS okS where
  law := string_keyed Try.underlying9
  key := fun {a} h => ⟨_, WideMaps.keyOf_string_mk Try.underlying9 h⟩
  inj := fun {a b} h => by simpa [encS] using h
def I64 (x : Int) : Prop := -9223372036854775808 ≤ x ∧ x ≤ 9223372036854775807
theorem wf64 {q : Int} (h : I64 q) : (Lit.int .i64 q).wf = true := by
  unfold I64 at h
  simp only [Lit.wf, Bool.and_eq_true, decide_eq_true_eq]
  exact h
theorem i64_wf {q : Int} (h : (Lit.int .i64 q).wf = true) : I64 q := by
  simp only [Lit.wf, Bool.and_eq_true, decide_eq_true_eq] at h
  exact h
theorem ret_bool {a b : Bool} (h : a = b) : Ending.returned (.bool a) = .returned (.bool b) := by rw [h]
theorem bk_at {W : World} {n : Nat} (cs : List Value) (t : TypeId) (h : W.heap.size = n) : Bk (W.alloc (.cells cs.toArray t)) n cs t := by subst h; exact Bk.new W cs t
theorem infoText : (Try.prog.info? 9).map (fun i => (i.zero, i.size, i.bytes)) = some (some (.string ⟨#[]⟩), 1, 16) := by kernel_rfl
theorem own_nil (w : World) (e : TypeId) : w.ownsRow 0 e 1 (.slice none 0 0) 0 [] := ⟨rfl, .inl ⟨rfl, rfl⟩⟩
theorem own_lt {w : World} {v : Value} {n sz : Nat} {e : TypeId} {xs : List Value} (h : w.ownsRow 0 e sz v n xs) {b : Nat} (hb : v.ownBlock = some b) : b < w.heap.size := by
  rcases h.2 with ⟨rfl, _⟩ | ⟨g, cap, cur, rfl, _, hg, _⟩
  · cases hb
  · have : g = b := by simpa [Value.ownBlock] using hb
    subst this
    exact lt_of_at hg
/-- a row of texts of the call's own -/
def TextsAt (w : World) (v : Value) (ks : List ByteArray) : Prop := w.ownsRow 0 9 1 v ks.length (ks.map Value.string)
theorem TextsAt.strs {w : World} {v : Value} {ks : List ByteArray} (h : TextsAt w v ks) : ∃ b cap, v = .slice b ks.length cap ∧ ks.length ≤ cap ∧ cap ≤ maxLen ∧ Strs w b ks := by
  obtain ⟨b, cap, h1, h2, h3, h4, h5⟩ := inw_of_row Value.string h
  exact ⟨b, cap, h1, h2, h3, h4⟩
theorem TextsAt.fr {S : Nat → Prop} {w w' : World} {v : Value} {ks : List ByteArray} (h : TextsAt w v ks) (hf : Fr S w w') (hs : ∀ b, v.ownBlock = some b → ¬ S b) : TextsAt w' v ks := hf.row h hs
theorem TextsAt.bel {w w' : World} {v : Value} {ks : List ByteArray} (h : TextsAt w v ks) (hb : Below w.heap.size w w') : TextsAt w' v ks := h.fr (Fr.of_bel (S := none') hb) (fun _ _ => id)
theorem TextsAt.flat {w : World} {v : Value} {ks : List ByteArray} (h : TextsAt w v ks) : w.ownsRow 0 9 1 v ks.length (ks.flatMap tC) := by rw [tC_flat]; exact h
/-- a row of texts that a call is making -/
structure MkT (w0 wr : World) (u : Value) (ks : List ByteArray) : Prop where
  tx : TextsAt wr u ks
  nw : ∀ b, u.ownBlock = some b → w0.heap.size ≤ b
  bl : Below w0.heap.size w0 wr
theorem MkT.bel {w0 wr w' : World} {u : Value} {ks : List ByteArray} (h : MkT w0 wr u ks) (hb : Below wr.heap.size wr w') : MkT w0 w' u ks :=
  ⟨h.tx.bel hb, h.nw, h.bl.trans (hb.mono h.bl.size)⟩
theorem MkT.alloc {w0 wr : World} {u : Value} {ks : List ByteArray} (h : MkT w0 wr u ks) (o : Obj) : MkT w0 (wr.alloc o) u ks := h.bel ((Below.refl _ _).alloc (Nat.le_refl _) _)
theorem MkT.drewN {w0 wr : World} {u : Value} {ks : List ByteArray} (h : MkT w0 wr u ks) (n : Nat) : MkT w0 (wr.drewN n) u ks := h.bel (bdrewN (Below.refl _ _) n)
theorem MkT.drew {w0 wr : World} {u : Value} {ks : List ByteArray} (h : MkT w0 wr u ks) : MkT w0 wr.drew u ks := h.drewN 1
/-- behind an append -/
theorem MkT.more {w0 wr w' : World} {u u' : Value} {ks ks' : List ByteArray} (h : MkT w0 wr u ks) (ho : w'.ownsRow 0 9 1 u' ks'.length (ks'.flatMap tC)) (hf : Fr (fun b => u.ownBlock = some b) wr w') (he : Hence u u' wr) : MkT w0 w' u' ks' := by
  refine ⟨by unfold TextsAt; rw [← tC_flat]; exact ho, fun b hb => ?_, h.bl.trans (hf.below h.bl.size (fun b hb => h.nw b hb))⟩
  rcases he with e | e
  · exact h.nw b (by rw [← e]; exact hb)
  · have := Option.some.inj (e.symm.trans hb)
    have := h.bl.size
    omega
theorem MkT.empty (w : World) : MkT w (w.alloc (.cells #[] 9)) (.slice (some ⟨w.heap.size, 0, none⟩) 0 0) [] := ⟨texts_empty w 9, own_at (Nat.le_refl _), (Below.refl _ _).alloc (Nat.le_refl _) _⟩
theorem MkT.nil (w : World) : MkT w w (.slice none 0 0) [] := ⟨own_nil w _, by simp [Value.ownBlock], Below.refl _ _⟩
section
variable {α β γ : Type} [DecidableEq α]
theorem mget_map (f : β → γ) (m : List (α × β)) (a : α) : mget (m.map fun x => (x.1, f x.2)) a = (mget m a).map f := by
  induction m with
  | nil => rfl
  | cons p m ih =>
    simp only [List.map_cons, mget, ih]
    split <;> rfl
theorem mput_map (f : β → γ) (m : List (α × β)) (a : α) (v : β) : mput (m.map fun x => (x.1, f x.2)) a (f v) = (mput m a v).map fun x => (x.1, f x.2) := by
  induction m with
  | nil => rfl
  | cons p m ih =>
    simp only [List.map_cons, mput, ih]
    split <;> rfl
theorem mdel_map (f : β → γ) (m : List (α × β)) (a : α) : mdel (m.map fun x => (x.1, f x.2)) a = (mdel m a).map fun x => (x.1, f x.2) := by
  induction m with
  | nil => rfl
  | cons p m ih =>
    simp only [List.map_cons, mdel, ih]
    split <;> rfl
omit [DecidableEq α] in
theorem mkeys_map (f : β → γ) (m : List (α × β)) : mkeys (m.map fun x => (x.1, f x.2)) = mkeys m := by
  unfold mkeys; rw [List.map_map]; rfl
end
/-- what a call has made joins what is here -/
theorem Here.adopt {Ob : Type} {K : Kind Ob} {w0 w w' : World} {os : List Ob} {o : Ob} (h : Here K w0 w os) (g : Here K w w' [o]) : Here K w0 w' (os ++ [o]) := by
  obtain ⟨B, h1, h2, _⟩ := g.use (i := 0) rfl
  exact h.push g.bel h1 h2
/-- rows are alike -/
def memB (ks : List ByteArray) (k : ByteArray) : Bool := ks.any fun x => decide (x = k)
theorem memB_iff (ks : List ByteArray) (k : ByteArray) : memB ks k = true ↔ k ∈ ks := by
  unfold memB
  rw [List.any_eq_true]
  constructor
  · rintro ⟨x, h1, h2⟩
    have := of_decide_eq_true h2
    exact this ▸ h1
  · exact fun h => ⟨k, h, decide_eq_true rfl⟩
theorem memB_no {ks : List ByteArray} {k : ByteArray} (h : k ∉ ks) : memB ks k = false := by
  cases e : memB ks k with
  | false => rfl
  | true => exact absurd ((memB_iff ks k).1 e) h
end Go.Proofs.Ythkdcbmcknndnaa

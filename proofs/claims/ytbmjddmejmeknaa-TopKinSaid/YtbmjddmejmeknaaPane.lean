/- Panes in memory: the struct, its two maps, the rows. -/
import Derived.Test.YtbmjddmejmeknaaMapRange
import Derived.Test.YtbmjddmejmeknaaPLaw
import Derived.Test.YtbmjddmejmeknaaCells
import Derived.Test.YtbmjddmejmeknaaProg
import Derived.DeepKeys4
import Derived.KernelRfl
namespace Go.Proofs.Ytbmjddmejmeknaa.Pn
open Go.RowKit Go.MapKept Go.Maps
set_option linter.unusedVariables false

abbrev CK := ByteArray × Int
def encC (c : CK) : Value := .agg #[.string c.1, .int .i64 c.2]
def okC (c : CK) : Prop := c.1.size ≤ maxLen ∧ (Lit.int .i64 c.2).wf = true
def encS (s : ByteArray) : Value := .string s
def okS (s : ByteArray) : Prop := s.size ≤ maxLen
namespace PK
theorem own : ownKnob Try.prog.godebug = none := by kernel_rfl
theorem laidOut : laidOutB Try.prog = true := by kernel_rfl
theorem row : (81 : TypeId) < Try.prog.types.size := of_decide_eq_true (by kernel_rfl)
theorem wide : (match Try.prog.underlying 81 with | some (.array _ _) | some (.struct _) => true | _ => false) = true := by kernel_rfl
set_option maxRecDepth 100000 in
theorem law : Keyed Try.prog 81 := Keyed.of_law (deep_law_laid laidOut (m := 3) (by omega) row (by kernel_rfl) wide)
theorem cellsC : Try.prog.cellsOf 81 = 2 := by kernel_rfl
theorem cellsS : Try.prog.cellsOf 9 = 1 := by kernel_rfl
theorem cellsI : Try.prog.cellsOf 3 = 1 := by kernel_rfl
theorem kt : Try.prog.keyType 81 = true := by kernel_rfl
theorem sz : ∃ n, Try.prog.types.size = n + 2 := ⟨Try.prog.types.size - 2, by kernel_rfl⟩
theorem isC : ∃ f g, Try.prog.underlying 81 = some (.struct #[f, g]) ∧ f.type = 9 ∧ f.offset = 0 ∧ g.type = 3 ∧ g.offset = 1 ∧ (f.name != "_") = true ∧ (g.name != "_") = true := ⟨_, _, Try.underlying81, by kernel_rfl, by kernel_rfl, by kernel_rfl, by kernel_rfl, by kernel_rfl, by kernel_rfl⟩
end PK
theorem encC_key {c : CK} (h : okC c) : ∃ l, keyOf Try.prog 81 (encC c) = some l := by
  obtain ⟨h1, h2⟩ := h
  obtain ⟨f, g, hu, a1, a2, a3, a4, a5, a6⟩ := PK.isC
  obtain ⟨n, hn⟩ := PK.sz
  have hf : (encC c).formed Try.prog 81 = true := by simp [encC, Value.formed, hu, PK.cellsC]
  have hl : ∃ ls, Try.prog.keyLits (n + 2 + 1) 81 (encC c).cells.toList = some ls := by
    simp [encC, Value.cells, Program.keyLits, hu, PK.cellsC, PK.cellsS, PK.cellsI, a1, a2, a3, a4, a5, a6, Try.underlying9, Try.underlying3, h1, h2]
  obtain ⟨ls, hl⟩ := hl
  refine ⟨.string (keyBytes ls), ?_⟩
  simp only [keyOf, hu, PK.kt, hf, Bool.and_self, if_true, hn, hl, Option.map_some]
theorem keyC : KeyEnc Try.prog 81 encC okC where
  law := PK.law
  key := encC_key
  inj := fun {a b} h => by
    simp [encC] at h
    exact Prod.ext h.1 h.2
theorem keyS : KeyEnc Try.prog 9 encS okS where
  law := string_keyed Try.underlying9
  key := fun {a} h => ⟨_, WideMaps.keyOf_string_mk Try.underlying9 h⟩
  inj := fun {a b} h => by simpa [encS] using h

/-- the blocks that panes are made of -/
def pblocks (p s r : Nat) (rw : List (ByteArray × (Value × List Int))) : List Nat := p :: s :: r :: rw.filterMap (fun x => x.2.1.ownBlock)
structure PaneR (w : World) (p s r : Nat) (wd ad : Int) (sm : List (CK × Int)) (rw : List (ByteArray × (Value × List Int))) : Prop where
  bk : Bk w p [.int .i64 wd, .int .i64 ad, .map (some s), .map (some r)] 77
  sums : Mp encC okC w s (sm.map fun x => (x.1, .int .i64 x.2))
  rows : Mp encS okS w r (rw.map fun x => (x.1, x.2.1))
  own : ∀ x ∈ rw, w.ownsRow 0 3 1 x.2.1 x.2.2.length (x.2.2.map (Value.int .i64))
  nd : (pblocks p s r rw).Nodup
theorem PaneR.fr {S : Nat → Prop} {w w' : World} {p s r : Nat} {wd ad : Int} {sm : List (CK × Int)} {rw : List (ByteArray × (Value × List Int))} (h : PaneR w p s r wd ad sm rw) (hf : Fr S w w') (hs : ∀ b ∈ pblocks p s r rw, ¬ S b) : PaneR w' p s r wd ad sm rw :=
  ⟨h.bk.fr hf (hs p (by simp [pblocks])), h.sums.fr hf (hs s (by simp [pblocks])), h.rows.fr hf (hs r (by simp [pblocks])), fun x hx => hf.row (h.own x hx) (fun b hb => hs b (by simp only [pblocks, List.mem_cons, List.mem_filterMap]; exact .inr (.inr (.inr ⟨x, hx, hb⟩)))), h.nd⟩
theorem PaneR.bel {w w' : World} {p s r : Nat} {wd ad : Int} {sm : List (CK × Int)} {rw : List (ByteArray × (Value × List Int))} (h : PaneR w p s r wd ad sm rw) (hb : Below w.heap.size w w') : PaneR w' p s r wd ad sm rw := h.fr (Fr.of_bel (S := none') hb) (fun _ _ => id)
theorem own_lt {w : World} {v : Value} {n sz : Nat} {e : TypeId} {xs : List Value} (h : w.ownsRow 0 e sz v n xs) {b : Nat} (hb : v.ownBlock = some b) : b < w.heap.size := by
  rcases h.2 with ⟨rfl, _⟩ | ⟨g, cap, cur, rfl, _, hg, _⟩
  · cases hb
  · have : g = b := by simpa [Value.ownBlock] using hb
    subst this
    exact lt_of_at hg
theorem PaneR.lt {w : World} {p s r : Nat} {wd ad : Int} {sm : List (CK × Int)} {rw : List (ByteArray × (Value × List Int))} (h : PaneR w p s r wd ad sm rw) : ∀ b ∈ pblocks p s r rw, b < w.heap.size := fun b hb => by
  simp only [pblocks, List.mem_cons, List.mem_filterMap] at hb
  rcases hb with rfl | rfl | rfl | ⟨x, hx, hb⟩
  · exact h.bk.lt
  · exact h.sums.lt
  · exact h.rows.lt
  · exact own_lt (h.own x hx) hb
section
variable {α β γ : Type} [DecidableEq α]
theorem mget_map (f : β → γ) (m : List (α × β)) (a : α) : mget (m.map fun x => (x.1, f x.2)) a = (mget m a).map f := by
  induction m with
  | nil => rfl
  | cons p m ih =>
    simp only [List.map_cons, mget, ih]
    split <;> rfl
theorem mput_map (f : β → γ) (m : List (α × β)) (a : α) (v : β) : mput (m.map fun x => (x.1, f x.2)) a (f v) = (mput m a v).map fun x => (x.1, f x.2) := by
  induction m with
  | nil => rfl
  | cons p m ih =>
    simp only [List.map_cons, mput, ih]
    split <;> rfl
theorem mdel_map (f : β → γ) (m : List (α × β)) (a : α) : mdel (m.map fun x => (x.1, f x.2)) a = (mdel m a).map fun x => (x.1, f x.2) := by
  induction m with
  | nil => rfl
  | cons p m ih =>
    simp only [List.map_cons, mdel, ih]
    split <;> rfl
end
theorem zeroI64 (w : World) : (zeroValue 2).run Try.prog w = .ok (.int .i64 0) w := by kernel_rfl
theorem zeroRow (w : World) : (zeroValue 82).run Try.prog w = .ok (.slice none 0 0) w := by kernel_rfl
/-- 'p.sums[c]' -/
theorem PaneR.look {w : World} {p s r : Nat} {wd ad : Int} {sm : List (CK × Int)} {rw : List (ByteArray × (Value × List Int))} (h : PaneR w p s r wd ad sm rw) (k : ByteArray) (n : Int) (hk : k.size ≤ 100) (hn : (Lit.int .i64 n).wf = true) :
    (Instr.lookup 74 (.map (some s)) (.agg #[.string k, .int .i64 n]) false).run Try.prog w = .ok (.int .i64 ((mget sm (k, n)).getD 0)) w := by
  have := h.sums.look (P := Try.prog) keyC Try.underlying74 (zeroI64 w) (a := (k, n)) ⟨by show k.size ≤ _; unfold maxLen; omega, hn⟩ false
  rw [mget_map] at this
  cases he : mget sm (k, n) <;> simpa [he, encC] using this
/-- 'p.rows[key]' -/
theorem PaneR.lookRow {w : World} {p s r : Nat} {wd ad : Int} {sm : List (CK × Int)} {rw : List (ByteArray × (Value × List Int))} (h : PaneR w p s r wd ad sm rw) (k : ByteArray) (hk : k.size ≤ 100) :
    (Instr.lookup 75 (.map (some r)) (.string k) false).run Try.prog w = .ok (rowV rw k) w := by
  have := h.rows.look (P := Try.prog) keyS Try.underlying75 (zeroRow w) (a := k) (by unfold okS maxLen; omega) false
  rw [mget_map (fun x : Value × List Int => x.1)] at this
  unfold rowV
  cases he : mget rw k <;> simpa [he, encS] using this
theorem own_nil (w : World) (e : TypeId) : w.ownsRow 0 e 1 (.slice none 0 0) 0 [] := ⟨rfl, .inl ⟨rfl, rfl⟩⟩
theorem PaneR.rowOwn {w : World} {p s r : Nat} {wd ad : Int} {sm : List (CK × Int)} {rw : List (ByteArray × (Value × List Int))} (h : PaneR w p s r wd ad sm rw) (k : ByteArray) :
    w.ownsRow 0 3 1 (rowV rw k) (rowL rw k).length ((rowL rw k).map (Value.int .i64)) := by
  unfold rowV rowL
  cases he : mget rw k with
  | none => exact own_nil w _
  | some x => exact h.own _ (mem_of_get he)
/-- panes at p that hold A -/
structure PaneAt (w : World) (p : Nat) (B : List Nat) (wd ad : Int) (A : List Ad) : Prop where
  ok : ∀ x ∈ A, AdOk x
  w1 : 1 ≤ wd
  w2 : wd ≤ 1099511627776
  a1 : A.length ≤ ad
  a2 : ad ≤ 1048576
  ex : ∃ s r sm rw, B = pblocks p s r rw ∧ PaneR w p s r wd ad sm rw ∧ PInv A sm rw
theorem PaneAt.fr {S : Nat → Prop} {w w' : World} {p : Nat} {B : List Nat} {wd ad : Int} {A : List Ad} (h : PaneAt w p B wd ad A) (hf : Fr S w w') (hs : ∀ b ∈ B, ¬ S b) : PaneAt w' p B wd ad A := by
  obtain ⟨s, r, sm, rw, rfl, h1, h2⟩ := h.ex
  exact ⟨h.ok, h.w1, h.w2, h.a1, h.a2, s, r, sm, rw, rfl, h1.fr hf hs, h2⟩
theorem PaneAt.bel {w w' : World} {p : Nat} {B : List Nat} {wd ad : Int} {A : List Ad} (h : PaneAt w p B wd ad A) (hb : Below w.heap.size w w') : PaneAt w' p B wd ad A := h.fr (Fr.of_bel (S := none') hb) (fun _ _ => id)
theorem PaneAt.lt {w : World} {p : Nat} {B : List Nat} {wd ad : Int} {A : List Ad} (h : PaneAt w p B wd ad A) : ∀ b ∈ B, b < w.heap.size := by
  obtain ⟨s, r, sm, rw, rfl, h1, h2⟩ := h.ex
  exact h1.lt
theorem PaneAt.mem {w : World} {p : Nat} {B : List Nat} {wd ad : Int} {A : List Ad} (h : PaneAt w p B wd ad A) : p ∈ B := by
  obtain ⟨s, r, sm, rw, rfl, h1, h2⟩ := h.ex
  simp [pblocks]
/-- a footprint behind a step: what it was, or new -/
def Spread (w : World) (B B' : List Nat) : Prop := ∀ b ∈ B', b ∈ B ∨ w.heap.size ≤ b
end Go.Proofs.Ytbmjddmejmeknaa.Pn

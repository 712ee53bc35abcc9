/- For any bytes and any number, ciceronetop.TopExport returns true and leaves its arguments as they were (the card: the package variables that it lists are tied to the program's text). (Ahead of it: event.Sort; same. Identities as keys of maps; the plain map of events by identity. shard.Join of one row of events of unlike identities. (*strings.Builder).copyCheck, WriteString, WriteByte of a builder of the call's own. export.All: the text of events. slices.Grow of nil, slices.Concat of two rows of events. export.wrong: nothing is wrong. export.Import of a text of rising events. export.Person, export.Merge. Plain: all texts of all people and of things are the whole's. TopExport: the walk. TopExport at any bytes. The package's variables, out of the row's condition.) -/
import Derived.Test.YtbhghelegonbbaaDoorPk5
import Derived.Laws.StructEq
import Derived.DeepKeys4
import Derived.Test.YtbhghelegonbbaaDoorPk2
import Derived.Test.YtbhghelegonbbaaDoorPk3
import Derived.Lib.OthersKept
import Derived.Lib.AppendZerosOnto
import Derived.ScopeJumps
import Derived.Test.YtbhghelegonbbaaDoorCards
import Derived.Test.YtbhghelegonbbaaDoorTie
import Derived.ProofKit
import Derived.OpenShut
import Derived.LaidMore
import Derived.Lay
import Derived.SevenTiedAt
import Derived.Stop.Joined
import Derived.Lib.LaidTab
import Derived.Shelf.Vars
import Derived.Lib.SmallJoins
import Derived.ChangeOld
import Derived.Below
namespace Go.Proofs.YtbhghelegonbbaaDoor
open Go.RowKit Go.ChangeShapes Go.WideShapes
set_option linter.unusedVariables false
set_option linter.unusedSimpArgs false
namespace Tl
open Es Rk
theorem clip_any (b : Option Addr) (n cap : Nat) (w : World) (h1 : n ≤ cap) (h2 : cap ≤ maxLen) :
    Calls Tryd.prog 17 #[.slice b n cap] w fun e w' => e = .returned (.slice b n n) ∧ w = w' := by
  unfold maxLen at h2
  go_enter Tryd.func17, Tryd.ntmps17
  go_wp2_with fail
  go_ret
  exact ⟨rfl, rfl⟩
theorem fieldsEv : Tryd.prog.underlying 41 = some (.struct (Tryd.prog.fieldsOf 41)) := by kernel_rfl
theorem heldEv : Tryd.prog.stoodInHeld 41 = false := by kernel_rfl
theorem fieldsEvM : (Tryd.prog.fieldsOf 41).toList.map (fun f => (f.name == "_", f.type, f.offset)) = [(false, 9, 0), (false, 3, 1), (false, 3, 2), (false, 39, 3), (false, 9, 4), (false, 9, 5), (false, 3, 6), (false, 9, 7)] := by kernel_rfl
theorem fieldsEvL : ∃ f1 f2 f3 f4 f5 f6 f7 f8 : Field, (Tryd.prog.fieldsOf 41).toList = [f1, f2, f3, f4, f5, f6, f7, f8] ∧ ((f1.name == "_") = false ∧ f1.type = 9 ∧ f1.offset = 0) ∧ ((f2.name == "_") = false ∧ f2.type = 3 ∧ f2.offset = 1) ∧ ((f3.name == "_") = false ∧ f3.type = 3 ∧ f3.offset = 2) ∧ ((f4.name == "_") = false ∧ f4.type = 39 ∧ f4.offset = 3) ∧ ((f5.name == "_") = false ∧ f5.type = 9 ∧ f5.offset = 4) ∧ ((f6.name == "_") = false ∧ f6.type = 9 ∧ f6.offset = 5) ∧ ((f7.name == "_") = false ∧ f7.type = 3 ∧ f7.offset = 6) ∧ ((f8.name == "_") = false ∧ f8.type = 9 ∧ f8.offset = 7) := by
  have h := fieldsEvM
  generalize (Tryd.prog.fieldsOf 41).toList = l at h
  have hl := congrArg List.length h
  rw [List.length_map] at hl
  simp only [List.length_cons, List.length_nil] at hl
  match l, hl, h with
  | [f1, f2, f3, f4, f5, f6, f7, f8], _, h =>
    simp only [List.map_cons, List.map_nil, List.cons.injEq, Prod.mk.injEq, and_true] at h
    exact ⟨f1, f2, f3, f4, f5, f6, f7, f8, rfl, h⟩
theorem neq_same (e : Ev) (W : World) : (binOp BinOp.neq 41 (evV e) (evV e)).run Tryd.prog W = .ok (.bool false) W := by
  obtain ⟨f1, f2, f3, f4, f5, f6, f7, f8, h0, ⟨n1, t1, o1⟩, ⟨n2, t2, o2⟩, ⟨n3, t3, o3⟩, ⟨n4, t4, o4⟩, ⟨n5, t5, o5⟩, ⟨n6, t6, o6⟩, ⟨n7, t7, o7⟩, ⟨n8, t8, o8⟩⟩ := fieldsEvL
  obtain ⟨v1, v2, v3, v4, v5, v6, v7, v8⟩ := e
  unfold evV
  rw [run_neq_struct, run_equalIn_agg _ _ _ _ _ fieldsEv heldEv, h0]
  have m1 : f1.name ≠ "_" := by simpa using n1
  have p1 : (part f1.type #[.string v1, .int .i64 v2, .int .i64 v3, .int .i64 v4, .string v5, .string v6, .int .i64 v7, .string v8] f1.offset).run Tryd.prog W = .ok (.string v1) W := by rw [t1, o1]; kernel_rfl
  have q1 := run_equalIn_string (P := Tryd.prog) W 9998 f1.type v1 v1 (by rw [t1]; exact Tryd.underlying9)
  rw [beq_self_eq_true] at q1
  have m2 : f2.name ≠ "_" := by simpa using n2
  have p2 : (part f2.type #[.string v1, .int .i64 v2, .int .i64 v3, .int .i64 v4, .string v5, .string v6, .int .i64 v7, .string v8] f2.offset).run Tryd.prog W = .ok (.int .i64 v2) W := by rw [t2, o2]; kernel_rfl
  have q2 := run_equalIn_int (P := Tryd.prog) W 9998 f2.type .i64 .i64 v2 v2 (by rw [t2]; exact Tryd.underlying3)
  rw [beq_self_eq_true] at q2
  have m3 : f3.name ≠ "_" := by simpa using n3
  have p3 : (part f3.type #[.string v1, .int .i64 v2, .int .i64 v3, .int .i64 v4, .string v5, .string v6, .int .i64 v7, .string v8] f3.offset).run Tryd.prog W = .ok (.int .i64 v3) W := by rw [t3, o3]; kernel_rfl
  have q3 := run_equalIn_int (P := Tryd.prog) W 9998 f3.type .i64 .i64 v3 v3 (by rw [t3]; exact Tryd.underlying3)
  rw [beq_self_eq_true] at q3
  have m4 : f4.name ≠ "_" := by simpa using n4
  have p4 : (part f4.type #[.string v1, .int .i64 v2, .int .i64 v3, .int .i64 v4, .string v5, .string v6, .int .i64 v7, .string v8] f4.offset).run Tryd.prog W = .ok (.int .i64 v4) W := by rw [t4, o4]; kernel_rfl
  have q4 := run_equalIn_int (P := Tryd.prog) W 9998 f4.type .i64 .i64 v4 v4 (by rw [t4]; exact Tryd.underlying39)
  rw [beq_self_eq_true] at q4
  have m5 : f5.name ≠ "_" := by simpa using n5
  have p5 : (part f5.type #[.string v1, .int .i64 v2, .int .i64 v3, .int .i64 v4, .string v5, .string v6, .int .i64 v7, .string v8] f5.offset).run Tryd.prog W = .ok (.string v5) W := by rw [t5, o5]; kernel_rfl
  have q5 := run_equalIn_string (P := Tryd.prog) W 9998 f5.type v5 v5 (by rw [t5]; exact Tryd.underlying9)
  rw [beq_self_eq_true] at q5
  have m6 : f6.name ≠ "_" := by simpa using n6
  have p6 : (part f6.type #[.string v1, .int .i64 v2, .int .i64 v3, .int .i64 v4, .string v5, .string v6, .int .i64 v7, .string v8] f6.offset).run Tryd.prog W = .ok (.string v6) W := by rw [t6, o6]; kernel_rfl
  have q6 := run_equalIn_string (P := Tryd.prog) W 9998 f6.type v6 v6 (by rw [t6]; exact Tryd.underlying9)
  rw [beq_self_eq_true] at q6
  have m7 : f7.name ≠ "_" := by simpa using n7
  have p7 : (part f7.type #[.string v1, .int .i64 v2, .int .i64 v3, .int .i64 v4, .string v5, .string v6, .int .i64 v7, .string v8] f7.offset).run Tryd.prog W = .ok (.int .i64 v7) W := by rw [t7, o7]; kernel_rfl
  have q7 := run_equalIn_int (P := Tryd.prog) W 9998 f7.type .i64 .i64 v7 v7 (by rw [t7]; exact Tryd.underlying3)
  rw [beq_self_eq_true] at q7
  have m8 : f8.name ≠ "_" := by simpa using n8
  have p8 : (part f8.type #[.string v1, .int .i64 v2, .int .i64 v3, .int .i64 v4, .string v5, .string v6, .int .i64 v7, .string v8] f8.offset).run Tryd.prog W = .ok (.string v8) W := by rw [t8, o8]; kernel_rfl
  have q8 := run_equalIn_string (P := Tryd.prog) W 9998 f8.type v8 v8 (by rw [t8]; exact Tryd.underlying9)
  rw [beq_self_eq_true] at q8
  simp only [Op.eqFields, if_pos m1, p1, if_pos m2, p2, if_pos m3, p3, if_pos m4, p4, if_pos m5, p5, if_pos m6, p6, if_pos m7, p7, if_pos m8, p8, q1, q2, q3, q4, q5, q6, q7, q8, Sem.run_bind, Result.andThen_ok, Sem.run_ite, Bool.not_true, Bool.false_eq_true, if_false, Nat.reduceAdd] at q1 q2 q3 q4 q5 q6 q7 q8 ⊢
  rfl
/-- the block of a row of events -/
def EvK (w : World) (b : Option Addr) : Prop := ∀ B off, b = some ⟨B, off, none⟩ → ∃ c fz, w.heap[B]? = some (.cells c 41 fz)
theorem evK_own {w : World} {b : Option Addr} {n cap k : Nat} {xs : List Value} (h : w.ownsRow 0 41 8 (.slice b n cap) k xs) : EvK w b := by
  intro B off hb
  subst hb
  rcases h.2 with ⟨c, _⟩ | ⟨g, cap', cur, c, _, hg, _⟩
  · cases c
  · cases c
    exact ⟨_, _, hg⟩
theorem EvK.bel {w w' : World} {b : Option Addr} (h : EvK w b) (hb : Below w.heap.size w w') : EvK w' b := fun B off e => by
  obtain ⟨c, fz, hc⟩ := h B off e
  exact ⟨c, fz, by rw [hb.block B (Array.getElem?_eq_some_iff.1 hc).1]; exact hc⟩
theorem esort_any (b : Option Addr) (n cap : Nat) (l : List Ev) (w : World) (hi : InW w b 8 (l.map evC)) (hn : n = l.length) (hs : n < 60) (hok : ∀ e ∈ l, EvOk e) :
    Calls Tryd.prog 7 #[.slice b n cap] w fun e w' => ∃ b' z, e = .returned (.slice b' n n) ∧ InW w' b' 8 (z.map evC) ∧ z.Perm l ∧ Srt ltE z ∧ EvK w' b' ∧ Below w.heap.size w w' := by
  have HC := Lib.hid (clone_any b n cap l w hi hn (by omega))
  have HS : Hid (∀ w1 v, MkE w w1 v l → Calls Tryd.prog 15 #[v, .func (.func 16) #[] #[]] w1 fun e w' => e = .returned (.tuple #[]) ∧ SortedAt w v l w') := Lib.hid (fun w1 v h => sort_any w w1 v l h (by omega) hok)
  have HN := Lib.hid hn
  clear hi hn hok
  go_enter Tryd.func7, Tryd.ntmps7
  go_wp2_with fail
  refine HC.out.mono ?_
  rintro e w1 ⟨v1, rfl, k1⟩
  have S1 := Lib.hid (HS.out w1 v1 k1)
  clear k1 HC HS
  go_wp2_with fail
  refine S1.out.mono ?_
  rintro e w2 ⟨rfl, z, pz, sz, k2⟩
  obtain ⟨vb, vc, hv, hvl, hvm, hvi⟩ := k2.read evLen (by omega)
  have hzn : z.length = n := by rw [pz.length_eq]; exact HN.out.symm
  rw [hzn] at hv hvl
  subst hv
  have HZ := Lib.hid (And.intro pz (And.intro sz (And.intro k2.bl (And.intro hvi (evK_own k2.tx)))))
  have HCL := Lib.hid (clip_any vb n vc w2 hvl hvm)
  clear pz sz k2 hvi S1 hvl hvm hzn
  go_wp2_with fail
  refine HCL.out.mono ?_
  rintro e w3 ⟨rfl, rfl⟩
  go_wp2_with fail
  go_ret
  exact ⟨_, z, rfl, HZ.out.2.2.2.1, HZ.out.1, HZ.out.2.1, HZ.out.2.2.2.2, HZ.out.2.2.1⟩
set_option maxHeartbeats 4000000 in
theorem same_eq (b1 b2 : Option Addr) (n cap1 cap2 : Nat) (l : List Ev) (w : World) (h1 : InW w b1 8 (l.map evC)) (h2 : InW w b2 8 (l.map evC)) (hn : n = l.length) (hs : n < 60) :
    Calls Tryd.prog 10 #[.slice b1 n cap1, .slice b2 n cap2] w fun e w' => e = .returned (.bool true) ∧ Below w.heap.size w w' := by
  have H := Lib.hid (And.intro h1 (And.intro h2 hn))
  clear h1 h2 hn
  go_enter Tryd.func10, Tryd.ntmps10
  go_wp2_with fail
  go_loopw [13] (fun c wr => ∃ k q : Nat, k ≤ n ∧ c = .int .i64 k ∧ wr = w.drewN q) (fun c _ => n - (intOf c).toNat)
  case atStart => exact ⟨0, 0, by omega, rfl, rfl⟩
  case round =>
    obtain ⟨k, q, hk, rfl, rfl⟩ := hrel
    by_cases hlt : k < n
    · obtain ⟨x, hx⟩ : ∃ x, l[k]? = some x := ⟨l[k]'(by have := H.out.2.2; omega), List.getElem?_eq_getElem _⟩
      obtain ⟨B1, o1, rfl, _, c1⟩ := inw_row H.out.1 hx
      obtain ⟨B2, o2, rfl, _, c2⟩ := inw_row H.out.2.1 hx
      have k0 : w.cell? ⟨B1, o1 + k * 8, none⟩ = some (.string x.src) := c1 w (Below.refl _ _) 0 _ rfl
      have k1 : w.cell? ⟨B1, o1 + k * 8 + 1, none⟩ = some (.int .i64 x.num) := c1 w (Below.refl _ _) 1 _ rfl
      have k2 : w.cell? ⟨B1, o1 + k * 8 + 2, none⟩ = some (.int .i64 x.at_) := c1 w (Below.refl _ _) 2 _ rfl
      have k3 : w.cell? ⟨B1, o1 + k * 8 + 3, none⟩ = some (.int .i64 x.kind) := c1 w (Below.refl _ _) 3 _ rfl
      have k4 : w.cell? ⟨B1, o1 + k * 8 + 4, none⟩ = some (.string x.per) := c1 w (Below.refl _ _) 4 _ rfl
      have k5 : w.cell? ⟨B1, o1 + k * 8 + 5, none⟩ = some (.string x.item) := c1 w (Below.refl _ _) 5 _ rfl
      have k6 : w.cell? ⟨B1, o1 + k * 8 + 6, none⟩ = some (.int .i64 x.val) := c1 w (Below.refl _ _) 6 _ rfl
      have k7 : w.cell? ⟨B1, o1 + k * 8 + 7, none⟩ = some (.string x.txt) := c1 w (Below.refl _ _) 7 _ rfl
      have m0 : w.cell? ⟨B2, o2 + k * 8, none⟩ = some (.string x.src) := c2 w (Below.refl _ _) 0 _ rfl
      have m1 : w.cell? ⟨B2, o2 + k * 8 + 1, none⟩ = some (.int .i64 x.num) := c2 w (Below.refl _ _) 1 _ rfl
      have m2 : w.cell? ⟨B2, o2 + k * 8 + 2, none⟩ = some (.int .i64 x.at_) := c2 w (Below.refl _ _) 2 _ rfl
      have m3 : w.cell? ⟨B2, o2 + k * 8 + 3, none⟩ = some (.int .i64 x.kind) := c2 w (Below.refl _ _) 3 _ rfl
      have m4 : w.cell? ⟨B2, o2 + k * 8 + 4, none⟩ = some (.string x.per) := c2 w (Below.refl _ _) 4 _ rfl
      have m5 : w.cell? ⟨B2, o2 + k * 8 + 5, none⟩ = some (.string x.item) := c2 w (Below.refl _ _) 5 _ rfl
      have m6 : w.cell? ⟨B2, o2 + k * 8 + 6, none⟩ = some (.int .i64 x.val) := c2 w (Below.refl _ _) 6 _ rfl
      have m7 : w.cell? ⟨B2, o2 + k * 8 + 7, none⟩ = some (.string x.txt) := c2 w (Below.refl _ _) 7 _ rfl
      have hq := neq_same x
      unfold evV at hq
      have hk0 : (0 : Int) ≤ (k : Int) := by omega
      have hk1 : (k : Int) < (n : Int) := by omega
      clear c1 c2 hx
      go_wp2_with fail
      go_quiet (fail)
      go_wp2_with fail
      go_roundw
      case rel => exact ⟨k + 1, q + nq, by omega, by go_num, rfl⟩
      case measure => simp [intOf]; omega
    · go_wp2_with fail
      go_ret
      exact ⟨rfl, bdrewN (Below.refl _ _) q⟩
end Tl
end Go.Proofs.YtbhghelegonbbaaDoor
namespace Go.Proofs.YtbhghelegonbbaaDoor
open Go.RowKit Go.MapKept Go.Maps
set_option linter.unusedVariables false
set_option linter.unusedSimpArgs false
/-- a row does not lie in the block of an iterator -/
theorem own_apart_it {w : World} {e : TypeId} {sz n : Nat} {v : Value} {xs : List Value} {r it : Nat} {α : Type} [DecidableEq α] {enc : α → Value} {Ok : α → Prop} {m left : List (α × Value)} (h : w.ownsRow 0 e sz v n xs) (hb : Rg enc Ok w r it m left) : v.ownBlock ≠ some it := by
  rcases h.2 with ⟨rfl, _⟩ | ⟨b, cap, cur, rfl, _, hg, _⟩
  · intro c; cases c
  · intro c
    have : b = it := by simpa [Value.ownBlock] using c
    subst this
    obtain ⟨es, ck, s, sn, c0, h1, h2, _⟩ := hb.ex
    rw [hg] at h2
    cases h2
namespace Tl
open Es Rk
def encI (c : ByteArray × Int) : Value := .agg #[.string c.1, .int .i64 c.2]
def okI (c : ByteArray × Int) : Prop := c.1.size ≤ maxLen ∧ (Lit.int .i64 c.2).wf = true
namespace KJ
theorem laidOut : laidOutB Tryd.prog = true := by kernel_rfl
theorem row : (102 : TypeId) < Tryd.prog.types.size := of_decide_eq_true (by kernel_rfl)
theorem wide : (match Tryd.prog.underlying 102 with | some (.array _ _) | some (.struct _) => true | _ => false) = true := by kernel_rfl
set_option maxRecDepth 100000 in
theorem law : Keyed Tryd.prog 102 := Keyed.of_law (deep_law_laid laidOut (m := 3) (by omega) row (by kernel_rfl) wide)
theorem cellsC : Tryd.prog.cellsOf 102 = 2 := by kernel_rfl
theorem cellsS : Tryd.prog.cellsOf 9 = 1 := by kernel_rfl
theorem cellsI : Tryd.prog.cellsOf 3 = 1 := by kernel_rfl
theorem kt : Tryd.prog.keyType 102 = true := by kernel_rfl
theorem sz : ∃ n, Tryd.prog.types.size = n + 2 := ⟨Tryd.prog.types.size - 2, by kernel_rfl⟩
theorem isC : ∃ f g, Tryd.prog.underlying 102 = some (.struct #[f, g]) ∧ f.type = 9 ∧ f.offset = 0 ∧ g.type = 3 ∧ g.offset = 1 ∧ (f.name != "_") = true ∧ (g.name != "_") = true := ⟨_, _, Tryd.underlying102, by kernel_rfl, by kernel_rfl, by kernel_rfl, by kernel_rfl, by kernel_rfl, by kernel_rfl⟩
theorem enc_key {c : ByteArray × Int} (h : okI c) : ∃ l, keyOf Tryd.prog 102 (encI c) = some l := by
  obtain ⟨h1, h2⟩ := h
  obtain ⟨f, g, hu, a1, a2, a3, a4, a5, a6⟩ := isC
  obtain ⟨n, hn⟩ := sz
  have hf : (encI c).formed Tryd.prog 102 = true := by simp [encI, Value.formed, hu, cellsC]
  have hl : ∃ ls, Tryd.prog.keyLits (n + 2 + 1) 102 (encI c).cells.toList = some ls := by
    simp [encI, Value.cells, Program.keyLits, hu, cellsC, cellsS, cellsI, a1, a2, a3, a4, a5, a6, Tryd.underlying9, Tryd.underlying3, h1, h2]
  obtain ⟨ls, hl⟩ := hl
  refine ⟨.string (keyBytes ls), ?_⟩
  simp only [keyOf, hu, kt, hf, Bool.and_self, if_true, hn, hl, Option.map_some]
theorem key : KeyEnc Tryd.prog 102 encI okI where
  law := law
  key := enc_key
  inj := fun {a b} h => by
    simp [encI] at h
    exact Prod.ext h.1 h.2
end KJ
namespace KX
theorem laidOut : laidOutB Tryd.prog = true := by kernel_rfl
theorem row : (68 : TypeId) < Tryd.prog.types.size := of_decide_eq_true (by kernel_rfl)
theorem wide : (match Tryd.prog.underlying 68 with | some (.array _ _) | some (.struct _) => true | _ => false) = true := by kernel_rfl
set_option maxRecDepth 100000 in
theorem law : Keyed Tryd.prog 68 := Keyed.of_law (deep_law_laid laidOut (m := 3) (by omega) row (by kernel_rfl) wide)
theorem cellsC : Tryd.prog.cellsOf 68 = 2 := by kernel_rfl
theorem cellsS : Tryd.prog.cellsOf 9 = 1 := by kernel_rfl
theorem cellsI : Tryd.prog.cellsOf 3 = 1 := by kernel_rfl
theorem kt : Tryd.prog.keyType 68 = true := by kernel_rfl
theorem sz : ∃ n, Tryd.prog.types.size = n + 2 := ⟨Tryd.prog.types.size - 2, by kernel_rfl⟩
theorem isC : ∃ f g, Tryd.prog.underlying 68 = some (.struct #[f, g]) ∧ f.type = 9 ∧ f.offset = 0 ∧ g.type = 3 ∧ g.offset = 1 ∧ (f.name != "_") = true ∧ (g.name != "_") = true := ⟨_, _, Tryd.underlying68, by kernel_rfl, by kernel_rfl, by kernel_rfl, by kernel_rfl, by kernel_rfl, by kernel_rfl⟩
theorem enc_key {c : ByteArray × Int} (h : okI c) : ∃ l, keyOf Tryd.prog 68 (encI c) = some l := by
  obtain ⟨h1, h2⟩ := h
  obtain ⟨f, g, hu, a1, a2, a3, a4, a5, a6⟩ := isC
  obtain ⟨n, hn⟩ := sz
  have hf : (encI c).formed Tryd.prog 68 = true := by simp [encI, Value.formed, hu, cellsC]
  have hl : ∃ ls, Tryd.prog.keyLits (n + 2 + 1) 68 (encI c).cells.toList = some ls := by
    simp [encI, Value.cells, Program.keyLits, hu, cellsC, cellsS, cellsI, a1, a2, a3, a4, a5, a6, Tryd.underlying9, Tryd.underlying3, h1, h2]
  obtain ⟨ls, hl⟩ := hl
  refine ⟨.string (keyBytes ls), ?_⟩
  simp only [keyOf, hu, kt, hf, Bool.and_self, if_true, hn, hl, Option.map_some]
theorem key : KeyEnc Tryd.prog 68 encI okI where
  law := law
  key := enc_key
  inj := fun {a b} h => by
    simp [encI] at h
    exact Prod.ext h.1 h.2
end KX
def prL (l : List Ev) : List ((ByteArray × Int) × Value) := l.map fun e => (idE e, evV e)
def unV : Value → Ev
  | .agg a => match a.toList with
    | [.string s, .int _ n, .int _ a, .int _ k, .string p, .string i, .int _ v, .string x] => ⟨s, n, a, k, p, i, v, x⟩
    | _ => ev0
  | _ => ev0
theorem un_ev (e : Ev) : unV (evV e) = e := by cases e; rfl
theorem prL_perm {a b : List Ev} (h : (prL a).Perm (prL b)) : a.Perm b := by
  have := h.map (fun p => unV p.2)
  simpa [prL, List.map_map, Function.comp_def, un_ev] using this
theorem prL_keys (l : List Ev) : mkeys (prL l) = l.map idE := by simp [prL, mkeys, List.map_map, Function.comp_def]
theorem prL_new {l : List Ev} {i : Nat} {x : Ev} (hn : (l.map idE).Nodup) (hx : l[i]? = some x) : mput (prL (l.take i)) (idE x) (evV x) = prL (l.take (i + 1)) ∧ mget (prL (l.take i)) (idE x) = none := by
  have hs : l.take (i + 1) = l.take i ++ [x] := by rw [List.take_add_one, hx]; rfl
  have hno : ∀ p ∈ prL (l.take i), p.1 ≠ idE x := by
    intro p hp c
    obtain ⟨e, he, rfl⟩ := List.mem_map.1 hp
    have h2 : ((l.take (i + 1)).map idE).Nodup := List.Nodup.sublist (List.Sublist.map _ (List.take_sublist _ _)) hn
    rw [hs, List.map_append, List.nodup_append] at h2
    exact h2.2.2 (idE e) (List.mem_map.2 ⟨e, he, rfl⟩) (idE x) (by simp) c
  refine ⟨?_, ?_⟩
  · rw [mput_none hno, hs]; simp [prL]
  · cases hg : mget (prL (l.take i)) (idE x) with
    | none => rfl
    | some v => exact absurd rfl (hno _ (mem_of_get hg))
theorem ev_okI {e : Ev} (h : EvOk e) : okI (idE e) := ⟨h.src, by
  simp only [Lit.wf, Bool.and_eq_true, decide_eq_true_eq]
  exact h.num⟩
end Tl
end Go.Proofs.YtbhghelegonbbaaDoor
namespace Go.Proofs.YtbhghelegonbbaaDoor
open Go.RowKit Go.MapKept Go.Maps
set_option linter.unusedVariables false
set_option linter.unusedSimpArgs false
namespace Tl
open Es Rk
set_option maxRecDepth 100000 in
set_option maxHeartbeats 8000000 in
theorem jn_any (P0 : Nat) (b : Option Addr) (n cap : Nat) (l : List Ev) (w : World) (hP : Bk w P0 [.slice b n cap] 23) (hi : InW w b 8 (l.map evC)) (hn : n = l.length) (hs : n < 60) (hok : ∀ e ∈ l, EvOk e) (hnd : (l.map idE).Nodup) :
    Calls Tryd.prog 22 #[.slice (some ⟨P0, 0, none⟩) 1 1] w fun e w' => ∃ b' z, e = .returned (.slice b' n n) ∧ InW w' b' 8 (z.map evC) ∧ z.Perm l ∧ Srt ltE z ∧ EvK w' b' ∧ Below w.heap.size w w' := by
  obtain ⟨iE, hiE, hzE, hsE, hbE⟩ := tinfo infoEv
  have H := Lib.hid (And.intro hP (And.intro hi (And.intro hn (And.intro hok hnd))))
  have HS : Hid (∀ b' cap' z W, InW W b' 8 (z.map evC) → z.length = n → (∀ e ∈ z, EvOk e) → Calls Tryd.prog 7 #[.slice b' n cap'] W fun e w' => ∃ b2 z2, e = .returned (.slice b2 n n) ∧ InW w' b2 8 (z2.map evC) ∧ z2.Perm z ∧ Srt ltE z2 ∧ EvK w' b2 ∧ Below W.heap.size W w') := Lib.hid (fun b' cap' z W hz hl hk => esort_any b' n cap' z W hz hl.symm hs hk)
  have hmm := @run_makeMap Tryd.prog
  clear hP hi hn hok hnd
  go_enter Tryd.func22, Tryd.ntmps22
  go_wp2_with fail
  clear hmm
  obtain ⟨r, hr⟩ : ∃ r, r = w.heap.size := ⟨_, rfl⟩
  have HR := Lib.hid hr
  have HV : Hid (Mp encI okI (w.alloc (.map #[] 0)) r (prL (l.take 0)) ∧ Below w.heap.size w (w.alloc (.map #[] 0))) := Lib.hid ⟨by rw [hr]; exact Mp.made w, (Below.refl _ _).alloc (Nat.le_refl _) _⟩
  rw [← hr]
  clear hr
  generalize w.alloc (.map #[] 0) = V at HV ⊢
  go_loopg [17] 1 (fun g c wr => (c = .int .i64 0 ∧ 1 ≤ g ∧ Hid (Mp encI okI wr r (prL (l.take 0)) ∧ Below w.heap.size w wr)) ∨ (c = .int .i64 1 ∧ Hid (Mp encI okI wr r (prL l) ∧ Below w.heap.size w wr)))
  case atStart => exact .inl ⟨rfl, Nat.le_refl _, HV⟩
  case round =>
    rcases hrel with ⟨rfl, hg, HM⟩ | ⟨rfl, HM⟩
    · have c0 : wr.cell? ⟨P0, 0, none⟩ = some (.slice b n cap) := (H.out.1.bel HM.out.2).cell 0
      go_wp2_with fail
      clear c0 HV
      go_loopw [23] (fun c wr => ∃ i : Nat, i ≤ n ∧ c = .int .i64 i ∧ Hid (Mp encI okI wr r (prL (l.take i)) ∧ Below w.heap.size w wr)) (fun c _ => n - (intOf c).toNat)
      case atStart => exact ⟨0, by omega, rfl, HM⟩
      case round =>
        obtain ⟨i, him, rfl, HI⟩ := hrel
        by_cases hlt : i < n
        · obtain ⟨x, hx⟩ : ∃ x, l[i]? = some x := ⟨l[i]'(by have := H.out.2.2.1; omega), List.getElem?_eq_getElem _⟩
          obtain ⟨B, off, rfl, hB, hc⟩ := inw_row H.out.2.1 hx
          have hc := hc _ HI.out.2
          have k0 : wr.cell? ⟨B, off + i * 8, none⟩ = some (.string x.src) := hc 0 _ rfl
          have k1 : wr.cell? ⟨B, off + i * 8 + 1, none⟩ = some (.int .i64 x.num) := hc 1 _ rfl
          have k2 : wr.cell? ⟨B, off + i * 8 + 2, none⟩ = some (.int .i64 x.at_) := hc 2 _ rfl
          have k3 : wr.cell? ⟨B, off + i * 8 + 3, none⟩ = some (.int .i64 x.kind) := hc 3 _ rfl
          have k4 : wr.cell? ⟨B, off + i * 8 + 4, none⟩ = some (.string x.per) := hc 4 _ rfl
          have k5 : wr.cell? ⟨B, off + i * 8 + 5, none⟩ = some (.string x.item) := hc 5 _ rfl
          have k6 : wr.cell? ⟨B, off + i * 8 + 6, none⟩ = some (.int .i64 x.val) := hc 6 _ rfl
          have k7 : wr.cell? ⟨B, off + i * 8 + 7, none⟩ = some (.string x.txt) := hc 7 _ rfl
          have hpn := prL_new H.out.2.2.2.2 hx
          have HPN := Lib.hid hpn
          have HOK := Lib.hid (ev_okI (H.out.2.2.2.1 x (List.mem_of_getElem? hx)))
          have hi0' : (0 : Int) ≤ (i : Int) := by omega
          have hi1 : (i : Int) < (n : Int) := by omega
          have HGN : Hid ((mget (prL (l.take i)) (idE x)).getD (.agg (evC ev0).toArray) = .agg #[.string ⟨#[]⟩, .int .i64 0, .int .i64 0, .int .i64 0, .string ⟨#[]⟩, .string ⟨#[]⟩, .int .i64 0, .string ⟨#[]⟩]) := Lib.hid (by rw [hpn.2]; rfl)
          have HGS : Hid ((mget (prL (l.take i)) (idE x)).isSome = false) := Lib.hid (by rw [hpn.2]; rfl)
          clear hc hx hpn
          go_wp2_with (first
            | ((with_reducible show wpList _ _ _ (Oper.mk _ (Op.lookup _ _ _ _) _ _ _ _ :: _) _ _); refine wpList_look_ok rfl _ _ rfl KJ.key Tryd.underlying100 (z := .agg (evC ev0).toArray) (by kernel_rfl) (HI.out.1.bel (((Below.refl _ _).alloc (Nat.le_refl _) _).alloc (by simp) _)) rfl (idE x) rfl HOK.out _ HGN.out false HGS.out ?_)
            | (at_mapUpdate; refine wpList_store rfl _ _ _ rfl KJ.key Tryd.underlying100 (HI.out.1.bel ((((Below.refl _ _).alloc (Nat.le_refl _) _).alloc (by simp) _).alloc (by simp; omega) _)) rfl (idE x) rfl HOK.out (evV x) rfl ?_; intro w6 m6 f6 z6)
            | fail)
          have z0 := HI.out.2.size
          refine ⟨⟨i + 1, by omega, by go_num, Lib.hid ⟨?_, ?_⟩⟩, by simp [intOf]; omega⟩
          · rw [← HPN.out.1]; exact m6
          · refine Below.trans (((HI.out.2.alloc z0 _).alloc (by simp; omega) _).alloc (by simp; omega) _) (f6.below (by simp; omega) (fun b e => ?_))
            have e' : b = r := e
            rw [e', HR.out]; exact Nat.le_refl _
        · have e1 : l.take i = l := List.take_of_length_le (by have := H.out.2.2.1; omega)
          have hfin := HI.out
          rw [e1] at hfin
          have HF := Lib.hid hfin
          clear hfin HI
          go_wp2_with fail
          go_roundg 0
          case measure => omega
          case rel => exact .inr ⟨rfl, HF⟩
    · clear HV
      go_upto_region 15 with fail
      go_wp2_with (at_range; refine wpList_range rfl _ rfl Tryd.underlying100 HM.out.1 rfl ?_; intro w5 rg5 b5 z5)
      go_frame
      have H5 := Lib.hid (HM.out.2.trans (b5.mono HM.out.2.size))
      obtain ⟨it, hit⟩ : ∃ it, it = wr.heap.size := ⟨_, rfl⟩
      rw [← hit] at rg5
      rw [← hit]
      have HIT : Hid (w.heap.size ≤ it) := Lib.hid (by rw [hit]; exact HM.out.2.size)
      clear hit b5 z5 HM
      have RG5 := Lib.hid rg5
      go_loopw [11] (fun u wr => ∃ d left, Rg encI okI wr r it (prL l) left ∧ Hid ((prL d ++ left).Perm (prL l)) ∧ Hid (MkG 41 8 evC w wr u d)) (fun _ wr => wr.rangeLeft r it)
      case atStart => exact ⟨[], prL l, rg5, Lib.hid (List.Perm.refl _), Lib.hid ((MkG.nil w5).from H5.out)⟩
      case round =>
        obtain ⟨d, left, hrg, HPm, HU⟩ := hrel
        clear rg5 RG5
        go_wp2_with (at_next; refine wpList_next' (fun (a : ByteArray × Int) => Value.agg #[.string a.1, .int .i64 a.2]) (fun _ => rfl) rfl _ rfl hrg rfl ?_ ?_)
        · intro hl0
          subst hl0
          have hpm := HPm.out
          rw [List.append_nil] at hpm
          have hpd := prL_perm hpm
          obtain ⟨vb, vc, hv, hv1, hv2, hv3⟩ := HU.out.read evLen (by omega)
          have hdl : d.length = n := by rw [hpd.length_eq]; exact H.out.2.2.1.symm
          rw [hdl] at hv
          subst hv
          have HSD := Lib.hid (HS.out vb vc d wr hv3 hdl (fun e he => H.out.2.2.2.1 e (hpd.mem_iff.1 he)))
          have HBL := Lib.hid (And.intro HU.out.bl hpd)
          clear hpm HPm hrg HU hpd hv1 hv2 hv3 hdl HS
          go_wp2_with fail
          refine HSD.out.mono ?_
          rintro e w9 ⟨b9, z9, rfl, q1, q2, q3, q5, q4⟩
          have HQ := Lib.hid (And.intro q1 (And.intro (q2.trans HBL.out.2) (And.intro q3 (And.intro q5 (HBL.out.1.trans (q4.mono HBL.out.1.size))))))
          clear q1 q2 q3 q4 q5 HSD HBL
          go_wp2_with fail
          go_ret
          exact ⟨b9, z9, rfl, HQ.out.1, HQ.out.2.1, HQ.out.2.2.1, HQ.out.2.2.2.1, HQ.out.2.2.2.2⟩
        · intro k0 k1 u0 more w3 hp hokk hm hrg3 hf3 hz3 hen
          obtain ⟨x, hx, hxe⟩ := List.mem_map.1 hm
          cases hxe
          have HU3 : Hid (MkG 41 8 evC w w3 u11 d) := Lib.hid ⟨hf3.row HU.out.tx (fun b hb e => own_apart_it HU.out.tx hrg (by rw [hb]; exact congrArg some e)), HU.out.nw, HU.out.bl.trans (hf3.below HU.out.bl.size (fun b e => by have e' : b = it := e; rw [e']; exact HIT.out))⟩
          have HPm3 : Hid ((prL (d ++ [x]) ++ more).Perm (prL l)) := Lib.hid ((by
            unfold prL
            rw [List.map_append, List.append_assoc]
            exact List.Perm.append_left _ hp.symm : (prL (d ++ [x]) ++ more).Perm (prL d ++ left)).trans HPm.out)
          have hmes : w3.rangeLeft r it < wr.rangeLeft r it := by
            rw [hrg3.left_eq, hrg.left_eq, hp.length_eq]; simp
          have HM := Lib.hid hmes
          have HDL : Hid (d.length ≤ 60) := Lib.hid (by
            have := HPm.out.length_eq
            simp only [List.length_append, prL, List.length_map] at this
            have := H.out.2.2.1
            omega)
          have HRG3 := Lib.hid hrg3
          clear hmes hrg HPm hp hokk hm hrg3 hf3 hz3 hx HU
          unfold evV at hen
          have HM2 := Lib.hid ((HU3.out.alloc (.cells (evC x).toArray 41)).alloc (.cells (evC x).toArray 41))
          have HIN : Hid (InW ((w3.alloc (.cells (evC x).toArray 41)).alloc (.cells (evC x).toArray 41)) (some ⟨w3.heap.size + 1, 0, none⟩) 8 ([x].map evC)) := Lib.hid (inw_one (f := evC) (x := x) (bk_at _ _ (by simp)))
          have HLN : Hid (d.length + [x].length ≤ 1000000) := Lib.hid (by have := HDL.out; simp; omega)
          go_wp2_with (at_builtin; refine wpList_append_m evLen evOne _ rfl _ _ _ rfl 41 iE _ 96 Tryd.underlying23 hiE hzE hsE hbE rfl (by decide) (by omega) u11 d [x] rfl HM2.out.tx (some ⟨w3.heap.size + 1, 0, none⟩) 1 1 rfl rfl HIN.out HLN.out ?_; intro v6 w6 o6 f6 h6)
          have hb2 : Below w3.heap.size w3 ((w3.alloc (.cells (evC x).toArray 41)).alloc (.cells (evC x).toArray 41)) := ((Below.refl _ _).alloc (Nat.le_refl _) _).alloc (by simp) _
          have hrg6 := (HRG3.out.bel hb2).fr f6 (own_apart_map HM2.out.tx (HRG3.out.bel hb2).mp) (own_apart_it HM2.out.tx (HRG3.out.bel hb2))
          have HRG6 := Lib.hid hrg6
          have HM6 := Lib.hid (HM2.out.more o6 f6 h6)
          have HMS : Hid (w6.rangeLeft r it < wr.rangeLeft r it) := Lib.hid (by rw [HRG6.out.left_eq, ← HRG3.out.left_eq]; exact HM.out)
          clear o6 f6 h6 HM2 HIN HLN hb2 hrg6 HRG3 HM hen HU3 HDL
          go_wp2_with fail
          exact ⟨⟨d ++ [x], more, HRG6.out, HPm3, HM6⟩, HMS.out⟩
end Tl
end Go.Proofs.YtbhghelegonbbaaDoor
namespace Go.Proofs.YtbhghelegonbbaaDoor
open Go.RowKit
set_option linter.unusedVariables false
set_option linter.unusedSimpArgs false
namespace Bd
theorem sizeB : (Tryd.prog.info? 72).map (·.size) = some 2 := by kernel_rfl
theorem liesB : liesAt Tryd.prog Tryd.prog.depth 72 (2 / Tryd.prog.cellsOf 72) 0 72 1 = true := by kernel_rfl
theorem infoB : (Tryd.prog.info? 5).map (fun i => (i.zero, i.size, i.bytes)) = some (some (.int .u8 0), 1, 1) := by kernel_rfl
theorem tinfo' {t : TypeId} {z : Option Value} {s b : Nat} (h : (Tryd.prog.info? t).map (fun i => (i.zero, i.size, i.bytes)) = some (z, s, b)) : ∃ i, Tryd.prog.info? t = some i ∧ i.zero = z ∧ i.size = s ∧ i.bytes = b := by
  obtain ⟨i, h1, h2⟩ := Option.map_eq_some_iff.1 h
  simp only [Prod.mk.injEq] at h2
  exact ⟨i, h1, h2.1, h2.2.1, h2.2.2⟩
set_option maxHeartbeats 1000000 in
set_option maxRecDepth 100000 in
theorem cc_used (b : Nat) (w : World) (h0 : w.cell? ⟨b, 0, none⟩ = some (.pointer (some ⟨b, 0, none⟩))) :
    Calls Tryd.prog 43 #[.pointer (some ⟨b, 0, none⟩)] w fun e w' => e = .returned (.tuple #[]) ∧ w' = w := by
  obtain ⟨j, hj, _⟩ := Option.map_eq_some_iff.1 sizeB
  go_enter Tryd.func43, Tryd.ntmps43
  go_wp2
  rw [Lib.run_neq_ptr_same w _ Tryd.underlying70 hj]
  go_wp2
  go_end0
  exact ⟨rfl, rfl⟩
set_option maxHeartbeats 1000000 in
set_option maxRecDepth 100000 in
theorem cc_fresh (b : Nat) (w : World) (h0 : w.cell? ⟨b, 0, none⟩ = some (.pointer none)) (hsh : w.shape? b = some (72, 2)) (hfz : w.frozen? ⟨b, 0, none⟩ = false) :
    Calls Tryd.prog 43 #[.pointer (some ⟨b, 0, none⟩)] w fun e w' => e = .returned (.tuple #[]) ∧ w' = w.setCell ⟨b, 0, none⟩ (.pointer (some ⟨b, 0, none⟩)) := by
  obtain ⟨j, hj, hjs⟩ := Option.map_eq_some_iff.1 sizeB
  go_enter Tryd.func43, Tryd.ntmps43
  go_wp2
  rw [Lib.run_to_unsafe w ⟨b, 0, none⟩ Tryd.underlying70 Tryd.underlying115 hj (by rw [hjs]; decide) hsh (Nat.zero_lt_succ 1)]
  simp only [Result.andThen]
  rw [Oper.upon_value]
  go_wp2
  rw [run_callFunc_extern Tryd.func55 (by kernel_rfl) (by kernel_rfl) (by kernel_rfl) (e := Extern.AbiNoEscape.same) (by kernel_rfl)]
  rw [Lib.run_noEscape]
  simp only [Result.andThen]
  rw [Oper.upon_value]
  go_wp2
  rw [Lib.run_from_unsafe w ⟨b, 0, none⟩ Tryd.underlying115 Tryd.underlying70 hj hsh liesB]
  simp only [Result.andThen]
  rw [Oper.upon_value]
  go_wp2
  go_end0
  exact ⟨rfl, rfl⟩
theorem cc_any (B b : Nat) (bs : List Value) (w : World) (h : Lib.IsBuilder 72 5 B b bs w) :
    Calls Tryd.prog 43 #[.pointer (some ⟨b, 0, none⟩)] w fun e w' => e = .returned (.tuple #[]) ∧ (Lib.BuilderAt 72 5 B b (.pointer (some ⟨b, 0, none⟩)) bs w' ∧ Below B w w' ∧ Lib.OthersKept 5 (some b) w w') := by
  rcases h with h | h
  · refine (cc_fresh b w h.cell0 h.shape h.frozen0).mono ?_
    rintro e w' ⟨rfl, rfl⟩
    exact ⟨rfl, h.used _, (Below.refl B w).setCell (p := ⟨b, 0, none⟩) h.1 _, (Lib.OthersKept.refl _ _ w).setCell ⟨b, 0, none⟩ rfl _⟩
  · refine (cc_used b w h.cell0).mono ?_
    rintro e w' ⟨rfl, rfl⟩
    exact ⟨rfl, h, Below.refl B _, Lib.OthersKept.refl _ _ _⟩
set_option maxHeartbeats 2000000 in
set_option maxRecDepth 100000 in
theorem wstr_any (B b : Nat) (bs : List Value) (s : ByteArray) (w : World) (h : Lib.IsBuilder 72 5 B b bs w) (hlen : bs.length + s.size ≤ 140737488355328) (hBw : B ≤ w.heap.size) :
    Calls Tryd.prog 23 #[.pointer (some ⟨b, 0, none⟩), .string s] w fun e w' => e = .returned (.tuple #[.int .i64 s.size, .nilIface]) ∧ (Lib.BuilderAt 72 5 B b (.pointer (some ⟨b, 0, none⟩)) (bs ++ Lib.strCells s) w' ∧ Below B w w' ∧ Lib.OthersKept 5 (some b) w w') := by
  obtain ⟨i0, hi, hz0, hz1, hz2⟩ := tinfo' infoB
  have HC := Lib.hid (cc_any B b bs w h)
  clear h
  go_enter Tryd.func23, Tryd.ntmps23
  go_wp2_with fail
  refine HC.out.mono ?_
  rintro e w1 ⟨rfl, h1, hb1, hk1⟩
  obtain ⟨hB, v, hbk, hown, hne⟩ := h1
  have c0 : w1.cell? ⟨b, 0, none⟩ = some (.pointer (some ⟨b, 0, none⟩)) := by rw [Lib.cell_of_heap hbk]; rfl
  have c1 : w1.cell? ⟨b, 1, none⟩ = some v := by rw [Lib.cell_of_heap hbk]; rfl
  go_wp2_with (at_builtin; refine Lib.wpList_append_own_string _ rfl _ _ 22 9 rfl B 5 i0 Tryd.underlying22 Tryd.underlying9 hi hz0 hz1 hz2 _ _ _ rfl hown s rfl ?c3 ?c4 ?c5 ?_)
  case c3 => unfold maxLen; omega
  case c4 => omega
  case c5 => have := hb1.size; omega
  intro v' w2 hown' hgrow _
  have hlt : b < w1.heap.size := by
    rcases Nat.lt_or_ge b w1.heap.size with h' | h'
    · exact h'
    · simp [Array.getElem?_eq_none h'] at hbk
  have hb2 : w2.heap[b]? = some (.cells #[.pointer (some ⟨b, 0, none⟩), v] 72 (0, 0)) := by
    rw [hgrow.block b hlt (fun e => hne e.symm)]
    exact hbk
  have d0 : w2.cell? ⟨b, 0, none⟩ = some (.pointer (some ⟨b, 0, none⟩)) := by rw [Lib.cell_of_heap hb2]; rfl
  have d1 : w2.cell? ⟨b, 1, none⟩ = some v := by rw [Lib.cell_of_heap hb2]; rfl
  have f1 : w2.frozen? ⟨b, 1, none⟩ = false := Lib.frozen_of_heap hb2 1
  obtain ⟨ao, n', cap, rfl⟩ : ∃ ao n' cap, v' = .slice ao n' cap := by
    rcases hown'.2 with ⟨hv, _⟩ | ⟨g, cap, cur, hv, _⟩
    · exact ⟨_, _, _, hv⟩
    · exact ⟨_, _, _, hv⟩
  go_wp2
  go_ret2
  refine ⟨rfl, ?_, ?_, (hk1.grown hgrow (Lib.ownsRowF_kind (World.ownsRowF_of hown))).setCell ⟨b, 1, none⟩ rfl _⟩
  · exact Lib.BuilderAt.put (T := 72) (e := 5) hB hb2 (bs' := bs ++ Lib.strCells s) (by simpa [Lib.strCells_length] using hown') (by decide)
  · exact (hb1.grown hgrow (by have := hb1.size; omega) (fun k hk => (hown.lt k hk).1)).setCell (p := ⟨b, 1, none⟩) hB _
set_option maxHeartbeats 2000000 in
set_option maxRecDepth 100000 in
theorem wbyte_any (B b : Nat) (bs : List Value) (c : Int) (w : World) (h : Lib.IsBuilder 72 5 B b bs w) (hlen : bs.length + 1 ≤ 140737488355328) (hBw : B ≤ w.heap.size) :
    Calls Tryd.prog 25 #[.pointer (some ⟨b, 0, none⟩), .int .u8 c] w fun e w' => e = .returned .nilIface ∧ (Lib.BuilderAt 72 5 B b (.pointer (some ⟨b, 0, none⟩)) (bs ++ [.int .u8 c]) w' ∧ Below B w w' ∧ Lib.OthersKept 5 (some b) w w') := by
  obtain ⟨i0, hi, hz0, hz1, hz2⟩ := tinfo' infoB
  have HC := Lib.hid (cc_any B b bs w h)
  clear h
  go_enter Tryd.func25, Tryd.ntmps25
  go_wp2_with fail
  refine HC.out.mono ?_
  rintro e w1 ⟨rfl, h1, hb1, hk1⟩
  obtain ⟨hB, v, hbk, hown, hne⟩ := h1
  have c0 : w1.cell? ⟨b, 0, none⟩ = some (.pointer (some ⟨b, 0, none⟩)) := by rw [Lib.cell_of_heap hbk]; rfl
  have c1 : w1.cell? ⟨b, 1, none⟩ = some v := by rw [Lib.cell_of_heap hbk]; rfl
  go_wp2_with (at_builtin; refine wpList_append_own _ rfl _ _ 22 rfl B 5 i0 (.int .u8 0) 1 1 Tryd.underlying22 hi hz0 hz1 hz2 rfl (by decide) _ _ _ rfl (hown.alloc _) ⟨w1.heap.size, 0, none⟩ 1 1 [.int .u8 c] rfl rfl ?c1 ?c2 ?c3 ?c4 ?c5 ?_)
  case c1 =>
    intro j u hj
    match j, hj with
    | 0, hj => simp at hj; subst hj; simp [Addr.add]
  case c2 => intro u hu; simp at hu; subst hu; rfl
  case c3 => unfold maxLen; omega
  case c4 => omega
  case c5 => have := hb1.size; simp; omega
  intro v' w2 hown' hgrow _
  have hlt : b < w1.heap.size := by
    rcases Nat.lt_or_ge b w1.heap.size with h' | h'
    · exact h'
    · simp [Array.getElem?_eq_none h'] at hbk
  have hb2 : w2.heap[b]? = some (.cells #[.pointer (some ⟨b, 0, none⟩), v] 72 (0, 0)) := by
    rw [hgrow.block b (by simp; omega) (fun e => hne e.symm), Lib.alloc_old w1 _ b hlt]
    exact hbk
  have d0 : w2.cell? ⟨b, 0, none⟩ = some (.pointer (some ⟨b, 0, none⟩)) := by rw [Lib.cell_of_heap hb2]; rfl
  have d1 : w2.cell? ⟨b, 1, none⟩ = some v := by rw [Lib.cell_of_heap hb2]; rfl
  have f1 : w2.frozen? ⟨b, 1, none⟩ = false := Lib.frozen_of_heap hb2 1
  obtain ⟨g, cap, rfl⟩ : ∃ g cap, v' = .slice (some ⟨g, 0, none⟩) (bs.length + 1) cap := by
    rcases hown'.2 with ⟨_, h0⟩ | ⟨g, cap, cur, hv, _⟩
    · omega
    · exact ⟨g, cap, hv⟩
  go_wp2
  go_ret
  refine ⟨rfl, ?_, ?_, ((hk1.alloc _).grown hgrow (Lib.ownsRowF_kind (World.ownsRowF_of (hown.alloc _)))).setCell ⟨b, 1, none⟩ rfl _⟩
  · exact Lib.BuilderAt.put (T := 72) (e := 5) hB hb2 (bs' := bs ++ [.int .u8 c]) (by simpa using hown') (by decide)
  · exact ((hb1.alloc (by have := hb1.size; omega) _).grown hgrow (by have := hb1.size; simp; omega) (fun k hk => (hown.lt k hk).1)).setCell (p := ⟨b, 1, none⟩) hB _
/-- a builder, while what is new is laid -/
theorem below {B b : Nat} {bs : List Value} {W W' : World} (h : Lib.IsBuilder 72 5 B b bs W) (hb : Below W.heap.size W W') : Lib.IsBuilder 72 5 B b bs W' := by
  have one : ∀ p, Lib.BuilderAt 72 5 B b p bs W → Lib.BuilderAt 72 5 B b p bs W' := fun p h => by
    have hlt := h.lt
    obtain ⟨hB, v, hv, hown, hne⟩ := h
    exact ⟨hB, v, (hb.block b hlt).trans hv, hown.kept (row := none) ⟨hb.os, hb.tape, hb.output, hb.size, fun k hk _ => hb.block k hk⟩ (Classical.em _), hne⟩
  exact h.elim (fun x => .inl (one _ x)) (fun x => .inr (one _ x))
theorem fresh (w : World) : Lib.IsBuilder 72 5 w.heap.size w.heap.size [] (w.alloc (.cells #[.pointer none, .slice none 0 0] 72)) :=
  .inl ⟨Nat.le_refl _, .slice none 0 0, (Go.MapKept.heap_alloc w _).1, ⟨rfl, .inl ⟨rfl, rfl⟩⟩, by simp [Value.ownBlock]⟩
end Bd
end Go.Proofs.YtbhghelegonbbaaDoor
namespace Go.Proofs.YtbhghelegonbbaaDoor
open Go.RowKit Go.MapKept Go.Maps
set_option linter.unusedVariables false
set_option linter.unusedSimpArgs false
namespace Tl
open Es Rk
theorem inw_kept {W W' : World} {b : Option Addr} {css : List (List Value)} {bb : Nat} {cs : Array Value} {fz : Nat × Nat} (h : InW W b 8 css) (hk : EvK W b) (ho : Lib.OthersKept 5 (some bb) W W') (hbb : W.heap[bb]? = some (.cells cs 72 fz)) : InW W' b 8 css ∧ EvK W' b := by
  have one : ∀ B off, b = some ⟨B, off, none⟩ → W'.heap[B]? = W.heap[B]? := fun B off e => by
    obtain ⟨c, f, hB⟩ := hk B off e
    rw [hB]
    refine ho B _ hB (fun c' => ?_) (fun c' f' c'' => ?_)
    · simp only [Option.some.injEq] at c'
      rw [c', hbb] at hB
      simp at hB
    · simp at c''
  refine ⟨?_, fun B off e => by rw [one B off e]; exact hk B off e⟩
  rcases h with h | ⟨B, off, hb, hl, hc⟩
  · exact .inl h
  · have e := one B off hb
    refine .inr ⟨B, off, hb, ?_, fun i c hi j u hj => ?_⟩
    · rw [Array.getElem?_eq_getElem hl] at e
      exact (Array.getElem?_eq_some_iff.1 e).1
    · have := hc i c hi j u hj
      unfold World.cell? at this ⊢
      simp only at this ⊢
      rw [e]; exact this
theorem bld_block {B b : Nat} {bs : List Value} {W : World} (h : Lib.IsBuilder 72 5 B b bs W) : ∃ cs, W.heap[b]? = some (.cells cs 72 (0, 0)) := by
  rcases h with ⟨_, v, hb, _⟩ | ⟨_, v, hb, _⟩ <;> exact ⟨_, hb⟩
theorem txt_snoc (L : List Ev) (e : Ev) : (txtT (L ++ [e])).data.toList = (txtT L).data.toList ++ (fmtE e).data.toList ++ [10] := by simp [txtT]
theorem tale_ok {e : Ev} (h : TaleEv e) : EvOk e := ⟨by have := h.num; omega, by have := h.at_; omega, by
  obtain ⟨k, hk, hs⟩ := h.src
  rw [hs]
  have := (okW.size (ok_s ⟨k, hk⟩).1).2
  unfold maxLen
  simp only at this
  omega⟩
/-- what stands while a text is built -/
structure TX (w wr : World) (bb : Nat) (b4 : Option Addr) (z : List Ev) (i : Nat) : Prop where
  bd : Lib.IsBuilder 72 5 bb bb (Lib.byteCells (txtT (z.take i)).data.toList) wr
  bl : Below w.heap.size w wr
  iw : InW wr b4 8 (z.map evC)
  kd : EvK wr b4
  lo : w.heap.size ≤ bb ∧ bb ≤ wr.heap.size
theorem TX.bel {w wr w' : World} {bb : Nat} {b4 : Option Addr} {z : List Ev} {i : Nat} (h : TX w wr bb b4 z i) (hb : Below wr.heap.size wr w') : TX w w' bb b4 z i :=
  ⟨Bd.below h.bd hb, h.bl.trans (hb.mono h.bl.size), h.iw.bel hb, h.kd.bel hb, h.lo.1, Nat.le_trans h.lo.2 hb.size⟩
/-- one line more -/
theorem TX.line {w wr w2 w3 : World} {bb : Nat} {b4 : Option Addr} {z : List Ev} {i : Nat} {x : Ev} (h : TX w wr bb b4 z i) (hx : z[i]? = some x)
    (h2 : Lib.BuilderAt 72 5 bb bb (.pointer (some ⟨bb, 0, none⟩)) (Lib.byteCells (txtT (z.take i)).data.toList ++ Lib.strCells (fmtE x)) w2) (b2 : Below bb wr w2) (k2 : Lib.OthersKept 5 (some bb) wr w2)
    (h3 : Lib.BuilderAt 72 5 bb bb (.pointer (some ⟨bb, 0, none⟩)) ((Lib.byteCells (txtT (z.take i)).data.toList ++ Lib.strCells (fmtE x)) ++ [.int .u8 10]) w3) (b3 : Below bb w2 w3) (k3 : Lib.OthersKept 5 (some bb) w2 w3) : TX w w3 bb b4 z (i + 1) := by
  obtain ⟨cs, hbb⟩ := bld_block h.bd
  obtain ⟨cs2, hbb2⟩ := bld_block (B := bb) (.inr h2)
  obtain ⟨p1, p2⟩ := inw_kept h.iw h.kd k2 hbb
  obtain ⟨q1, q2⟩ := inw_kept p1 p2 k3 hbb2
  refine ⟨.inr ?_, h.bl.trans ((b2.mono h.lo.1).trans (b3.mono h.lo.1)), q1, q2, h.lo.1, Nat.le_trans h.lo.2 (Nat.le_trans b2.size b3.size)⟩
  have e : Lib.byteCells (txtT (z.take (i + 1))).data.toList = (Lib.byteCells (txtT (z.take i)).data.toList ++ Lib.strCells (fmtE x)) ++ [.int .u8 10] := by
    rw [List.take_add_one, hx]
    show Lib.byteCells (txtT (z.take i ++ [x])).data.toList = _
    rw [txt_snoc]
    simp [Lib.byteCells, Lib.strCells]
  rw [e]; exact h3
set_option maxRecDepth 100000 in
set_option maxHeartbeats 8000000 in
theorem all_any (b : Option Addr) (n cap : Nat) (l : List Ev) (w : World) (hG : Glob w) (hi : InW w b 8 (l.map evC)) (hn : n = l.length) (hs : n < 60) (ht : ∀ e ∈ l, TaleEv e) (hnd : (l.map idE).Nodup) :
    Calls Tryd.prog 11 #[.slice b n cap] w fun e w' => ∃ z, e = .returned (.string (txtT z)) ∧ z.Perm l ∧ Srt ltE z ∧ Below w.heap.size w w' := by
  obtain ⟨iE, hiE, hzE, hsE, hbE⟩ := tinfo infoEv
  have H := Lib.hid (And.intro hG (And.intro hi (And.intro hn (And.intro ht hnd))))
  clear hG hi hn ht hnd
  go_enter Tryd.func11, Tryd.ntmps11
  go_wp2_with fail
  go_loopw [3, 11] (fun u c wr => ∃ i : Nat, i ≤ n ∧ c = .int .i64 i ∧ Hid (MkG 41 8 evC w wr u (l.take i))) (fun _ c _ => n - (intOf c).toNat)
  case atStart => exact ⟨0, by omega, rfl, Lib.hid (MkG.nil w)⟩
  case round =>
    obtain ⟨i, him, rfl, HM⟩ := hrel
    by_cases hlt : i < n
    · obtain ⟨x, hx⟩ : ∃ x, l[i]? = some x := ⟨l[i]'(by have := H.out.2.2.1; omega), List.getElem?_eq_getElem _⟩
      obtain ⟨B, off, rfl, hB, hc⟩ := inw_row H.out.2.1 hx
      have hc := hc _ HM.out.bl
      have k0 : wr.cell? ⟨B, off + i * 8, none⟩ = some (.string x.src) := hc 0 _ rfl
      have k1 : wr.cell? ⟨B, off + i * 8 + 1, none⟩ = some (.int .i64 x.num) := hc 1 _ rfl
      have k2 : wr.cell? ⟨B, off + i * 8 + 2, none⟩ = some (.int .i64 x.at_) := hc 2 _ rfl
      have k3 : wr.cell? ⟨B, off + i * 8 + 3, none⟩ = some (.int .i64 x.kind) := hc 3 _ rfl
      have k4 : wr.cell? ⟨B, off + i * 8 + 4, none⟩ = some (.string x.per) := hc 4 _ rfl
      have k5 : wr.cell? ⟨B, off + i * 8 + 5, none⟩ = some (.string x.item) := hc 5 _ rfl
      have k6 : wr.cell? ⟨B, off + i * 8 + 6, none⟩ = some (.int .i64 x.val) := hc 6 _ rfl
      have k7 : wr.cell? ⟨B, off + i * 8 + 7, none⟩ = some (.string x.txt) := hc 7 _ rfl
      have hbx : Below wr.heap.size wr (wr.alloc (.cells (evC x).toArray 41)) := (Below.refl _ _).alloc (Nat.le_refl _) _
      have HX := Lib.hid hx
      have hmay := may_any (H.out.2.2.2.1 x (List.mem_of_getElem? hx)) _ ((H.out.1.bel HM.out.bl).bel hbx)
      unfold evV at hmay
      have HMAY := Lib.hid hmay
      have HBX := Lib.hid (Bk.new wr (evC x) 41)
      have HM1 := Lib.hid (HM.out.bel hbx)
      have hi0' : (0 : Int) ≤ (i : Int) := by omega
      have hi1 : (i : Int) < (n : Int) := by omega
      clear hc hx hmay hbx
      go_wp2_with fail
      refine HMAY.out.mono ?_
      rintro e w2 ⟨rfl, b2⟩
      have d0 : w2.cell? ⟨wr.heap.size, 0, none⟩ = some (.string x.src) := (HBX.out.bel b2).cell 0
      have d1 : w2.cell? ⟨wr.heap.size, 1, none⟩ = some (.int .i64 x.num) := (HBX.out.bel b2).cell 1
      have d2 : w2.cell? ⟨wr.heap.size, 2, none⟩ = some (.int .i64 x.at_) := (HBX.out.bel b2).cell 2
      have d3 : w2.cell? ⟨wr.heap.size, 3, none⟩ = some (.int .i64 x.kind) := (HBX.out.bel b2).cell 3
      have d4 : w2.cell? ⟨wr.heap.size, 4, none⟩ = some (.string x.per) := (HBX.out.bel b2).cell 4
      have d5 : w2.cell? ⟨wr.heap.size, 5, none⟩ = some (.string x.item) := (HBX.out.bel b2).cell 5
      have d6 : w2.cell? ⟨wr.heap.size, 6, none⟩ = some (.int .i64 x.val) := (HBX.out.bel b2).cell 6
      have d7 : w2.cell? ⟨wr.heap.size, 7, none⟩ = some (.string x.txt) := (HBX.out.bel b2).cell 7
      have HM2 := Lib.hid ((HM1.out.bel b2).alloc (.cells (evC x).toArray 41))
      have HIN : Hid (InW (w2.alloc (.cells (evC x).toArray 41)) (some ⟨w2.heap.size, 0, none⟩) 8 ([x].map evC)) := Lib.hid (inw_one (f := evC) (x := x) (Bk.new w2 (evC x) 41))
      have HLN : Hid ((l.take i).length + [x].length ≤ 1000000) := Lib.hid (by simp; omega)
      clear k0 k1 k2 k3 k4 k5 k6 k7 HMAY HBX HM1 b2
      go_wp2_with (at_builtin; refine wpList_append_m evLen evOne _ rfl _ _ _ rfl 41 iE _ 96 Tryd.underlying23 hiE hzE hsE hbE rfl (by decide) (by omega) u3 (l.take i) [x] rfl HM2.out.tx (some ⟨w2.heap.size, 0, none⟩) 1 1 rfl rfl HIN.out HLN.out ?_; intro v5 w5 o5 f5 h5)
      have HM5 := Lib.hid (HM2.out.more o5 f5 h5)
      clear o5 f5 h5 HM2 HIN HLN d0 d1 d2 d3 d4 d5 d6 d7
      go_wp2_with fail
      go_roundw
      case rel => exact ⟨i + 1, by omega, by go_num, by rw [List.take_add_one, HX.out]; exact HM5⟩
      case measure => simp [intOf]; omega
    · have e1 : l.take i = l := List.take_of_length_le (by have := H.out.2.2.1; omega)
      have hm := HM.out
      rw [e1] at hm
      obtain ⟨b3, c3, rfl, h31, h32, h33⟩ := hm.read evLen (by decide)
      have hl3 : l.length = n := H.out.2.2.1.symm
      rw [hl3] at h31 ⊢
      have HBW := Lib.hid hm.bl
      have HI3 := Lib.hid h33
      clear hm h33 e1 HM h31 h32 hl3
      have hjn := jn_any (wr.heap.size + 1) b3 n c3 l ((wr.alloc (.cells #[.pointer none, .slice none 0 0] 72)).alloc (.cells #[.slice b3 n c3] 23)) (bk_at [.slice b3 n c3] 23 (by simp)) ((HI3.out.bel ((Below.refl _ _).alloc (Nat.le_refl _) _)).bel ((Below.refl _ _).alloc (Nat.le_refl _) _)) H.out.2.2.1 hs (fun e he => tale_ok (H.out.2.2.2.1 e he)) H.out.2.2.2.2
      have HJN := Lib.hid hjn
      have HBD := Lib.hid (Bd.below (Bd.fresh wr) ((Below.refl _ _).alloc (Nat.le_refl _) (.cells #[.slice b3 n c3] 23)))
      have HBW2 : Hid (Below w.heap.size w ((wr.alloc (.cells #[.pointer none, .slice none 0 0] 72)).alloc (.cells #[.slice b3 n c3] 23))) := Lib.hid ((HBW.out.alloc HBW.out.size _).alloc (by have := HBW.out.size; simp; omega) _)
      have HSZ : Hid (w.heap.size ≤ wr.heap.size ∧ wr.heap.size ≤ ((wr.alloc (.cells #[.pointer none, .slice none 0 0] 72)).alloc (.cells #[.slice b3 n c3] 23)).heap.size) := Lib.hid ⟨HBW.out.size, by simp; omega⟩
      clear hjn HI3 HBW
      go_wp2_with fail
      refine HJN.out.mono ?_
      rintro e w4 ⟨b4, z, rfl, iw, pz, sz, kd, b4'⟩
      obtain ⟨bb, hbb⟩ : ∃ bb, bb = wr.heap.size := ⟨_, rfl⟩
      have hTX : TX w w4 bb b4 z 0 := by
        rw [hbb]
        exact ⟨Bd.below HBD.out b4', HBW2.out.trans (b4'.mono HBW2.out.size), iw, kd, HSZ.out.1, Nat.le_trans HSZ.out.2 b4'.size⟩
      rw [← hbb]
      have HTX := Lib.hid hTX
      have HZ := Lib.hid (And.intro pz (And.intro sz (show z.length = n by rw [pz.length_eq]; exact H.out.2.2.1.symm)))
      clear iw pz sz kd b4' hbb hTX HJN HBD HBW2 HSZ
      go_wp2_with fail
      go_loopw [26] (fun c wr => ∃ i : Nat, i ≤ n ∧ c = .int .i64 i ∧ Hid (TX w wr bb b4 z i)) (fun c _ => n - (intOf c).toNat)
      case atStart => exact ⟨0, by omega, rfl, HTX⟩
      case round =>
        obtain ⟨i, him, rfl, HT⟩ := hrel
        clear HTX
        by_cases hlt : i < n
        · obtain ⟨x, hx⟩ : ∃ x, z[i]? = some x := ⟨z[i]'(by have := HZ.out.2.2; omega), List.getElem?_eq_getElem _⟩
          obtain ⟨B, off, rfl, hB, hc⟩ := inw_row HT.out.iw hx
          have hc := hc _ (Below.refl _ _)
          have k0 : wr.cell? ⟨B, off + i * 8, none⟩ = some (.string x.src) := hc 0 _ rfl
          have k1 : wr.cell? ⟨B, off + i * 8 + 1, none⟩ = some (.int .i64 x.num) := hc 1 _ rfl
          have k2 : wr.cell? ⟨B, off + i * 8 + 2, none⟩ = some (.int .i64 x.at_) := hc 2 _ rfl
          have k3 : wr.cell? ⟨B, off + i * 8 + 3, none⟩ = some (.int .i64 x.kind) := hc 3 _ rfl
          have k4 : wr.cell? ⟨B, off + i * 8 + 4, none⟩ = some (.string x.per) := hc 4 _ rfl
          have k5 : wr.cell? ⟨B, off + i * 8 + 5, none⟩ = some (.string x.item) := hc 5 _ rfl
          have k6 : wr.cell? ⟨B, off + i * 8 + 6, none⟩ = some (.int .i64 x.val) := hc 6 _ rfl
          have k7 : wr.cell? ⟨B, off + i * 8 + 7, none⟩ = some (.string x.txt) := hc 7 _ rfl
          have hbx : Below wr.heap.size wr (wr.alloc (.cells (evC x).toArray 41)) := (Below.refl _ _).alloc (Nat.le_refl _) _
          have htx := H.out.2.2.2.1 x (HZ.out.1.mem_iff.1 (List.mem_of_getElem? hx))
          have hfm := fmt_any htx _ ((H.out.1.bel HT.out.bl).bel hbx)
          unfold evV at hfm
          have HFM := Lib.hid hfm
          have HX := Lib.hid (And.intro hx (And.intro (fmt_len htx).1 (show (txtT (z.take i)).size ≤ 301 * i by
            have := txt_len (z.take i) (fun e he => H.out.2.2.2.1 e (HZ.out.1.mem_iff.1 (List.mem_of_mem_take he)))
            rw [List.length_take] at this
            have h2 : min i z.length ≤ i := Nat.min_le_left _ _
            omega)))
          have HBX := Lib.hid hbx
          have hi0' : (0 : Int) ≤ (i : Int) := by omega
          have hi1 : (i : Int) < (n : Int) := by omega
          clear hc hx hfm hbx htx
          go_wp2_with fail
          refine HFM.out.mono ?_
          rintro e w5 ⟨rfl, b5⟩
          have HT5 := Lib.hid (HT.out.bel (HBX.out.trans (b5.mono HBX.out.size)))
          clear k0 k1 k2 k3 k4 k5 k6 k7 HFM b5 HBX
          go_wp2_with fail
          refine (Bd.wstr_any bb bb _ (fmtE x) w5 HT5.out.bd (by have := HX.out; rw [Lib.byteCells_length]; simp only [ByteArray.size] at this ⊢; simp only [Array.length_toList]; omega) HT5.out.lo.2).mono ?_
          rintro e w6 ⟨rfl, h6, b6, k6⟩
          have H6 := Lib.hid (And.intro h6 (And.intro b6 k6))
          clear h6 b6 k6
          go_wp2_with fail
          refine (Bd.wbyte_any bb bb _ 10 w6 (.inr H6.out.1) (by have := HX.out; rw [List.length_append, Lib.byteCells_length, Lib.strCells_length]; simp only [ByteArray.size] at this ⊢; simp only [Array.length_toList]; omega) (Nat.le_trans HT5.out.lo.2 H6.out.2.1.size)).mono ?_
          rintro e w7 ⟨rfl, h7, b7, k7⟩
          have HT7 := Lib.hid (HT5.out.line HX.out.1 H6.out.1 H6.out.2.1 H6.out.2.2 h7 b7 k7)
          clear h7 b7 k7 H6 HT5
          go_wp2_with fail
          go_roundw
          case rel => exact ⟨i + 1, by omega, by go_num, HT7⟩
          case measure => simp [intOf]; omega
        · have e1 : z.take i = z := List.take_of_length_le (by have := HZ.out.2.2; omega)
          have hbd := HT.out.bd
          rw [e1] at hbd
          have hst := Tryd.Builder_String_any bb bb _ wr hbd HT.out.lo.2
          have HST := Lib.hid hst
          clear hbd hst e1
          go_wp2_with fail
          refine HST.out.mono ?_
          rintro e w9 ⟨rfl, b9⟩
          have HB9 := Lib.hid (HT.out.bl.trans (b9.mono HT.out.lo.1))
          clear b9 HST
          go_wp2_with fail
          go_ret
          exact ⟨z, rfl, HZ.out.1, HZ.out.2.1, HB9.out⟩
end Tl
end Go.Proofs.YtbhghelegonbbaaDoor
namespace Go.Proofs.YtbhghelegonbbaaDoor
open Go.RowKit Go.MapKept Go.Maps
set_option linter.unusedVariables false
set_option linter.unusedSimpArgs false
namespace Tl
open Es Rk
set_option maxHeartbeats 4000000 in
set_option maxRecDepth 100000 in
theorem grow_any (n : Nat) (w : World) (hn : n ≤ 1000) : Calls Tryd.prog 46 #[.slice none 0 0, .int .i64 n] w fun e w' => ∃ b cap, e = .returned (.slice b 0 cap) ∧ MkG 41 8 evC w w' (.slice b 0 cap) [] := by
  obtain ⟨i0, hi0, hz0, hs0, hb0⟩ := tinfo infoEv
  by_cases h0 : n = 0
  · subst h0
    clear hi0 hz0 hs0 hb0
    go_enter Tryd.func46, Tryd.ntmps46
    go_wp2_with fail
    go_ret
    exact ⟨_, _, rfl, MkG.nil w⟩
  · have hold : (Builtin.firstCells i0.size 0 (.slice none 0 0)).run Tryd.prog w.drew = .ok ([] : List Value).toArray w.drew := run_firstCells_none w.drew i0.size 0 0 0
    have hG := grownCap_ge w (0 + n) 0 41
    have hGm := grownCap_le_maxLen w (0 + n) 0 41 (by unfold maxLen; omega)
    have hrz := fun ty => Lib.run_append_grow_zeros w 23 3 ty 41 i0 _ .i64 .i64 Tryd.underlying23 Tryd.underlying3 hi0 hz0 none 0 0 [] hold n (by omega) (by omega) (by omega) (by omega) (by rw [hb0]; omega) (growslice_fits (by omega) (by rw [hb0]; omega))
    generalize grownCap w (0 + n) 0 41 = G at hG hGm hrz
    rw [Nat.zero_add] at hrz hG
    obtain ⟨C, hC⟩ : ∃ C : Array Value, C = ([] : List Value).toArray ++ Builtin.zeroCells (Value.agg (evC ev0).toArray).cells n ++ Builtin.zeroCells (Value.agg (evC ev0).toArray).cells (G - n) := ⟨_, rfl⟩
    rw [← hC] at hrz
    have hsz : C.size = G * 8 := by
      rw [hC]
      have hz8 : (Value.agg (evC ev0).toArray).cells.size = 8 := rfl
      simp only [Array.size_append, List.size_toArray, size_zeroCells, hz8, List.length_nil]
      omega
    have HR : Hid (MkG 41 8 evC w (w.drew.alloc (.cells C 41)) (.slice (some ⟨w.heap.size, 0, none⟩) 0 G) []) := Lib.hid
      ⟨⟨by simp, .inr ⟨w.heap.size, G, C, rfl, Nat.zero_le _, (heap_alloc w.drew _).1, Nat.zero_le _, hGm, hsz, by simp⟩⟩, own_at (Nat.le_refl _), ((Below.refl _ _).drew).alloc (Nat.le_refl _) _⟩
    have hn0 : ¬ (n : Int) < 0 := by omega
    have hn1 : (0 : Int) < (n : Int) := by omega
    have hG63 : G ≤ 9223372036854775807 := by unfold maxLen at hGm; omega
    clear hold hi0 hz0 hs0 hb0 hC hsz hGm
    go_enter Tryd.func46, Tryd.ntmps46
    go_wp2_with (at_builtin; refine Lib.wpList_append_run _ rfl _ _ _ _ rfl _ _ rfl rfl _ _ (hrz _) ?_)
    all_goals (go_ret; exact ⟨_, _, rfl, HR.out⟩)
set_option maxHeartbeats 4000000 in
set_option maxRecDepth 100000 in
theorem concat_any (P0 : Nat) (b1 b2 : Option Addr) (n1 n2 c1 c2 : Nat) (x y : List Ev) (w : World) (hP : Bk w P0 [.slice b1 n1 c1, .slice b2 n2 c2] 23) (h1 : InW w b1 8 (x.map evC)) (h2 : InW w b2 8 (y.map evC)) (hn1 : n1 = x.length) (hn2 : n2 = y.length) (hs : n1 + n2 ≤ 1000) :
    Calls Tryd.prog 27 #[.slice (some ⟨P0, 0, none⟩) 2 2] w fun e w' => ∃ v, e = .returned v ∧ MkG 41 8 evC w w' v (x ++ y) := by
  obtain ⟨iE, hiE, hzE, hsE, hbE⟩ := tinfo infoEv
  have H := Lib.hid (And.intro hP (And.intro h1 (And.intro h2 (And.intro hn1 hn2))))
  have p0 : w.cell? ⟨P0, 0, none⟩ = some (.slice b1 n1 c1) := hP.cell 0
  have p1 : w.cell? ⟨P0, 1, none⟩ = some (.slice b2 n2 c2) := hP.cell 1
  clear hP h1 h2 hn1 hn2
  go_enter Tryd.func27, Tryd.ntmps27
  go_wp2_with fail
  go_loopg [3, 11] 2 (fun g s c wr => w = wr ∧ ((s = .int .i64 0 ∧ c = .int .i64 0 ∧ 2 ≤ g) ∨ (s = .int .i64 n1 ∧ c = .int .i64 1 ∧ 1 ≤ g) ∨ (s = .int .i64 (n1 + n2 : Nat) ∧ c = .int .i64 2)))
  case atStart => exact ⟨rfl, .inl ⟨rfl, rfl, Nat.le_refl _⟩⟩
  case round =>
    obtain ⟨rfl, hr⟩ := hrel
    rcases hr with ⟨rfl, rfl, hg⟩ | ⟨rfl, rfl, hg⟩ | ⟨rfl, rfl⟩
    · have hn0 : ¬ (n1 : Int) < 0 := by omega
      go_wp2_with fail
      go_roundg 1
      case measure => omega
      case rel => exact ⟨rfl, .inr (.inl ⟨by first | rfl | simp, rfl, Nat.le_refl _⟩)⟩
    · have hn0 : ¬ ((n1 : Int) + (n2 : Int)) < 0 := by omega
      go_wp2_with fail
      go_roundg 0
      case measure => omega
      case rel => exact ⟨rfl, .inr (.inr ⟨by first | rfl | (push_cast; rfl), rfl⟩)⟩
    · have HGR := Lib.hid (grow_any (n1 + n2) w hs)
      go_wp2_with fail
      refine HGR.out.mono ?_
      rintro e w1 ⟨b3, c3, rfl, m3⟩
      have HM3 := Lib.hid m3
      clear m3 HGR p0 p1
      go_wp2_with fail
      go_loopg [6, 27] 2 (fun g u c wr => (c = .int .i64 0 ∧ 2 ≤ g ∧ Hid (MkG 41 8 evC w wr u [])) ∨ (c = .int .i64 1 ∧ 1 ≤ g ∧ Hid (MkG 41 8 evC w wr u x)) ∨ (c = .int .i64 2 ∧ Hid (MkG 41 8 evC w wr u (x ++ y))))
      case atStart => exact .inl ⟨rfl, Nat.le_refl _, HM3⟩
      case round =>
        clear HM3
        rcases hrel with ⟨rfl, hg, HM⟩ | ⟨rfl, hg, HM⟩ | ⟨rfl, HM⟩
        · have q0 : wr.cell? ⟨P0, 0, none⟩ = some (.slice b1 n1 c1) := (H.out.1.bel HM.out.bl).cell 0
          have HI := Lib.hid (H.out.2.1.bel HM.out.bl)
          have HL : Hid (([] : List Ev).length + x.length ≤ 1000000) := Lib.hid (by have := H.out.2.2.2.1; simp; omega)
          go_wp2_with (at_builtin; refine wpList_append_m evLen evOne _ rfl _ _ _ rfl 41 iE _ 96 Tryd.underlying23 hiE hzE hsE hbE rfl (by decide) (by omega) u6 [] x rfl HM.out.tx b1 n1 c1 rfl H.out.2.2.2.1 HI.out HL.out ?_; intro v4 w4 o4 f4 h4)
          have M4 := Lib.hid (HM.out.more o4 f4 h4)
          clear o4 f4 h4 HM HI HL q0
          go_wp2_with fail
          go_roundg 1
          case measure => omega
          case rel => exact .inr (.inl ⟨rfl, Nat.le_refl _, M4⟩)
        · have q0 : wr.cell? ⟨P0, 1, none⟩ = some (.slice b2 n2 c2) := (H.out.1.bel HM.out.bl).cell 1
          have HI := Lib.hid (H.out.2.2.1.bel HM.out.bl)
          have HL : Hid (x.length + y.length ≤ 1000000) := Lib.hid (by have := H.out.2.2.2; omega)
          go_wp2_with (at_builtin; refine wpList_append_m evLen evOne _ rfl _ _ _ rfl 41 iE _ 96 Tryd.underlying23 hiE hzE hsE hbE rfl (by decide) (by omega) u6 x y rfl HM.out.tx b2 n2 c2 rfl H.out.2.2.2.2 HI.out HL.out ?_; intro v4 w4 o4 f4 h4)
          have M4 := Lib.hid (HM.out.more o4 f4 h4)
          clear o4 f4 h4 HM HI HL q0
          go_wp2_with fail
          go_roundg 0
          case measure => omega
          case rel => exact .inr (.inr ⟨rfl, M4⟩)
        · go_wp2_with fail
          go_ret
          exact ⟨_, rfl, HM.out⟩
end Tl
end Go.Proofs.YtbhghelegonbbaaDoor
namespace Go.Proofs.YtbhghelegonbbaaDoor
open Go.RowKit Go.MapKept Go.Maps
set_option linter.unusedVariables false
set_option linter.unusedSimpArgs false
namespace Tl
open Es Rk
def mbL (l : List Ev) : List ((ByteArray × Int) × Value) := l.map fun e => (idE e, .bool true)
theorem mb_new {l : List Ev} {x : Ev} (h : idE x ∉ l.map idE) : mput (mbL l) (idE x) (.bool true) = mbL (l ++ [x]) ∧ mget (mbL l) (idE x) = none := by
  have hno : ∀ p ∈ mbL l, p.1 ≠ idE x := by
    intro p hp c
    obtain ⟨e, he, rfl⟩ := List.mem_map.1 hp
    exact h (List.mem_map.2 ⟨e, he, c⟩)
  refine ⟨?_, ?_⟩
  · rw [mput_none hno]; simp [mbL]
  · cases hg : mget (mbL l) (idE x) with
    | none => rfl
    | some v => exact absurd rfl (hno _ (mem_of_get hg))
theorem cE_one {x y : Ev} (h : LTE y x) : cE x y = 1 := by
  have e1 : ∀ a b : Int, b < a → cI a b = 1 := fun a b h => by unfold cI; rw [if_neg (by omega), if_pos h]
  have e0 : ∀ a : Int, cI a a = 0 := fun a => by unfold cI; rw [if_neg (by omega), if_neg (by omega)]
  have b1 : ∀ a b : ByteArray, ltB b a → cB a b = 1 := fun a b h => by rw [cB_eq, if_neg (ltB_asymm h), if_pos h]
  have b0 : ∀ a : ByteArray, cB a a = 0 := fun a => by rw [cB_eq, if_neg (ltB_irrefl _), if_neg (ltB_irrefl _)]
  unfold cE
  rcases h with h | ⟨h, h' | ⟨h', h''⟩⟩
  · rw [e1 _ _ h]; rfl
  · rw [h, e0, b1 _ _ h']; rfl
  · rw [h, h', e0, b0, e1 _ _ h'']; rfl
set_option maxRecDepth 100000 in
set_option maxHeartbeats 8000000 in
theorem wrong_nil (g6 cap : Nat) (b : Option Addr) (x : Ev) (w : World) (hm : Mp encI okI w g6 (mbL [])) (hx : EvOk x) :
    Calls Tryd.prog 20 #[.slice b 0 cap, .map (some g6), evV x] w fun e w' => e = .returned (.int .i64 0) ∧ Below w.heap.size w w' := by
  have HB0 := Lib.hid ((Below.refl w.heap.size w).alloc (Nat.le_refl _) (.cells (evC x).toArray 41))
  have HM := Lib.hid (hm.bel HB0.out)
  have HOK := Lib.hid (ev_okI hx)
  unfold evV
  clear hm hx
  go_enter Tryd.func20, Tryd.ntmps20
  go_wp2_with fail
  go_quiet (fail)
  go_wp2_with (first
    | ((with_reducible show wpList _ _ _ (Oper.mk _ (Op.lookup _ _ _ _) _ _ _ _ :: _) _ _); refine wpList_look rfl _ _ rfl KX.key Tryd.underlying61 (z := .bool false) (by kernel_rfl) (HM.out.bel (bdrewN (Below.refl _ _) _)) rfl (idE x) rfl HOK.out (.bool false) rfl ?_)
    | fail)
  go_ret
  exact ⟨rfl, bdrewN HB0.out _⟩
set_option maxRecDepth 100000 in
set_option maxHeartbeats 8000000 in
theorem wrong_more (g6 cap m : Nat) (b : Option Addr) (l : List Ev) (x y : Ev) (w : World) (hi : InW w b 8 (l.map evC)) (hl : l.length = m + 1) (hc : m + 1 ≤ cap) (hm60 : m < 60) (hy : l[m]? = some y) (hlt : LTE y x) (hm : Mp encI okI w g6 (mbL l)) (hno : idE x ∉ l.map idE) (hx : EvOk x) (hyo : EvOk y) :
    Calls Tryd.prog 20 #[.slice b (m + 1) cap, .map (some g6), evV x] w fun e w' => e = .returned (.int .i64 0) ∧ Below w.heap.size w w' := by
  have hb0 := (Below.refl w.heap.size w).alloc (Nat.le_refl _) (.cells (evC x).toArray 41)
  have HB0 := Lib.hid hb0
  have HM := Lib.hid hm
  have HOK := Lib.hid (ev_okI hx)
  have HG : Hid ((mget (mbL l) (idE x)).getD (.bool false) = .bool false) := Lib.hid (by rw [(mb_new hno).2]; rfl)
  have HC : Hid (∀ W, Calls Tryd.prog 16 #[evV x, evV y] W fun e w' => e = .returned (.int .i64 1) ∧ Below W.heap.size W w') := Lib.hid (fun W => by
    have k := ecmp_any x y W hx hyo
    rw [cE_one hlt] at k
    exact k)
  obtain ⟨B, off, rfl, hB, hcc⟩ := inw_row hi hy
  obtain ⟨V, hV⟩ : ∃ V, V = w.alloc (.cells (evC x).toArray 41) := ⟨_, rfl⟩
  have HS : Hid (∀ W, Below V.heap.size V W → W.cell? ⟨w.heap.size, 0, none⟩ = some (.string x.src) ∧ W.cell? ⟨w.heap.size, 1, none⟩ = some (.int .i64 x.num) ∧ W.cell? ⟨w.heap.size, 2, none⟩ = some (.int .i64 x.at_) ∧ W.cell? ⟨w.heap.size, 3, none⟩ = some (.int .i64 x.kind) ∧ W.cell? ⟨w.heap.size, 4, none⟩ = some (.string x.per) ∧ W.cell? ⟨w.heap.size, 5, none⟩ = some (.string x.item) ∧ W.cell? ⟨w.heap.size, 6, none⟩ = some (.int .i64 x.val) ∧ W.cell? ⟨w.heap.size, 7, none⟩ = some (.string x.txt) ∧ W.cell? ⟨B, off + m * 8, none⟩ = some (.string y.src) ∧ W.cell? ⟨B, off + m * 8 + 1, none⟩ = some (.int .i64 y.num) ∧ W.cell? ⟨B, off + m * 8 + 2, none⟩ = some (.int .i64 y.at_) ∧ W.cell? ⟨B, off + m * 8 + 3, none⟩ = some (.int .i64 y.kind) ∧ W.cell? ⟨B, off + m * 8 + 4, none⟩ = some (.string y.per) ∧ W.cell? ⟨B, off + m * 8 + 5, none⟩ = some (.string y.item) ∧ W.cell? ⟨B, off + m * 8 + 6, none⟩ = some (.int .i64 y.val) ∧ W.cell? ⟨B, off + m * 8 + 7, none⟩ = some (.string y.txt)) := Lib.hid (fun W hW => by
    rw [hV] at hW
    have q := (Bk.new w (evC x) 41).bel hW
    have hw : Below w.heap.size w W := hb0.trans (hW.mono hb0.size)
    have c := hcc W hw
    exact ⟨q.cell 0, q.cell 1, q.cell 2, q.cell 3, q.cell 4, q.cell 5, q.cell 6, q.cell 7, c 0 _ rfl, c 1 _ rfl, c 2 _ rfl, c 3 _ rfl, c 4 _ rfl, c 5 _ rfl, c 6 _ rfl, c 7 _ rfl⟩)
  have HMV : Hid (Mp encI okI V g6 (mbL l)) := Lib.hid (by rw [hV]; exact HM.out.bel hb0)
  have HVB : Hid (Below w.heap.size w V) := Lib.hid (by rw [hV]; exact hb0)
  have m0 : (0 : Int) < ((m + 1 : Nat) : Int) := by omega
  have m1 : (((m + 1 : Nat) : Int) - 1) = (m : Int) := by omega
  have m2 : (m : Int) < ((m + 1 : Nat) : Int) := by omega
  have m3 : (m : Int) < (m : Int) + 1 := by omega
  have m4 : (0 : Int) ≤ (m : Int) := by omega
  have mw : IntKind.i64.wrap ((m : Int) + 1 - 1) = (m : Int) := by rw [show (m : Int) + 1 - 1 = (m : Int) by omega]; exact IntWalk.i64_in _ (by omega)
  have mw2 : IntKind.i64.wrap (m : Int) = (m : Int) := IntWalk.i64_in _ (by omega)
  unfold evV at HC ⊢
  clear hi hl hm hno hx hyo hlt hcc hb0 hB
  go_enter Tryd.func20, Tryd.ntmps20
  go_wp2_with fail
  have hV' : w.alloc (.cells #[.string x.src, .int .i64 x.num, .int .i64 x.at_, .int .i64 x.kind, .string x.per, .string x.item, .int .i64 x.val, .string x.txt] 41) = V := hV.symm
  rw [hV']
  clear hV hV'
  go_region_held3 (fun W => W.cell? ⟨w.heap.size, 0, none⟩ = some (.string x.src) ∧ W.cell? ⟨w.heap.size, 1, none⟩ = some (.int .i64 x.num) ∧ W.cell? ⟨w.heap.size, 2, none⟩ = some (.int .i64 x.at_) ∧ W.cell? ⟨w.heap.size, 3, none⟩ = some (.int .i64 x.kind) ∧ W.cell? ⟨w.heap.size, 4, none⟩ = some (.string x.per) ∧ W.cell? ⟨w.heap.size, 5, none⟩ = some (.string x.item) ∧ W.cell? ⟨w.heap.size, 6, none⟩ = some (.int .i64 x.val) ∧ W.cell? ⟨w.heap.size, 7, none⟩ = some (.string x.txt) ∧ W.cell? ⟨B, off + m * 8, none⟩ = some (.string y.src) ∧ W.cell? ⟨B, off + m * 8 + 1, none⟩ = some (.int .i64 y.num) ∧ W.cell? ⟨B, off + m * 8 + 2, none⟩ = some (.int .i64 y.at_) ∧ W.cell? ⟨B, off + m * 8 + 3, none⟩ = some (.int .i64 y.kind) ∧ W.cell? ⟨B, off + m * 8 + 4, none⟩ = some (.string y.per) ∧ W.cell? ⟨B, off + m * 8 + 5, none⟩ = some (.string y.item) ∧ W.cell? ⟨B, off + m * 8 + 6, none⟩ = some (.int .i64 y.val) ∧ W.cell? ⟨B, off + m * 8 + 7, none⟩ = some (.string y.txt))
    (first | assumption | (refine HS.out _ ?_; repeat (first | assumption | exact Below.refl _ _ | refine Below.drew ?_ | refine bel_alloc' ?_ _)))
    (first
      | (go_at_call 16
         (with_reducible refine (HC.out _).mono ?_)
         rintro e wx ⟨rfl, bx'⟩
         have bx : Below V.heap.size V wx := (Below.refl V.heap.size V).drew.trans bx'
         clear bx')
      | fail)
  all_goals
    obtain ⟨e0, e1, _⟩ := HS.out wx bx
    have BX := Lib.hid bx
    have t9 : ¬ (1048576 : Int) ≤ (m : Int) + 1 := by omega
    clear m0 m1 m2 m3 m4 mw mw2 HS HC bx
    go_wp2_with (first
      | ((with_reducible show wpList _ _ _ (Oper.mk _ (Op.lookup _ _ _ _) _ _ _ _ :: _) _ _); refine wpList_look rfl _ _ rfl KX.key Tryd.underlying61 (z := .bool false) (by kernel_rfl) (HMV.out.bel BX.out) rfl (idE x) rfl HOK.out (.bool false) HG.out ?_)
      | fail)
    go_ret
    exact ⟨rfl, HVB.out.trans (BX.out.mono HVB.out.size)⟩
end Tl
end Go.Proofs.YtbhghelegonbbaaDoor
namespace Go.Proofs.YtbhghelegonbbaaDoor
open Go.RowKit Go.MapKept Go.Maps
set_option linter.unusedVariables false
set_option linter.unusedSimpArgs false
namespace Tl
open Es Rk
theorem finI {fn : Func} {tmps : Array Value} {w : World} (h : fn.results = #[.tmp 2, .tmp 3, .tmp 4]) : (results fn tmps).run Tryd.prog w = .ok (.tuple #[tmps.getD 2 undef, tmps.getD 3 undef, tmps.getD 4 undef]) w := by
  simp [results, h, Result.andThen]
theorem jump_ret' {l : Nat} {J : Act → World → Prop} {Q : Exit → Act → World → Prop} {a : Act} {w : World} (h : Q .ret a w) : Exit.jump l J Q .ret a w := h
def strLen : Value → Nat
  | .string s => s.size
  | _ => 0
set_option maxRecDepth 100000 in
set_option maxHeartbeats 8000000 in
theorem import_any (L : List Ev) (w : World) (hG : Glob w) (hT : ∀ e ∈ L, TaleEv e) (hS : Srt ltE L) (hnd : (L.map idE).Nodup) (hn : L.length < 60) :
    Calls Tryd.prog 8 #[.string (txtT L)] w fun e w' => ∃ b cap, e = .returned (.tuple #[.slice b L.length cap, .int .i64 0, .int .i64 0]) ∧ MkG 41 8 evC w w' (.slice b L.length cap) L := by
  have HL := Lib.hid (And.intro hG (And.intro hT (And.intro hS (And.intro hnd hn))))
  clear hG hT hS hnd hn
  go_enter Tryd.func8, Tryd.ntmps8
  go_wp2_with fail
  refine wp_scope_jumps 0 (fun a' w' => ∃ (rem done : List Ev) (b5 : Option Addr) (n5 c5 : Nat) (u2 u7 u8 u9 u10 u11 u12 u13 u14 u15 u16 u17 u18 u19 u20 u21 u22 u23 u24 u25 u26 u27 u28 u29 u30 u31 u32 u33 u34 u35 u36 u37 u38 u39 u40 u41 u42 u43 u44 u45 u46 u47 u48 u49 u50 u51 : Value), a' = { tmps := #[.string (txtT rem), undef, u2, .int .i64 0, .int .i64 0, .slice b5 n5 c5, .map (some w.heap.size), u7, u8, u9, u10, u11, u12, u13, u14, u15, u16, u17, u18, u19, u20, u21, u22, u23, u24, u25, u26, u27, u28, u29, u30, u31, u32, u33, u34, u35, u36, u37, u38, u39, u40, u41, u42, u43, u44, u45, u46, u47, u48, u49, u50, u51], defers := [] } ∧ Hid (done ++ rem = L ∧ n5 = done.length ∧ MkG 41 8 evC w w' (.slice b5 n5 c5) done ∧ Mp encI okI w' w.heap.size (mbL done))) (fun a' _ => strLen (a'.tmps.getD 0 undef)) rfl ?_ ?_
  · have hmm := @run_makeMap Tryd.prog
    go_upto_region 3 with fail
    clear hmm
    obtain ⟨rem, hrem⟩ : ∃ rem, rem = L := ⟨_, rfl⟩
    obtain ⟨done, hdone⟩ : ∃ done : List Ev, done = [] := ⟨_, rfl⟩
    obtain ⟨b5, hb5⟩ : ∃ b5 : Option Addr, b5 = none := ⟨_, rfl⟩
    obtain ⟨n5, hn5⟩ : ∃ n5 : Nat, n5 = 0 := ⟨_, rfl⟩
    obtain ⟨c5, hc5⟩ : ∃ c5 : Nat, c5 = 0 := ⟨_, rfl⟩
    have H : Hid (done ++ rem = L ∧ n5 = done.length ∧ MkG 41 8 evC w (w.alloc (.map #[] 0)) (.slice b5 n5 c5) done ∧ Mp encI okI (w.alloc (.map #[] 0)) w.heap.size (mbL done)) := Lib.hid (by
      subst hrem hdone hb5 hn5 hc5
      exact ⟨rfl, rfl, (MkG.nil w).alloc _, Mp.made w⟩)
    generalize w.alloc (.map #[] 0) = wr at H ⊢
    rw [show (Value.slice none 0 0) = Value.slice b5 n5 c5 by rw [hb5, hn5, hc5], show txtT L = txtT rem by rw [hrem]]
    clear hrem hdone hb5 hn5 hc5
    go_step3
    cases rem with
    | nil =>
      have hE : (txtT []).toList.isEmpty = true := by rw [emptyB, decide_eq_true]; rfl
      have hd : done = L := by have := H.out.1; rwa [List.append_nil] at this
      have hm := H.out.2.2.1
      have hn5 := H.out.2.1
      rw [hd] at hm hn5
      subst hn5
      have HF := Lib.hid hm
      clear hd hm H
      generalize txtT [] = s0 at hE ⊢
      go_wp2_with fail
      refine jump_ret' ?_
      exact bodyPost_ret (finI rfl) rfl ⟨b5, c5, rfl, HF.out⟩
    | cons x r =>
      have hx : TaleEv x := HL.out.2.1 x (by rw [← H.out.1]; simp)
      have hE : (txtT (x :: r)).toList.isEmpty = false := by
        rw [emptyB, decide_eq_false]
        intro c
        have := congrArg (fun s : ByteArray => s.data.toList) c
        simp only [txt_cons] at this
        simp [emp] at this
      have hsz : (txtT (x :: r)).size ≤ 301 * 60 := by
        have h1 := txt_len (x :: r) (fun e he => HL.out.2.1 e (by rw [← H.out.1]; exact List.mem_append_right _ he))
        have h2 := congrArg List.length H.out.1
        have h3 := HL.out.2.2.2.2
        rw [List.length_append] at h2
        have h4 : 301 * (x :: r).length ≤ 301 * 60 := Nat.mul_le_mul_left _ (by omega)
        omega
      have HGW := Lib.hid (HL.out.1.bel H.out.2.2.1.bl)
      have HC := Lib.hid (cut_any (txtT (x :: r)) ⟨#[10]⟩ (fmtE x) (txtT r) wr HGW.out (by omega) (txt_cut hx r))
      have HPA : Hid (∀ W, Below wr.heap.size wr W → Calls Tryd.prog 19 #[.string (fmtE x)] W fun r w' => r = .returned (.tuple #[evV x, .int .i64 0]) ∧ Below W.heap.size W w') := Lib.hid (fun W hW => evparse_any hx W (HGW.out.bel hW))
      have HMS : Hid ((txtT r).size < (txtT (x :: r)).size) := Lib.hid (by
        have := congrArg List.length (txt_cons x r)
        simp only [List.length_append, List.length_cons, Array.length_toList] at this
        simp only [ByteArray.size]
        omega)
      have hno : idE x ∉ done.map idE := fun c => by
        have h1 := HL.out.2.2.2.1
        rw [← H.out.1, List.map_append, List.nodup_append] at h1
        exact h1.2.2 _ c (idE x) (by simp) rfl
      have hdl : done.length < 60 := by
        have h2 := congrArg List.length H.out.1
        have h3 := HL.out.2.2.2.2
        rw [List.length_append, List.length_cons] at h2
        omega
      have HW : Hid (∀ W, Below wr.heap.size wr W → Calls Tryd.prog 20 #[.slice b5 n5 c5, .map (some w.heap.size), evV x] W fun e w' => e = .returned (.int .i64 0) ∧ Below W.heap.size W w') := Lib.hid (fun W hW => by
        obtain ⟨h1, h2, h3, h4⟩ := H.out
        obtain ⟨bq, cq, hq, hq1, _, hq2⟩ := h3.read evLen (by decide)
        simp only [Value.slice.injEq] at hq
        obtain ⟨hqa, hqb, hqc⟩ := hq
        subst hqa hqc
        rcases List.eq_nil_or_concat done with hd | ⟨d, y, hd⟩
        · subst hd
          subst h2
          exact wrong_nil w.heap.size c5 b5 x W (h4.bel hW) (tale_ok hx)
        · rw [List.concat_eq_append] at hd
          have hdlen : done.length = d.length + 1 := by rw [hd]; simp
          rw [hdlen] at h2 hq1
          subst h2
          have hyd : done[d.length]? = some y := by rw [hd]; simp
          have hym : y ∈ L := by rw [← h1, hd]; simp
          have hlt : LTE y x := by
            have hs := HL.out.2.2.1
            rw [← h1, hd] at hs
            have hp := List.pairwise_append.1 hs
            have h5 : ltE x y = false := hp.2.2 y (by simp) x (by simp)
            have hk : keyE y ≠ keyE x := fun c => by
              have i1 : y.src = x.src := congrArg (fun z => z.2.1) c
              have i2 : y.num = x.num := congrArg (fun z => z.2.2) c
              refine hno ?_
              rw [hd]
              refine List.mem_map.2 ⟨y, by simp, ?_⟩
              unfold idE
              rw [i1, i2]
            exact (LTE_total hk).resolve_right (ltE_no.1 h5)
          exact wrong_more w.heap.size c5 d.length b5 done x y W (hq2.bel hW) hdlen hq1 (by omega) hyd hlt (h4.bel hW) hno (tale_ok hx) (tale_ok (HL.out.2.1 y hym)))
      have HOK := Lib.hid (ev_okI (tale_ok hx))
      have HNO := Lib.hid (And.intro hno hdl)
      obtain ⟨s0, hs0⟩ : ∃ s0, txtT (x :: r) = s0 := ⟨_, rfl⟩
      obtain ⟨s1, hs1⟩ : ∃ s1, txtT r = s1 := ⟨_, rfl⟩
      have HS1 := Lib.hid hs1
      rw [hs0] at hE HC HMS ⊢
      rw [hs1] at HC
      unfold evV at HPA HW
      obtain ⟨iE, hiE, hzE, hsE, hbE⟩ := tinfo infoEv
      clear hx hsz hno hdl hs0 hs1
      go_wp2_with fail
      refine HC.out.mono ?_
      rintro e w1 ⟨rfl, b1⟩
      have HB1 := Lib.hid b1
      clear b1 HC
      go_wp2_with fail
      refine (HPA.out w1 HB1.out).mono ?_
      rintro e w2 ⟨rfl, b2⟩
      have HB2 : Hid (Below wr.heap.size wr (w2.alloc (.cells (evC x).toArray 41))) := Lib.hid ((HB1.out.trans (b2.mono HB1.out.size)).alloc (Nat.le_trans HB1.out.size b2.size) _)
      have HBX := Lib.hid (Bk.new w2 (evC x) 41)
      clear b2 HPA HB1
      go_wp2_with fail
      refine (HW.out _ HB2.out).mono ?_
      rintro e w3 ⟨rfl, b3⟩
      have HB3 : Hid (Below wr.heap.size wr w3) := Lib.hid (HB2.out.trans (b3.mono HB2.out.size))
      have hbx := HBX.out.bel b3
      have HBX3 := Lib.hid hbx
      have d0 : w3.cell? ⟨w2.heap.size, 0, none⟩ = some (.string x.src) := hbx.cell 0
      have d1 : w3.cell? ⟨w2.heap.size, 1, none⟩ = some (.int .i64 x.num) := hbx.cell 1
      clear b3 HB2 HBX HW hbx
      go_upto_region 14 with (first
        | (at_mapUpdate; refine wpList_store rfl _ _ _ rfl KX.key Tryd.underlying61 (H.out.2.2.2.bel HB3.out) rfl (idE x) rfl HOK.out (.bool true) rfl ?_; intro w6 m6 f6 z6)
        | fail)
      have hmp3 := H.out.2.2.2.bel HB3.out
      have HM6 : Hid (MkG 41 8 evC w w6 (.slice b5 n5 c5) done) := Lib.hid ⟨f6.row (H.out.2.2.1.bel HB3.out).tx (fun b hb e => own_apart_map (H.out.2.2.1.bel HB3.out).tx hmp3 (by rw [hb]; exact congrArg some e)), H.out.2.2.1.nw, (H.out.2.2.1.bel HB3.out).bl.trans (f6.below (H.out.2.2.1.bel HB3.out).bl.size (fun b e => by have e' : b = w.heap.size := e; rw [e']; exact Nat.le_refl _))⟩
      have hbx6 := HBX3.out.fr f6 (bk_apart_map HBX3.out hmp3)
      have MP6 : Hid (Mp encI okI w6 w.heap.size (mbL (done ++ [x]))) := Lib.hid (by rw [← (mb_new HNO.out.1).1]; exact m6)
      have d0 : w6.cell? ⟨w2.heap.size, 0, none⟩ = some (.string x.src) := hbx6.cell 0
      have d1 : w6.cell? ⟨w2.heap.size, 1, none⟩ = some (.int .i64 x.num) := hbx6.cell 1
      have d2 : w6.cell? ⟨w2.heap.size, 2, none⟩ = some (.int .i64 x.at_) := hbx6.cell 2
      have d3 : w6.cell? ⟨w2.heap.size, 3, none⟩ = some (.int .i64 x.kind) := hbx6.cell 3
      have d4 : w6.cell? ⟨w2.heap.size, 4, none⟩ = some (.string x.per) := hbx6.cell 4
      have d5 : w6.cell? ⟨w2.heap.size, 5, none⟩ = some (.string x.item) := hbx6.cell 5
      have d6 : w6.cell? ⟨w2.heap.size, 6, none⟩ = some (.int .i64 x.val) := hbx6.cell 6
      have d7 : w6.cell? ⟨w2.heap.size, 7, none⟩ = some (.string x.txt) := hbx6.cell 7
      have HM2 := Lib.hid (HM6.out.alloc (.cells (evC x).toArray 41))
      have HIN : Hid (InW (w6.alloc (.cells (evC x).toArray 41)) (some ⟨w6.heap.size, 0, none⟩) 8 ([x].map evC)) := Lib.hid (inw_one (f := evC) (x := x) (Bk.new w6 (evC x) 41))
      have HLN : Hid (done.length + [x].length ≤ 1000000) := Lib.hid (by have := HNO.out.2; simp; omega)
      clear m6 f6 z6 hmp3 hbx6 HBX3 HM6
      go_wp2_with (at_builtin; refine wpList_append_m evLen evOne _ rfl _ _ _ rfl 41 iE _ 96 Tryd.underlying23 hiE hzE hsE hbE rfl (by decide) (by omega) (.slice b5 n5 c5) done [x] rfl HM2.out.tx (some ⟨w6.heap.size, 0, none⟩) 1 1 rfl rfl HIN.out HLN.out ?_; intro v8 w8 o8 f8 h8)
      have hmp8 := (MP6.out.bel ((Below.refl w6.heap.size w6).alloc (Nat.le_refl _) (.cells (evC x).toArray 41)))
      have HMP8 := Lib.hid (hmp8.fr f8 (own_apart_map HM2.out.tx hmp8))
      have hm8 := HM2.out.more o8 f8 h8
      obtain ⟨b8, c8, hv8, _⟩ := hm8.read evLen (by decide)
      obtain ⟨n8, hn8⟩ : ∃ n8, (done ++ [x]).length = n8 := ⟨_, rfl⟩
      rw [hn8] at hv8
      subst hv8
      have HM8 := Lib.hid (And.intro hm8 hn8)
      clear o8 f8 h8 hmp8 hm8 hn8 HM2 HIN HLN d0 d1 d2 d3 d4 d5 d6 d7
      go_wp2_with fail
      go_step3
      rw [← HS1.out]
      exact ⟨rfl, r, done ++ [x], b8, n8, c8, _, _, _, _, _, _, _, _, _, _, _, _, _, _, _, _, _, _, _, _, _, _, _, _, _, _, _, _, _, _, _, _, _, _, _, _, _, _, _, _, _, _, _, _, _, _, rfl, Lib.hid ⟨by rw [List.append_assoc]; exact H.out.1, HM8.out.2.symm, HM8.out.1, HMP8.out⟩⟩
  · rintro a' wr ⟨rem, done, b5, n5, c5, u2, u7, u8, u9, u10, u11, u12, u13, u14, u15, u16, u17, u18, u19, u20, u21, u22, u23, u24, u25, u26, u27, u28, u29, u30, u31, u32, u33, u34, u35, u36, u37, u38, u39, u40, u41, u42, u43, u44, u45, u46, u47, u48, u49, u50, u51, rfl, H⟩
    cases rem with
    | nil =>
      have hE : (txtT []).toList.isEmpty = true := by rw [emptyB, decide_eq_true]; rfl
      have hd : done = L := by have := H.out.1; rwa [List.append_nil] at this
      have hm := H.out.2.2.1
      have hn5 := H.out.2.1
      rw [hd] at hm hn5
      subst hn5
      have HF := Lib.hid hm
      clear hd hm H
      generalize txtT [] = s0 at hE ⊢
      go_wp2_with fail
      refine jump_ret' ?_
      exact bodyPost_ret (finI rfl) rfl ⟨b5, c5, rfl, HF.out⟩
    | cons x r =>
      have hx : TaleEv x := HL.out.2.1 x (by rw [← H.out.1]; simp)
      have hE : (txtT (x :: r)).toList.isEmpty = false := by
        rw [emptyB, decide_eq_false]
        intro c
        have := congrArg (fun s : ByteArray => s.data.toList) c
        simp only [txt_cons] at this
        simp [emp] at this
      have hsz : (txtT (x :: r)).size ≤ 301 * 60 := by
        have h1 := txt_len (x :: r) (fun e he => HL.out.2.1 e (by rw [← H.out.1]; exact List.mem_append_right _ he))
        have h2 := congrArg List.length H.out.1
        have h3 := HL.out.2.2.2.2
        rw [List.length_append] at h2
        have h4 : 301 * (x :: r).length ≤ 301 * 60 := Nat.mul_le_mul_left _ (by omega)
        omega
      have HGW := Lib.hid (HL.out.1.bel H.out.2.2.1.bl)
      have HC := Lib.hid (cut_any (txtT (x :: r)) ⟨#[10]⟩ (fmtE x) (txtT r) wr HGW.out (by omega) (txt_cut hx r))
      have HPA : Hid (∀ W, Below wr.heap.size wr W → Calls Tryd.prog 19 #[.string (fmtE x)] W fun r w' => r = .returned (.tuple #[evV x, .int .i64 0]) ∧ Below W.heap.size W w') := Lib.hid (fun W hW => evparse_any hx W (HGW.out.bel hW))
      have HMS : Hid ((txtT r).size < (txtT (x :: r)).size) := Lib.hid (by
        have := congrArg List.length (txt_cons x r)
        simp only [List.length_append, List.length_cons, Array.length_toList] at this
        simp only [ByteArray.size]
        omega)
      have hno : idE x ∉ done.map idE := fun c => by
        have h1 := HL.out.2.2.2.1
        rw [← H.out.1, List.map_append, List.nodup_append] at h1
        exact h1.2.2 _ c (idE x) (by simp) rfl
      have hdl : done.length < 60 := by
        have h2 := congrArg List.length H.out.1
        have h3 := HL.out.2.2.2.2
        rw [List.length_append, List.length_cons] at h2
        omega
      have HW : Hid (∀ W, Below wr.heap.size wr W → Calls Tryd.prog 20 #[.slice b5 n5 c5, .map (some w.heap.size), evV x] W fun e w' => e = .returned (.int .i64 0) ∧ Below W.heap.size W w') := Lib.hid (fun W hW => by
        obtain ⟨h1, h2, h3, h4⟩ := H.out
        obtain ⟨bq, cq, hq, hq1, _, hq2⟩ := h3.read evLen (by decide)
        simp only [Value.slice.injEq] at hq
        obtain ⟨hqa, hqb, hqc⟩ := hq
        subst hqa hqc
        rcases List.eq_nil_or_concat done with hd | ⟨d, y, hd⟩
        · subst hd
          subst h2
          exact wrong_nil w.heap.size c5 b5 x W (h4.bel hW) (tale_ok hx)
        · rw [List.concat_eq_append] at hd
          have hdlen : done.length = d.length + 1 := by rw [hd]; simp
          rw [hdlen] at h2 hq1
          subst h2
          have hyd : done[d.length]? = some y := by rw [hd]; simp
          have hym : y ∈ L := by rw [← h1, hd]; simp
          have hlt : LTE y x := by
            have hs := HL.out.2.2.1
            rw [← h1, hd] at hs
            have hp := List.pairwise_append.1 hs
            have h5 : ltE x y = false := hp.2.2 y (by simp) x (by simp)
            have hk : keyE y ≠ keyE x := fun c => by
              have i1 : y.src = x.src := congrArg (fun z => z.2.1) c
              have i2 : y.num = x.num := congrArg (fun z => z.2.2) c
              refine hno ?_
              rw [hd]
              refine List.mem_map.2 ⟨y, by simp, ?_⟩
              unfold idE
              rw [i1, i2]
            exact (LTE_total hk).resolve_right (ltE_no.1 h5)
          exact wrong_more w.heap.size c5 d.length b5 done x y W (hq2.bel hW) hdlen hq1 (by omega) hyd hlt (h4.bel hW) hno (tale_ok hx) (tale_ok (HL.out.2.1 y hym)))
      have HOK := Lib.hid (ev_okI (tale_ok hx))
      have HNO := Lib.hid (And.intro hno hdl)
      obtain ⟨s0, hs0⟩ : ∃ s0, txtT (x :: r) = s0 := ⟨_, rfl⟩
      obtain ⟨s1, hs1⟩ : ∃ s1, txtT r = s1 := ⟨_, rfl⟩
      have HS1 := Lib.hid hs1
      rw [hs0] at hE HC HMS ⊢
      rw [hs1] at HC
      unfold evV at HPA HW
      obtain ⟨iE, hiE, hzE, hsE, hbE⟩ := tinfo infoEv
      clear hx hsz hno hdl hs0 hs1
      go_wp2_with fail
      refine HC.out.mono ?_
      rintro e w1 ⟨rfl, b1⟩
      have HB1 := Lib.hid b1
      clear b1 HC
      go_wp2_with fail
      refine (HPA.out w1 HB1.out).mono ?_
      rintro e w2 ⟨rfl, b2⟩
      have HB2 : Hid (Below wr.heap.size wr (w2.alloc (.cells (evC x).toArray 41))) := Lib.hid ((HB1.out.trans (b2.mono HB1.out.size)).alloc (Nat.le_trans HB1.out.size b2.size) _)
      have HBX := Lib.hid (Bk.new w2 (evC x) 41)
      clear b2 HPA HB1
      go_wp2_with fail
      refine (HW.out _ HB2.out).mono ?_
      rintro e w3 ⟨rfl, b3⟩
      have HB3 : Hid (Below wr.heap.size wr w3) := Lib.hid (HB2.out.trans (b3.mono HB2.out.size))
      have hbx := HBX.out.bel b3
      have HBX3 := Lib.hid hbx
      have d0 : w3.cell? ⟨w2.heap.size, 0, none⟩ = some (.string x.src) := hbx.cell 0
      have d1 : w3.cell? ⟨w2.heap.size, 1, none⟩ = some (.int .i64 x.num) := hbx.cell 1
      clear b3 HB2 HBX HW hbx
      go_upto_region 14 with (first
        | (at_mapUpdate; refine wpList_store rfl _ _ _ rfl KX.key Tryd.underlying61 (H.out.2.2.2.bel HB3.out) rfl (idE x) rfl HOK.out (.bool true) rfl ?_; intro w6 m6 f6 z6)
        | fail)
      have hmp3 := H.out.2.2.2.bel HB3.out
      have HM6 : Hid (MkG 41 8 evC w w6 (.slice b5 n5 c5) done) := Lib.hid ⟨f6.row (H.out.2.2.1.bel HB3.out).tx (fun b hb e => own_apart_map (H.out.2.2.1.bel HB3.out).tx hmp3 (by rw [hb]; exact congrArg some e)), H.out.2.2.1.nw, (H.out.2.2.1.bel HB3.out).bl.trans (f6.below (H.out.2.2.1.bel HB3.out).bl.size (fun b e => by have e' : b = w.heap.size := e; rw [e']; exact Nat.le_refl _))⟩
      have hbx6 := HBX3.out.fr f6 (bk_apart_map HBX3.out hmp3)
      have MP6 : Hid (Mp encI okI w6 w.heap.size (mbL (done ++ [x]))) := Lib.hid (by rw [← (mb_new HNO.out.1).1]; exact m6)
      have d0 : w6.cell? ⟨w2.heap.size, 0, none⟩ = some (.string x.src) := hbx6.cell 0
      have d1 : w6.cell? ⟨w2.heap.size, 1, none⟩ = some (.int .i64 x.num) := hbx6.cell 1
      have d2 : w6.cell? ⟨w2.heap.size, 2, none⟩ = some (.int .i64 x.at_) := hbx6.cell 2
      have d3 : w6.cell? ⟨w2.heap.size, 3, none⟩ = some (.int .i64 x.kind) := hbx6.cell 3
      have d4 : w6.cell? ⟨w2.heap.size, 4, none⟩ = some (.string x.per) := hbx6.cell 4
      have d5 : w6.cell? ⟨w2.heap.size, 5, none⟩ = some (.string x.item) := hbx6.cell 5
      have d6 : w6.cell? ⟨w2.heap.size, 6, none⟩ = some (.int .i64 x.val) := hbx6.cell 6
      have d7 : w6.cell? ⟨w2.heap.size, 7, none⟩ = some (.string x.txt) := hbx6.cell 7
      have HM2 := Lib.hid (HM6.out.alloc (.cells (evC x).toArray 41))
      have HIN : Hid (InW (w6.alloc (.cells (evC x).toArray 41)) (some ⟨w6.heap.size, 0, none⟩) 8 ([x].map evC)) := Lib.hid (inw_one (f := evC) (x := x) (Bk.new w6 (evC x) 41))
      have HLN : Hid (done.length + [x].length ≤ 1000000) := Lib.hid (by have := HNO.out.2; simp; omega)
      clear m6 f6 z6 hmp3 hbx6 HBX3 HM6
      go_wp2_with (at_builtin; refine wpList_append_m evLen evOne _ rfl _ _ _ rfl 41 iE _ 96 Tryd.underlying23 hiE hzE hsE hbE rfl (by decide) (by omega) (.slice b5 n5 c5) done [x] rfl HM2.out.tx (some ⟨w6.heap.size, 0, none⟩) 1 1 rfl rfl HIN.out HLN.out ?_; intro v8 w8 o8 f8 h8)
      have hmp8 := (MP6.out.bel ((Below.refl w6.heap.size w6).alloc (Nat.le_refl _) (.cells (evC x).toArray 41)))
      have HMP8 := Lib.hid (hmp8.fr f8 (own_apart_map HM2.out.tx hmp8))
      have hm8 := HM2.out.more o8 f8 h8
      obtain ⟨b8, c8, hv8, _⟩ := hm8.read evLen (by decide)
      obtain ⟨n8, hn8⟩ : ∃ n8, (done ++ [x]).length = n8 := ⟨_, rfl⟩
      rw [hn8] at hv8
      subst hv8
      have HM8 := Lib.hid (And.intro hm8 hn8)
      clear o8 f8 h8 hmp8 hm8 hn8 HM2 HIN HLN d0 d1 d2 d3 d4 d5 d6 d7
      go_wp2_with fail
      go_step3
      rw [← HS1.out]
      exact ⟨rfl, ⟨r, done ++ [x], b8, n8, c8, _, _, _, _, _, _, _, _, _, _, _, _, _, _, _, _, _, _, _, _, _, _, _, _, _, _, _, _, _, _, _, _, _, _, _, _, _, _, _, _, _, _, _, _, _, _, rfl, Lib.hid ⟨by rw [List.append_assoc]; exact H.out.1, HM8.out.2.symm, HM8.out.1, HMP8.out⟩⟩, HMS.out⟩
end Tl
end Go.Proofs.YtbhghelegonbbaaDoor
namespace Go.Proofs.YtbhghelegonbbaaDoor
open Go.RowKit Go.MapKept Go.Maps
set_option linter.unusedVariables false
set_option linter.unusedSimpArgs false
namespace Tl
open Es Rk
/-- a person's events -/
def perL (p : ByteArray) (l : List Ev) : List Ev := l.filter fun e => decide (e.per = p)
theorem per_take {p : ByteArray} {l : List Ev} {i : Nat} {x : Ev} (h : l[i]? = some x) : perL p (l.take (i + 1)) = if x.per = p then perL p (l.take i) ++ [x] else perL p (l.take i) := by
  unfold perL
  rw [List.take_add_one, h, List.filter_append]
  split
  · rename_i c; simp [c]
  · rename_i c; simp [c]
theorem per_len (p : ByteArray) (l : List Ev) : (perL p l).length ≤ l.length := List.length_filter_le _ _
theorem per_ids {p : ByteArray} {l : List Ev} (h : (l.map idE).Nodup) : ((perL p l).map idE).Nodup := List.Nodup.sublist (List.Sublist.map _ List.filter_sublist) h
theorem per_tale {p : ByteArray} {l : List Ev} (h : ∀ e ∈ l, TaleEv e) : ∀ e ∈ perL p l, TaleEv e := fun e he => h e (List.mem_filter.1 he).1
set_option maxRecDepth 100000 in
set_option maxHeartbeats 8000000 in
theorem person_any (p : ByteArray) (hp : p ≠ emp) (b : Option Addr) (n cap : Nat) (l : List Ev) (w : World) (hG : Glob w) (hi : InW w b 8 (l.map evC)) (hn : n = l.length) (hs : n < 60) (ht : ∀ e ∈ l, TaleEv e) (hnd : (l.map idE).Nodup) :
    Calls Tryd.prog 9 #[.string p, .slice b n cap] w fun e w' => ∃ z, e = .returned (.string (txtT z)) ∧ z.Perm (perL p l) ∧ Srt ltE z ∧ Below w.heap.size w w' := by
  obtain ⟨iE, hiE, hzE, hsE, hbE⟩ := tinfo infoEv
  have hE : p.toList.isEmpty = false := by rw [emptyB, decide_eq_false hp]
  have H := Lib.hid (And.intro hG (And.intro hi (And.intro hn (And.intro ht hnd))))
  clear hG hi hn ht hnd hp
  go_enter Tryd.func9, Tryd.ntmps9
  go_wp2_with fail
  go_loopw [5, 12] (fun u c wr => ∃ i : Nat, i ≤ n ∧ c = .int .i64 i ∧ Hid (MkG 41 8 evC w wr u (perL p (l.take i)))) (fun _ c _ => n - (intOf c).toNat)
  case atStart => exact ⟨0, by omega, rfl, Lib.hid (MkG.nil w)⟩
  case round =>
    obtain ⟨i, him, rfl, HM⟩ := hrel
    by_cases hlt : i < n
    · obtain ⟨x, hx⟩ : ∃ x, l[i]? = some x := ⟨l[i]'(by have := H.out.2.2.1; omega), List.getElem?_eq_getElem _⟩
      obtain ⟨B, off, rfl, hB, hc⟩ := inw_row H.out.2.1 hx
      have hc := hc _ HM.out.bl
      have k0 : wr.cell? ⟨B, off + i * 8, none⟩ = some (.string x.src) := hc 0 _ rfl
      have k1 : wr.cell? ⟨B, off + i * 8 + 1, none⟩ = some (.int .i64 x.num) := hc 1 _ rfl
      have k2 : wr.cell? ⟨B, off + i * 8 + 2, none⟩ = some (.int .i64 x.at_) := hc 2 _ rfl
      have k3 : wr.cell? ⟨B, off + i * 8 + 3, none⟩ = some (.int .i64 x.kind) := hc 3 _ rfl
      have k4 : wr.cell? ⟨B, off + i * 8 + 4, none⟩ = some (.string x.per) := hc 4 _ rfl
      have k5 : wr.cell? ⟨B, off + i * 8 + 5, none⟩ = some (.string x.item) := hc 5 _ rfl
      have k6 : wr.cell? ⟨B, off + i * 8 + 6, none⟩ = some (.int .i64 x.val) := hc 6 _ rfl
      have k7 : wr.cell? ⟨B, off + i * 8 + 7, none⟩ = some (.string x.txt) := hc 7 _ rfl
      have HT := Lib.hid (per_take (p := p) hx)
      have hi0' : (0 : Int) ≤ (i : Int) := by omega
      have hi1 : (i : Int) < (n : Int) := by omega
      clear hc hx
      by_cases hq : x.per = p
      · have t1 : (x.per.toList == p.toList) = true := by rw [hq]; simp
        have HQ := Lib.hid hq
        have HM2 := Lib.hid ((HM.out.alloc (.cells (evC x).toArray 41)).alloc (.cells (evC x).toArray 41))
        have HIN : Hid (InW ((wr.alloc (.cells (evC x).toArray 41)).alloc (.cells (evC x).toArray 41)) (some ⟨wr.heap.size + 1, 0, none⟩) 8 ([x].map evC)) := Lib.hid (inw_one (f := evC) (x := x) (bk_at _ _ (by simp)))
        have HLN : Hid ((perL p (l.take i)).length + [x].length ≤ 1000000) := Lib.hid (by have := per_len p (l.take i); simp at this ⊢; omega)
        clear hq
        go_wp2_with (at_builtin; refine wpList_append_m evLen evOne _ rfl _ _ _ rfl 41 iE _ 96 Tryd.underlying23 hiE hzE hsE hbE rfl (by decide) (by omega) u5 (perL p (l.take i)) [x] rfl HM2.out.tx (some ⟨wr.heap.size + 1, 0, none⟩) 1 1 rfl rfl HIN.out HLN.out ?_; intro v5 w5 o5 f5 h5)
        have HM5 := Lib.hid (HM2.out.more o5 f5 h5)
        clear o5 f5 h5 HM2 HIN HLN
        go_wp2_with fail
        go_roundw
        case rel => exact ⟨i + 1, by omega, by go_num, by rw [HT.out, if_pos HQ.out]; exact HM5⟩
        case measure => simp [intOf]; omega
      · have t1 : (x.per.toList == p.toList) = false := by rw [bytesEq]; exact decide_eq_false hq
        have t2 : ¬ x.per.toList = p.toList := by rw [Go.ByteArray.toList_eq, Go.ByteArray.toList_eq]; exact fun e => hq (byte_ext e)
        have HQ := Lib.hid hq
        clear hq
        go_wp2_with fail
        go_roundw
        case rel => exact ⟨i + 1, by omega, by go_num, Lib.hid (by rw [HT.out, if_neg HQ.out]; exact HM.out.alloc _)⟩
        case measure => simp [intOf]; omega
    · have e1 : l.take i = l := List.take_of_length_le (by have := H.out.2.2.1; omega)
      have hm := HM.out
      rw [e1] at hm
      obtain ⟨b3, c3, rfl, h31, h32, h33⟩ := hm.read evLen (by decide)
      have hal := all_any b3 _ c3 (perL p l) wr (H.out.1.bel hm.bl) h33 rfl (by have := per_len p l; have := H.out.2.2.1; omega) (per_tale H.out.2.2.2.1) (per_ids H.out.2.2.2.2)
      obtain ⟨n3, hn3⟩ : ∃ n3, (perL p l).length = n3 := ⟨_, rfl⟩
      rw [hn3] at hal ⊢
      have HAL := Lib.hid hal
      have HBW := Lib.hid hm.bl
      clear hm h33 e1 HM h31 h32 hal hn3
      go_wp2_with fail
      refine HAL.out.mono ?_
      rintro e w9 ⟨z, rfl, q1, q2, q3⟩
      have HQ := Lib.hid (And.intro q1 (And.intro q2 (HBW.out.trans (q3.mono HBW.out.size))))
      clear q1 q2 q3 HAL
      go_wp2_with fail
      go_ret
      exact ⟨z, rfl, HQ.out.1, HQ.out.2.1, HQ.out.2.2⟩
theorem finM {fn : Func} {tmps : Array Value} {w : World} (h : fn.results = #[.tmp 4, .tmp 5, .tmp 6]) : (results fn tmps).run Tryd.prog w = .ok (.tuple #[tmps.getD 4 undef, tmps.getD 5 undef, tmps.getD 6 undef]) w := by
  simp [results, h, Result.andThen]
set_option maxRecDepth 100000 in
set_option maxHeartbeats 8000000 in
theorem merge_any (A B : List Ev) (w : World) (hG : Glob w) (hTA : ∀ e ∈ A, TaleEv e) (hTB : ∀ e ∈ B, TaleEv e) (hSA : Srt ltE A) (hSB : Srt ltE B) (hnd : ((A ++ B).map idE).Nodup) (hn : (A ++ B).length < 60) :
    Calls Tryd.prog 12 #[.string (txtT A), .string (txtT B)] w fun e w' => ∃ z, e = .returned (.tuple #[.string (txtT z), .int .i64 0, .int .i64 0]) ∧ z.Perm (A ++ B) ∧ Srt ltE z ∧ Below w.heap.size w w' := by
  have hnA : (A.map idE).Nodup := by rw [List.map_append, List.nodup_append] at hnd; exact hnd.1
  have hnB : (B.map idE).Nodup := by rw [List.map_append, List.nodup_append] at hnd; exact hnd.2.1
  have hlen := hn
  rw [List.length_append] at hlen
  have HA := Lib.hid (import_any A w hG hTA hSA hnA (by omega))
  have HB : Hid (∀ W, Below w.heap.size w W → Calls Tryd.prog 8 #[.string (txtT B)] W fun e w' => ∃ b cap, e = .returned (.tuple #[.slice b B.length cap, .int .i64 0, .int .i64 0]) ∧ MkG 41 8 evC W w' (.slice b B.length cap) B) := Lib.hid (fun W hW => import_any B W (hG.bel hW) hTB hSB hnB (by omega))
  have HL : Hid (∀ W b n cap, Below w.heap.size w W → InW W b 8 ((A ++ B).map evC) → n = (A ++ B).length → Calls Tryd.prog 11 #[.slice b n cap] W fun e w' => ∃ z, e = .returned (.string (txtT z)) ∧ z.Perm (A ++ B) ∧ Srt ltE z ∧ Below W.heap.size W w') := Lib.hid (fun W b n cap hW hi hn' => all_any b n cap (A ++ B) W (hG.bel hW) hi hn' (by omega) (fun e he => (List.mem_append.1 he).elim (hTA e) (hTB e)) hnd)
  obtain ⟨na, hna⟩ : ∃ na, A.length = na := ⟨_, rfl⟩
  obtain ⟨nb, hnb⟩ : ∃ nb, B.length = nb := ⟨_, rfl⟩
  rw [hna] at HA
  rw [hnb] at HB
  rw [hna, hnb] at hlen
  have HN := Lib.hid (And.intro hna hnb)
  generalize txtT A = sA at HA ⊢
  generalize txtT B = sB at HB ⊢
  clear hG hTA hTB hSA hSB hnd hn hnA hnB hna hnb
  go_enter Tryd.func12, Tryd.ntmps12
  go_wp2_with fail
  refine HA.out.mono ?_
  rintro e w1 ⟨b1, c1, rfl, m1⟩
  have HM1 := Lib.hid m1
  clear m1 HA
  go_wp2_with fail
  refine (HB.out w1 HM1.out.bl).mono ?_
  rintro e w2 ⟨b2, c2, rfl, m2⟩
  have HM2 := Lib.hid m2
  obtain ⟨qb1, qc1, hq1, _, _, hi1⟩ := (HM1.out.bel m2.bl).read evLen (by decide)
  obtain ⟨qb2, qc2, hq2, _, _, hi2⟩ := m2.read evLen (by decide)
  have hb1 : b1 = qb1 := by simp only [Value.slice.injEq] at hq1; exact hq1.1
  have hb2 : b2 = qb2 := by simp only [Value.slice.injEq] at hq2; exact hq2.1
  rw [← hb1] at hi1
  rw [← hb2] at hi2
  have HBL : Hid (Below w.heap.size w w2) := Lib.hid (HM1.out.bl.trans (m2.bl.mono HM1.out.bl.size))
  have hbx : Below w2.heap.size w2 (w2.alloc (.cells #[.slice b1 na c1, .slice b2 nb c2] 23)) := (Below.refl _ _).alloc (Nat.le_refl _) _
  have HBX := Lib.hid hbx
  have HCO := Lib.hid (concat_any w2.heap.size b1 b2 na nb c1 c2 A B _ (Bk.new w2 [.slice b1 na c1, .slice b2 nb c2] 23) (hi1.bel hbx) (hi2.bel hbx) HN.out.1.symm HN.out.2.symm (by omega))
  clear m2 hq1 hq2 hi1 hi2 hb1 hb2 hbx HB
  go_wp2_with fail
  refine HCO.out.mono ?_
  rintro e w3 ⟨v3, rfl, m3⟩
  obtain ⟨b3, c3, rfl, _, _, hi3⟩ := m3.read evLen (by decide)
  have hb3 : Below w.heap.size w w3 := HBL.out.trans ((HBX.out.trans (m3.bl.mono HBX.out.size)).mono HBL.out.size)
  have hal := HL.out w3 b3 _ c3 hb3 hi3 rfl
  obtain ⟨n3, hn3⟩ : ∃ n3, (A ++ B).length = n3 := ⟨_, rfl⟩
  rw [hn3] at hal ⊢
  have HAL := Lib.hid hal
  have HB3 := Lib.hid hb3
  clear m3 hi3 hb3 hal hn3 HL HCO
  go_wp2_with fail
  refine HAL.out.mono ?_
  rintro e w4 ⟨z, rfl, q1, q2, q3⟩
  have HQ := Lib.hid (And.intro q1 (And.intro q2 (HB3.out.trans (q3.mono HB3.out.size))))
  clear q1 q2 q3 HAL
  go_wp2_with fail
  exact bodyPost_ret (finM rfl) rfl ⟨z, rfl, HQ.out.1, HQ.out.2.1, HQ.out.2.2⟩
end Tl
end Go.Proofs.YtbhghelegonbbaaDoor
namespace Go.Proofs.YtbhghelegonbbaaDoor
open Go.RowKit Go.MapKept Go.Maps
set_option linter.unusedVariables false
set_option linter.unusedSimpArgs false
namespace Tl
open Es Rk
theorem srt_lt {a : List Ev} (ha : Srt ltE a) (hnd : (a.map idE).Nodup) : a.Pairwise LTE := by
  have h2 : a.Pairwise (fun x y => idE x ≠ idE y) := List.pairwise_map.1 hnd
  refine List.Pairwise.imp (R := fun x y => ltE y x = false ∧ idE x ≠ idE y) (fun {x y} h => ?_) (List.Pairwise.and ha h2)
  have hk : keyE x ≠ keyE y := fun c => h.2 (by
    have i1 : x.src = y.src := congrArg (fun z => z.2.1) c
    have i2 : x.num = y.num := congrArg (fun z => z.2.2) c
    unfold idE
    rw [i1, i2])
  exact (LTE_total hk).resolve_right (ltE_no.1 h.1)
/-- two rising rows of the same events are one -/
theorem srt_one {a b : List Ev} (h : a.Perm b) (ha : Srt ltE a) (hb : Srt ltE b) (hnd : (a.map idE).Nodup) : a = b :=
  h.eq_of_pairwise (fun x y _ _ h1 h2 => absurd (LTE_trans h1 h2) (LTE_irrefl x)) (srt_lt ha hnd) (srt_lt hb (((h.map idE).nodup_iff).1 hnd))
theorem per_perm {p : ByteArray} {a b : List Ev} (h : a.Perm b) : (perL p a).Perm (perL p b) := h.filter _
theorem per_srt {p : ByteArray} {a : List Ev} (h : Srt ltE a) : Srt ltE (perL p a) := List.Pairwise.sublist List.filter_sublist h
theorem perm_ids {a b : List Ev} (h : a.Perm b) (hn : (b.map idE).Nodup) : (a.map idE).Nodup := ((h.map idE).nodup_iff).2 hn
def pT (k : Nat) : ByteArray := numT ⟨#[112]⟩ k
theorem pT_ne : ∀ k : Fin 4, pT k.val ≠ emp := by decide +kernel
theorem pT_inj : ∀ a b : Fin 4, pT a.val = pT b.val → a = b := by decide +kernel
/-- the shop's events, and those of the first i people -/
def accL (l : List Ev) : Nat → List Ev
  | 0 => perL emp l
  | i + 1 => accL l i ++ perL (pT i) l
theorem acc_sub (l : List Ev) : ∀ i, ∀ e ∈ accL l i, e ∈ l
  | 0, e, h => (List.mem_filter.1 h).1
  | i + 1, e, h => (List.mem_append.1 h).elim (acc_sub l i e) (fun h => (List.mem_filter.1 h).1)
theorem acc_per (l : List Ev) : ∀ i, i ≤ 4 → ∀ e ∈ accL l i, e.per = emp ∨ ∃ k, k < i ∧ e.per = pT k
  | 0, _, e, h => .inl (by simpa using (List.mem_filter.1 h).2)
  | i + 1, hi, e, h => by
    rcases List.mem_append.1 h with h | h
    · rcases acc_per l i (by omega) e h with h | ⟨k, hk, h⟩
      · exact .inl h
      · exact .inr ⟨k, by omega, h⟩
    · exact .inr ⟨i, by omega, by simpa using (List.mem_filter.1 h).2⟩
theorem acc_ids {l : List Ev} (hn : (l.map idE).Nodup) : ∀ i, i ≤ 4 → ((accL l i).map idE).Nodup
  | 0, _ => per_ids hn
  | i + 1, hi => by
    unfold accL
    rw [List.map_append, List.nodup_append]
    refine ⟨acc_ids hn i (by omega), per_ids hn, fun a ha b hb e => ?_⟩
    obtain ⟨x, hx, rfl⟩ := List.mem_map.1 ha
    obtain ⟨y, hy, rfl⟩ := List.mem_map.1 hb
    have hxy : x = y := by
      have h1 := acc_sub l i x hx
      have h2 := (List.mem_filter.1 hy).1
      obtain ⟨a, ha', rfl⟩ := List.getElem_of_mem h1
      obtain ⟨b, hb', rfl⟩ := List.getElem_of_mem h2
      have h3 := (List.getElem_inj (i := a) (j := b) (h₀ := by simpa using ha') (h₁ := by simpa using hb') hn).1 (by simpa using e)
      subst h3; rfl
    subst hxy
    have hp : x.per = pT i := by simpa using (List.mem_filter.1 hy).2
    rcases acc_per l i (by omega) x hx with h | ⟨k, hk, h⟩
    · exact pT_ne ⟨i, by omega⟩ (hp.symm.trans h)
    · have := pT_inj ⟨i, by omega⟩ ⟨k, by omega⟩ (hp.symm.trans h)
      have := congrArg Fin.val this
      simp only at this
      omega
theorem tale_per {e : Ev} (h : TaleEv e) : e.per = emp ∨ ∃ k, k < 4 ∧ e.per = pT k := by
  cases h.shp with
  | plain _ p _ _ _ => exact .inr p
  | rated _ p _ _ _ => exact .inr p
  | follow _ p _ _ _ => exact .inr p
  | listed _ p _ _ _ => exact .inl p
  | stocked _ p _ _ _ => exact .inl p
  | delisted _ p _ _ _ => exact .inl p
theorem nodup_of_map {α β : Type} {f : α → β} {l : List α} (h : (l.map f).Nodup) : l.Nodup := List.Pairwise.imp (fun {a b} h e => h (by rw [e])) (List.pairwise_map.1 h)
theorem acc_all {l : List Ev} (hn : (l.map idE).Nodup) (ht : ∀ e ∈ l, TaleEv e) : (accL l 4).Perm l := by
  refine (List.perm_ext_iff_of_nodup (nodup_of_map (acc_ids hn 4 (by omega))) (nodup_of_map hn)).2 fun e => ⟨acc_sub l 4 e, fun he => ?_⟩
  rcases tale_per (ht e he) with h | ⟨k, hk, h⟩
  · have : e ∈ perL emp l := List.mem_filter.2 ⟨he, by simpa using h⟩
    simp [accL, this]
  · have : e ∈ perL (pT k) l := List.mem_filter.2 ⟨he, by simpa using h⟩
    rcases (by omega : k = 0 ∨ k = 1 ∨ k = 2 ∨ k = 3) with rfl | rfl | rfl | rfl <;> simp [accL, this]
theorem acc_len {l : List Ev} (hn : (l.map idE).Nodup) (ht : ∀ e ∈ l, TaleEv e) (i : Nat) (hi : i ≤ 4) : (accL l i).length ≤ l.length := by
  have h := (acc_all hn ht).length_eq
  rw [← h]
  rcases (by omega : i = 0 ∨ i = 1 ∨ i = 2 ∨ i = 3 ∨ i = 4) with rfl | rfl | rfl | rfl | rfl <;> simp [accL] <;> omega
end Tl
end Go.Proofs.YtbhghelegonbbaaDoor
namespace Go.Proofs.YtbhghelegonbbaaDoor
open Go.RowKit Go.MapKept Go.Maps
set_option linter.unusedVariables false
set_option linter.unusedSimpArgs false
namespace Tl
open Es Rk
/-- two rows being made, in blocks of their own -/
structure Two2 (w0 wr : World) (u v : Value) (x y : List Ev) : Prop where
  a : MkG 41 8 evC w0 wr u x
  b : MkG 41 8 evC w0 wr v y
  ne : ∀ g, u.ownBlock = some g → v.ownBlock ≠ some g
theorem Two2.bel {w0 wr w' : World} {u v : Value} {x y : List Ev} (h : Two2 w0 wr u v x y) (hb : Below wr.heap.size wr w') : Two2 w0 w' u v x y := ⟨h.a.bel hb, h.b.bel hb, h.ne⟩
theorem hence_ne {u u' v : Value} {W : World} {n sz : Nat} {t : TypeId} {xs : List Value} (h : Hence u u' W) (hv : W.ownsRow 0 t sz v n xs) (hne : ∀ g, u.ownBlock = some g → v.ownBlock ≠ some g) : ∀ g, u'.ownBlock = some g → v.ownBlock ≠ some g := by
  intro g hg c
  rcases h with e | e
  · rw [e] at hg; exact hne g hg c
  · rw [e] at hg
    have h1 := own_lt hv c
    simp only [Option.some.injEq] at hg
    omega
theorem Two2.moreA {w0 wr w' : World} {u u' v : Value} {x x' y : List Ev} (h : Two2 w0 wr u v x y) (o : w'.ownsRow 0 41 8 u' x'.length (x'.flatMap evC)) (f : Fr (fun b => u.ownBlock = some b) wr w') (hh : Hence u u' wr) : Two2 w0 w' u' v x' y :=
  ⟨h.a.more o f hh, ⟨f.row h.b.tx (fun b hb e => h.ne b e hb), h.b.nw, h.b.bl.trans (f.below h.b.bl.size (fun b hb => h.a.nw b hb))⟩, hence_ne hh h.b.tx h.ne⟩
theorem Two2.moreB {w0 wr w' : World} {u v v' : Value} {x y y' : List Ev} (h : Two2 w0 wr u v x y) (o : w'.ownsRow 0 41 8 v' y'.length (y'.flatMap evC)) (f : Fr (fun b => v.ownBlock = some b) wr w') (hh : Hence v v' wr) : Two2 w0 w' u v' x y' :=
  ⟨⟨f.row h.a.tx (fun b hb e => h.ne b hb e), h.a.nw, h.a.bl.trans (f.below h.a.bl.size (fun b hb => h.b.nw b hb))⟩, h.b.more o f hh, fun g hg c => hence_ne hh h.a.tx (fun g hg c => h.ne g c hg) g c hg⟩
set_option maxRecDepth 100000 in
set_option maxHeartbeats 16000000 in
theorem top_small (b : Option Addr) (cap : Nat) (xs : List Int) (who : Nat) (w : World) (hG : Glob w) (hX : Bys w b xs) (hn : xs.length ≤ 300) (hw : who ≤ 255) :
    Calls Tryd.prog 3 #[.slice b xs.length cap, .int .u8 who] w fun e w' => e = .returned (.bool true) ∧ Below w.heap.size w w' := by
  obtain ⟨iE, hiE, hzE, hsE, hbE⟩ := tinfo infoEv
  have HBG := Lib.hid (begun_any b cap xs w hG hX hn)
  have HG := Lib.hid hG
  obtain ⟨nx, hnx⟩ : ∃ nx, xs.length = nx := ⟨_, rfl⟩
  rw [hnx] at HBG ⊢
  obtain ⟨kp, hkp⟩ : ∃ kp, who % 4 = kp := ⟨_, rfl⟩
  have q1 : (who : Int).tmod 4 = (kp : Int) := by rw [Int.tmod_eq_emod_of_nonneg (by omega)]; omega
  have q2 : (who : Int) % 4 = (kp : Int) := by omega
  have q3 : (0 : Int) ≤ (kp : Int) := by omega
  have q4 : (kp : Int) < 4 := by omega
  have hkp4 : kp < 4 := by omega
  have HPN := Lib.hid (pT_ne ⟨kp, hkp4⟩)
  clear hG hX hn hnx hkp
  go_enter Tryd.func3, Tryd.ntmps3
  go_wp2_with fail
  refine HBG.out.mono ?_
  rintro e w1 ⟨b1, c1, s, t, n, l, rfl, hnl, hnc, hcm, hi, h59, hT, hnd, hb1⟩
  have HL := Lib.hid (And.intro hnl (And.intro h59 (And.intro hT hnd)))
  have HB1 := Lib.hid hb1
  have HI1 := Lib.hid hi
  clear HBG hnl h59 hT hnd hb1 hi
  go_upto_region 2 with (first
    | ((with_reducible show wpList _ _ _ (Oper.mk _ (Op.store 32 _ _) _ _ _ _ :: _) _ _); refine wpList_store_rowTo rfl 32 _ _ rfl rfl w1.heap.size (sgC s).toArray rfl rfl 32 zerS.toArray (Bk.new w1 zerS 32) (by rw [List.size_toArray, sgLen]; kernel_rfl) (by rw [List.size_toArray, List.size_toArray, sgLen]; rfl) (all_oneCell_toArray (wtsOne s 6)) ?_)
    | fail)
  have hbv : Below w1.heap.size w1 ((w1.alloc (.cells zerS.toArray 32)).setRow w1.heap.size (sgC s).toArray) := bel_setRow ((Below.refl _ _).alloc (Nat.le_refl _) _) (Nat.le_refl _) _
  have HBV := Lib.hid hbv
  unfold zerS at HBV hbv
  generalize (w1.alloc _).setRow w1.heap.size (sgC s).toArray = V at HBV ⊢
  clear hbv
  go_wp2_with fail
  refine (parses_any V ((HG.out.bel HB1.out).bel HBV.out)).mono ?_
  rintro e w2 ⟨rfl, b2⟩
  have HB2 : Hid (Below w1.heap.size w1 w2) := Lib.hid (HBV.out.trans (b2.mono HBV.out.size))
  clear b2 HBV
  go_wp2_with fail
  refine (people_any w2).mono ?_
  rintro e w3 ⟨rfl, hbk, b3⟩
  have hcell : w3.cell? ⟨w2.heap.size, kp, none⟩ = some (.string (pT kp)) := by
    rw [hbk.cell]
    rcases (by omega : kp = 0 ∨ kp = 1 ∨ kp = 2 ∨ kp = 3) with rfl | rfl | rfl | rfl <;> rfl
  have HB3 : Hid (Below w1.heap.size w1 w3) := Lib.hid (HB2.out.trans (b3.mono HB2.out.size))
  have hso := esort_any b1 n c1 l w3 (HI1.out.bel HB3.out) HL.out.1 (by have := HL.out; omega) (fun e he => tale_ok (HL.out.2.2.1 e he))
  have HSO := Lib.hid hso
  clear b3 HB2 hbk hso
  go_wp2_with fail
  refine HSO.out.mono ?_
  rintro e w4 ⟨b4, Z, rfl, hi4, hZp, hZs, _, b4'⟩
  have HB4 : Hid (Below w1.heap.size w1 w4) := Lib.hid (HB3.out.trans (b4'.mono HB3.out.size))
  have HZ := Lib.hid (And.intro hi4 (And.intro hZp (And.intro hZs (show Z.length = n by rw [hZp.length_eq]; exact HL.out.1.symm))))
  clear hi4 hZp hZs b4' HSO HB3 hcell
  have hn59 : n ≤ 59 := by have := HL.out; omega
  go_wp2_with fail
  obtain ⟨p, hpp⟩ : ∃ p, p = pT kp := ⟨_, rfl⟩
  rw [← hpp]
  have HPP := Lib.hid hpp
  clear hpp
  go_loopw [10, 11, 45] (fun u v c wr => ∃ i : Nat, i ≤ n ∧ c = .int .i64 i ∧ Hid (Two2 w4 wr u v (perL p (Z.take i)) (perL emp (Z.take i)))) (fun _ _ c _ => n - (intOf c).toNat)
  case atStart => exact ⟨0, by omega, rfl, Lib.hid ⟨MkG.nil w4, MkG.nil w4, fun g h => by cases h⟩⟩
  case round =>
    obtain ⟨i, him, rfl, HM⟩ := hrel
    by_cases hlt : i < n
    · obtain ⟨x, hx⟩ : ∃ x, Z[i]? = some x := ⟨Z[i]'(by have := HZ.out.2.2.2; omega), List.getElem?_eq_getElem _⟩
      obtain ⟨B, off, rfl, hB, hc⟩ := inw_row HZ.out.1 hx
      have hc := hc _ HM.out.a.bl
      have k0 : wr.cell? ⟨B, off + i * 8, none⟩ = some (.string x.src) := hc 0 _ rfl
      have k1 : wr.cell? ⟨B, off + i * 8 + 1, none⟩ = some (.int .i64 x.num) := hc 1 _ rfl
      have k2 : wr.cell? ⟨B, off + i * 8 + 2, none⟩ = some (.int .i64 x.at_) := hc 2 _ rfl
      have k3 : wr.cell? ⟨B, off + i * 8 + 3, none⟩ = some (.int .i64 x.kind) := hc 3 _ rfl
      have k4 : wr.cell? ⟨B, off + i * 8 + 4, none⟩ = some (.string x.per) := hc 4 _ rfl
      have k5 : wr.cell? ⟨B, off + i * 8 + 5, none⟩ = some (.string x.item) := hc 5 _ rfl
      have k6 : wr.cell? ⟨B, off + i * 8 + 6, none⟩ = some (.int .i64 x.val) := hc 6 _ rfl
      have k7 : wr.cell? ⟨B, off + i * 8 + 7, none⟩ = some (.string x.txt) := hc 7 _ rfl
      have HT1 := Lib.hid (per_take (p := p) hx)
      have HT2 := Lib.hid (per_take (p := emp) hx)
      have HLN1 : Hid ((perL p (Z.take i)).length + [x].length ≤ 1000000) := Lib.hid (by have := per_len p (Z.take i); simp at this ⊢; omega)
      have HLN2 : Hid ((perL emp (Z.take i)).length + [x].length ≤ 1000000) := Lib.hid (by have := per_len emp (Z.take i); simp at this ⊢; omega)
      have hi0' : (0 : Int) ≤ (i : Int) := by omega
      have hi1 : (i : Int) < (n : Int) := by omega
      have HM1 := Lib.hid (HM.out.bel ((Below.refl wr.heap.size wr).alloc (Nat.le_refl _) (.cells (evC x).toArray 41)))
      have HM2 := Lib.hid (HM1.out.bel ((Below.refl _ _).alloc (Nat.le_refl _) (.cells (evC x).toArray 41)))
      have HIN : Hid (InW ((wr.alloc (.cells (evC x).toArray 41)).alloc (.cells (evC x).toArray 41)) (some ⟨wr.heap.size + 1, 0, none⟩) 8 ([x].map evC)) := Lib.hid (inw_one (f := evC) (x := x) (bk_at _ _ (by simp)))
      clear hc hx
      by_cases hq : x.per = p
      · have hpe : ¬ x.per = emp := fun c => HPN.out (by rw [← HPP.out, ← hq]; exact c)
        have t1 : (x.per.toList == p.toList) = true := by rw [hq]; simp
        have t3 : x.per.toList.isEmpty = false := by rw [emptyB, decide_eq_false hpe]
        have t4 : p.toList.isEmpty = false := by rw [← hq]; exact t3
        have HQ := Lib.hid hq
        have HPE := Lib.hid hpe
        clear hq hpe
        go_wp2_with (at_builtin; refine wpList_append_m evLen evOne _ rfl _ _ _ rfl 41 iE _ 96 Tryd.underlying23 hiE hzE hsE hbE rfl (by decide) (by omega) u10 (perL p (Z.take i)) [x] rfl HM2.out.a.tx (some ⟨wr.heap.size + 1, 0, none⟩) 1 1 rfl rfl HIN.out HLN1.out ?_; intro v5 w5 o5 f5 h5; have e4 : w5.cell? ⟨wr.heap.size, 4, none⟩ = some (.string x.per) := (((Bk.new wr (evC x) 41).old (.cells (evC x).toArray 41)).fr f5 (fun c => absurd (own_lt HM.out.a.tx c) (Nat.lt_irrefl _))).cell 4)
        have HM5 := Lib.hid (HM2.out.moreA o5 f5 h5)
        clear o5 f5 h5 HM2 HIN HLN1 HLN2 HM1
        go_wp2_with fail
        go_roundw
        case rel => exact ⟨i + 1, by omega, by go_num, Lib.hid (by rw [HT1.out, HT2.out, if_pos HQ.out, if_neg HPE.out]; exact HM5.out)⟩
        case measure => simp [intOf]; omega
      · have t1 : (x.per.toList == p.toList) = false := by rw [bytesEq]; exact decide_eq_false hq
        have t2 : ¬ x.per.toList = p.toList := by rw [Go.ByteArray.toList_eq, Go.ByteArray.toList_eq]; exact fun e => hq (byte_ext e)
        have HQ := Lib.hid hq
        clear hq
        by_cases hpe : x.per = emp
        · have t3 : x.per.toList.isEmpty = true := by rw [emptyB, decide_eq_true hpe]
          have HPE := Lib.hid hpe
          clear hpe
          go_wp2_with (at_builtin; refine wpList_append_m evLen evOne _ rfl _ _ _ rfl 41 iE _ 96 Tryd.underlying23 hiE hzE hsE hbE rfl (by decide) (by omega) u11 (perL emp (Z.take i)) [x] rfl HM2.out.b.tx (some ⟨wr.heap.size + 1, 0, none⟩) 1 1 rfl rfl HIN.out HLN2.out ?_; intro v5 w5 o5 f5 h5)
          have HM5 := Lib.hid (HM2.out.moreB o5 f5 h5)
          clear o5 f5 h5 HM2 HIN HLN1 HLN2 HM1
          go_wp2_with fail
          go_roundw
          case rel => exact ⟨i + 1, by omega, by go_num, Lib.hid (by rw [HT1.out, HT2.out, if_neg HQ.out, if_pos HPE.out]; exact HM5.out)⟩
          case measure => simp [intOf]; omega
        · have t3 : x.per.toList.isEmpty = false := by rw [emptyB, decide_eq_false hpe]
          have HPE := Lib.hid hpe
          clear hpe HM2 HIN HLN1 HLN2
          go_wp2_with fail
          go_roundw
          case rel => exact ⟨i + 1, by omega, by go_num, Lib.hid (by rw [HT1.out, HT2.out, if_neg HQ.out, if_neg HPE.out]; exact HM1.out)⟩
          case measure => simp [intOf]; omega
    · have e1 : Z.take i = Z := List.take_of_length_le (by have := HZ.out.2.2.2; omega)
      have hm := HM.out
      rw [e1] at hm
      obtain ⟨bo, co, rfl, ho1, ho2, ho3⟩ := hm.a.read evLen (by decide)
      obtain ⟨bs, cs, rfl, hs1, hs2, hs3⟩ := hm.b.read evLen (by decide)
      obtain ⟨no, hno⟩ : ∃ no, (perL p Z).length = no := ⟨_, rfl⟩
      obtain ⟨ns, hns⟩ : ∃ ns, (perL emp Z).length = ns := ⟨_, rfl⟩
      rw [hno, hns]
      have HW5 : Hid (Below w1.heap.size w1 wr) := Lib.hid (HB4.out.trans (hm.a.bl.mono HB4.out.size))
      have HROW := Lib.hid (And.intro ho3 (And.intro hs3 (And.intro hno hns)))
      clear hm HM e1 ho1 ho2 ho3 hs1 hs2 hs3 hno hns
      go_upto_region 14 with fail
      obtain ⟨V, hV⟩ : ∃ V, V = wr := ⟨_, rfl⟩
      rw [← hV] at HROW HW5 ⊢
      clear hV
      have hgl : ∀ W, Below w1.heap.size w1 W → Glob W := fun W hW => (HG.out.bel HB1.out).bel hW
      have HGL := Lib.hid hgl
      have hpr : ∀ (q : ByteArray) W, q ≠ emp → Below w1.heap.size w1 W → Calls Tryd.prog 9 #[.string q, .slice b1 n c1] W fun e w' => ∃ z, e = .returned (.string (txtT z)) ∧ z.Perm (perL q l) ∧ Srt ltE z ∧ Below W.heap.size W w' := fun q W hq hW => person_any q hq b1 n c1 l W (hgl W hW) (HI1.out.bel hW) HL.out.1 (by omega) HL.out.2.2.1 HL.out.2.2.2
      have HPR := Lib.hid hpr
      have HPE : Hid (p ≠ emp) := Lib.hid (by rw [HPP.out]; exact HPN.out)
      clear hgl hpr
      go_wp2_with fail
      refine (HPR.out p V HPE.out HW5.out).mono ?_
      rintro e w6 ⟨z1, rfl, p1, s1, b6⟩
      have HB6 : Hid (Below w1.heap.size w1 w6) := Lib.hid (HW5.out.trans (b6.mono HW5.out.size))
      have ez : z1 = perL p Z := srt_one (p1.trans (per_perm HZ.out.2.1.symm)) s1 (per_srt HZ.out.2.2.1) (perm_ids p1 (per_ids HL.out.2.2.2))
      subst ez
      have hpz : ∀ e ∈ perL p Z, TaleEv e := fun e he => HL.out.2.2.1 e (HZ.out.2.1.mem_iff.1 (List.mem_filter.1 he).1)
      have hnz : (perL p Z).length < 60 := by have := per_len p Z; have := HZ.out.2.2.2; omega
      have him := import_any (perL p Z) w6 (HGL.out w6 HB6.out) hpz (per_srt HZ.out.2.2.1) (perm_ids p1 (per_ids HL.out.2.2.2)) hnz
      have hno : no < 60 := by rw [← HROW.out.2.2.1]; exact hnz
      rw [HROW.out.2.2.1] at him
      have HIM := Lib.hid him
      have HR6 := Lib.hid (HROW.out.1.bel b6)
      have HS6 := Lib.hid (HROW.out.2.1.bel b6)
      generalize txtT (perL p Z) = sp at HIM ⊢
      clear him hpz hnz p1 s1 b6
      go_wp2_with fail
      refine HIM.out.mono ?_
      rintro e w7 ⟨b7, c7, rfl, m7⟩
      obtain ⟨q7, k7, e7, _, _, hi7⟩ := m7.read evLen (by decide)
      have hq7 : b7 = q7 := by simp only [Value.slice.injEq] at e7; exact e7.1
      rw [← hq7] at hi7
      have HB7 : Hid (Below w1.heap.size w1 w7) := Lib.hid (HB6.out.trans (m7.bl.mono HB6.out.size))
      have HSM := Lib.hid (same_eq b7 bo no c7 co (perL p Z) w7 hi7 (HR6.out.bel m7.bl) HROW.out.2.2.1.symm hno)
      have HS7 := Lib.hid (HS6.out.bel m7.bl)
      clear m7 e7 hq7 hi7 HIM HR6 HS6
      go_wp2_with fail
      refine HSM.out.mono ?_
      rintro e w8 ⟨rfl, b8⟩
      have HB8 : Hid (Below w1.heap.size w1 w8) := Lib.hid (HB7.out.trans (b8.mono HB7.out.size))
      have hal := all_any bs ns cs (perL emp Z) w8 (HGL.out w8 HB8.out) (HS7.out.bel b8) HROW.out.2.2.2.symm (by rw [← HROW.out.2.2.2]; have := per_len emp Z; have := HZ.out.2.2.2; omega) (fun e he => HL.out.2.2.1 e (HZ.out.2.1.mem_iff.1 (List.mem_filter.1 he).1)) (per_ids (perm_ids HZ.out.2.1 HL.out.2.2.2))
      have HAL := Lib.hid hal
      clear b8 hal HSM HS7
      go_wp2_with fail
      refine HAL.out.mono ?_
      rintro e w9 ⟨z2, rfl, p2, s2, b9⟩
      have HB9 : Hid (Below w1.heap.size w1 w9) := Lib.hid (HB8.out.trans (b9.mono HB8.out.size))
      have HA0 : Hid (z2.Perm (accL l 0) ∧ Srt ltE z2) := Lib.hid ⟨p2.trans (per_perm HZ.out.2.1), s2⟩
      clear p2 s2 b9 HAL
      go_wp2_with fail
      refine (people_any w9).mono ?_
      rintro e w10 ⟨rfl, hbk, b10⟩
      have HBK := Lib.hid hbk
      have HB10 : Hid (Below w1.heap.size w1 w10) := Lib.hid (HB9.out.trans (b10.mono HB9.out.size))
      clear hbk b10
      go_wp2_with fail
      generalize w9.heap.size = gp at HBK ⊢
      go_loopw [17, 85] (fun a c wx => ∃ (i : Nat) (A : List Ev), i ≤ 4 ∧ c = .int .i64 i ∧ a = .string (txtT A) ∧ Hid (A.Perm (accL l i) ∧ Srt ltE A ∧ Below w10.heap.size w10 wx)) (fun _ c _ => 4 - (intOf c).toNat)
      case atStart => exact ⟨0, z2, by omega, rfl, rfl, Lib.hid ⟨HA0.out.1, HA0.out.2, Below.refl _ _⟩⟩
      case round =>
        obtain ⟨i, A, hi4, rfl, rfl, HA⟩ := hrel
        have HBX : Hid (Below w1.heap.size w1 wr) := Lib.hid (HB10.out.trans (HA.out.2.2.mono HB10.out.size))
        by_cases hlt : i < 4
        · have hcell : wr.cell? ⟨gp, i, none⟩ = some (.string (pT i)) := by
            rw [(HBK.out.bel HA.out.2.2).cell]
            rcases (by omega : i = 0 ∨ i = 1 ∨ i = 2 ∨ i = 3) with rfl | rfl | rfl | rfl <;> rfl
          have hi0 : (0 : Int) ≤ (i : Int) := by omega
          have hi1 : (i : Int) < 4 := by omega
          have HQ1 := Lib.hid (HPR.out (pT i) wr (pT_ne ⟨i, hlt⟩) HBX.out)
          obtain ⟨qi, hqi⟩ : ∃ qi, pT i = qi := ⟨_, rfl⟩
          rw [hqi] at hcell HQ1
          have HQI := Lib.hid hqi
          clear hqi
          go_wp2_with fail
          refine HQ1.out.mono ?_
          rintro e w11 ⟨zq, rfl, pq, sq, b11⟩
          have HB11 : Hid (Below w1.heap.size w1 w11) := Lib.hid (HBX.out.trans (b11.mono HBX.out.size))
          have hpm : (A ++ zq).Perm (accL l (i + 1)) := by
            show (A ++ zq).Perm (accL l i ++ perL (pT i) l)
            rw [HQI.out]
            exact HA.out.1.append pq
          have htl : ∀ e ∈ A ++ zq, TaleEv e := fun e he => HL.out.2.2.1 e (acc_sub l (i + 1) e (hpm.mem_iff.1 he))
          have hmg := merge_any A zq w11 (HGL.out w11 HB11.out) (fun e he => htl e (by simp [he])) (fun e he => htl e (by simp [he])) HA.out.2.1 sq (perm_ids hpm (acc_ids HL.out.2.2.2 (i + 1) (by omega))) (by rw [hpm.length_eq]; have := acc_len HL.out.2.2.2 HL.out.2.2.1 (i + 1) (by omega); have := HL.out.2.1; omega)
          have HMG := Lib.hid hmg
          have HPM := Lib.hid (And.intro hpm (HA.out.2.2.trans (b11.mono HA.out.2.2.size)))
          clear pq sq b11 hpm htl hmg HQ1 hcell
          go_wp2_with fail
          refine HMG.out.mono ?_
          rintro e w12 ⟨z3, rfl, p3, s3, b12⟩
          have HA3 : Hid (z3.Perm (accL l (i + 1)) ∧ Srt ltE z3 ∧ Below w10.heap.size w10 w12) := Lib.hid ⟨p3.trans HPM.out.1, s3, HPM.out.2.trans (b12.mono HPM.out.2.size)⟩
          clear p3 s3 b12 HMG
          go_wp2_with fail
          go_roundw
          case rel => exact ⟨i + 1, z3, by omega, by go_num, rfl, HA3⟩
          case measure => simp [intOf]; omega
        · have ei : i = 4 := by omega
          subst ei
          have HAL := Lib.hid (all_any b1 n c1 l wr (HGL.out wr HBX.out) (HI1.out.bel HBX.out) HL.out.1 (by omega) HL.out.2.2.1 HL.out.2.2.2)
          go_wp2_with fail
          refine HAL.out.mono ?_
          rintro e w13 ⟨z4, rfl, p4, s4, b13⟩
          have hAl := HA.out.1.trans (acc_all HL.out.2.2.2 HL.out.2.2.1)
          have ez : A = z4 := srt_one (hAl.trans p4.symm) HA.out.2.1 s4 (perm_ids hAl HL.out.2.2.2)
          have HEND : Hid (Below w.heap.size w w13) := Lib.hid (HB1.out.trans ((HBX.out.trans (b13.mono HBX.out.size)).mono HB1.out.size))
          clear p4 s4 b13 hAl HAL HA
          subst ez
          go_wp2_with fail
          go_ret
          exact ⟨by simp, HEND.out⟩
end Tl
end Go.Proofs.YtbhghelegonbbaaDoor
namespace Go.Proofs.YtbhghelegonbbaaDoor
open Go.RowKit Go.MapKept Go.Maps
set_option linter.unusedVariables false
set_option linter.unusedSimpArgs false
namespace Tl
open Es Rk
theorem finB' {fn : Func} {q p q2 q3 : Tmp} {tmps : Array Value} {w : World} {g : Nat} {cs : List Value} (h : fn.results = #[.tmp q, .cell p 32, .tmp q2, .tmp q3]) (hp : tmps.getD p undef = .pointer (some ⟨g, 0, none⟩)) (hl : cs.length = 22) (hb : Bk w g cs 32) : (results fn tmps).run Tryd.prog w = .ok (.tuple #[tmps.getD q undef, .agg cs.toArray, tmps.getD q2 undef, tmps.getD q3 undef]) w := by
  have := run_loadVar_row (P := Tryd.prog) w g 32 _ _ (0, 0) _ hb Tryd.underlying32 rfl (by rw [List.size_toArray, hl]; kernel_rfl)
  have hp' : tmps[p]?.getD undef = .pointer (some ⟨g, 0, none⟩) := by simpa using hp
  simp [results, h, hp', asAddr, this, Result.andThen]
set_option maxRecDepth 100000 in
set_option maxHeartbeats 8000000 in
theorem begun_long (b : Option Addr) (n cap : Nat) (w : World) (hn : 300 < n) :
    Calls Tryd.prog 4 #[.slice b n cap] w fun e w' => e = .returned (.tuple #[.slice none 0 0, .agg zerS.toArray, .int .i64 0, .bool false]) ∧ Below w.heap.size w w' := by
  have n300 : (300 : Int) < (n : Int) := by omega
  go_enter Tryd.func4, Tryd.ntmps4
  go_wp2_with (first
    | ((with_reducible show wpList _ _ _ (Oper.mk _ (Op.store 32 _ _) _ _ _ _ :: _) _ _); refine wpList_store_rowTo rfl 32 _ _ rfl rfl w.heap.size zerS.toArray rfl rfl 32 zerS.toArray (Bk.new w zerS 32) (by kernel_rfl) rfl (all_oneCell_toArray (List.all_eq_true.1 rfl)) ?_)
    | fail)
  exact bodyPost_ret (finB' (cs := zerS) (g := w.heap.size) rfl rfl rfl ((Bk.new w zerS 32).setRow zerS)) rfl ⟨rfl, bel_setRow ((Below.refl _ _).alloc (Nat.le_refl _) _) (Nat.le_refl _) _⟩
set_option maxRecDepth 100000 in
set_option maxHeartbeats 8000000 in
theorem top_long (b : Option Addr) (n cap : Nat) (who : Nat) (w : World) (hG : Glob w) (hn : 300 < n) :
    Calls Tryd.prog 3 #[.slice b n cap, .int .u8 who] w fun e w' => e = .returned (.bool true) ∧ Below w.heap.size w w' := by
  have HBG := Lib.hid (begun_long b n cap w hn)
  have HG := Lib.hid hG
  clear hG hn
  go_enter Tryd.func3, Tryd.ntmps3
  go_wp2_with fail
  refine HBG.out.mono ?_
  rintro e w1 ⟨rfl, hb1⟩
  have HB1 := Lib.hid hb1
  clear HBG hb1
  go_upto_region 2 with (first
    | ((with_reducible show wpList _ _ _ (Oper.mk _ (Op.store 32 _ _) _ _ _ _ :: _) _ _); refine wpList_store_rowTo rfl 32 _ _ rfl rfl w1.heap.size zerS.toArray rfl rfl 32 zerS.toArray (Bk.new w1 zerS 32) (by kernel_rfl) rfl (all_oneCell_toArray (List.all_eq_true.1 rfl)) ?_)
    | fail)
  have hbv : Below w1.heap.size w1 ((w1.alloc (.cells zerS.toArray 32)).setRow w1.heap.size zerS.toArray) := bel_setRow ((Below.refl _ _).alloc (Nat.le_refl _) _) (Nat.le_refl _) _
  have HBV := Lib.hid (HB1.out.trans (hbv.mono HB1.out.size))
  unfold zerS at HBV hbv ⊢
  generalize (w1.alloc _).setRow w1.heap.size _ = V at HBV ⊢
  clear hbv
  go_wp2_with fail
  refine (parses_any V (HG.out.bel HBV.out)).mono ?_
  rintro e w2 ⟨rfl, b2⟩
  have HB2 : Hid (Below w.heap.size w w2) := Lib.hid (HBV.out.trans (b2.mono HBV.out.size))
  clear b2
  go_wp2_with fail
  refine (parses_any w2 (HG.out.bel HB2.out)).mono ?_
  rintro e w3 ⟨rfl, b3⟩
  have HB3 : Hid (Below w.heap.size w w3) := Lib.hid (HB2.out.trans (b3.mono HB2.out.size))
  clear b3
  go_wp2_with fail
  go_ret
  exact ⟨rfl, HB3.out⟩
theorem top_any (b : Option Addr) (cap : Nat) (xs : List Int) (who : Nat) (w : World) (hG : Glob w) (hX : Bys w b xs) (hw : who ≤ 255) :
    Calls Tryd.prog 3 #[.slice b xs.length cap, .int .u8 who] w fun e w' => e = .returned (.bool true) ∧ Below w.heap.size w w' := by
  by_cases hn : xs.length ≤ 300
  · exact top_small b cap xs who w hG hX hn hw
  · exact top_long b xs.length cap who w hG (by omega)
end Tl
end Go.Proofs.YtbhghelegonbbaaDoor
namespace Go.Proofs.YtbhghelegonbbaaDoor
open Go.ChangeShapes Go.WideShapes Go.ChangeAt Go.RowKit
set_option linter.unusedVariables false
set_option linter.unusedSimpArgs false
/-- an array of texts that reads as these -/
theorem cells_of_strs {H : Type} {enc : TypeId × Value → H} {P : Program} {w : World} {base : Nat} {sp : Nat → Bool} {held : Bool} {fuel : Nat} {t e : TypeId} {n : Nat} {cs : List Value} {zs : List ByteArray} {p : List MemPlace}
    (ht : P.underlying t = some (.array n e)) (he : P.underlying e = some .string) (hce : P.cellsOf e = 1) (hct : P.cellsOf t = n)
    (h : DataW.trod enc P w base sp held fuel t cs = some (.agg (zs.map fun z => .lit (.string z.data.toList)), p)) : cs = zs.map Value.string := by
  obtain ⟨xs, m, _, hx, hl, hxl, hel⟩ := DataW.trod_array ht h
  have hxs : xs.map (·.1) = zs.map fun z => (DataW.lit (.string z.data.toList) : DataW H) := (DataW.agg.inj (Prod.mk.inj hx).1).symm
  have hzl : zs.length = n := by
    have := congrArg List.length hxs
    simp at this
    omega
  rw [hct] at hl
  refine List.ext_getElem? fun i => ?_
  by_cases hi : i < n
  · have hf := hel i hi
    rw [hce, Nat.mul_one, List.getElem?_eq_getElem (show i < xs.length by omega)] at hf
    obtain ⟨z, hc, h3, _⟩ := DataW.trod_string he hf
    have h1 : cs[i]? = some (.string z) := by
      have := congrArg (·[0]?) hc
      simpa [List.getElem?_take, List.getElem?_drop] using this
    have h2 : (xs.map (·.1))[i]? = some (DataW.lit (.string z.data.toList) : DataW H) := by
      rw [List.getElem?_map, List.getElem?_eq_getElem (show i < xs.length by omega), h3]; rfl
    rw [hxs, List.getElem?_map] at h2
    obtain ⟨z', hz', h4⟩ := Option.map_eq_some_iff.1 h2
    simp only [DataW.lit.injEq, Lit.string.injEq] at h4
    rw [h1, List.getElem?_map, hz', byte_ext h4]; rfl
  · rw [List.getElem?_eq_none (by omega), List.getElem?_eq_none (by simp; omega)]
namespace Tl
theorem gPow : Tryd.prog.globalNamed "internal/strconv.uint64pow10" = some 3 := by kernel_rfl
theorem gKinds : Tryd.prog.globalNamed "cicerone/tale.kinds" = some 1 := by kernel_rfl
theorem gNames : Tryd.prog.globalNamed "cicerone/event.kindNames" = some 0 := by kernel_rfl
theorem tPow : (Tryd.prog.globals[3]?).map (·.type) = some 135 := by kernel_rfl
theorem tKinds : (Tryd.prog.globals[1]?).map (·.type) = some 108 := by kernel_rfl
theorem tNames : (Tryd.prog.globals[0]?).map (·.type) = some 97 := by kernel_rfl
theorem glob_of {W : World} (hL : laidMetH Tryd.prog Rows.topExportRow.laid W) (hsh : W.ShapedOpen Tryd.prog) : Glob W := by
  rw [MakeChecks.laidMetH_plain _ _ _ (by kernel_rfl)] at hL
  obtain ⟨m, hm⟩ := cell_of_shapedOpen_int (P := Tryd.prog) (g := 2) (t := 3) (zero := #[.int .i64 0]) hsh (of_decide_eq_true (by kernel_rfl)) (by kernel_rfl) rfl (by kernel_rfl) (by kernel_rfl) Tryd.underlying3
  obtain ⟨ps, ⟨g0, t0, cs0, f0, p0, q0, hg0, ht0, hv0, hd0, ⟨g1, t1, cs1, f1, p1, q1, hg1, ht1, hv1, hd1, ⟨g2, t2, cs2, f2, p2, q2, hg2, ht2, hv2, hd2, ⟨g3, t3, cs3, f3, p3, q3, hg3, ht3, hv3, hd3, ⟨g4, t4, cs4, f4, p4, q4, hg4, ht4, hv4, hd4, ⟨g5, t5, cs5, f5, p5, q5, hg5, ht5, hv5, hd5, ⟨g6, t6, cs6, f6, p6, q6, hg6, ht6, hv6, hd6, _⟩, _⟩, _⟩, _⟩, _⟩, _⟩, _⟩, _⟩ := hL
  obtain rfl := Option.some.inj (gPow.symm.trans hg2)
  obtain rfl := Option.some.inj (tPow.symm.trans ht2)
  obtain rfl := Option.some.inj (gNames.symm.trans hg4)
  obtain rfl := Option.some.inj (tNames.symm.trans ht4)
  obtain rfl := Option.some.inj (gKinds.symm.trans hg5)
  obtain rfl := Option.some.inj (tKinds.symm.trans ht5)
  have k2 := Lib.cells_of_tab (zs := Lib.pow10Tab) Tryd.underlying135 Tryd.underlying30 (by kernel_rfl) (by kernel_rfl) hd2
  have k4 := cells_of_strs (zs := nameB15) Tryd.underlying97 Tryd.underlying9 (by kernel_rfl) (by kernel_rfl) hd4
  have k5 := Lib.cells_of_tab (zs := kindZ) Tryd.underlying108 Tryd.underlying39 (by kernel_rfl) (by kernel_rfl) hd5
  have arr : ∀ {cs : Array Value} {l : List Value}, cs.toList = l → cs = l.toArray := fun h => by rw [← h]
  have hlt : 7 < W.heap.size := by
    unfold World.var? at hv1
    rw [show Tryd.prog.globalNamed "math/bits.deBruijn64tab" = some 7 by kernel_rfl, Option.bind_some] at hv1
    split at hv1
    · rename_i e
      exact (Array.getElem?_eq_some_iff.1 e).1
    · cases hv1
  refine ⟨?_, ?_, ?_, ⟨m, hm⟩, hlt⟩
  · rw [hv5, arr k5]
  · rw [hv4, arr k4]
  · unfold Lib.TabIs
    rw [hv2, arr k2]
end Tl
end Go.Proofs.YtbhghelegonbbaaDoor
namespace Go.Proofs.YtbhghelegonbbaaDoor.topExport
open Go.ChangeShapes Go.WideShapes Go.ChangeAt Go.RowKit Go.Joins
set_option linter.unusedVariables false
theorem own : ownKnob Tryd.prog.godebug = none := by kernel_rfl
theorem laidOut : laidOutB Tryd.prog = true := by kernel_rfl
theorem walk (W : World) (hG : Tl.Glob W) (b : Option Addr) (c : Nat) (xs : List Int) (l : xs.length ≤ c) (m : c ≤ maxLen) (hi : InW W b 1 (xs.map fun x => [.int .u8 x])) (ho : ∀ x ∈ xs, (Lit.int .u8 x).wf = true) (a : Int) (wa : (Lit.int .u8 a).wf = true) :
    Calls Tryd.prog 3 #[.slice b xs.length c, .int .u8 a] W fun e W' => e = .returned (.bool true) ∧ Below W.heap.size W W' := by
  have r8 : ∀ x : Int, (Lit.int .u8 x).wf = true → 0 ≤ x ∧ x ≤ 255 := fun x h => by simpa [Lit.wf, IntKind.min, IntKind.max, IntKind.signed, IntKind.bits] using h
  obtain ⟨k, rfl⟩ : ∃ k : Nat, a = (k : Int) := ⟨a.toNat, by have := r8 a wa; omega⟩
  exact Tl.top_any b c xs k W hG ⟨hi, fun x hx => r8 x (ho x hx)⟩ (by have := r8 _ wa; omega)
set_option maxRecDepth 100000 in
theorem lifted (os : Os) (started : os.Started) (H : Type) (enc : TypeId × Value → H) :
    ReturnsInHanded {} Tryd.checked os 3 .any (fun w args => (Rows.topExportSpec.pre enc Tryd.prog Tryd.f3 Rows.topExportRow.domain false w args ∧ laidMetH Tryd.prog Rows.topExportRow.laid w) ∧ sizedMet enc Tryd.prog Tryd.f3 (OpenSpec.ofChange Rows.topExportSpec) false w args)
      (Rows.topExportSpec.post enc Tryd.prog Tryd.f3 false true false false) := by
  refine returnsInHanded_of_calls (C := Tryd.checked) own started (by kernel_rfl)
    (ChangeSpec.witness_shaped (enc := enc) (C := Tryd.checked) (os := os) (X := fun w _ => laidMetH Tryd.prog Rows.topExportRow.laid w) false (World.laidAll Tryd.prog os Rows.topExportRow.laid) #[.slice none 0 0, .int .u8 0] 8 (World.laidAll_os _ _ _)
      (World.shaped_of_ZipB (by kernel_rfl) (by kernel_rfl)) (by kernel_rfl) (by kernel_rfl) (by kernel_rfl)
      (by rw [MakeChecks.laidMetH_plain _ _ _ (by kernel_rfl)]; exact laidMet_laidAll _ (by kernel_rfl) (by kernel_rfl))) ?_
  intro w tape i _ hsh _ hok hpre _
  obtain ⟨_, _, _, fn', hfn', _, _, _, _, hval0⟩ := hok
  obtain rfl : fn' = Tryd.f3 := Option.some.inj (hfn'.symm.trans Tryd.func3)
  obtain ⟨⟨⟨ds, gs, before, hw, hc⟩, hx⟩, _⟩ := hpre
  have hW := DataW.Whole.of_heap (w' := w.forCall tape i) (by rfl) hw
  have hL : laidMetH Tryd.prog Rows.topExportRow.laid (w.forCall tape i) := hx.of_heap (by rfl)
  have hG := Tl.glob_of hL hsh
  generalize w.forCall tape i = W at hW hL hG hsh hval0 ⊢
  generalize i.args = args at hW hval0 ⊢
  have hfin : Calls Tryd.prog 3 args W fun e W' => ∃ v, e = .returned v ∧ Rows.topExportSpec.post enc Tryd.prog Tryd.f3 false true false false W args v W' := by
    have hval : ∀ (j : Nat) t v, Tryd.f3.params[j]? = some t → args[j]? = some v → Value.okWide Tryd.prog W .any w.heap.size t v := hval0
    have hW' := hW
    obtain ⟨p, q, hA0, hV, rfl, hfz, hnd⟩ := hW
    have hA : DataW.TrodAll enc Tryd.prog W 0 (fun _ => true) true Tryd.f3.params.toList args.toList ds p := hA0
    rw [Tryd.params3] at hA hval
    obtain ⟨v0, vs0, d0, ds0, p0, q0, hargs, rfl, rfl, h0, r0⟩ := trodAll_cons hA
    obtain ⟨v1, vs1, d1, ds1, p1, q1, rfl, rfl, rfl, h1, r1⟩ := trodAll_cons r0
    obtain ⟨rfl, rfl, rfl⟩ := trodAll_nil r1
    obtain rfl : args = #[v0, v1] := by cases args; simp_all
    obtain ⟨rfl, rfl⟩ := trodVars_none hV
    have k0 := h0
    have lt0 : ∀ x ∈ p0, x.block < W.heap.size := by obtain ⟨m, hm⟩ := k0; exact DataW.trod_lt m _ _ _ hm
    obtain ⟨b0, c0, x0, rfl, l0, m0, i0, o0⟩ := open_ints Tryd.underlying22 Tryd.underlying5 (by kernel_rfl) (hval 0 22 v0 rfl rfl) h0
    have k1 := h1
    have lt1 : ∀ x ∈ p1, x.block < W.heap.size := by obtain ⟨m, hm⟩ := k1; exact DataW.trod_lt m _ _ _ hm
    obtain ⟨a1, rfl, rfl, rfl, w1⟩ := open_int Tryd.underlying5 (hval 1 5 v1 rfl rfl) h1
    clear hA0 hval0
    refine (walk W hG b0 c0 x0 l0 m0 i0 o0 a1 w1).mono fun e W' ⟨he, bel⟩ => ?_
    subst he
    exact ⟨_, rfl, _, _, _, [], _, [], hW', trodAll_mk1 (shut_bool Tryd.underlying4 _), (trodAll_cons_mk (Below.trod laidOut (by kernel_rfl) (of_decide_eq_true (by kernel_rfl)) k0 bel lt0) (trodAll_cons_mk (Below.trod laidOut (by kernel_rfl) (of_decide_eq_true (by kernel_rfl)) k1 bel lt1) trodAll_mk0)), rfl, bel.frame _, fun h => by cases h⟩
  refine hfin.mono fun e W' ⟨v, he, hp⟩ => ?_
  subst he
  exact ChangeSpec.post_blind hp
theorem over : Rows.topExportRow.holds Tryd.pinned (OpenSpec.ofChange Rows.topExportSpec) :=
  OpenClaim.holds_of_wide 3 Tryd.f3 rfl rfl rfl rfl rfl rfl rfl ⟨rfl, rfl, rfl, rfl, rfl⟩ rfl rfl rfl rfl rfl (by kernel_rfl) Tryd.func3 (by kernel_rfl)
    (of_decide_eq_true (by kernel_rfl)) (by unfold Func.isWrapper; first | (rw [if_pos (by decide +kernel)]; kernel_rfl) | (rw [if_neg (by decide +kernel)]; exact ⟨rfl, rfl⟩))
    (fun os started H enc _ => lifted os started H enc)
theorem proved : Rows.TopExportCardSaid :=
  Claim7.holds_tied_plain_at .later [] [.data, .data, .data, .data, .data, .data, .pinned] true (true, "df1a2637c0b335ada393b94a65a253b7cb81d0963f1a7dde2f0084c6097a5f39") false
    over (fun _ h => by cases h) (by kernel_rfl) (fun _ h => by cases h) topExport_row_tie rfl ⟨rfl, rfl⟩ (by kernel_rfl) rfl
    (fun f fn hf hfn => by
      obtain rfl : f = 3 := Option.some.inj ((show Tryd.prog.funcNamed "cicerone/ciceronetop.TopExport" = some 3 by kernel_rfl).symm.trans hf) |>.symm
      obtain rfl : fn = Tryd.f3 := (Option.some.inj (Tryd.func3.symm.trans hfn)).symm
      exact ⟨by kernel_rfl, fun j t ht => by
        rw [Tryd.params3] at ht
        have hm : t ∈ [22, 5] := by simpa using Array.mem_of_getElem? ht
        have hall : ([22, 5].all fun u => !Tryd.prog.wantsStandIn u) = true := by kernel_rfl
        exact (show Tryd.prog.wantsStandIn t = false by simpa using List.all_eq_true.1 hall t hm)⟩)
    (by kernel_rfl)
#print axioms proved
end Go.Proofs.YtbhghelegonbbaaDoor.topExport

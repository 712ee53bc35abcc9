/- Events in memory, their order, event.Compare. What the walks of tales share: the package's variables in memory; numbered names. The text of a Listed event. The event of a step. Whole rows and parts of rows of a block, read and written at once. -/
import Derived.Test.YtkofcegdoilaeaaGreatDoorPk1
import Derived.Test.YtkofcegdoilaeaaGreatDoorPk2
import Derived.Test.YtkofcegdoilaeaaGreatDoorPk4
import Derived.Test.YtkofcegdoilaeaaGreatDoorPk5
import Derived.BigQuiet
import Derived.Deep.RegionHeld3
import Derived.Deep.DeepCutAuto
import Derived.WalkSmall
import Derived.BigRegion
import Derived.Deep.MidRow
import Derived.Great.BuildSlice
namespace Go.Proofs.YtkofcegdoilaeaaGreatDoor
open Go.RowKit Go.ChangeShapes Go.WideShapes
set_option linter.unusedVariables false
set_option linter.unusedSimpArgs false
namespace Es
open Rk
structure Ev where
  src : ByteArray
  num : Int
  at_ : Int
  kind : Int
  per : ByteArray
  item : ByteArray
  val : Int
  txt : ByteArray
  deriving DecidableEq
def evC (e : Ev) : List Value := [.string e.src, .int .i64 e.num, .int .i64 e.at_, .int .i64 e.kind, .string e.per, .string e.item, .int .i64 e.val, .string e.txt]
def evV (e : Ev) : Value := .agg #[.string e.src, .int .i64 e.num, .int .i64 e.at_, .int .i64 e.kind, .string e.per, .string e.item, .int .i64 e.val, .string e.txt]
theorem evLen (e : Ev) : (evC e).length = 8 := rfl
theorem evOne (e : Ev) : ∀ u ∈ evC e, u.oneCell' = true := fun u hu => by
  simp only [evC, List.mem_cons, List.not_mem_nil, or_false] at hu
  rcases hu with rfl | rfl | rfl | rfl | rfl | rfl | rfl | rfl <;> rfl
structure EvOk (e : Ev) : Prop where
  num : -9223372036854775808 ≤ e.num ∧ e.num ≤ 9223372036854775807
  at_ : -9223372036854775808 ≤ e.at_ ∧ e.at_ ≤ 9223372036854775807
  src : e.src.size ≤ maxLen
def cI (a b : Int) : Int := if a < b then -1 else if b < a then 1 else 0
def cB (a b : ByteArray) : Int := Lib.compareBytes a.data.toList b.data.toList
def or3 (a b c : Int) : Int := if a ≠ 0 then a else if b ≠ 0 then b else c
theorem cmpL_lt : ∀ (a b : List UInt8), Lib.compareBytes a b = if a < b then -1 else if b < a then 1 else 0
  | [], [] => by simp [Lib.compareBytes]
  | [], _ :: _ => by simp [Lib.compareBytes]
  | _ :: _, [] => by simp [Lib.compareBytes]
  | a :: us, b :: vs => by
    rw [Lib.compareBytes, cmpL_lt us vs]
    by_cases h1 : a < b
    · rw [if_pos h1, if_pos (List.cons_lt_cons_iff.2 (.inl h1))]
    · rw [if_neg h1]
      by_cases h2 : b < a
      · rw [if_pos h2, if_neg (fun h => by
          rcases List.cons_lt_cons_iff.1 h with h | ⟨h, _⟩
          · exact h1 h
          · subst h; exact h1 h2), if_pos (List.cons_lt_cons_iff.2 (.inl h2))]
      · rw [if_neg h2]
        have e : a = b := UInt8.le_antisymm (UInt8.not_lt.1 h2) (UInt8.not_lt.1 h1)
        subst e
        have k : ∀ u v : List UInt8, a :: u < a :: v ↔ u < v := fun u v => by
          rw [List.cons_lt_cons_iff]
          exact ⟨fun h => h.elim (fun h => absurd h h1) (fun h => h.2), fun h => .inr ⟨rfl, h⟩⟩
        simp only [k]
theorem cB_eq (a b : ByteArray) : cB a b = if ltB a b then -1 else if ltB b a then 1 else 0 := cmpL_lt _ _
/-- what event.Compare tells -/
def cE (x y : Ev) : Int := or3 (cI x.at_ y.at_) (cB x.src y.src) (cI x.num y.num)
/-- x stands ahead of y -/
def ltE (x y : Ev) : Bool := decide (cE x y < 0)
def LTE (x y : Ev) : Prop := x.at_ < y.at_ ∨ (x.at_ = y.at_ ∧ (ltB x.src y.src ∨ (x.src = y.src ∧ x.num < y.num)))
theorem cE_lt (x y : Ev) : cE x y < 0 ↔ LTE x y := by
  unfold cE or3 cI LTE
  rw [cB_eq]
  by_cases h1 : x.at_ < y.at_
  · rw [if_pos h1, if_pos (by decide)]
    exact ⟨fun _ => .inl h1, fun _ => by decide⟩
  · rw [if_neg h1]
    by_cases h2 : y.at_ < x.at_
    · rw [if_pos h2, if_pos (by decide)]
      refine ⟨fun h => by omega, fun h => ?_⟩
      rcases h with h | ⟨h, _⟩ <;> omega
    · rw [if_neg h2, if_neg (by decide)]
      have e : x.at_ = y.at_ := by omega
      by_cases h3 : ltB x.src y.src
      · rw [if_pos h3, if_pos (by decide)]
        exact ⟨fun _ => .inr ⟨e, .inl h3⟩, fun _ => by decide⟩
      · rw [if_neg h3]
        by_cases h4 : ltB y.src x.src
        · rw [if_pos h4, if_pos (by decide)]
          refine ⟨fun h => by omega, fun h => ?_⟩
          rcases h with h | ⟨_, h | ⟨h, _⟩⟩
          · omega
          · exact absurd h h3
          · rw [h] at h4; exact absurd h4 (ltB_irrefl _)
        · rw [if_neg h4, if_neg (by decide)]
          have e2 : x.src = y.src := Classical.byContradiction fun c => (ltB_total c).elim h3 h4
          by_cases h5 : x.num < y.num
          · rw [if_pos h5]
            exact ⟨fun _ => .inr ⟨e, .inr ⟨e2, h5⟩⟩, fun _ => by decide⟩
          · rw [if_neg h5]
            constructor
            · intro h; split at h <;> omega
            · rintro (h | ⟨_, h | ⟨_, h⟩⟩)
              · omega
              · exact absurd h h3
              · omega
theorem ltE_iff (x y : Ev) : ltE x y = true ↔ LTE x y := by unfold ltE; rw [decide_eq_true_iff, cE_lt]
def keyE (e : Ev) : Int × ByteArray × Int := (e.at_, e.src, e.num)
theorem LTE_trans {a b c : Ev} (h : LTE a b) (k : LTE b c) : LTE a c := by
  rcases h with h | ⟨h, h' | ⟨h', h''⟩⟩ <;> rcases k with k | ⟨k, k' | ⟨k', k''⟩⟩
  · exact .inl (by omega)
  · exact .inl (by omega)
  · exact .inl (by omega)
  · exact .inl (by omega)
  · exact .inr ⟨by omega, .inl (ltB_trans h' k')⟩
  · exact .inr ⟨by omega, .inl (k' ▸ h')⟩
  · exact .inl (by omega)
  · exact .inr ⟨by omega, .inl (h' ▸ k')⟩
  · exact .inr ⟨by omega, .inr ⟨h'.trans k', by omega⟩⟩
theorem LTE_irrefl (a : Ev) : ¬ LTE a a := by
  rintro (h | ⟨_, h | ⟨_, h⟩⟩)
  · omega
  · exact ltB_irrefl _ h
  · omega
theorem LTE_total {a b : Ev} (h : keyE a ≠ keyE b) : LTE a b ∨ LTE b a := by
  by_cases h1 : a.at_ = b.at_
  · by_cases h2 : a.src = b.src
    · have h3 : a.num ≠ b.num := fun c => h (by unfold keyE; rw [h1, h2, c])
      rcases Int.lt_or_gt_of_ne h3 with k | k
      · exact .inl (.inr ⟨h1, .inr ⟨h2, k⟩⟩)
      · exact .inr (.inr ⟨h1.symm, .inr ⟨h2.symm, k⟩⟩)
    · rcases ltB_total h2 with k | k
      · exact .inl (.inr ⟨h1, .inl k⟩)
      · exact .inr (.inr ⟨h1.symm, .inl k⟩)
  · rcases Int.lt_or_gt_of_ne h1 with k | k
    · exact .inl (.inl k)
    · exact .inr (.inl k)
theorem ltE_no {x y : Ev} : ltE x y = false ↔ ¬ LTE x y := by rw [← ltE_iff]; simp
theorem preE : Pre ltE keyE := by
  refine ⟨fun a b h => ltE_no.2 fun k => LTE_irrefl a (LTE_trans ((ltE_iff _ _).1 h) k), fun a b c h1 h2 => ltE_no.2 fun k => ?_, fun a b h1 h2 => Classical.byContradiction fun c => (LTE_total c).elim (ltE_no.1 h1) (ltE_no.1 h2)⟩
  · skip
    have k1 := ltE_no.1 h1
    have k2 := ltE_no.1 h2
    by_cases e : keyE a = keyE b
    · have e1 : a.at_ = b.at_ := congrArg Prod.fst e
      have e2 : a.src = b.src := congrArg (fun z => z.2.1) e
      have e3 : a.num = b.num := congrArg (fun z => z.2.2) e
      refine k2 ?_
      unfold LTE at k ⊢
      rw [← e1, ← e2, ← e3]; exact k
    · rcases LTE_total e with h | h
      · exact k2 (LTE_trans k h)
      · exact k1 h
end Es
end Go.Proofs.YtkofcegdoilaeaaGreatDoor
namespace Go.Proofs.YtkofcegdoilaeaaGreatDoor
open Go.RowKit Go.MapKept Go.Maps
set_option linter.unusedVariables false
set_option linter.unusedSimpArgs false
namespace Tl
open Es
theorem bel_alloc' {V w : World} (h : Below V.heap.size V w) (o : Obj) : Below V.heap.size V (w.alloc o) := h.alloc h.size o
def kindZ : List Int := [1, 2, 3, 4, 0, 5, 6, 7, 9, 11, 11, 12, 13]
def nameB15 : List ByteArray := [⟨#[115, 101, 101, 110]⟩, ⟨#[111, 112, 101, 110, 101, 100]⟩, ⟨#[102, 105, 110, 105, 115, 104, 101, 100]⟩, ⟨#[98, 111, 117, 103, 104, 116]⟩, ⟨#[114, 97, 116, 101, 100]⟩, ⟨#[104, 105, 100, 100, 101, 110]⟩, ⟨#[117, 110, 104, 105, 100, 100, 101, 110]⟩, ⟨#[102, 111, 108, 108, 111, 119, 101, 100]⟩, ⟨#[117, 110, 102, 111, 108, 108, 111, 119, 101, 100]⟩, ⟨#[109, 117, 116, 101, 100]⟩, ⟨#[117, 110, 109, 117, 116, 101, 100]⟩, ⟨#[108, 105, 115, 116, 101, 100]⟩, ⟨#[115, 116, 111, 99, 107, 101, 100]⟩, ⟨#[100, 101, 108, 105, 115, 116, 101, 100]⟩, ⟨#[102, 111, 114, 103, 111, 116, 116, 101, 110]⟩]
/-- the package's variables, as they are laid -/
structure Glob (w : World) : Prop where
  kinds : w.var? Tryz.prog "cicerone/tale.kinds" = some (kindZ.map (Value.int .i64)).toArray
  pow : Lib.TabIs Tryz.prog w "internal/strconv.uint64pow10" .u64 Lib.pow10Tab
  mx : ∃ m, w.cell? ⟨1, 0, none⟩ = some (.int .i64 m)
  lt : 7 ≤ w.heap.size
theorem Glob.bel {w w' : World} (h : Glob w) (hb : Below w.heap.size w w') : Glob w' := by
  have h8 := h.lt
  refine ⟨var?_below hb (g := 0) (by kernel_rfl) (by omega) h.kinds, ?_, ?_, Nat.le_trans h.lt hb.size⟩
  · exact var?_below hb (g := 2) (by kernel_rfl) (by omega) h.pow
  · obtain ⟨m, hm⟩ := h.mx
    exact ⟨m, (hb.cell (p := ⟨1, 0, none⟩) (show 1 < w.heap.size by omega)).trans hm⟩
theorem cell_of_var {w : World} {n : String} {g : Nat} {cs : List Value} (hg : Tryz.prog.globalNamed n = some g) (h : w.var? Tryz.prog n = some cs.toArray) (i : Nat) : w.cell? ⟨g, i, none⟩ = cs[i]? := by
  unfold World.var? at h
  rw [hg, Option.bind_some] at h
  unfold World.cell?
  simp only
  split at h
  · rename_i c t f e
    rw [e]
    simp only [Option.some.injEq] at h
    subst h
    simp
  · cases h
theorem Glob.kind {w : World} (h : Glob w) {i : Nat} {z : Int} (hi : kindZ[i]? = some z) : w.cell? ⟨0, i, none⟩ = some (.int .i64 z) := by
  rw [cell_of_var (by kernel_rfl) h.kinds, List.getElem?_map, hi]; rfl
theorem stays {f : FuncId} {args : Array Value} {w : World} {v : Ending} (h : Calls Tryz.prog f args w fun e w' => e = v ∧ w' = w) : Calls Tryz.prog f args w fun e w' => e = v ∧ w = w' := h.mono fun _ _ k => ⟨k.1, k.2.symm⟩
theorem tinfo {t : TypeId} {z : Option Value} {s b : Nat} (h : (Tryz.prog.info? t).map (fun i => (i.zero, i.size, i.bytes)) = some (z, s, b)) : ∃ i, Tryz.prog.info? t = some i ∧ i.zero = z ∧ i.size = s ∧ i.bytes = b := by
  obtain ⟨i, h1, h2⟩ := Option.map_eq_some_iff.1 h
  simp only [Prod.mk.injEq] at h2
  exact ⟨i, h1, h2.1, h2.2.1, h2.2.2⟩
/-- a letter and a number -/
def numT (l : ByteArray) (n : Nat) : ByteArray := l ++ ⟨(Lib.decDigits n).toArray⟩
theorem dec_short : ∀ n : Fin 100, (Lib.decDigits n.val).length ≤ 2 := by decide +kernel
theorem numT_size (l : ByteArray) (n : Nat) (hn : n < 100) : (numT l n).size ≤ l.size + 2 := by
  have := dec_short ⟨n, hn⟩
  unfold numT
  rw [ByteArray.size_append]
  simp only [ByteArray.size, List.size_toArray]
  simp only at this
  omega
theorem numbered_any (l : ByteArray) (n : Nat) (hn : n < 100) (hl : l.size ≤ 100) (w : World) :
    Calls Tryz.prog 31 #[.string l, .int .i64 n] w fun e w' => e = .returned (.string (numT l n)) ∧ w = w' := by
  have hd : (Lib.decDigits n).length ≤ 2 := dec_short ⟨n, hn⟩
  have hd2 : ¬ (9223372036854775807 < l.size + (Lib.decDigits n).length) := by omega
  go_enter Tryz.func31, Tryz.ntmps31
  go_wp2_with fail
  refine (stays (Tryz.strconv_Itoa_small n hn w)).mono ?_
  rintro e w' ⟨rfl, rfl⟩
  go_wp2_with fail
  go_ret
  exact ⟨rfl, rfl⟩
end Tl
end Go.Proofs.YtkofcegdoilaeaaGreatDoor
namespace Go.Proofs.YtkofcegdoilaeaaGreatDoor
open Go.RowKit Go.MapKept Go.Maps
set_option linter.unusedVariables false
set_option linter.unusedSimpArgs false
namespace Tl
open Es
/-- the tags that are on -/
def tagsT (b0 b1 b2 : Bool) : List ByteArray := (if b0 then [numT ⟨#[116]⟩ 0] else []) ++ ((if b1 then [numT ⟨#[116]⟩ 1] else []) ++ (if b2 then [numT ⟨#[116]⟩ 2] else []))
def tagsU (b0 b1 b2 : Bool) : Nat → List ByteArray
  | 0 => []
  | 1 => if b0 then [numT ⟨#[116]⟩ 0] else []
  | 2 => (if b0 then [numT ⟨#[116]⟩ 0] else []) ++ (if b1 then [numT ⟨#[116]⟩ 1] else [])
  | _ => tagsT b0 b1 b2
/-- texts joined -/
def joinT (xs : List ByteArray) (sep : ByteArray) : ByteArray := ⟨(Lib.join (xs.map (·.data.toList)) sep.data.toList).toArray⟩
def lstT (m : ByteArray) (b0 b1 b2 : Bool) : ByteArray := if b0 || b1 || b2 then m ++ ⟨#[59]⟩ ++ joinT (tagsT b0 b1 b2) ⟨#[44]⟩ else m ++ ⟨#[59]⟩
theorem joined_short : ∀ b0 b1 b2, (joinT (tagsT b0 b1 b2) ⟨#[44]⟩).size ≤ 10 := by decide +kernel
theorem eq3 (b0 b1 b2 : Bool) (W : World) : Sem.run Tryz.prog (Op.equalIn 10000 127 (.agg #[.bool b0, .bool b1, .bool b2]) (.agg #[.bool false, .bool false, .bool false])) W = .ok (!(b0 || b1 || b2)) W := by
  cases b0 <;> cases b1 <;> cases b2 <;> kernel_rfl
theorem ix3 (b0 b1 b2 : Bool) (W : World) : Sem.run Tryz.prog (Instr.index 127 (.agg #[.bool b0, .bool b1, .bool b2]) (.int .i64 0)) W = .ok (.bool b0) W ∧ Sem.run Tryz.prog (Instr.index 127 (.agg #[.bool b0, .bool b1, .bool b2]) (.int .i64 1)) W = .ok (.bool b1) W ∧ Sem.run Tryz.prog (Instr.index 127 (.agg #[.bool b0, .bool b1, .bool b2]) (.int .i64 2)) W = .ok (.bool b2) W :=
  ⟨by kernel_rfl, by kernel_rfl, by kernel_rfl⟩
/-- strings.Join of a row of texts -/
theorem join_any {W : World} {v : Value} {xs : List ByteArray} (sep : ByteArray) (h : TextsAt W v xs) (h0 : xs ≠ []) (hl : (joinT xs sep).size ≤ 100000) (hx : xs.length ≤ 100000) :
    Calls Tryz.prog 63 #[v, .string sep] W fun e w' => e = .returned (.string (joinT xs sep)) ∧ Below W.heap.size W w' := by
  obtain ⟨b, cap, rfl, hc, hm, hs⟩ := h.strs
  rcases hs with hs | ⟨B, off, rfl, hB, hcell⟩
  · exact absurd (List.map_eq_nil_iff.1 hs) h0
  · exact Tryz.strings_Join B off cap xs sep W (fun j x hj => by
      have := hcell j [.string x] (by rw [List.getElem?_map, hj]; rfl) 0 _ rfl
      simpa using this) hB (by omega) hc (by simp only [joinT, ByteArray.size, List.size_toArray] at hl; omega)
def LstPost (m : ByteArray) (w : World) (e : Ending) (w' : World) : Prop := ∃ b0 b1 b2, e = .returned (.string (lstT m b0 b1 b2)) ∧ Below w.heap.size w w'
set_option maxRecDepth 100000 in
set_option maxHeartbeats 4000000 in
theorem tlisting_any (m : ByteArray) (v : Int) (w : World) (hm : m.size ≤ 10) (h0 : 0 ≤ v) (h1 : v ≤ 255) :
    Calls Tryz.prog 49 #[.string m, .int .i64 v] w (LstPost m w) := by
  go_enter Tryz.func49, Tryz.ntmps49
  go_wp2_with fail
  go_loopw [10] (fun c wr => ∃ (i : Nat) (b0 b1 b2 : Bool), i ≤ 3 ∧ c = .int .i64 i ∧ Hid (Below w.heap.size w wr ∧ Bk wr w.heap.size [.bool b0, .bool b1, .bool b2] 127)) (fun c _ => 3 - (intOf c).toNat)
  case atStart => exact ⟨0, false, false, false, by omega, rfl, Lib.hid ⟨(Below.refl _ _).alloc (Nat.le_refl _) _, Bk.new w [.bool false, .bool false, .bool false] 127⟩⟩
  case round =>
    obtain ⟨i, b0, b1, b2, hi, rfl, H⟩ := hrel
    by_cases hlt : i < 3
    · have hb := H.out.2
      have c0 : wr.cell? ⟨w.heap.size, 0, none⟩ = some (.bool b0) := hb.cell 0
      have c1 : wr.cell? ⟨w.heap.size, 1, none⟩ = some (.bool b1) := hb.cell 1
      have c2 : wr.cell? ⟨w.heap.size, 2, none⟩ = some (.bool b2) := hb.cell 2
      have g0 : ∀ j, wr.frozen? ⟨w.heap.size, j, none⟩ = false := fun j => hb.free j
      clear hb
      rcases (by omega : i = 0 ∨ i = 1 ∨ i = 2) with e | e | e
      · subst e
        go_wp2_with fail
        exact ⟨⟨1, _, b1, b2, by omega, rfl, Lib.hid ⟨H.out.1.setCell (Nat.le_refl _) _, H.out.2.set 0 _⟩⟩, by simp [intOf]⟩
      · subst e
        go_wp2_with fail
        exact ⟨⟨2, b0, _, b2, by omega, rfl, Lib.hid ⟨H.out.1.setCell (Nat.le_refl _) _, H.out.2.set 1 _⟩⟩, by simp [intOf]⟩
      · subst e
        go_wp2_with fail
        exact ⟨⟨3, b0, b1, _, by omega, rfl, Lib.hid ⟨H.out.1.setCell (Nat.le_refl _) _, H.out.2.set 2 _⟩⟩, by simp [intOf]⟩
    · obtain rfl : i = 3 := by omega
      have hb := H.out.2
      have c0 : wr.cell? ⟨w.heap.size, 0, none⟩ = some (.bool b0) := hb.cell 0
      have c1 : wr.cell? ⟨w.heap.size, 1, none⟩ = some (.bool b1) := hb.cell 1
      have c2 : wr.cell? ⟨w.heap.size, 2, none⟩ = some (.bool b2) := hb.cell 2
      have hsz : ¬ (9223372036854775807 < m.size + 1) := by omega
      clear hb
      have h3 := H.out
      cases hb : (b0 || b1 || b2) with
      | false =>
        have he := eq3 b0 b1 b2 wr
        rw [hb] at he
        have HB := Lib.hid hb
        clear hb
        go_wp2_with fail
        go_ret
        exact ⟨b0, b1, b2, by rw [lstT, HB.out]; rfl, h3.1⟩
      | true =>
        have he := eq3 b0 b1 b2 wr
        rw [hb] at he
        have HB := Lib.hid hb
        have H3 := Lib.hid h3
        obtain ⟨i0, hi0, hz0, hz1, hz2⟩ := tinfo infoText
        clear hb h3
        go_wp2_with fail
        go_loopg [7, 28] 3 (fun g u c wx => ∃ i : Nat, i ≤ 3 ∧ c = .int .i64 i ∧ 3 - i ≤ g ∧ Hid (MkT wr wx u (tagsU b0 b1 b2 i)))
        case atStart => exact ⟨0, by omega, rfl, Nat.le_refl _, Lib.hid (MkT.nil wr)⟩
        case round =>
          obtain ⟨i, hi, rfl, hg, HM⟩ := hrel
          clear he
          by_cases hlt : i < 3
          · rcases (by omega : i = 0 ∨ i = 1 ∨ i = 2) with e | e | e
            · subst e
              have HN : Hid (∀ W, Calls Tryz.prog 31 #[.string ⟨#[116]⟩, .int .i64 0] W fun e w' => e = .returned (.string (numT ⟨#[116]⟩ 0)) ∧ W = w') := Lib.hid (fun W => numbered_any ⟨#[116]⟩ 0 (by decide) (by decide) W)
              cases b0 with
              | false =>
                have hix := (ix3 false b1 b2 wr).1
                go_wp2_with fail
                go_roundg 2
                case measure => omega
                case rel => exact ⟨1, by omega, rfl, by omega, by simpa [tagsU, tagsT] using HM⟩
              | true =>
                have hix := (ix3 true b1 b2 wr).1
                go_wp2_with fail
                refine (HN.out _).mono ?_
                rintro e w' ⟨rfl, rfl⟩
                have HM2 := Lib.hid (HM.out.alloc (.cells #[.string (numT ⟨#[116]⟩ 0)] 9))
                have HIN : Hid (InW (wr.alloc (.cells #[.string (numT ⟨#[116]⟩ 0)] 9)) (some ⟨wr.heap.size, 0, none⟩) 1 ([numT ⟨#[116]⟩ 0].map tC)) := Lib.hid (inw_one (f := tC) (x := numT ⟨#[116]⟩ 0) (Bk.new wr (tC (numT ⟨#[116]⟩ 0)) 9))
                have HLN : Hid ((tagsU true b1 b2 0).length + [numT ⟨#[116]⟩ 0].length ≤ 1000000) := Lib.hid (by simp only [tagsU]; first | (simp; done) | (cases b0 <;> simp; done) | (cases b0 <;> cases b1 <;> simp; done))
                go_wp2_with (at_builtin; refine wpList_append_m tLen tOne _ rfl _ _ _ rfl 9 i0 _ 16 Tryz.underlying73 hi0 hz0 hz1 hz2 rfl (by decide) (by omega) u7 (tagsU true b1 b2 0) [numT ⟨#[116]⟩ 0] rfl HM2.out.tx.flat (some ⟨wr.heap.size, 0, none⟩) 1 1 rfl rfl HIN.out HLN.out ?_; intro v5 w5 o5 f5 h5)
                have HM5 := Lib.hid (HM2.out.more o5 f5 h5)
                clear o5 f5 h5 HM2 HIN HLN
                go_wp2_with fail
                go_roundg 2
                case measure => omega
                case rel => exact ⟨1, by omega, rfl, by omega, by simpa [tagsU, tagsT] using HM5⟩
            · subst e
              have HN : Hid (∀ W, Calls Tryz.prog 31 #[.string ⟨#[116]⟩, .int .i64 1] W fun e w' => e = .returned (.string (numT ⟨#[116]⟩ 1)) ∧ W = w') := Lib.hid (fun W => numbered_any ⟨#[116]⟩ 1 (by decide) (by decide) W)
              cases b1 with
              | false =>
                have hix := (ix3 b0 false b2 wr).2.1
                go_wp2_with fail
                go_roundg 1
                case measure => omega
                case rel => exact ⟨2, by omega, rfl, by omega, by simpa [tagsU, tagsT] using HM⟩
              | true =>
                have hix := (ix3 b0 true b2 wr).2.1
                go_wp2_with fail
                refine (HN.out _).mono ?_
                rintro e w' ⟨rfl, rfl⟩
                have HM2 := Lib.hid (HM.out.alloc (.cells #[.string (numT ⟨#[116]⟩ 1)] 9))
                have HIN : Hid (InW (wr.alloc (.cells #[.string (numT ⟨#[116]⟩ 1)] 9)) (some ⟨wr.heap.size, 0, none⟩) 1 ([numT ⟨#[116]⟩ 1].map tC)) := Lib.hid (inw_one (f := tC) (x := numT ⟨#[116]⟩ 1) (Bk.new wr (tC (numT ⟨#[116]⟩ 1)) 9))
                have HLN : Hid ((tagsU b0 true b2 1).length + [numT ⟨#[116]⟩ 1].length ≤ 1000000) := Lib.hid (by simp only [tagsU]; first | (simp; done) | (cases b0 <;> simp; done) | (cases b0 <;> cases b1 <;> simp; done))
                go_wp2_with (at_builtin; refine wpList_append_m tLen tOne _ rfl _ _ _ rfl 9 i0 _ 16 Tryz.underlying73 hi0 hz0 hz1 hz2 rfl (by decide) (by omega) u7 (tagsU b0 true b2 1) [numT ⟨#[116]⟩ 1] rfl HM2.out.tx.flat (some ⟨wr.heap.size, 0, none⟩) 1 1 rfl rfl HIN.out HLN.out ?_; intro v5 w5 o5 f5 h5)
                have HM5 := Lib.hid (HM2.out.more o5 f5 h5)
                clear o5 f5 h5 HM2 HIN HLN
                go_wp2_with fail
                go_roundg 1
                case measure => omega
                case rel => exact ⟨2, by omega, rfl, by omega, by simpa [tagsU, tagsT] using HM5⟩
            · subst e
              have HN : Hid (∀ W, Calls Tryz.prog 31 #[.string ⟨#[116]⟩, .int .i64 2] W fun e w' => e = .returned (.string (numT ⟨#[116]⟩ 2)) ∧ W = w') := Lib.hid (fun W => numbered_any ⟨#[116]⟩ 2 (by decide) (by decide) W)
              cases b2 with
              | false =>
                have hix := (ix3 b0 b1 false wr).2.2
                go_wp2_with fail
                go_roundg 0
                case measure => omega
                case rel => exact ⟨3, by omega, rfl, by omega, by simpa [tagsU, tagsT] using HM⟩
              | true =>
                have hix := (ix3 b0 b1 true wr).2.2
                go_wp2_with fail
                refine (HN.out _).mono ?_
                rintro e w' ⟨rfl, rfl⟩
                have HM2 := Lib.hid (HM.out.alloc (.cells #[.string (numT ⟨#[116]⟩ 2)] 9))
                have HIN : Hid (InW (wr.alloc (.cells #[.string (numT ⟨#[116]⟩ 2)] 9)) (some ⟨wr.heap.size, 0, none⟩) 1 ([numT ⟨#[116]⟩ 2].map tC)) := Lib.hid (inw_one (f := tC) (x := numT ⟨#[116]⟩ 2) (Bk.new wr (tC (numT ⟨#[116]⟩ 2)) 9))
                have HLN : Hid ((tagsU b0 b1 true 2).length + [numT ⟨#[116]⟩ 2].length ≤ 1000000) := Lib.hid (by simp only [tagsU]; first | (simp; done) | (cases b0 <;> simp; done) | (cases b0 <;> cases b1 <;> simp; done))
                go_wp2_with (at_builtin; refine wpList_append_m tLen tOne _ rfl _ _ _ rfl 9 i0 _ 16 Tryz.underlying73 hi0 hz0 hz1 hz2 rfl (by decide) (by omega) u7 (tagsU b0 b1 true 2) [numT ⟨#[116]⟩ 2] rfl HM2.out.tx.flat (some ⟨wr.heap.size, 0, none⟩) 1 1 rfl rfl HIN.out HLN.out ?_; intro v5 w5 o5 f5 h5)
                have HM5 := Lib.hid (HM2.out.more o5 f5 h5)
                clear o5 f5 h5 HM2 HIN HLN
                go_wp2_with fail
                go_roundg 0
                case measure => omega
                case rel => exact ⟨3, by omega, rfl, by omega, by simpa [tagsU, tagsT] using HM5⟩
          · obtain rfl : i = 3 := by omega
            have hne : tagsT b0 b1 b2 ≠ [] := by
              have := HB.out
              cases b0 <;> cases b1 <;> cases b2 <;> first | (simp at this; done) | (simp [tagsT]; done)
            have hjs := joined_short b0 b1 b2
            have hlen : (tagsT b0 b1 b2).length ≤ 3 := by cases b0 <;> cases b1 <;> cases b2 <;> simp [tagsT]
            have HJ := Lib.hid (join_any (W := wr) ⟨#[44]⟩ (show TextsAt wr u7 (tagsT b0 b1 b2) from HM.out.tx) hne (by omega) (by omega))
            have HR : Hid (lstT m b0 b1 b2 = m ++ ⟨#[59]⟩ ++ joinT (tagsT b0 b1 b2) ⟨#[44]⟩) := Lib.hid (by unfold lstT; rw [HB.out, if_pos rfl])
            generalize joinT (tagsT b0 b1 b2) ⟨#[44]⟩ = J at *
            have hsz2 : ¬ (9223372036854775807 < m.size + 1 + J.size) := by omega
            clear hne hlen
            go_wp2_with fail
            refine HJ.out.mono ?_
            rintro e w7 ⟨rfl, b7⟩
            have HB7 := Lib.hid (H3.out.1.trans ((HM.out.bl.mono H3.out.1.size).trans (b7.mono (Nat.le_trans H3.out.1.size HM.out.bl.size))))
            clear b7 HJ
            go_wp2_with fail
            go_ret
            exact ⟨b0, b1, b2, by rw [HR.out]; rfl, HB7.out⟩
end Tl
end Go.Proofs.YtkofcegdoilaeaaGreatDoor
namespace Go.Proofs.YtkofcegdoilaeaaGreatDoor
open Go.RowKit Go.MapKept Go.Maps
set_option linter.unusedVariables false
set_option linter.unusedSimpArgs false
namespace Tl
open Es
def PerT (s : ByteArray) : Prop := ∃ k, k < 4 ∧ s = numT ⟨#[112]⟩ k
def ItemT (s : ByteArray) : Prop := ∃ k, k < 6 ∧ s = numT ⟨#[105]⟩ k
def MakT (s : ByteArray) : Prop := ∃ k, k < 3 ∧ s = numT ⟨#[109]⟩ k
def emp : ByteArray := ⟨#[]⟩
inductive Shape (e : Ev) : Prop where
  | plain (h : e.kind = 0 ∨ e.kind = 1 ∨ e.kind = 2 ∨ e.kind = 3 ∨ e.kind = 5 ∨ e.kind = 6) (p : PerT e.per) (i : ItemT e.item) (v : e.val = 0) (t : e.txt = emp)
  | rated (h : e.kind = 4) (p : PerT e.per) (i : ItemT e.item) (v : 1 ≤ e.val ∧ e.val ≤ 5) (t : e.txt = emp)
  | follow (h : e.kind = 7 ∨ e.kind = 9) (p : PerT e.per) (i : e.item = emp) (v : e.val = 0) (t : MakT e.txt)
  | listed (h : e.kind = 11) (p : e.per = emp) (i : ItemT e.item) (v : 0 ≤ e.val ∧ e.val ≤ 255) (t : ∃ m b0 b1 b2, MakT m ∧ e.txt = lstT m b0 b1 b2)
  | stocked (h : e.kind = 12) (p : e.per = emp) (i : ItemT e.item) (v : 0 ≤ e.val ∧ e.val ≤ 2) (t : e.txt = emp)
  | delisted (h : e.kind = 13) (p : e.per = emp) (i : ItemT e.item) (v : e.val = 0) (t : e.txt = emp)
/-- what events of tales are like -/
structure TaleEv (e : Ev) : Prop where
  src : ∃ k, k < 2 ∧ e.src = numT ⟨#[115]⟩ k
  num : 1 ≤ e.num ∧ e.num ≤ 60
  at_ : 0 ≤ e.at_ ∧ e.at_ ≤ 3000
  shp : Shape e
theorem numbered_int (l : ByteArray) (z : Int) (h0 : 0 ≤ z) (h1 : z < 100) (hl : l.size ≤ 100) (w : World) :
    Calls Tryz.prog 31 #[.string l, .int .i64 z] w fun e w' => e = .returned (.string (numT l z.toNat)) ∧ w = w' := by
  have h := numbered_any l z.toNat (by omega) hl w
  rw [show ((z.toNat : Nat) : Int) = z by omega] at h
  exact h
theorem finE {fn : Func} {p : Tmp} {tmps : Array Value} {w : World} {g : Nat} {e : Ev} (h : fn.results = #[.cell p 60]) (hp : tmps.getD p undef = .pointer (some ⟨g, 0, none⟩)) (hb : Bk w g (evC e) 60) : (results fn tmps).run Tryz.prog w = .ok (evV e) w :=
  results_cell_row h tmps w g _ _ (0, 0) _ hp hb Tryz.underlying60 rfl (by kernel_rfl)
def ToldPost (n : Int) (k : Nat) (w : World) (e : Ending) (w' : World) : Prop := ∃ ev, e = .returned (evV ev) ∧ TaleEv ev ∧ ev.num = n ∧ ev.src = numT ⟨#[115]⟩ k ∧ Below w.heap.size w w'
theorem kind_of {i : Nat} {z : Int} (h : kindZ[i]? = some z) : z = 0 ∨ z = 1 ∨ z = 2 ∨ z = 3 ∨ z = 4 ∨ z = 5 ∨ z = 6 ∨ z = 7 ∨ z = 9 ∨ z = 11 ∨ z = 12 ∨ z = 13 := by
  have := List.mem_of_getElem? h
  simp [kindZ] at this
  omega
set_option maxRecDepth 100000 in
set_option maxHeartbeats 8000000 in
theorem told_any (c0 c1 c2 c3 c4 : Nat) (n t : Int) (w : World) (hG : Glob w) (h0 : c0 ≤ 255) (h1 : c1 ≤ 255) (h2 : c2 ≤ 255) (h3 : c3 ≤ 255) (h4 : c4 ≤ 255) (hk : c0 % 16 ≤ 12) (hn0 : 1 ≤ n) (hn1 : n ≤ 60) (ht0 : 0 ≤ t) (ht1 : t ≤ 3000) :
    Calls Tryz.prog 32 #[.agg #[.int .i64 c0, .int .i64 c1, .int .i64 c2, .int .i64 c3, .int .i64 c4], .int .i64 n, .int .i64 t] w (ToldPost n (c0 / 16 % 2) w) := by
  obtain ⟨kk, hkk⟩ : ∃ kk, c0 % 16 = kk := ⟨_, rfl⟩
  obtain ⟨z, hz⟩ : ∃ z, kindZ[kk]? = some z := ⟨kindZ[kk]'(by simp [kindZ]; omega), List.getElem?_eq_getElem _⟩
  have hzc := kind_of hz
  obtain ⟨ks, hks⟩ : ∃ ks, c0 / 16 % 2 = ks := ⟨_, rfl⟩
  rw [hks]
  obtain ⟨qa, hqa⟩ : ∃ qa, c0 / 16 = qa := ⟨_, rfl⟩
  obtain ⟨qb, hqb⟩ : ∃ qb, c0 / 32 = qb := ⟨_, rfl⟩
  have f1 : (c0 : Int) % 16 = (kk : Int) := by omega
  have f2 : (c0 : Int) / 16 = (qa : Int) := by omega
  have f3 : (qa : Int) % 2 = (ks : Int) := by omega
  have f4 : (c0 : Int) / 32 = (qb : Int) := by omega
  have f1t : (c0 : Int).tmod 16 = (kk : Int) := by rw [Int.tmod_eq_emod_of_nonneg (by omega)]; exact f1
  have f2t : (c0 : Int).tdiv 16 = (qa : Int) := by rw [Int.tdiv_eq_ediv_of_nonneg (by omega)]; exact f2
  have f3t : (qa : Int).tmod 2 = (ks : Int) := by rw [Int.tmod_eq_emod_of_nonneg (by omega)]; exact f3
  have f4t : (c0 : Int).tdiv 32 = (qb : Int) := by rw [Int.tdiv_eq_ediv_of_nonneg (by omega)]; exact f4
  have hqb7 : qb ≤ 7 := by omega
  have hqa15 : qa ≤ 15 := by omega
  have hks2 : ks < 2 := by omega
  have HNU : Hid (∀ (l : ByteArray) (z : Int) W, 0 ≤ z → z < 100 → l.size ≤ 100 → Calls Tryz.prog 31 #[.string l, .int .i64 z] W fun e w' => e = .returned (.string (numT l z.toNat)) ∧ W = w') := Lib.hid (fun l z W a b c => numbered_int l z a b c W)
  have HB2 := Lib.hid (((Below.refl w.heap.size w).alloc (Nat.le_refl _) (.cells #[.int .i64 c0, .int .i64 c1, .int .i64 c2, .int .i64 c3, .int .i64 c4] 91)).alloc (by simp) (.cells #[.string ⟨#[]⟩, .int .i64 0, .int .i64 0, .int .i64 0, .string ⟨#[]⟩, .string ⟨#[]⟩, .int .i64 0, .string ⟨#[]⟩] 60))
  have HG := Lib.hid hG
  have HZ := Lib.hid hz
  clear hG hz hkk hks hqa hqb
  go_enter Tryz.func32, Tryz.ntmps32
  go_wp2_with fail
  go_quiet (fail)
  go_wp2_with fail
  have x1 : Bk (((w.alloc (.cells #[.int .i64 c0, .int .i64 c1, .int .i64 c2, .int .i64 c3, .int .i64 c4] 91)).alloc (.cells #[.string ⟨#[]⟩, .int .i64 0, .int .i64 0, .int .i64 0, .string ⟨#[]⟩, .string ⟨#[]⟩, .int .i64 0, .string ⟨#[]⟩] 60)).drewN nq) w.heap.size [.int .i64 c0, .int .i64 c1, .int .i64 c2, .int .i64 c3, .int .i64 c4] 91 := (Bk.new w [.int .i64 c0, .int .i64 c1, .int .i64 c2, .int .i64 c3, .int .i64 c4] 91).old _
  have x2 : Bk (((w.alloc (.cells #[.int .i64 c0, .int .i64 c1, .int .i64 c2, .int .i64 c3, .int .i64 c4] 91)).alloc (.cells #[.string ⟨#[]⟩, .int .i64 0, .int .i64 0, .int .i64 0, .string ⟨#[]⟩, .string ⟨#[]⟩, .int .i64 0, .string ⟨#[]⟩] 60)).drewN nq) (w.heap.size + 1) [.string ⟨#[]⟩, .int .i64 0, .int .i64 0, .int .i64 0, .string ⟨#[]⟩, .string ⟨#[]⟩, .int .i64 0, .string ⟨#[]⟩] 60 := Bk.new' w _ [.string ⟨#[]⟩, .int .i64 0, .int .i64 0, .int .i64 0, .string ⟨#[]⟩, .string ⟨#[]⟩, .int .i64 0, .string ⟨#[]⟩] 60
  have x3 := bdrewN HB2.out nq
  generalize ((w.alloc (.cells #[.int .i64 c0, .int .i64 c1, .int .i64 c2, .int .i64 c3, .int .i64 c4] 91)).alloc (.cells #[.string ⟨#[]⟩, .int .i64 0, .int .i64 0, .int .i64 0, .string ⟨#[]⟩, .string ⟨#[]⟩, .int .i64 0, .string ⟨#[]⟩] 60)).drewN nq = V at x1 x2 x3 ⊢
  have X := Lib.hid (And.intro x1 (And.intro x2 x3))
  have hkc : V.drew.cell? ⟨0, kk, none⟩ = some (.int .i64 z) := (HG.out.bel x3).kind HZ.out
  have HK : Hid (∀ W, Below V.heap.size V W → W.cell? ⟨0, kk, none⟩ = some (.int .i64 z)) := Lib.hid (fun W hW => ((HG.out.bel x3).bel hW).kind HZ.out)
  clear x1 x2 x3 HB2
  have w1 : IntKind.i64.wrap (5 * (qb : Int)) = 5 * (qb : Int) := IntWalk.i64_in _ (by omega)
  have w2 : IntKind.i64.wrap (t - 5 * (qb : Int)) = t - 5 * (qb : Int) := IntWalk.i64_in _ (by omega)
  have w3 : IntKind.i64.wrap (qa : Int) = (qa : Int) := IntWalk.i64_in _ (by omega)
  have w4 : IntKind.i64.wrap (qb : Int) = (qb : Int) := IntWalk.i64_in _ (by omega)
  have i0 : (0 : Int) ≤ (kk : Int) := by omega
  have i1 : (kk : Int) < 13 := by omega
  have i2 : (0 : Int) ≤ (ks : Int) := by omega
  have i3 : (ks : Int) < 100 := by omega
  go_cut [9] (fun s9 wx => s9 = .pointer (some ⟨V.heap.size, 0, none⟩) ∧ Hid (Bk wx V.heap.size [.string (numT ⟨#[115]⟩ ks), .int .i64 n, .int .i64 (max (t - 5 * (qb : Int)) 0), .int .i64 z, .string ⟨#[]⟩, .string ⟨#[]⟩, .int .i64 0, .string ⟨#[]⟩] 60 ∧ Below V.heap.size V wx))
  case first =>
    go_region_held3 (fun X => X.cell? ⟨0, kk, none⟩ = some (.int .i64 z))
      ((first | assumption | (refine HK.out _ ?_; repeat (first | assumption | exact Below.refl _ _ | refine Below.drew ?_ | refine bel_alloc' ?_ _ | refine Below.setCell ?_ (Nat.le_refl _) _))))
      (first
        | (go_at_call 31
           (with_reducible refine (HNU.out _ _ _ i2 i3 (by decide)).mono ?_); rintro e wx ⟨rfl, rfl⟩)
        | fail)
    all_goals
      go_wp2_with fail
      go_meet
      exact ⟨rfl, Lib.hid ⟨Bk.new V [.string (numT ⟨#[115]⟩ ks), .int .i64 n, .int .i64 (max (t - 5 * (qb : Int)) 0), .int .i64 z, .string ⟨#[]⟩, .string ⟨#[]⟩, .int .i64 0, .string ⟨#[]⟩] 60, ((Below.refl _ _).alloc (Nat.le_refl _) _).drew⟩⟩
  case rest =>
    obtain ⟨rfl, HE⟩ := hcut
    have X2 := Lib.hid (And.intro (X.out.1.bel HE.out.2) (And.intro (X.out.2.1.bel HE.out.2) (And.intro HE.out.1 (And.intro (X.out.2.2.trans (HE.out.2.mono X.out.2.2.size)) (show w.heap.size + 2 ≤ V.heap.size from by have := X.out.2.1.lt; omega)))))
    generalize V.heap.size = g at X2 ⊢
    clear HE HK hkc w1 w2 w3 w4 X f1 f2 f3 f4 f1t f2t f3t f4t
    obtain ⟨p1, hp1⟩ : ∃ p1, c1 % 4 = p1 := ⟨_, rfl⟩
    obtain ⟨p2, hp2⟩ : ∃ p2, c2 % 6 = p2 := ⟨_, rfl⟩
    obtain ⟨p3, hp3⟩ : ∃ p3, c3 % 3 = p3 := ⟨_, rfl⟩
    have g1 : (c1 : Int).tmod 4 = (p1 : Int) := by rw [Int.tmod_eq_emod_of_nonneg (by omega)]; omega
    have g2 : (c2 : Int).tmod 6 = (p2 : Int) := by rw [Int.tmod_eq_emod_of_nonneg (by omega)]; omega
    have g3 : (c3 : Int).tmod 3 = (p3 : Int) := by rw [Int.tmod_eq_emod_of_nonneg (by omega)]; omega
    have HP1 : Hid (∀ W, Calls Tryz.prog 31 #[.string ⟨#[112]⟩, .int .i64 (p1 : Int)] W fun e w' => e = .returned (.string (numT ⟨#[112]⟩ p1)) ∧ W = w') := Lib.hid (fun W => numbered_any _ p1 (by omega) (by decide) W)
    have HP2 : Hid (∀ W, Calls Tryz.prog 31 #[.string ⟨#[105]⟩, .int .i64 (p2 : Int)] W fun e w' => e = .returned (.string (numT ⟨#[105]⟩ p2)) ∧ W = w') := Lib.hid (fun W => numbered_any _ p2 (by omega) (by decide) W)
    have HP3 : Hid (∀ W, Calls Tryz.prog 31 #[.string ⟨#[109]⟩, .int .i64 (p3 : Int)] W fun e w' => e = .returned (.string (numT ⟨#[109]⟩ p3)) ∧ W = w') := Lib.hid (fun W => numbered_any _ p3 (by omega) (by decide) W)
    have HPQ := Lib.hid (And.intro (show p1 < 4 by omega) (And.intro (show p2 < 6 by omega) (show p3 < 3 by omega)))
    clear hp1 hp2 hp3
    go_wp2_with fail
    have kk2 : wc.drew.cell? ⟨w.heap.size, 1, none⟩ = some (.int .i64 c1) ∧ wc.drew.cell? ⟨w.heap.size, 2, none⟩ = some (.int .i64 c2) := ⟨X2.out.1.cell 1, X2.out.1.cell 2⟩
    go_cut [10, 11, 12] (fun s10 s11 s12 wx => s10 = .string (numT ⟨#[112]⟩ p1) ∧ s11 = .string (numT ⟨#[105]⟩ p2) ∧ s12 = .string (numT ⟨#[109]⟩ p3) ∧ Hid (Below wc.heap.size wc wx))
    case first =>
      go_region_held3 (fun X => X.cell? ⟨w.heap.size, 1, none⟩ = some (.int .i64 c1) ∧ X.cell? ⟨w.heap.size, 2, none⟩ = some (.int .i64 c2))
        (first | assumption | exact kk2)
        (first
          | (go_at_call 31
             first
             | ((with_reducible refine (HP1.out _).mono ?_); rintro e wx ⟨rfl, rfl⟩)
             | ((with_reducible refine (HP2.out _).mono ?_); rintro e wx ⟨rfl, rfl⟩)
             | ((with_reducible refine (HP3.out _).mono ?_); rintro e wx ⟨rfl, rfl⟩)
             | fail)
          | fail)
      all_goals
        go_wp2_with fail
        go_meet
        exact ⟨rfl, rfl, rfl, Lib.hid ((Below.refl _ _).drew)⟩
    case rest =>
      obtain ⟨rfl, rfl, rfl, HW⟩ := hcut
      have hx1 := X2.out.2.1.bel HW.out
      have hx2 := X2.out.2.2.1.bel HW.out
      have hr : w.heap.size + 2 ≤ g := X2.out.2.2.2.2
      have hbl := X2.out.2.2.2.1.trans (HW.out.mono X2.out.2.2.2.1.size)
      have HE := Lib.hid (And.intro hx1 (And.intro hx2 (And.intro hbl hr)))
      have d0 : wc.cell? ⟨g, 0, none⟩ = some (.string (numT ⟨#[115]⟩ ks)) := hx2.cell 0
      have d1 : wc.cell? ⟨g, 1, none⟩ = some (.int .i64 n) := hx2.cell 1
      have d2 : wc.cell? ⟨g, 2, none⟩ = some (.int .i64 (max (t - 5 * (qb : Int)) 0)) := hx2.cell 2
      have d3 : wc.cell? ⟨g, 3, none⟩ = some (.int .i64 z) := hx2.cell 3
      have d4 : wc.cell? ⟨g, 4, none⟩ = some (.string ⟨#[]⟩) := hx2.cell 4
      have d5 : wc.cell? ⟨g, 5, none⟩ = some (.string ⟨#[]⟩) := hx2.cell 5
      have d6 : wc.cell? ⟨g, 6, none⟩ = some (.int .i64 0) := hx2.cell 6
      have d7 : wc.cell? ⟨g, 7, none⟩ = some (.string ⟨#[]⟩) := hx2.cell 7
      have e0 : wc.cell? ⟨w.heap.size + 1, 0, none⟩ = some (.string ⟨#[]⟩) := hx1.cell 0
      have e1 : wc.cell? ⟨w.heap.size + 1, 1, none⟩ = some (.int .i64 0) := hx1.cell 1
      have e2 : wc.cell? ⟨w.heap.size + 1, 2, none⟩ = some (.int .i64 0) := hx1.cell 2
      have e3 : wc.cell? ⟨w.heap.size + 1, 3, none⟩ = some (.int .i64 0) := hx1.cell 3
      have e4 : wc.cell? ⟨w.heap.size + 1, 4, none⟩ = some (.string ⟨#[]⟩) := hx1.cell 4
      have e5 : wc.cell? ⟨w.heap.size + 1, 5, none⟩ = some (.string ⟨#[]⟩) := hx1.cell 5
      have e6 : wc.cell? ⟨w.heap.size + 1, 6, none⟩ = some (.int .i64 0) := hx1.cell 6
      have e7 : wc.cell? ⟨w.heap.size + 1, 7, none⟩ = some (.string ⟨#[]⟩) := hx1.cell 7
      have gf : ∀ j, wc.frozen? ⟨g, j, none⟩ = false := fun j => hx2.free j
      have rf : ∀ j, wc.frozen? ⟨w.heap.size + 1, j, none⟩ = false := fun j => hx1.free j
      have ne1 : ¬ g = w.heap.size + 1 := by omega
      have ne2 : ¬ w.heap.size + 1 = g := by omega
      obtain ⟨p5, hp5⟩ : ∃ p5, c3 % 5 = p5 := ⟨_, rfl⟩
      have m3 : (c3 : Int) % 3 = (p3 : Int) := by rw [← g3, Int.tmod_eq_emod_of_nonneg (by omega)]
      have m5 : (c3 : Int) % 5 = (p5 : Int) := by omega
      have hp54 : p5 ≤ 4 := by omega
      clear hp5
      have hc3 : (0 : Int) ≤ (c3 : Int) := by omega
      have hc3' : (c3 : Int) ≤ 255 := by omega
      have HLE := Lib.hid (And.intro (show w.heap.size ≤ g by omega) (show w.heap.size ≤ w.heap.size + 1 by omega))
      clear hx1 hx2 hbl hr
      rcases hzc with rfl | rfl | rfl | rfl | rfl | rfl | rfl | rfl | rfl | rfl | rfl | rfl
      · go_wp2_with fail
        refine bodyPost_ret (finE (e := ⟨(numT ⟨#[115]⟩ ks), n, (max (t - 5 * (qb : Int)) 0), 0, (numT ⟨#[112]⟩ p1), (numT ⟨#[105]⟩ p2), 0, ⟨#[]⟩⟩) rfl rfl ?_) rfl ⟨⟨(numT ⟨#[115]⟩ ks), n, (max (t - 5 * (qb : Int)) 0), 0, (numT ⟨#[112]⟩ p1), (numT ⟨#[105]⟩ p2), 0, ⟨#[]⟩⟩, rfl, ⟨⟨ks, hks2, rfl⟩, ⟨hn0, hn1⟩, ⟨by simp only; omega, by simp only; omega⟩, .plain (by simp) ⟨p1, HPQ.out.1, rfl⟩ ⟨p2, HPQ.out.2.1, rfl⟩ rfl rfl⟩, rfl, rfl, ?_⟩
        · exact (((((((((Bk.other (Bk.other HE.out.1 g 4 _ ne2) g 5 _ ne2).set 0 _).set 1 _).set 2 _).set 3 _).set 4 _).set 5 _).set 6 _).set 7 _)
        · exact ((((((((((HE.out.2.2.1.setCell HLE.out.1 _).setCell HLE.out.1 _).setCell HLE.out.2 _).setCell HLE.out.2 _).setCell HLE.out.2 _).setCell HLE.out.2 _).setCell HLE.out.2 _).setCell HLE.out.2 _).setCell HLE.out.2 _).setCell HLE.out.2 _)
      · go_wp2_with fail
        refine bodyPost_ret (finE (e := ⟨(numT ⟨#[115]⟩ ks), n, (max (t - 5 * (qb : Int)) 0), 1, (numT ⟨#[112]⟩ p1), (numT ⟨#[105]⟩ p2), 0, ⟨#[]⟩⟩) rfl rfl ?_) rfl ⟨⟨(numT ⟨#[115]⟩ ks), n, (max (t - 5 * (qb : Int)) 0), 1, (numT ⟨#[112]⟩ p1), (numT ⟨#[105]⟩ p2), 0, ⟨#[]⟩⟩, rfl, ⟨⟨ks, hks2, rfl⟩, ⟨hn0, hn1⟩, ⟨by simp only; omega, by simp only; omega⟩, .plain (by simp) ⟨p1, HPQ.out.1, rfl⟩ ⟨p2, HPQ.out.2.1, rfl⟩ rfl rfl⟩, rfl, rfl, ?_⟩
        · exact (((((((((Bk.other (Bk.other HE.out.1 g 4 _ ne2) g 5 _ ne2).set 0 _).set 1 _).set 2 _).set 3 _).set 4 _).set 5 _).set 6 _).set 7 _)
        · exact ((((((((((HE.out.2.2.1.setCell HLE.out.1 _).setCell HLE.out.1 _).setCell HLE.out.2 _).setCell HLE.out.2 _).setCell HLE.out.2 _).setCell HLE.out.2 _).setCell HLE.out.2 _).setCell HLE.out.2 _).setCell HLE.out.2 _).setCell HLE.out.2 _)
      · go_wp2_with fail
        refine bodyPost_ret (finE (e := ⟨(numT ⟨#[115]⟩ ks), n, (max (t - 5 * (qb : Int)) 0), 2, (numT ⟨#[112]⟩ p1), (numT ⟨#[105]⟩ p2), 0, ⟨#[]⟩⟩) rfl rfl ?_) rfl ⟨⟨(numT ⟨#[115]⟩ ks), n, (max (t - 5 * (qb : Int)) 0), 2, (numT ⟨#[112]⟩ p1), (numT ⟨#[105]⟩ p2), 0, ⟨#[]⟩⟩, rfl, ⟨⟨ks, hks2, rfl⟩, ⟨hn0, hn1⟩, ⟨by simp only; omega, by simp only; omega⟩, .plain (by simp) ⟨p1, HPQ.out.1, rfl⟩ ⟨p2, HPQ.out.2.1, rfl⟩ rfl rfl⟩, rfl, rfl, ?_⟩
        · exact (((((((((Bk.other (Bk.other HE.out.1 g 4 _ ne2) g 5 _ ne2).set 0 _).set 1 _).set 2 _).set 3 _).set 4 _).set 5 _).set 6 _).set 7 _)
        · exact ((((((((((HE.out.2.2.1.setCell HLE.out.1 _).setCell HLE.out.1 _).setCell HLE.out.2 _).setCell HLE.out.2 _).setCell HLE.out.2 _).setCell HLE.out.2 _).setCell HLE.out.2 _).setCell HLE.out.2 _).setCell HLE.out.2 _).setCell HLE.out.2 _)
      · go_wp2_with fail
        refine bodyPost_ret (finE (e := ⟨(numT ⟨#[115]⟩ ks), n, (max (t - 5 * (qb : Int)) 0), 3, (numT ⟨#[112]⟩ p1), (numT ⟨#[105]⟩ p2), 0, ⟨#[]⟩⟩) rfl rfl ?_) rfl ⟨⟨(numT ⟨#[115]⟩ ks), n, (max (t - 5 * (qb : Int)) 0), 3, (numT ⟨#[112]⟩ p1), (numT ⟨#[105]⟩ p2), 0, ⟨#[]⟩⟩, rfl, ⟨⟨ks, hks2, rfl⟩, ⟨hn0, hn1⟩, ⟨by simp only; omega, by simp only; omega⟩, .plain (by simp) ⟨p1, HPQ.out.1, rfl⟩ ⟨p2, HPQ.out.2.1, rfl⟩ rfl rfl⟩, rfl, rfl, ?_⟩
        · exact (((((((((Bk.other (Bk.other HE.out.1 g 4 _ ne2) g 5 _ ne2).set 0 _).set 1 _).set 2 _).set 3 _).set 4 _).set 5 _).set 6 _).set 7 _)
        · exact ((((((((((HE.out.2.2.1.setCell HLE.out.1 _).setCell HLE.out.1 _).setCell HLE.out.2 _).setCell HLE.out.2 _).setCell HLE.out.2 _).setCell HLE.out.2 _).setCell HLE.out.2 _).setCell HLE.out.2 _).setCell HLE.out.2 _).setCell HLE.out.2 _)
      · go_wp2_with fail
        refine bodyPost_ret (finE (e := ⟨(numT ⟨#[115]⟩ ks), n, (max (t - 5 * (qb : Int)) 0), 4, (numT ⟨#[112]⟩ p1), (numT ⟨#[105]⟩ p2), (1 + (p5 : Int)), ⟨#[]⟩⟩) rfl rfl ?_) rfl ⟨⟨(numT ⟨#[115]⟩ ks), n, (max (t - 5 * (qb : Int)) 0), 4, (numT ⟨#[112]⟩ p1), (numT ⟨#[105]⟩ p2), (1 + (p5 : Int)), ⟨#[]⟩⟩, rfl, ⟨⟨ks, hks2, rfl⟩, ⟨hn0, hn1⟩, ⟨by simp only; omega, by simp only; omega⟩, .rated rfl ⟨p1, HPQ.out.1, rfl⟩ ⟨p2, HPQ.out.2.1, rfl⟩ ⟨by simp only; omega, by simp only; omega⟩ rfl⟩, rfl, rfl, ?_⟩
        · exact (((((((((Bk.other (Bk.other (Bk.other HE.out.1 g 4 _ ne2) g 5 _ ne2) g 6 _ ne2).set 0 _).set 1 _).set 2 _).set 3 _).set 4 _).set 5 _).set 6 _).set 7 _)
        · exact (((((((((((HE.out.2.2.1.setCell HLE.out.1 _).setCell HLE.out.1 _).setCell HLE.out.1 _).setCell HLE.out.2 _).setCell HLE.out.2 _).setCell HLE.out.2 _).setCell HLE.out.2 _).setCell HLE.out.2 _).setCell HLE.out.2 _).setCell HLE.out.2 _).setCell HLE.out.2 _)
      · go_wp2_with fail
        refine bodyPost_ret (finE (e := ⟨(numT ⟨#[115]⟩ ks), n, (max (t - 5 * (qb : Int)) 0), 5, (numT ⟨#[112]⟩ p1), (numT ⟨#[105]⟩ p2), 0, ⟨#[]⟩⟩) rfl rfl ?_) rfl ⟨⟨(numT ⟨#[115]⟩ ks), n, (max (t - 5 * (qb : Int)) 0), 5, (numT ⟨#[112]⟩ p1), (numT ⟨#[105]⟩ p2), 0, ⟨#[]⟩⟩, rfl, ⟨⟨ks, hks2, rfl⟩, ⟨hn0, hn1⟩, ⟨by simp only; omega, by simp only; omega⟩, .plain (by simp) ⟨p1, HPQ.out.1, rfl⟩ ⟨p2, HPQ.out.2.1, rfl⟩ rfl rfl⟩, rfl, rfl, ?_⟩
        · exact (((((((((Bk.other (Bk.other HE.out.1 g 4 _ ne2) g 5 _ ne2).set 0 _).set 1 _).set 2 _).set 3 _).set 4 _).set 5 _).set 6 _).set 7 _)
        · exact ((((((((((HE.out.2.2.1.setCell HLE.out.1 _).setCell HLE.out.1 _).setCell HLE.out.2 _).setCell HLE.out.2 _).setCell HLE.out.2 _).setCell HLE.out.2 _).setCell HLE.out.2 _).setCell HLE.out.2 _).setCell HLE.out.2 _).setCell HLE.out.2 _)
      · go_wp2_with fail
        refine bodyPost_ret (finE (e := ⟨(numT ⟨#[115]⟩ ks), n, (max (t - 5 * (qb : Int)) 0), 6, (numT ⟨#[112]⟩ p1), (numT ⟨#[105]⟩ p2), 0, ⟨#[]⟩⟩) rfl rfl ?_) rfl ⟨⟨(numT ⟨#[115]⟩ ks), n, (max (t - 5 * (qb : Int)) 0), 6, (numT ⟨#[112]⟩ p1), (numT ⟨#[105]⟩ p2), 0, ⟨#[]⟩⟩, rfl, ⟨⟨ks, hks2, rfl⟩, ⟨hn0, hn1⟩, ⟨by simp only; omega, by simp only; omega⟩, .plain (by simp) ⟨p1, HPQ.out.1, rfl⟩ ⟨p2, HPQ.out.2.1, rfl⟩ rfl rfl⟩, rfl, rfl, ?_⟩
        · exact (((((((((Bk.other (Bk.other HE.out.1 g 4 _ ne2) g 5 _ ne2).set 0 _).set 1 _).set 2 _).set 3 _).set 4 _).set 5 _).set 6 _).set 7 _)
        · exact ((((((((((HE.out.2.2.1.setCell HLE.out.1 _).setCell HLE.out.1 _).setCell HLE.out.2 _).setCell HLE.out.2 _).setCell HLE.out.2 _).setCell HLE.out.2 _).setCell HLE.out.2 _).setCell HLE.out.2 _).setCell HLE.out.2 _).setCell HLE.out.2 _)
      · go_wp2_with fail
        refine bodyPost_ret (finE (e := ⟨(numT ⟨#[115]⟩ ks), n, (max (t - 5 * (qb : Int)) 0), 7, (numT ⟨#[112]⟩ p1), ⟨#[]⟩, 0, (numT ⟨#[109]⟩ p3)⟩) rfl rfl ?_) rfl ⟨⟨(numT ⟨#[115]⟩ ks), n, (max (t - 5 * (qb : Int)) 0), 7, (numT ⟨#[112]⟩ p1), ⟨#[]⟩, 0, (numT ⟨#[109]⟩ p3)⟩, rfl, ⟨⟨ks, hks2, rfl⟩, ⟨hn0, hn1⟩, ⟨by simp only; omega, by simp only; omega⟩, .follow (by simp) ⟨p1, HPQ.out.1, rfl⟩ rfl rfl ⟨p3, HPQ.out.2.2, rfl⟩⟩, rfl, rfl, ?_⟩
        · exact (((((((((Bk.other (Bk.other HE.out.1 g 4 _ ne2) g 7 _ ne2).set 0 _).set 1 _).set 2 _).set 3 _).set 4 _).set 5 _).set 6 _).set 7 _)
        · exact ((((((((((HE.out.2.2.1.setCell HLE.out.1 _).setCell HLE.out.1 _).setCell HLE.out.2 _).setCell HLE.out.2 _).setCell HLE.out.2 _).setCell HLE.out.2 _).setCell HLE.out.2 _).setCell HLE.out.2 _).setCell HLE.out.2 _).setCell HLE.out.2 _)
      · go_wp2_with fail
        refine bodyPost_ret (finE (e := ⟨(numT ⟨#[115]⟩ ks), n, (max (t - 5 * (qb : Int)) 0), 9, (numT ⟨#[112]⟩ p1), ⟨#[]⟩, 0, (numT ⟨#[109]⟩ p3)⟩) rfl rfl ?_) rfl ⟨⟨(numT ⟨#[115]⟩ ks), n, (max (t - 5 * (qb : Int)) 0), 9, (numT ⟨#[112]⟩ p1), ⟨#[]⟩, 0, (numT ⟨#[109]⟩ p3)⟩, rfl, ⟨⟨ks, hks2, rfl⟩, ⟨hn0, hn1⟩, ⟨by simp only; omega, by simp only; omega⟩, .follow (by simp) ⟨p1, HPQ.out.1, rfl⟩ rfl rfl ⟨p3, HPQ.out.2.2, rfl⟩⟩, rfl, rfl, ?_⟩
        · exact (((((((((Bk.other (Bk.other HE.out.1 g 4 _ ne2) g 7 _ ne2).set 0 _).set 1 _).set 2 _).set 3 _).set 4 _).set 5 _).set 6 _).set 7 _)
        · exact ((((((((((HE.out.2.2.1.setCell HLE.out.1 _).setCell HLE.out.1 _).setCell HLE.out.2 _).setCell HLE.out.2 _).setCell HLE.out.2 _).setCell HLE.out.2 _).setCell HLE.out.2 _).setCell HLE.out.2 _).setCell HLE.out.2 _).setCell HLE.out.2 _)
      · go_wp2_with fail
        refine (tlisting_any (numT ⟨#[109]⟩ p3) c3 wc (Nat.le_trans (numT_size ⟨#[109]⟩ p3 (by have := HPQ.out.2.2; omega)) (by decide)) hc3 hc3').mono ?_
        rintro e w6 ⟨b0, b1, b2, rfl, b6⟩
        have HE6 := Lib.hid (And.intro (HE.out.1.bel b6) (And.intro (HE.out.2.1.bel b6) (And.intro (HE.out.2.2.1.trans (b6.mono HE.out.2.2.1.size)) trivial)))
        have hx1 := HE6.out.1
        have hx2 := HE6.out.2.1
        clear d0 d1 d2 d3 d4 d5 d6 d7 e0 e1 e2 e3 e4 e5 e6 e7 gf rf b6
        have d0 : w6.cell? ⟨g, 0, none⟩ = some (.string (numT ⟨#[115]⟩ ks)) := hx2.cell 0
        have e0 : w6.cell? ⟨w.heap.size + 1, 0, none⟩ = some (.string ⟨#[]⟩) := hx1.cell 0
        have d1 : w6.cell? ⟨g, 1, none⟩ = some (.int .i64 n) := hx2.cell 1
        have e1 : w6.cell? ⟨w.heap.size + 1, 1, none⟩ = some (.int .i64 0) := hx1.cell 1
        have d2 : w6.cell? ⟨g, 2, none⟩ = some (.int .i64 (max (t - 5 * (qb : Int)) 0)) := hx2.cell 2
        have e2 : w6.cell? ⟨w.heap.size + 1, 2, none⟩ = some (.int .i64 0) := hx1.cell 2
        have d3 : w6.cell? ⟨g, 3, none⟩ = some (.int .i64 11) := hx2.cell 3
        have e3 : w6.cell? ⟨w.heap.size + 1, 3, none⟩ = some (.int .i64 0) := hx1.cell 3
        have d4 : w6.cell? ⟨g, 4, none⟩ = some (.string ⟨#[]⟩) := hx2.cell 4
        have e4 : w6.cell? ⟨w.heap.size + 1, 4, none⟩ = some (.string ⟨#[]⟩) := hx1.cell 4
        have d5 : w6.cell? ⟨g, 5, none⟩ = some (.string ⟨#[]⟩) := hx2.cell 5
        have e5 : w6.cell? ⟨w.heap.size + 1, 5, none⟩ = some (.string ⟨#[]⟩) := hx1.cell 5
        have d6 : w6.cell? ⟨g, 6, none⟩ = some (.int .i64 0) := hx2.cell 6
        have e6 : w6.cell? ⟨w.heap.size + 1, 6, none⟩ = some (.int .i64 0) := hx1.cell 6
        have d7 : w6.cell? ⟨g, 7, none⟩ = some (.string ⟨#[]⟩) := hx2.cell 7
        have e7 : w6.cell? ⟨w.heap.size + 1, 7, none⟩ = some (.string ⟨#[]⟩) := hx1.cell 7
        have gf : ∀ j, w6.frozen? ⟨g, j, none⟩ = false := fun j => hx2.free j
        have rf : ∀ j, w6.frozen? ⟨w.heap.size + 1, j, none⟩ = false := fun j => hx1.free j
        clear hx1 hx2
        go_wp2_with fail
        refine bodyPost_ret (finE (e := ⟨(numT ⟨#[115]⟩ ks), n, (max (t - 5 * (qb : Int)) 0), 11, ⟨#[]⟩, (numT ⟨#[105]⟩ p2), c3, (lstT (numT ⟨#[109]⟩ p3) b0 b1 b2)⟩) rfl rfl ?_) rfl ⟨⟨(numT ⟨#[115]⟩ ks), n, (max (t - 5 * (qb : Int)) 0), 11, ⟨#[]⟩, (numT ⟨#[105]⟩ p2), c3, (lstT (numT ⟨#[109]⟩ p3) b0 b1 b2)⟩, rfl, ⟨⟨ks, hks2, rfl⟩, ⟨hn0, hn1⟩, ⟨by simp only; omega, by simp only; omega⟩, .listed rfl rfl ⟨p2, HPQ.out.2.1, rfl⟩ ⟨hc3, hc3'⟩ ⟨_, b0, b1, b2, ⟨p3, HPQ.out.2.2, rfl⟩, rfl⟩⟩, rfl, rfl, ?_⟩
        · exact (((((((((Bk.other (Bk.other (Bk.other HE6.out.1 g 5 _ ne2) g 6 _ ne2) g 7 _ ne2).set 0 _).set 1 _).set 2 _).set 3 _).set 4 _).set 5 _).set 6 _).set 7 _)
        · exact (((((((((((HE6.out.2.2.1.setCell HLE.out.1 _).setCell HLE.out.1 _).setCell HLE.out.1 _).setCell HLE.out.2 _).setCell HLE.out.2 _).setCell HLE.out.2 _).setCell HLE.out.2 _).setCell HLE.out.2 _).setCell HLE.out.2 _).setCell HLE.out.2 _).setCell HLE.out.2 _)
      · go_wp2_with fail
        refine bodyPost_ret (finE (e := ⟨(numT ⟨#[115]⟩ ks), n, (max (t - 5 * (qb : Int)) 0), 12, ⟨#[]⟩, (numT ⟨#[105]⟩ p2), (p3 : Nat), ⟨#[]⟩⟩) rfl rfl ?_) rfl ⟨⟨(numT ⟨#[115]⟩ ks), n, (max (t - 5 * (qb : Int)) 0), 12, ⟨#[]⟩, (numT ⟨#[105]⟩ p2), (p3 : Nat), ⟨#[]⟩⟩, rfl, ⟨⟨ks, hks2, rfl⟩, ⟨hn0, hn1⟩, ⟨by simp only; omega, by simp only; omega⟩, .stocked rfl rfl ⟨p2, HPQ.out.2.1, rfl⟩ ⟨by simp only; omega, by have := HPQ.out.2.2; simp only; omega⟩ rfl⟩, rfl, rfl, ?_⟩
        · exact (((((((((Bk.other (Bk.other HE.out.1 g 5 _ ne2) g 6 _ ne2).set 0 _).set 1 _).set 2 _).set 3 _).set 4 _).set 5 _).set 6 _).set 7 _)
        · exact ((((((((((HE.out.2.2.1.setCell HLE.out.1 _).setCell HLE.out.1 _).setCell HLE.out.2 _).setCell HLE.out.2 _).setCell HLE.out.2 _).setCell HLE.out.2 _).setCell HLE.out.2 _).setCell HLE.out.2 _).setCell HLE.out.2 _).setCell HLE.out.2 _)
      · go_wp2_with fail
        refine bodyPost_ret (finE (e := ⟨(numT ⟨#[115]⟩ ks), n, (max (t - 5 * (qb : Int)) 0), 13, ⟨#[]⟩, (numT ⟨#[105]⟩ p2), 0, ⟨#[]⟩⟩) rfl rfl ?_) rfl ⟨⟨(numT ⟨#[115]⟩ ks), n, (max (t - 5 * (qb : Int)) 0), 13, ⟨#[]⟩, (numT ⟨#[105]⟩ p2), 0, ⟨#[]⟩⟩, rfl, ⟨⟨ks, hks2, rfl⟩, ⟨hn0, hn1⟩, ⟨by simp only; omega, by simp only; omega⟩, .delisted rfl rfl ⟨p2, HPQ.out.2.1, rfl⟩ rfl rfl⟩, rfl, rfl, ?_⟩
        · exact (((((((((Bk.other HE.out.1 g 5 _ ne2).set 0 _).set 1 _).set 2 _).set 3 _).set 4 _).set 5 _).set 6 _).set 7 _)
        · exact (((((((((HE.out.2.2.1.setCell HLE.out.1 _).setCell HLE.out.2 _).setCell HLE.out.2 _).setCell HLE.out.2 _).setCell HLE.out.2 _).setCell HLE.out.2 _).setCell HLE.out.2 _).setCell HLE.out.2 _).setCell HLE.out.2 _)
end Tl
end Go.Proofs.YtkofcegdoilaeaaGreatDoor
namespace Go.Proofs.YtkofcegdoilaeaaGreatDoor
open Go.RowKit Go.MapKept Go.Maps
set_option linter.unusedVariables false
set_option linter.unusedSimpArgs false
theorem Bk.setRow {w : World} {g : Nat} {cs : List Value} {t : TypeId} (h : Bk w g cs t) (vs : List Value) : Bk (w.setRow g vs.toArray) g vs t := setRow_heap w g _ _ t _ h
theorem Bk.rowOther {w : World} {g : Nat} {cs : List Value} {t : TypeId} (h : Bk w g cs t) (k : Nat) (vs : Array Value) (hk : g ≠ k) : Bk (w.setRow k vs) g cs t := (setRow_other w k g vs hk).trans h
theorem bel_setRow {B : Nat} {a w : World} (h : Below B a w) {g : Nat} (hg : B ≤ g) (cs : Array Value) : Below B a (w.setRow g cs) :=
  h.trans ⟨rfl, rfl, rfl, by simp, fun k hk => setRow_other w g k cs (by omega)⟩
theorem Bk.range {w : World} {g : Nat} {cs : List Value} {t : TypeId} (h : Bk w g cs t) (o : Nat) (vs : List Value) (hv : ∀ j v, vs[j]? = some v → cs[o + j]? = some v) : w.rangeAt g o vs := fun j v hj => by
  rw [h.cell]; exact hv j v hj
theorem Bk.there {w : World} {g : Nat} {cs : List Value} {t : TypeId} (h : Bk w g cs t) (o n : Nat) (ho : o + n ≤ cs.length) : w.there g o n := fun j hj => by
  refine ⟨?_, h.free _⟩
  rw [h.cell, List.getElem?_eq_getElem (by omega)]; rfl
/-- a part of a list is written -/
def lput (cs : List Value) : Nat → List Value → List Value
  | _, [] => cs
  | o, v :: vs => lput (cs.set o v) (o + 1) vs
theorem Bk.lput {g : Nat} {t : TypeId} : ∀ (vs : List Value) (o : Nat) {w : World} {cs : List Value}, Bk w g cs t → Bk (w.setCells g o vs) g (lput cs o vs) t
  | [], _, _, _, h => h
  | v :: vs, o, _, _, h => Bk.lput vs (o + 1) (h.set o v)
theorem Bk.cellsOther {g k : Nat} {t : TypeId} {cs : List Value} (hk : g ≠ k) : ∀ (vs : List Value) (o : Nat) {w : World}, Bk w g cs t → Bk (w.setCells k o vs) g cs t
  | [], _, _, h => h
  | v :: vs, o, _, h => Bk.cellsOther hk vs (o + 1) (h.other k o v hk)
theorem bel_setCells {B g : Nat} {a : World} (hg : B ≤ g) : ∀ (vs : List Value) (o : Nat) {w : World}, Below B a w → Below B a (w.setCells g o vs)
  | [], _, _, h => h
  | v :: vs, o, _, h => bel_setCells hg vs (o + 1) (h.setCell hg _)
theorem fr_setCells {S : Nat → Prop} {a : World} {g : Nat} (hg : a.heap.size ≤ g ∨ S g) : ∀ (vs : List Value) (o : Nat) {w : World}, Fr S a w → Fr S a (w.setCells g o vs)
  | [], _, _, h => h
  | v :: vs, o, _, h => fr_setCells hg vs (o + 1) (h.setCell g o v hg)
theorem size_setCells (g : Nat) : ∀ (vs : List Value) (o : Nat) (w : World), (w.setCells g o vs).heap.size = w.heap.size
  | [], _, _ => rfl
  | v :: vs, o, w => by rw [World.setCells, size_setCells g vs]; simp [World.setCell]
end Go.Proofs.YtkofcegdoilaeaaGreatDoor

/- The document's disk in memory; contracts of its New, Arm, At, bytes. Contracts of the document's Arm, Read (layer 4). Contracts of the document's without, Put (layer 4). -/
import Derived.Test.YtemfnchiedepoaaDkHere
import Derived.Test.YtemfnchiedepoaaRowG
import Derived.Laws.ResultCell
import Derived.Laws.Rows
namespace Go.Proofs.Ytemfnchiedepoaa
open Go.RowKit Go.MapKept Go.Maps
set_option linter.unusedVariables false
def flC (p : ByteArray × Fl) : List Value := [.string p.1, .string p.2.s, .int .i64 (p.2.lasts : Int), .bool p.2.stays]
theorem flLen (a : ByteArray × Fl) : (flC a).length = 4 := rfl
theorem flOne (a : ByteArray × Fl) : ∀ u ∈ flC a, u.oneCell' = true := fun u hu => by
  simp only [flC, List.mem_cons, List.not_mem_nil, or_false] at hu
  rcases hu with rfl | rfl | rfl | rfl <;> rfl
theorem infoFl : (Try.prog.info? 80).map (fun i => (i.zero, i.size, i.bytes)) = some (some (.agg #[.string ⟨#[]⟩, .string ⟨#[]⟩, .int .i64 0, .bool false]), 4, 48) := by kernel_rfl
theorem fls_at {w : World} {b : Option Addr} {xs : Fs} (h : InW w b 4 (xs.map flC)) {i : Nat} {p : ByteArray × Fl} (hi : xs[i]? = some p) :
    ∃ B off, b = some ⟨B, off, none⟩ ∧ B < w.heap.size ∧ w.cell? ⟨B, off + i * 4, none⟩ = some (.string p.1) ∧ w.cell? ⟨B, off + i * 4 + 1, none⟩ = some (.string p.2.s) ∧ w.cell? ⟨B, off + i * 4 + 2, none⟩ = some (.int .i64 (p.2.lasts : Int)) ∧ w.cell? ⟨B, off + i * 4 + 3, none⟩ = some (.bool p.2.stays) := by
  rcases h with h | ⟨B, off, hb, hl, hc⟩
  · rw [List.map_eq_nil_iff.1 h] at hi; cases hi
  · have hm : (xs.map flC)[i]? = some (flC p) := by rw [List.getElem?_map, hi]; rfl
    exact ⟨B, off, hb, hl, hc i _ hm 0 _ rfl, hc i _ hm 1 _ rfl, hc i _ hm 2 _ rfl, hc i _ hm 3 _ rfl⟩
def dkC (u : Value) (fu : Int) (dn : Bool) : Value := .agg #[u, .int .i64 fu, .bool dn]
/-- the place of a file, as At tells -/
def AtPos (L : Fs) (n : ByteArray) (r : Int) : Prop := (r = -1 ∧ mget L n = none) ∨ ∃ (i : Nat) (f : Fl), r = i ∧ L[i]? = some (n, f) ∧ mget L n = some f
theorem mget_skip {L : Fs} {n : ByteArray} {i : Nat} {p : ByteArray × Fl} (h : ∀ q ∈ L.take i, q.1 ≠ n) (hi : L[i]? = some p) (he : p.1 = n) : mget L n = some p.2 := by
  induction L generalizing i with
  | nil => cases hi
  | cons q L ih =>
    cases i with
    | zero => simp at hi; subst hi; rw [mget, if_pos he]
    | succ i =>
      have h0 : q.1 ≠ n := h q (by simp)
      rw [mget, if_neg h0]
      exact ih (fun r hr => h r (by rw [List.take_succ_cons]; exact List.mem_cons_of_mem _ hr)) (by simpa using hi)
theorem mget_off {L : Fs} {n : ByteArray} (h : ∀ q ∈ L, q.1 ≠ n) : mget L n = none := by
  induction L with
  | nil => rfl
  | cons q L ih => rw [mget, if_neg (h q (by simp)), ih (fun r hr => h r (by simp [hr]))]
/-- a disk handed back by value -/
theorem fin1 {fn : Func} {p : Tmp} {tmps : Array Value} {w : World} {g : Nat} {u v x : Value} (h : fn.results = #[.cell p 48]) (hp : tmps.getD p undef = .pointer (some ⟨g, 0, none⟩)) (hb : Bk w g [u, v, x] 48) : (results fn tmps).run Try.prog w = .ok (.agg #[u, v, x]) w :=
  results_cell_row h tmps w g _ _ (0, 0) _ hp hb Try.underlying48 rfl (by kernel_rfl)
theorem fin2 {fn : Func} {p q : Tmp} {tmps : Array Value} {w : World} {g : Nat} {u v x : Value} (h : fn.results = #[.cell p 48, .tmp q]) (hp : tmps.getD p undef = .pointer (some ⟨g, 0, none⟩)) (hb : Bk w g [u, v, x] 48) : (results fn tmps).run Try.prog w = .ok (.tuple #[.agg #[u, v, x], tmps.getD q undef]) w := by
  rw [results_cell_tmp h, hp]
  have := run_loadVar_row (P := Try.prog) w g 48 _ _ (0, 0) _ hb Try.underlying48 rfl (by kernel_rfl)
  simp [asAddr, this, Result.andThen]
theorem rnew_any (w : World) : Calls Try.prog 37 #[] w fun e w' => e = .returned (.agg #[.slice none 0 0, .int .i64 (-1), .bool false]) ∧ Below w.heap.size w w' := by
  go_enter Try.func37, Try.ntmps37
  go_wp2_with fail
  exact bodyPost_ret (fin1 rfl rfl (Bk.new w [.slice none 0 0, .int .i64 (-1), .bool false] _)) rfl ⟨rfl, (Below.refl _ _).alloc (Nat.le_refl _) _⟩
set_option maxHeartbeats 400000 in
theorem at_any (b : Option Addr) (cap : Nat) (L : Fs) (fu : Int) (dn : Bool) (nm : ByteArray) (w : World) (h : InW w b 4 (L.map flC)) (hl : L.length ≤ 5000) (hc : L.length ≤ cap) (ln : Nat) (hln : ln = L.length) :
    Calls Try.prog 40 #[.agg #[.slice b ln cap, .int .i64 fu, .bool dn], .string nm] w fun e w' => (∃ r, e = .returned (.int .i64 r) ∧ AtPos L nm r) ∧ Below w.heap.size w w' := by
  have HB1 : Hid (Below w.heap.size w (w.alloc (.cells #[.slice b ln cap, .int .i64 fu, .bool dn] 48))) := Lib.hid ((Below.refl _ _).alloc (Nat.le_refl _) _)
  have HIW := Lib.hid (InW.bel h HB1.out)
  have Hn := Lib.hid hln
  rw [← hln] at hl hc
  clear h hln
  go_enter Try.func40, Try.ntmps40
  go_wp2_with fail
  go_loopw [5] (fun c wr => ∃ i : Nat, i ≤ ln ∧ c = .int .i64 i ∧ wr = w.alloc (.cells #[.slice b ln cap, .int .i64 fu, .bool dn] 48) ∧ Hid (∀ q ∈ L.take i, q.1 ≠ nm)) (fun c _ => ln - (intOf c).toNat)
  case atStart => exact ⟨0, by omega, rfl, rfl, Lib.hid (by simp)⟩
  case round =>
    obtain ⟨i, hi, rfl, rfl, HA⟩ := hrel
    by_cases hlt : i < ln
    · obtain ⟨p, hp⟩ : ∃ p, L[i]? = some p := ⟨L[i]'(by rw [← Hn.out]; exact hlt), List.getElem?_eq_getElem _⟩
      obtain ⟨B, off, rfl, hB, d0, d1, d2, d3⟩ := fls_at HIW.out hp
      have hi0 : (0 : Int) ≤ (i : Int) := by omega
      have hi1 : (i : Int) < (ln : Int) := by omega
      have HP := Lib.hid hp
      clear hp d1 d2 d3
      by_cases he : p.1 = nm
      · have t1 : (p.1.toList == nm.toList) = true := by rw [bytesEq]; exact decide_eq_true he
        have HR : Hid (AtPos L nm (i : Int)) := Lib.hid (.inr ⟨i, p.2, rfl, by rw [HP.out, ← he], mget_skip HA.out HP.out he⟩)
        clear he
        generalize p.1 = pn at *
        go_wp2_with fail
        go_ret
        exact ⟨⟨_, rfl, HR.out⟩, HB1.out⟩
      · have t1 : (p.1.toList == nm.toList) = false := by rw [bytesEq]; exact decide_eq_false he
        have HA2 : Hid (∀ q ∈ L.take (i + 1), q.1 ≠ nm) := Lib.hid (by
          rw [List.take_add_one, HP.out]
          intro q hq
          rcases List.mem_append.1 hq with h' | h'
          · exact HA.out q h'
          · simp at h'; subst h'; exact he)
        clear he
        generalize p.1 = pn at *
        go_wp2_with fail
        go_roundw
        case rel => exact ⟨i + 1, by omega, by go_num, trivial, HA2⟩
        case measure => simp [intOf]; omega
    · obtain rfl : i = ln := by omega
      have HR : Hid (AtPos L nm (-1)) := Lib.hid (.inl ⟨rfl, mget_off (by
        have h1 := HA.out
        rw [List.take_of_length_le (by rw [Hn.out]; omega)] at h1
        exact h1)⟩)
      go_wp2_with fail
      go_ret
      exact ⟨⟨_, rfl, HR.out⟩, HB1.out⟩
theorem but_take {L : Fs} {n : ByteArray} {i : Nat} {p : ByteArray × Fl} (hp : L[i]? = some p) : fsumBut n (L.take (i + 1)) = fsumBut n (L.take i) + (if p.1 = n then 0 else p.2.s.size) := by
  rw [List.take_add_one, hp]
  have : ∀ (A B : Fs), fsumBut n (A ++ B) = fsumBut n A + fsumBut n B := fun A B => by
    induction A with
    | nil => simp [fsumBut]
    | cons a A ih => rw [List.cons_append, fsumBut, fsumBut, ih]; omega
  rw [this]
  simp [fsumBut]
theorem but_le (L : Fs) (n : ByteArray) (i : Nat) : fsumBut n (L.take i) ≤ fsum L := by
  induction L generalizing i with
  | nil => simp [fsumBut]
  | cons p L ih =>
    cases i with
    | zero => simp [fsumBut]
    | succ i =>
      rw [List.take_succ_cons, fsumBut, fsum]
      have := ih i
      split <;> omega
set_option maxHeartbeats 400000 in
theorem bytes_any (b : Option Addr) (cap : Nat) (L : Fs) (fu : Int) (dn : Bool) (nm : ByteArray) (w : World) (h : InW w b 4 (L.map flC)) (hl : L.length ≤ 5000) (hs : fsum L ≤ 4194304) (hc : L.length ≤ cap) (ln : Nat) (hln : ln = L.length) :
    Calls Try.prog 42 #[.agg #[.slice b ln cap, .int .i64 fu, .bool dn], .string nm] w fun e w' => e = .returned (.int .i64 (fsumBut nm L : Nat)) ∧ Below w.heap.size w w' := by
  have HB1 : Hid (Below w.heap.size w (w.alloc (.cells #[.slice b ln cap, .int .i64 fu, .bool dn] 48))) := Lib.hid ((Below.refl _ _).alloc (Nat.le_refl _) _)
  have HIW := Lib.hid (InW.bel h HB1.out)
  have Hn := Lib.hid hln
  have HLE : Hid (∀ i, fsumBut nm (L.take i) ≤ 4194304) := Lib.hid (fun i => by have := but_le L nm i; omega)
  rw [← hln] at hl hc
  clear h hln
  go_enter Try.func42, Try.ntmps42
  go_wp2_with fail
  go_loopw [5, 6] (fun u c wr => ∃ i s : Nat, i ≤ ln ∧ c = .int .i64 i ∧ u = .int .i64 (s : Int) ∧ wr = w.alloc (.cells #[.slice b ln cap, .int .i64 fu, .bool dn] 48) ∧ Hid (s = fsumBut nm (L.take i))) (fun _ c _ => ln - (intOf c).toNat)
  case atStart => exact ⟨0, 0, by omega, rfl, rfl, rfl, Lib.hid (by simp [fsumBut])⟩
  case round =>
    obtain ⟨i, s, hi, rfl, rfl, rfl, HA⟩ := hrel
    have hs1 := HLE.out i
    rw [← HA.out] at hs1
    by_cases hlt : i < ln
    · obtain ⟨p, hp⟩ : ∃ p, L[i]? = some p := ⟨L[i]'(by rw [← Hn.out]; exact hlt), List.getElem?_eq_getElem _⟩
      obtain ⟨B, off, rfl, hB, d0, d1, d2, d3⟩ := fls_at HIW.out hp
      have hi0 : (0 : Int) ≤ (i : Int) := by omega
      have hi1 : (i : Int) < (ln : Int) := by omega
      have hbt := but_take (n := nm) hp
      have hs2 := HLE.out (i + 1)
      rw [← HA.out] at hbt
      clear hp d2 d3
      by_cases he : p.1 = nm
      · have t1 : (p.1.toList == nm.toList) = true := by rw [bytesEq]; exact decide_eq_true he
        rw [if_pos he] at hbt
        have HBT := Lib.hid hbt
        clear he hbt hs2 d1
        generalize p.1 = pn at *
        go_wp2_with fail
        go_roundw
        case rel => exact ⟨i + 1, s, by omega, by go_num, rfl, trivial, Lib.hid (by rw [HBT.out]; rfl)⟩
        case measure => simp [intOf]; omega
      · have t1 : (p.1.toList == nm.toList) = false := by rw [bytesEq]; exact decide_eq_false he
        rw [if_neg he] at hbt
        rw [hbt] at hs2
        have HBT := Lib.hid hbt
        clear he hbt
        generalize p.1 = pn at *
        generalize p.2.s = ps at *
        have hw : IntKind.i64.wrap ((s : Int) + (ps.size : Int)) = (s : Int) + (ps.size : Int) := IntWalk.i64_in _ (by omega)
        clear hs2
        go_wp2_with fail
        go_roundw
        case rel => exact ⟨i + 1, s + ps.size, by omega, by go_num, by go_num, trivial, Lib.hid HBT.out.symm⟩
        case measure => simp [intOf]; omega
    · obtain rfl : i = ln := by omega
      have HE : Hid (s = fsumBut nm L) := Lib.hid (by
        have h1 := HA.out
        rw [List.take_of_length_le (by rw [Hn.out]; omega)] at h1
        exact h1)
      clear HA
      go_wp2_with fail
      go_ret
      exact ⟨by rw [← HE.out]; rfl, HB1.out⟩
set_option maxHeartbeats 400000 in
theorem rarm_any (b : Option Addr) (cap ln : Nat) (fu : Int) (dn : Bool) (n : Int) (w : World) :
    Calls Try.prog 39 #[.agg #[.slice b ln cap, .int .i64 fu, .bool dn], .int .i64 n] w fun e w' => e = .returned (.agg #[.slice b ln cap, .int .i64 (if n < 0 then -1 else n), .bool dn]) ∧ Below w.heap.size w w' := by
  by_cases c : n < 0
  · have t1 : decide (n < 0) = true := decide_eq_true c
    rw [if_pos c]
    clear c
    go_enter Try.func39, Try.ntmps39
    go_wp2_with fail
    refine bodyPost_ret (v := .agg #[.slice b ln cap, .int .i64 (-1), .bool dn]) (by simp [results, Try.results39, go_sem]) rfl ⟨rfl, ?_⟩
    repeat' (first | exact Below.refl _ _ | refine Below.setCell ?_ _ _ (by simp) | refine Below.alloc ?_ (by simp <;> omega) _)
  · have t1 : decide (n < 0) = false := decide_eq_false c
    rw [if_neg c]
    clear c
    go_enter Try.func39, Try.ntmps39
    go_wp2_with fail
    refine bodyPost_ret (v := .agg #[.slice b ln cap, .int .i64 n, .bool dn]) (by simp [results, Try.results39, go_sem]) rfl ⟨rfl, ?_⟩
    repeat' (first | exact Below.refl _ _ | refine Below.setCell ?_ _ _ (by simp) | refine Below.alloc ?_ (by simp <;> omega) _)
set_option maxHeartbeats 400000 in
theorem rread_any (b : Option Addr) (cap : Nat) (L : Fs) (fu : Int) (dn : Bool) (nm : ByteArray) (w : World) (h : InW w b 4 (L.map flC)) (hl : L.length ≤ 5000) (hc : L.length ≤ cap) (hn : nm.size ≤ 1000) (ln : Nat) (hln : ln = L.length) (r : ByteArray × Int) (hr : readD ⟨L, fu, dn⟩ nm = r) :
    Calls Try.prog 24 #[.agg #[.slice b ln cap, .int .i64 fu, .bool dn], .string nm] w fun e w' => e = .returned (.tuple #[.string r.1, .int .i64 r.2]) ∧ Below w.heap.size w w' := by
  have HB1 : Hid (Below w.heap.size w (w.alloc (.cells #[.slice b ln cap, .int .i64 fu, .bool dn] 48))) := Lib.hid ((Below.refl _ _).alloc (Nat.le_refl _) _)
  have HIW := Lib.hid (InW.bel h HB1.out)
  have HAT := Lib.hid (at_any b cap L fu dn nm _ HIW.out hl hc ln hln)
  have HLN : Hid (ln = L.length) := Lib.hid hln
  cases dn with
  | true =>
    have e : r = (⟨#[]⟩, 8) := by rw [← hr]; rfl
    subst e
    clear h hl hc hln HAT HIW hr
    go_enter Try.func24, Try.ntmps24
    go_wp2_with fail
    refine bodyPost_ret (results_tmp2 rfl _ _ _) rfl ?_
    exact ⟨rfl, HB1.out⟩
  | false =>
    cases hnm : nameD nm with
    | false =>
      have e : r = (⟨#[]⟩, 1) := by rw [← hr]; unfold readD; rw [if_neg (by simp), if_pos hnm]
      subst e
      have hsz' : nm.size < 1 ∨ 64 < nm.size := by
        unfold nameD at hnm
        simp at hnm
        omega
      clear h hl hc hln HAT HIW hr hnm
      rcases hsz' with hsz | hsz
      · have u1 : decide ((nm.size : Int) < 1) = true := decide_eq_true (by omega)
        go_enter Try.func24, Try.ntmps24
        go_wp2_with fail
        refine bodyPost_ret (results_tmp2 rfl _ _ _) rfl ?_
        exact ⟨rfl, HB1.out⟩
      · have u1 : decide ((nm.size : Int) < 1) = false := decide_eq_false (by omega)
        have u2 : decide ((64 : Int) < (nm.size : Int)) = true := decide_eq_true (by omega)
        go_enter Try.func24, Try.ntmps24
        go_wp2_with fail
        refine bodyPost_ret (results_tmp2 rfl _ _ _) rfl ?_
        exact ⟨rfl, HB1.out⟩
    | true =>
      have hsz : 1 ≤ nm.size ∧ nm.size ≤ 64 := by
        unfold nameD at hnm
        simp at hnm
        exact hnm
      have u1 : decide ((nm.size : Int) < 1) = false := decide_eq_false (by omega)
      have u2 : decide ((64 : Int) < (nm.size : Int)) = false := decide_eq_false (by omega)
      have HRD : Hid (r = match mget L nm with | none => (⟨#[]⟩, 6) | some f => (f.s, 0)) := Lib.hid (by rw [← hr]; unfold readD; rw [if_neg (by simp), if_neg (by simp [hnm])]; rfl)
      clear h hln hr hnm
      go_enter Try.func24, Try.ntmps24
      go_wp2_with fail
      refine HAT.out.mono ?_
      rintro e w1 ⟨⟨q, rfl, hpos⟩, b1⟩
      have hpos' : (q = -1 ∧ mget L nm = none) ∨ ∃ (i : Nat) (f : Fl), q = i ∧ L[i]? = some (nm, f) ∧ mget L nm = some f := hpos
      clear hpos HAT
      rcases hpos' with ⟨rfl, hg⟩ | ⟨i, f, rfl, hi, hg⟩
      · have e : r = (⟨#[]⟩, 6) := by rw [HRD.out, hg]
        subst e
        have HB := Lib.hid (HB1.out.trans (b1.mono HB1.out.size))
        clear b1 hg HRD
        go_wp2_with fail
        refine bodyPost_ret (results_tmp2 rfl _ _ _) rfl ?_
        exact ⟨rfl, HB.out⟩
      · have e : r = (f.s, 0) := by rw [HRD.out, hg]
        subst e
        have HB := Lib.hid (HB1.out.trans (b1.mono HB1.out.size))
        have hlt : i < ln := by rw [HLN.out]; exact (List.getElem?_eq_some_iff.1 hi).1
        obtain ⟨B, off, rfl, hB, d0, d1, d2, d3⟩ := fls_at HIW.out hi
        have c1 := (b1.cell (p := ⟨B, off + i * 4 + 1, none⟩) hB).trans d1
        have k1 := (b1.cell (p := ⟨w.heap.size, 0, none⟩) (by simp)).trans (Bk.cell (Bk.new w [.slice (some ⟨B, off, none⟩) ln cap, .int .i64 fu, .bool false] 48) 0)
        simp only [List.getElem?_cons_zero] at k1
        have hi0 : (0 : Int) ≤ (i : Int) := by omega
        have hi1 : (i : Int) < (ln : Int) := by omega
        have hi2 : ¬ ((i : Int) < 0) := by omega
        clear b1 hg HRD hi d0 d1 d2 d3
        go_wp2_with fail
        refine bodyPost_ret (results_tmp2 rfl _ _ _) rfl ?_
        exact ⟨rfl, HB.out⟩
/-- a box with a cell stored -/
theorem h_set {w0 w : World} {os : List Ob} (h : Here K04 w0 w os) {i b : Nat} {cs : List Value} {t : TypeId} (hi : os[i]? = some (.box b cs t)) (j : Nat) (u : Value) : Here K04 w0 (w.setCell ⟨b, j, none⟩ u) (os.set i (.box b (cs.set j u) t)) := by
  obtain ⟨B, ⟨h1, rfl⟩, _, h3, _⟩ := h.use hi
  exact h3 _ (.box b (cs.set j u) t) [b] ⟨h1.set j u, rfl⟩ ((Fr.refl (fun x => x ∈ [b]) w).setCell b j u (.inr (by simp))) (fun b hb => .inl hb)
/-- a row that an append has made longer -/
theorem h_more {w0 w w' : World} {os : List Ob} (h : Here K04 w0 w os) {i : Nat} {v v' : Value} {e : TypeId} {sz n n' : Nat} {xs xs' : List Value} (hi : os[i]? = some (.row v e sz n xs)) (ho : w'.ownsRow 0 e sz v' n' xs') (hf : Fr (fun b => v.ownBlock = some b) w w') (he : Hence v v' w) : Here K04 w0 w' (os.set i (.row v' e sz n' xs')) := by
  obtain ⟨B, ⟨h1, rfl⟩, _, h3, _⟩ := h.use hi
  refine h3 _ (.row v' e sz n' xs') v'.ownBlock.toList ⟨ho, rfl⟩ (hf.mono (fun b _ hb => by simp [hb])) (fun b hb => ?_)
  rcases he with e | e
  · rw [e] at hb; exact .inl hb
  · have := Option.some.inj (e.symm.trans (Option.mem_toList.1 hb))
    exact .inr (by omega)
theorem h_rowIn {w0 w : World} {os : List Ob} (h : Here K04 w0 w os) {i : Nat} {v : Value} {L : Fs} (hi : os[i]? = some (.row v 80 4 L.length (L.flatMap flC))) : ∃ b cap, v = .slice b L.length cap ∧ L.length ≤ cap ∧ cap ≤ maxLen ∧ InW w b 4 (L.map flC) := by
  obtain ⟨b, cap, h1, h2, h3, h4, _⟩ := inw_of_rowm flLen (by omega) (h_rowAt h hi)
  exact ⟨b, cap, h1, h2, h3, h4⟩
theorem h_mk {w0 w : World} {os : List Ob} (h : Here K04 w0 w os) {i : Nat} {v : Value} {L : Fs} (hi : os[i]? = some (.row v 80 4 L.length (L.flatMap flC))) : MkG 80 4 flC w0 w v L := by
  obtain ⟨B, ⟨h1, rfl⟩, h2, _⟩ := h.use hi
  exact ⟨h1, fun b hb => h2 b (by simp [hb]), h.bel⟩
/-- a row of one file -/
theorem in_file (W : World) (p : ByteArray × Fl) (e : TypeId) : InW (W.alloc (.cells #[.string p.1, .string p.2.s, .int .i64 (p.2.lasts : Int), .bool p.2.stays] e)) (some ⟨W.heap.size, 0, none⟩) 4 ([p].map flC) := .inr ⟨W.heap.size, 0, rfl, by simp, fun i' c hc j u hj => by
  have hb := (Bk.new W (flC p) e).cell j
  match i', hc with
  | 0, hc =>
    cases hc
    rw [Nat.zero_mul, Nat.zero_add]
    exact hb.trans hj⟩
theorem dels_step {L : Fs} {n : ByteArray} {i : Nat} {p : ByteArray × Fl} (hp : L[i]? = some p) : fdel (L.take (i + 1)) n = fdel (L.take i) n ++ (if p.1 = n then [] else [p]) := by
  rw [List.take_add_one, hp]
  unfold fdel
  rw [List.filter_append]
  by_cases e : p.1 = n <;> simp [e]
set_option maxRecDepth 100000 in
set_option maxHeartbeats 2000000 in
theorem without_any (b : Option Addr) (cap : Nat) (L : Fs) (fu : Int) (dn : Bool) (nm : ByteArray) (w : World) (h : InW w b 4 (L.map flC)) (hl : L.length ≤ 5000) (hc : L.length ≤ cap) (ln : Nat) (hln : ln = L.length) :
    Calls Try.prog 44 #[.agg #[.slice b ln cap, .int .i64 fu, .bool dn], .string nm] w fun e w' => ∃ u, e = .returned (.agg #[u, .int .i64 fu, .bool dn]) ∧ MkG 80 4 flC w w' u (fdel L nm) := by
  obtain ⟨i0, hi0T, hz0, hz1, hz2⟩ := info_parts infoFl
  have HIW := Lib.hid h
  have Hn := Lib.hid hln
  rw [← hln] at hl hc
  have HFL : Hid (∀ i, (fdel (L.take i) nm).length ≤ 5000) := Lib.hid (fun i => by
    have h1 := List.length_filter_le (fun q : ByteArray × Fl => decide (q.1 ≠ nm)) (L.take i)
    have h2 : (L.take i).length ≤ L.length := by rw [List.length_take]; omega
    unfold fdel; omega)
  have HS0 : Hid (Here K04 w (((w.alloc (.cells #[.slice b ln cap, .int .i64 fu, .bool dn] 48)).alloc (.cells #[.slice none 0 0, .int .i64 0, .bool false] 48)).alloc (.cells #[.slice none 0 0, .int .i64 fu, .bool dn] 48)) [.box w.heap.size [.slice b ln cap, .int .i64 fu, .bool dn] 48, .box (w.heap.size + 1) [.slice none 0 0, .int .i64 0, .bool false] 48, .box (w.heap.size + 1 + 1) [.slice none 0 0, .int .i64 fu, .bool dn] 48, .row (.slice none 0 0) 80 4 ([] : Fs).length (([] : Fs).flatMap flC)]) := Lib.hid (by
    have h1 := h_box (Here.nil (K := K04) (Below.refl w.heap.size w)) [.slice b ln cap, .int .i64 fu, .bool dn] 48
    have h2 := h_box h1 [.slice none 0 0, .int .i64 0, .bool false] 48
    have h3 := h_box h2 [.slice none 0 0, .int .i64 fu, .bool dn] 48
    have h4 := h_row h3 (v := .slice none 0 0) (e := 80) (sz := 4) (n := ([] : Fs).length) (xs := ([] : Fs).flatMap flC) (Below.refl _ _) ⟨by simp, .inl ⟨rfl, rfl⟩⟩ (by simp [Value.ownBlock])
    simpa using h4)
  clear h hln
  go_enter Try.func44, Try.ntmps44
  go_wp2_with fail
  go_loopw [6] (fun c wr => ∃ (i : Nat) (u : Value), i ≤ ln ∧ c = .int .i64 i ∧ Here K04 w wr [.box w.heap.size [.slice b ln cap, .int .i64 fu, .bool dn] 48, .box (w.heap.size + 1) [.slice none 0 0, .int .i64 0, .bool false] 48, .box (w.heap.size + 1 + 1) [u, .int .i64 fu, .bool dn] 48, .row u 80 4 (fdel (L.take i) nm).length ((fdel (L.take i) nm).flatMap flC)]) (fun c _ => ln - (intOf c).toNat)
  case atStart => exact ⟨0, _, by omega, rfl, HS0.out⟩
  case round =>
    obtain ⟨i, u, hi, rfl, hH⟩ := hrel
    have HH := Lib.hid hH
    obtain ⟨ub, uc, hu, _, _, _⟩ := h_rowIn hH (i := 3) rfl
    obtain ⟨al, hal⟩ : ∃ al, al = (fdel (L.take i) nm).length := ⟨_, rfl⟩
    rw [← hal] at hu
    subst hu
    have kD := h_boxAt hH (i := 0) rfl
    have kO := h_boxAt hH (i := 2) rfl
    have d0 := kD.cell 0
    have d1 := kO.cell 0
    have f1 := kO.free 0
    have hsz := kO.lt
    clear hH kD kO HS0 hal
    simp only [List.getElem?_cons_zero] at d0 d1
    by_cases hlt : i < ln
    · obtain ⟨p, hp⟩ : ∃ p, L[i]? = some p := ⟨L[i]'(by rw [← Hn.out]; exact hlt), List.getElem?_eq_getElem _⟩
      obtain ⟨B, off, rfl, hB, c0, c1, c2, c3⟩ := fls_at HIW.out hp
      have HSN := Lib.hid (dels_step (n := nm) hp)
      have e0 := (HH.out.bel.cell (p := ⟨B, off + i * 4, none⟩) hB).trans c0
      have e1 := (HH.out.bel.cell (p := ⟨B, off + i * 4 + 1, none⟩) hB).trans c1
      have e2 := (HH.out.bel.cell (p := ⟨B, off + i * 4 + 2, none⟩) hB).trans c2
      have e3 := (HH.out.bel.cell (p := ⟨B, off + i * 4 + 3, none⟩) hB).trans c3
      have hi0 : (0 : Int) ≤ (i : Int) := by omega
      have hi1 : (i : Int) < (ln : Int) := by omega
      clear hp c0 c1 c2 c3
      by_cases he : p.1 = nm
      · have t1 : (p.1.toList == nm.toList) = true := by rw [bytesEq]; exact decide_eq_true he
        rw [if_pos he, List.append_nil] at HSN
        clear he
        go_wp2_with fail
        go_roundw
        case rel => exact ⟨i + 1, _, by omega, by go_num, by rw [HSN.out]; exact HH.out⟩
        case measure => simp [intOf]; omega
      · have t1 : (p.1.toList == nm.toList) = false := by rw [bytesEq]; exact decide_eq_false he
        rw [if_neg he] at HSN
        have HLN : Hid ((fdel (L.take i) nm).length + [p].length ≤ 1000000) := Lib.hid (by have := HFL.out i; simp; omega)
        have H2 := Lib.hid ((HH.out.step_bel ((Below.refl _ _).alloc (Nat.le_refl _) (.cells #[.string p.1, .string p.2.s, .int .i64 (p.2.lasts : Int), .bool p.2.stays] 80))).drew)
        have HIN := Lib.hid ((Fr.refl none' (wr.alloc (.cells #[.string p.1, .string p.2.s, .int .i64 (p.2.lasts : Int), .bool p.2.stays] 80))).drew)
        have HIN2 : Hid (InW (wr.alloc (.cells #[.string p.1, .string p.2.s, .int .i64 (p.2.lasts : Int), .bool p.2.stays] 80)).drew (some ⟨wr.heap.size, 0, none⟩) 4 ([p].map flC)) := Lib.hid (InW.fr (in_file wr p _) HIN.out (fun _ _ _ => id))
        have HROW := Lib.hid (h_rowAt H2.out (i := 3) rfl)
        clear he HIN
        generalize hacc : fdel (L.take i) nm = acc at *
        go_wp2_with fail
        go_region_law (first
          | (refine step_append_m flLen flOne (by rfl) _ _ _ (by rfl) 80 i0 _ 48 Try.underlying46 hi0T hz0 hz1 hz2 rfl (by decide) (by omega) (.slice ub al uc) acc [p] (by rfl) HROW.out (some ⟨wr.heap.size, 0, none⟩) 1 1 (by rfl) rfl HIN2.out HLN.out ?_
             intro v5 w5 o5 f5 h5
             have h5' := h_more H2.out (i := 3) rfl o5 f5 h5
             obtain ⟨b5, c5, hv5, _, _, _⟩ := h_rowIn h5' (i := 3) rfl
             obtain ⟨l5, hl5⟩ : ∃ l5, l5 = (acc ++ [p]).length := ⟨_, rfl⟩
             rw [← hl5] at hv5
             subst hv5
             have kO5 := h_boxAt h5' (i := 2) rfl
             have p0 := kO5.cell 0
             have p0f := kO5.free 0
             have hq5 := kO5.lt
             simp only [List.getElem?_cons_zero] at p0
             have H5 := Lib.hid h5'
             clear h5' kO5 o5 f5 h5 hl5)
          | fail)
        all_goals
          have H6 := Lib.hid (h_set H5.out (i := 2) rfl 0 (.slice b5 l5 c5))
          go_wp2_with fail
          go_roundw
          case rel => exact ⟨i + 1, _, by omega, by go_num, by rw [HSN.out]; exact H6.out⟩
          case measure => simp [intOf]; omega
    · obtain rfl : i = ln := by omega
      have HE : Hid (fdel (L.take i) nm = fdel L nm) := Lib.hid (by rw [List.take_of_length_le (by rw [Hn.out]; omega)])
      have kR := h_boxAt HH.out (i := 1) rfl
      have r0 := kR.cell 0
      have r1 := kR.cell 1
      have r2 := kR.cell 2
      have rf0 := kR.free 0
      have rf1 := kR.free 1
      have rf2 := kR.free 2
      have o1 := (h_boxAt HH.out (i := 2) rfl).cell 1
      have o2 := (h_boxAt HH.out (i := 2) rfl).cell 2
      simp only [List.getElem?_cons_zero, List.getElem?_cons_succ] at r0 r1 r2 o1 o2
      clear kR
      go_wp2_with fail
      have H7 := h_set (h_set (h_set HH.out (i := 1) rfl 0 (.slice ub al uc)) (i := 1) rfl 1 (.int .i64 fu)) (i := 1) rfl 2 (.bool dn)
      refine bodyPost_ret (fin1 rfl rfl (h_boxAt H7 (i := 1) rfl)) rfl ⟨_, rfl, ?_⟩
      rw [← HE.out]
      exact h_mk H7 (i := 3) rfl
end Go.Proofs.Ytemfnchiedepoaa

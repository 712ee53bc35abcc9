/- Contracts of a table's functions: single, pair. -/
import Derived.Test.YtbmjddmejmeknaaQTab
namespace Go.Proofs.Ytbmjddmejmeknaa.Pr
open Go.RowKit Go.MapKept Go.Maps Go.ChangeShapes Go.WideShapes
set_option linter.unusedVariables false
set_option linter.unusedSimpArgs false
theorem zeroI (w : World) : (zeroValue 3).run Try.prog w = .ok (.int .i64 0) w := by kernel_rfl
theorem zeroMI (w : World) : (zeroValue 63).run Try.prog w = .ok (.map none) w := by kernel_rfl
theorem eql_mi (b : Nat) (w : World) : (binOp BinOp.eql 63 (.map (some b)) (.map none)).run Try.prog w = .ok (.bool false) w := by kernel_rfl
theorem eql_mi0 (w : World) : (binOp BinOp.eql 63 (.map none) (.map none)).run Try.prog w = .ok (.bool true) w := by kernel_rfl
theorem wr64 {x : Int} (h : I64 x) : RowKit.wrap64 x = x := by
  unfold I64 at h
  exact IntWalk.wrap64_in _ (by omega)
theorem get_vI (m : MC) (a : ByteArray) : ((mget (vals vI m) a).getD (.int .i64 0)) = .int .i64 ((mget m a).getD 0) := by
  rw [vals_get]
  cases mget m a <;> rfl
theorem lookI {w : World} {s : Nat} {m : MC} (h : Mp encS okS w s (vals vI m)) {a : ByteArray} (ha : a.size ≤ maxLen) {x : Int} (hx : (mget m a).getD 0 = x) : (Instr.lookup 63 (.map (some s)) (.string a) false).run Try.prog w = .ok (.int .i64 x) w := by
  have := h.look (P := Try.prog) keyS Try.underlying63 (zeroI w) (a := a) ha false
  rw [get_vI, hx] at this
  exact this
/-- of no map -/
theorem lookI0 (a : ByteArray) (ha : a.size ≤ maxLen) (w : World) : (Instr.lookup 63 (.map none) (.string a) false).run Try.prog w = .ok (.int .i64 0) w := by
  obtain ⟨l, hl⟩ := keyS.key (a := a) ha
  have hl' : keyOf Try.prog 9 (Value.string a) = some l := hl
  have hf : (Instr.findKey 9 (Value.string a) []).run Try.prog w = .ok none w := by
    rcases keyS.law.find w hl' [] (by simp) with ⟨h1, _⟩ | ⟨j, e0, _, h2, _⟩
    · exact h1
    · simp at h2
  have hk := keyS.law.check w true hl'
  simp [Instr.lookup, run_underlying Try.underlying63, hk, hf, zeroI w, Result.andThen]
theorem lookM {w : World} {r : Nat} {mr : MR} (h : Mp encS okS w r (vals vMap mr)) {a : ByteArray} (ha : a.size ≤ maxLen) {v : Value} (hv : ((mget mr a).map vMap).getD (.map none) = v) : (Instr.lookup 64 (.map (some r)) (.string a) false).run Try.prog w = .ok v w := by
  have := h.look (P := Try.prog) keyS Try.underlying64 (zeroMI w) (a := a) ha false
  rw [vals_get, hv] at this
  exact this
theorem bump_io {C : CF} (h : ∀ a b, I64 (C a b)) {a b : ByteArray} {n : Int} (hn : I64 (C a b + n)) : ∀ x y, I64 (bump C a b n x y) := fun x y => by
  unfold bump
  split
  · rename_i e; rw [e.1, e.2]; exact hn
  · exact h x y
set_option maxRecDepth 20000 in
set_option maxHeartbeats 2000000 in
theorem single_any {w : World} {t : Nat} {B : List Nat} {C : CF} (h : TabAt w t B C) (a : ByteArray) (n : Int) (ha : a.size ≤ maxLen) (hn : I64 (C a a + n)) :
    Calls Try.prog 48 #[.pointer (some ⟨t, 0, none⟩), .string a, .int .i64 n] w fun e w' => e = .returned (.tuple #[]) ∧ TabAt w' t B (bump C a a n) ∧ Fr (fun b => b ∈ B) w w' := by
  obtain ⟨s, r, ms, mr, mt, role, h1, h2⟩ := h.ex
  have hio := bump_io h.io hn
  obtain ⟨x, hx⟩ : ∃ x, C a a = x := ⟨_, rfl⟩
  obtain ⟨y, hy⟩ : ∃ y, x + n = y := ⟨_, rfl⟩
  have hsB : s ∈ B := h1.inB _ _ h1.rs
  have hgx : (mget ms a).getD 0 = x := by rw [h2.s0, nz_getD, hx]
  have hwr : RowKit.wrap64 (x + n) = y := by
    have : RowKit.wrap64 (x + n) = x + n := wr64 (by rw [← hx]; exact hn)
    rw [← hy]; exact this
  have c1 : w.cell? ⟨t, 0, none⟩ = some (.map (some s)) := h1.bk.cell 0
  have l1 := lookI h1.sg ha hgx
  obtain ⟨w2, x2, m2, f2, z2⟩ := h1.sg.store (P := Try.prog) keyS Try.underlying63 (a := a) ha (.int .i64 y)
  have y2 : (Instr.mapUpdate 63 (.map (some s)) (.string a) (.int .i64 y)).run Try.prog w = .ok () w2 := x2
  have m2' : Mp encS okS w2 s (vals vI (mput ms a y)) := by rw [← vals_put]; exact m2
  have g2 := h1.sing m2' f2
  have c2 : w2.cell? ⟨t, 0, none⟩ = some (.map (some s)) := g2.bk.cell 0
  have l2 := lookI m2' ha (x := y) (by rw [get_put, if_pos rfl]; rfl)
  have hget : ∀ z, mget (mput ms a y) z = if z = a then some y else mget ms z := fun z => by
    rw [get_put]
    by_cases e : a = z
    · rw [if_pos e, if_pos e.symm]
    · rw [if_neg e, if_neg (fun q => e q.symm)]
  by_cases h0 : y = 0
  · have t0 : (y == 0) = true := by simp [h0]
    obtain ⟨w3, x3, m3, f3, z3⟩ := m2'.drop (P := Try.prog) keyS Try.underlying63 (a := a) ha 0
    have y3 : ∀ ty, (Builtin.delete_ #[63, 9] ty #[.map (some s), .string a]).run Try.prog w2 = .ok (.tuple #[]) w3 := fun ty => by
      have : (Builtin.delete_ #[63, 9] ty #[.map (some s), .string a]) = (Builtin.delete_ #[63, 9] 0 #[.map (some s), .string a]) := rfl
      rw [this]; exact x3
    have m3' : Mp encS okS w3 s (vals vI (mdel (mput ms a y) a)) := by rw [← vals_del]; exact m3
    have hnd : (mkeys (mput ms a y)).Nodup := by have := m2'.nd; rwa [vals_keys] at this
    have HR := Lib.hid (And.intro (g2.sing m3' f3) (h2.single (a := a) (n := n) (fun z => by
      rw [get_del hnd, hget]
      by_cases e : a = z
      · subst e; rw [if_pos rfl, if_pos rfl, hx, hy]; unfold nz; rw [if_pos h0]
      · rw [if_neg e, if_neg (fun q => e q.symm), if_neg (fun q => e q.symm)])))
    have HF : Hid (Fr (fun b => b ∈ B) w w3) := Lib.hid ((f2.trans f3 (fun _ _ e => e)).mono (fun z _ e => by subst e; exact hsB))
    have HIO := Lib.hid hio
    clear h h1 h2 hio hsB hgx m2 f2 z2 x2 m2' g2 hget x3 m3 f3 z3 m3' hnd hn hx hy h0
    go_enter Try.func48, Try.ntmps48
    go_wp2_with fail
    go_end0
    exact ⟨rfl, ⟨⟨_, _, _, _, _, _, HR.out.1, HR.out.2⟩, HIO.out⟩, HF.out⟩
  · have t0 : (y == 0) = false := by simp [h0]
    have HR := Lib.hid (And.intro g2 (h2.single (a := a) (n := n) (ms' := mput ms a y) (fun z => by
      rw [hget, hx, hy]
      unfold nz; rw [if_neg h0])))
    have HF : Hid (Fr (fun b => b ∈ B) w w2) := Lib.hid (f2.mono (fun z _ e => by subst e; exact hsB))
    have HIO := Lib.hid hio
    clear h h1 h2 hio hsB hgx m2 f2 z2 x2 m2' g2 hget hn hx hy h0
    go_enter Try.func48, Try.ntmps48
    go_wp2_with fail
    go_end0
    exact ⟨rfl, ⟨⟨_, _, _, _, _, _, HR.out.1, HR.out.2⟩, HIO.out⟩, HF.out⟩
theorem dropS {w : World} {s : Nat} {m : List (ByteArray × Value)} {k e : TypeId} {tm : TypeId} (h : Mp encS okS w s m) (hk : Try.prog.underlying tm = some (.map 9 e)) {a : ByteArray} (ha : a.size ≤ maxLen) :
    ∃ w', (∀ ty, (Builtin.delete_ #[tm, 9] ty #[.map (some s), .string a]).run Try.prog w = .ok (.tuple #[]) w') ∧ Mp encS okS w' s (mdel m a) ∧ Fr (fun b => b = s) w w' ∧ w'.heap.size = w.heap.size := by
  obtain ⟨w3, x3, m3, f3, z3⟩ := h.drop (P := Try.prog) keyS hk (a := a) ha 0
  exact ⟨w3, fun ty => x3, m3, f3, z3⟩
theorem get_put' {m : MC} {a : ByteArray} {y : Int} (z : ByteArray) : mget (mput m a y) z = if z = a then some y else mget m z := by
  rw [get_put]
  by_cases e : a = z
  · rw [if_pos e, if_pos e.symm]
  · rw [if_neg e, if_neg (fun q => e q.symm)]
theorem nil_of_len {α : Type} {m : List α} : ((m.length : Int) == 0) = decide (m = []) := by
  cases m with
  | nil => simp
  | cons a l => rw [Bool.eq_iff_iff]; simp; omega
section
variable {w : World} {t s r : Nat} {ms : MC} {mr : MR} {mt : ByteArray → MC} {role : Nat → Option RoleQ} {B : List Nat} {C : CF}
set_option maxRecDepth 20000 in
set_option maxHeartbeats 2000000 in
theorem pair_new (h1 : TabR w t s r ms mr mt role B) (h2 : TRel C ms mr mt) (hio : ∀ a b, I64 (C a b)) (a b : ByteArray) (n : Int) (ha : a.size ≤ maxLen) (hb : b.size ≤ maxLen) (hab : b ≠ a) (hn0 : n ≠ 0) (hn : I64 (C a b + n)) (hk : mget mr a = none) :
    Calls Try.prog 49 #[.pointer (some ⟨t, 0, none⟩), .string a, .string b, .int .i64 n] w fun e w' => e = .returned (.tuple #[]) ∧ (∃ B', TabAt w' t B' (bump C a b n) ∧ Sprd w B B') ∧ Fr (fun b => b ∈ B) w w' := by
  have hio' := bump_io hio hn
  have hC : C a b = 0 := h2.r1 a hk b hab
  have hwr : RowKit.wrap64 (0 + n) = n := by rw [wr64 (by rw [← hC]; exact hn), Int.zero_add]
  have hwr2 : RowKit.wrap64 n = n := by rw [Int.zero_add] at hwr; exact hwr
  have hq1 := eql_mi
  have hq2 := eql_mi0
  have hk1 := @run_makeMap Try.prog
  have c1 : w.cell? ⟨t, 1, none⟩ = some (.map (some r)) := h1.bk.cell 1
  have l1 := lookM h1.mp ha (v := .map none) (by rw [hk]; rfl)
  have hbw := (Below.refl w.heap.size w).alloc (Nat.le_refl _) (.map #[] 0)
  have hm0 : Mp encS okS (w.alloc (.map #[] 0)) w.heap.size (vals vI []) := Mp.made w
  have c1a : (w.alloc (.map #[] 0)).cell? ⟨t, 1, none⟩ = some (.map (some r)) := (h1.bel hbw).bk.cell 1
  obtain ⟨w2, x2, m2, f2, z2⟩ := (h1.bel hbw).mp.store (P := Try.prog) keyS Try.underlying64 (a := a) ha (.map (some w.heap.size))
  have y2 : (Instr.mapUpdate 64 (.map (some r)) (.string a) (.map (some w.heap.size))).run Try.prog (w.alloc (.map #[] 0)) = .ok () w2 := x2
  have g2 := h1.more (b := w.heap.size) (p := a) (m := []) hbw hm0 (Nat.le_refl _) m2 f2
  have c2 : w2.cell? ⟨t, 1, none⟩ = some (.map (some r)) := g2.bk.cell 1
  have hga : mget (mput mr a w.heap.size) a = some w.heap.size := by rw [get_put, if_pos rfl]
  have l2 := lookM g2.mp ha (v := .map (some w.heap.size)) (by rw [hga]; rfl)
  have hm2 : Mp encS okS w2 w.heap.size (vals vI []) := by have := g2.rw' a _ hga; rwa [upd_same] at this
  have l3 := lookI hm2 hb (x := 0) rfl
  obtain ⟨w3, x3, m3, f3, z3⟩ := hm2.store (P := Try.prog) keyS Try.underlying63 (a := b) hb (.int .i64 n)
  have y3 : (Instr.mapUpdate 63 (.map (some w.heap.size)) (.string b) (.int .i64 n)).run Try.prog w2 = .ok () w3 := x3
  have m3' : Mp encS okS w3 w.heap.size (vals vI [(b, n)]) := m3
  have g3 := g2.row hga m3' f3
  have l4 := lookI m3' hb (x := n) (by simp [mget])
  have t4 : (n == 0) = false := by simp [hn0]
  have l5 := m3'.len (P := Try.prog) Try.underlying63
  have l5' : ∀ ty, (Builtin.len_ #[63] ty #[.map (some w.heap.size)]).run Try.prog w3 = .ok (.int .i64 1) w3 := fun ty => l5 ty
  have hup : upd (upd mt a []) a [(b, n)] = upd mt a [(b, n)] := by funext x; unfold upd; split <;> rfl
  have HR : Hid (∃ B', TabAt w3 t B' (bump C a b n) ∧ Sprd w B B') := Lib.hid ⟨_, ⟨⟨_, _, _, _, _, _, g3, by rw [hup]; exact h2.new (k := w.heap.size) hab hk hn0⟩, hio'⟩, fun x hx => by rcases List.mem_cons.1 hx with rfl | hx; exact .inr (Nat.le_refl _); exact .inl hx⟩
  have HF : Hid (Fr (fun b => b ∈ B) w w3) := Lib.hid (((Fr.of_bel (S := fun b => b ∈ B) hbw).trans f2 (fun x _ hx => by subst hx; exact h1.inB _ _ h1.rr)).trans f3 (fun x hlt hx => by subst hx; exact absurd hlt (Nat.lt_irrefl _)))
  clear h1 h2 hio hio' hm0 hbw m2 f2 z2 x2 m3 f3 z3 x3 g2 g3 hga hm2 m3' l5 hup hn hn0 hab hC hk
  go_enter Try.func49, Try.ntmps49
  go_wp2_with fail
  go_end0
  exact ⟨rfl, HR.out, HF.out⟩
set_option maxRecDepth 20000 in
set_option maxHeartbeats 4000000 in
theorem pair_old (h1 : TabR w t s r ms mr mt role B) (h2 : TRel C ms mr mt) (hio : ∀ a b, I64 (C a b)) (a b : ByteArray) (n : Int) (ha : a.size ≤ maxLen) (hb : b.size ≤ maxLen) (hab : b ≠ a) (hn : I64 (C a b + n)) {k : Nat} (hk : mget mr a = some k) :
    Calls Try.prog 49 #[.pointer (some ⟨t, 0, none⟩), .string a, .string b, .int .i64 n] w fun e w' => e = .returned (.tuple #[]) ∧ (∃ B', TabAt w' t B' (bump C a b n) ∧ Sprd w B B') ∧ Fr (fun b => b ∈ B) w w' := by
  have hio' := bump_io hio hn
  have hrB : r ∈ B := h1.inB _ _ h1.rr
  have hkB : k ∈ B := h1.inB _ _ (h1.rp a k hk)
  obtain ⟨x, hx⟩ : ∃ x, C a b = x := ⟨_, rfl⟩
  obtain ⟨y, hy⟩ : ∃ y, x + n = y := ⟨_, rfl⟩
  have hgx : (mget (mt a) b).getD 0 = x := by rw [h2.r0 a k hk, if_neg hab, nz_getD, hx]
  have hwr : RowKit.wrap64 (x + n) = y := by
    have : RowKit.wrap64 (x + n) = x + n := wr64 (by rw [← hx]; exact hn)
    rw [← hy]; exact this
  have hq1 := eql_mi
  have c1 : w.cell? ⟨t, 1, none⟩ = some (.map (some r)) := h1.bk.cell 1
  have l1 := lookM h1.mp ha (v := .map (some k)) (by rw [hk]; rfl)
  have hmk := h1.rw' a k hk
  have l3 := lookI hmk hb hgx
  obtain ⟨w3, x3, m3, f3, z3⟩ := hmk.store (P := Try.prog) keyS Try.underlying63 (a := b) hb (.int .i64 y)
  have y3 : (Instr.mapUpdate 63 (.map (some k)) (.string b) (.int .i64 y)).run Try.prog w = .ok () w3 := x3
  have m3' : Mp encS okS w3 k (vals vI (mput (mt a) b y)) := by rw [← vals_put]; exact m3
  have l4 := lookI m3' hb (x := y) (by rw [get_put, if_pos rfl]; rfl)
  by_cases h0 : y = 0
  · have t4 : (y == 0) = true := by simp [h0]
    obtain ⟨w4, y4, m4, f4, z4⟩ := dropS (k := 0) m3' Try.underlying63 hb
    have m4' : Mp encS okS w4 k (vals vI (mdel (mput (mt a) b y) b)) := by rw [← vals_del]; exact m4
    have hnd : (mkeys (mput (mt a) b y)).Nodup := by have := m3'.nd; rwa [vals_keys] at this
    have hget : ∀ z, mget (mdel (mput (mt a) b y) b) z = if z = b then nz (C a b + n) else mget (mt a) z := fun z => by
      rw [get_del hnd, get_put']
      by_cases e : b = z
      · subst e; rw [if_pos rfl, if_pos rfl, hx, hy]; unfold nz; rw [if_pos h0]
      · rw [if_neg e, if_neg (fun q => e q.symm), if_neg (fun q => e q.symm)]
    obtain ⟨m5, hm5⟩ : ∃ m5, mdel (mput (mt a) b y) b = m5 := ⟨_, rfl⟩
    rw [hm5] at m4' hget
    have g4 := h1.row hk m4' (f3.trans f4 (fun _ _ e => e))
    have l5 := m4'.len (P := Try.prog) Try.underlying63
    rw [vals_len] at l5
    have c4 : w4.cell? ⟨t, 1, none⟩ = some (.map (some r)) := g4.bk.cell 1
    have f34 : Fr (fun b => b ∈ B) w w4 := (f3.trans f4 (fun _ _ e => e)).mono (fun z _ e => by subst e; exact hkB)
    by_cases h5 : m5 = []
    · have t5 : ((m5.length : Int) == 0) = true := by rw [nil_of_len]; exact decide_eq_true h5
      obtain ⟨w6, y6, m6, f6, z6⟩ := dropS (k := 0) g4.mp Try.underlying64 ha
      have hndr : (mkeys mr).Nodup := by have := h1.mp.nd; rwa [vals_keys] at this
      have g6 := g4.less m6 f6
      have hrel := h2.gone hab hndr hk hget h5
      have hrel' : TRel (bump C a b n) ms (mdel mr a) (upd mt a m5) := ⟨hrel.s0, fun p q hp z => by
        rw [get_del hndr] at hp
        by_cases e : a = p
        · rw [if_pos e] at hp; cases hp
        · rw [if_neg e] at hp
          rw [upd_ne _ _ (fun c => e c.symm)]
          exact hrel.r0 p q (by rw [get_del hndr, if_neg e]; exact hp) z, hrel.r1, fun p q hp => by
        rw [get_del hndr] at hp
        by_cases e : a = p
        · rw [if_pos e] at hp; cases hp
        · rw [if_neg e] at hp
          rw [upd_ne _ _ (fun c => e c.symm)]
          exact h2.ne p q hp⟩
      have HR : Hid (∃ B', TabAt w6 t B' (bump C a b n) ∧ Sprd w B B') := Lib.hid ⟨_, ⟨⟨_, _, _, _, _, _, g6, hrel'⟩, hio'⟩, fun x hx => .inl hx⟩
      have HF : Hid (Fr (fun b => b ∈ B) w w6) := Lib.hid (f34.trans f6 (fun z _ e => by subst e; exact hrB))
      clear h1 h2 hio hio' m3 f3 z3 x3 m3' m4 f4 z4 m4' hnd hget hm5 g4 f34 h5 m6 f6 z6 hndr g6 hrel hrel' hn hab hk hx hy h0 hgx hmk hrB hkB
      go_enter Try.func49, Try.ntmps49
      go_wp2_with fail
      go_end0
      exact ⟨rfl, HR.out, HF.out⟩
    · have t5 : ((m5.length : Int) == 0) = false := by rw [nil_of_len]; exact decide_eq_false h5
      have HR : Hid (∃ B', TabAt w4 t B' (bump C a b n) ∧ Sprd w B B') := Lib.hid ⟨_, ⟨⟨_, _, _, _, _, _, g4, h2.pair hab hk hget h5⟩, hio'⟩, fun x hx => .inl hx⟩
      have HF : Hid (Fr (fun b => b ∈ B) w w4) := Lib.hid f34
      clear h1 h2 hio hio' m3 f3 z3 x3 m3' m4 f4 z4 m4' hnd hget hm5 g4 f34 h5 hn hab hk hx hy h0 hgx hmk hrB hkB
      go_enter Try.func49, Try.ntmps49
      go_wp2_with fail
      go_end0
      exact ⟨rfl, HR.out, HF.out⟩
  · have t4 : (y == 0) = false := by simp [h0]
    obtain ⟨m5, hm5⟩ : ∃ m5, mput (mt a) b y = m5 := ⟨_, rfl⟩
    have hget : ∀ z, mget m5 z = if z = b then nz (C a b + n) else mget (mt a) z := fun z => by
      rw [← hm5, get_put', hx, hy]
      unfold nz; rw [if_neg h0]
    have h5 : m5 ≠ [] := fun e => by
      have := hget b
      rw [e, if_pos rfl, hx, hy] at this
      unfold nz at this; rw [if_neg h0] at this; cases this
    rw [hm5] at m3'
    have g3 := h1.row hk m3' f3
    have l5 := m3'.len (P := Try.prog) Try.underlying63
    rw [vals_len] at l5
    have t5 : ((m5.length : Int) == 0) = false := by rw [nil_of_len]; exact decide_eq_false h5
    have HR : Hid (∃ B', TabAt w3 t B' (bump C a b n) ∧ Sprd w B B') := Lib.hid ⟨_, ⟨⟨_, _, _, _, _, _, g3, h2.pair hab hk hget h5⟩, hio'⟩, fun x hx => .inl hx⟩
    have HF : Hid (Fr (fun b => b ∈ B) w w3) := Lib.hid (f3.mono (fun z _ e => by subst e; exact hkB))
    clear h1 h2 hio hio' m3 f3 z3 x3 m3' hget hm5 g3 h5 hn hab hk hx hy h0 hgx hmk hrB hkB
    go_enter Try.func49, Try.ntmps49
    go_wp2_with fail
    go_end0
    exact ⟨rfl, HR.out, HF.out⟩
end
/-- pair -/
theorem pair_any {w : World} {t : Nat} {B : List Nat} {C : CF} (h : TabAt w t B C) (a b : ByteArray) (n : Int) (ha : a.size ≤ maxLen) (hb : b.size ≤ maxLen) (hab : b ≠ a) (hn0 : n ≠ 0) (hn : I64 (C a b + n)) :
    Calls Try.prog 49 #[.pointer (some ⟨t, 0, none⟩), .string a, .string b, .int .i64 n] w fun e w' => e = .returned (.tuple #[]) ∧ (∃ B', TabAt w' t B' (bump C a b n) ∧ Sprd w B B') ∧ Fr (fun b => b ∈ B) w w' := by
  obtain ⟨s, r, ms, mr, mt, role, h1, h2⟩ := h.ex
  cases hk : mget mr a with
  | none => exact pair_new h1 h2 h.io a b n ha hb hab hn0 hn hk
  | some k => exact pair_old h1 h2 h.io a b n ha hb hab hn hk
end Go.Proofs.Ytbmjddmejmeknaa.Pr

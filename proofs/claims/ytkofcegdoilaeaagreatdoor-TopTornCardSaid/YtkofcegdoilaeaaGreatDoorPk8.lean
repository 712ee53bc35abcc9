/- The events that a tale tells: begun; parses; people. event.Name: is a text a name? Plain: an event's text, its words, and what is read out of it. No program in sight. event.Tags, event.listing, event.May, at the events of tales. -/
import Derived.Test.YtkofcegdoilaeaaGreatDoorPk7
import Derived.Test.YtkofcegdoilaeaaGreatDoorPk6
import Derived.Lib.SplitLaws
namespace Go.Proofs.YtkofcegdoilaeaaGreatDoor
open Go.RowKit Go.MapKept Go.Maps
set_option linter.unusedVariables false
set_option linter.unusedSimpArgs false
theorem inw_row {α : Type} {f : α → List Value} {W : World} {b : Option Addr} {sz : Nat} {l : List α} (h : InW W b sz (l.map f)) {i : Nat} {x : α} (hx : l[i]? = some x) : ∃ B off, b = some ⟨B, off, none⟩ ∧ B < W.heap.size ∧ (∀ X, Below W.heap.size W X → ∀ j u, (f x)[j]? = some u → X.cell? ⟨B, off + i * sz + j, none⟩ = some u) := by
  rcases h with h | ⟨B, off, hb, hl, hc⟩
  · rw [List.map_eq_nil_iff.1 h] at hx; cases hx
  · exact ⟨B, off, hb, hl, fun X hX j u hj => (hX.cell (p := ⟨B, off + i * sz + j, none⟩) hl).trans (hc i (f x) (by rw [List.getElem?_map, hx]; rfl) j u hj)⟩
theorem exec_load_row {P : Program} {op : Oper} {e : Operand → Value} (ty : TypeId) (x : Operand) (ho : op.op = .load ty x) (b o : Nat) (hx : e x = .pointer (some ⟨b, o, none⟩)) (cs : List Value) (d : TypeDesc) (w : World) (hc : w.rangeAt b o cs)
    (hu : P.underlying ty = some d) (hd : d.isRow = true) (hi : (P.info? ty).map (·.size) = some cs.length) : (execOp e op).run P w = .ok (.value (.agg cs.toArray)) w := by
  unfold execOp
  simp only [ho, hx, Instr.loadAt, Instr.sureAddr, Sem.run_bind, Sem.run_pure, Result.andThen_ok, run_loadVar_mid w b o ty cs d hc hu hd hi]
namespace Tl
open Es
theorem infoEv : (Tryz.prog.info? 60).map (fun i => (i.zero, i.size, i.bytes)) = some (some (.agg (evC ev0).toArray), 8, 96) := by kernel_rfl
set_option maxRecDepth 100000 in
theorem parses_any (w : World) (hG : Glob w) : Calls Tryz.prog 5 #[] w fun e w' => e = .returned (.bool true) ∧ Below w.heap.size w w' := by
  have HP := Lib.hid (parse_any none 0 [] w hG ⟨.inl rfl, by simp⟩ (by decide))
  clear hG
  go_enter Tryz.func5, Tryz.ntmps5
  go_wp2_with fail
  refine HP.out.mono ?_
  rintro e w1 ⟨s, sl, l, t, rfl, mg, _, ht, _, _⟩
  obtain rfl := ht rfl
  have HB := Lib.hid mg.bl
  clear mg ht HP
  have hfd : ∀ W, Sem.run Tryz.prog (Instr.field 55 (.agg (taC s sl 1000).toArray) 2) W = .ok (.int .i64 1000) W := fun W => by kernel_rfl
  go_wp2_with fail
  go_ret
  exact ⟨rfl, HB.out⟩
theorem finB {fn : Func} {q p q2 q3 : Tmp} {tmps : Array Value} {w : World} {g : Nat} {s : Sg} (h : fn.results = #[.tmp q, .cell p 32, .tmp q2, .tmp q3]) (hp : tmps.getD p undef = .pointer (some ⟨g, 0, none⟩)) (hb : Bk w g (sgC s) 32) : (results fn tmps).run Tryz.prog w = .ok (.tuple #[tmps.getD q undef, .agg (sgC s).toArray, tmps.getD q2 undef, tmps.getD q3 undef]) w := by
  have := run_loadVar_row (P := Tryz.prog) w g 32 _ _ (0, 0) _ hb Tryz.underlying32 rfl (by rw [List.size_toArray, sgLen]; kernel_rfl)
  have hp' : tmps[p]?.getD undef = .pointer (some ⟨g, 0, none⟩) := by simpa using hp
  simp [results, h, hp', asAddr, this, Result.andThen]
def BegPost (w : World) (e : Ending) (w' : World) : Prop := ∃ b cap s t n, ∃ l : List Ev, e = .returned (.tuple #[.slice b n cap, .agg (sgC s).toArray, .int .i64 t, .bool true]) ∧ n = l.length ∧ n ≤ cap ∧ cap ≤ maxLen ∧ InW w' b 8 (l.map evC) ∧ l.length ≤ 59 ∧ (∀ e ∈ l, TaleEv e) ∧ (l.map idE).Nodup ∧ Below w.heap.size w w'
theorem evs_take {l : List Stp} {i : Nat} {x : Stp} (h : l[i]? = some x) : evs (l.take (i + 1)) = if x.what = 0 then evs (l.take i) ++ [x.ev] else evs (l.take i) := by
  rw [List.take_add_one, h]
  split
  · rename_i c; exact evs_tell c
  · rename_i c; exact evs_skip c
theorem evs_len (l : List Stp) : (evs l).length ≤ l.length := by
  unfold evs told
  rw [List.length_map]; exact List.length_filter_le _ _
set_option maxRecDepth 100000 in
set_option maxHeartbeats 8000000 in
theorem begun_any (b : Option Addr) (cap : Nat) (xs : List Int) (w : World) (hG : Glob w) (hX : Bys w b xs) (hn : xs.length ≤ 300) :
    Calls Tryz.prog 4 #[.slice b xs.length cap] w (BegPost w) := by
  obtain ⟨iE, hiE, hzE, hsE, hbE⟩ := tinfo infoEv
  have HP : Hid (∀ W, Below w.heap.size w W → Calls Tryz.prog 16 #[.slice b xs.length cap] W (TalePost xs.length W)) := Lib.hid (fun W hW => parse_any b cap xs W (hG.bel hW) (hX.bel hW) hn)
  obtain ⟨n, hnl⟩ : ∃ n, xs.length = n := ⟨_, rfl⟩
  rw [hnl] at HP hn ⊢
  have n300 : ¬ (300 : Int) < (n : Int) := by omega
  clear hG hX hnl
  go_enter Tryz.func4, Tryz.ntmps4
  go_wp2_with fail
  refine (HP.out _ ((Below.refl _ _).alloc (Nat.le_refl _) _)).mono ?_
  rintro e w1 ⟨s, sl, l, t, rfl, mg, hl, _, hev, hnd⟩
  obtain ⟨bs, ks, hse, hs1, hs2, hs3, _⟩ := inw_of_rowm stLen (by decide) mg.tx
  obtain ⟨m, hm⟩ : ∃ m, l.length = m := ⟨_, rfl⟩
  rw [hm] at hse hl
  subst hse
  have h3 := (bk_at (W := w) zerS 32 rfl).bel mg.bl
  have HX := Lib.hid (And.intro h3 (And.intro (((Below.refl _ _).alloc (Nat.le_refl _) _).trans (mg.bl.mono (by simp))) (And.intro hs3 (And.intro hev (And.intro hnd hl)))))
  have HM := Lib.hid hm
  clear hev hnd HP mg hs1 hs2 hs3 h3 hm
  go_upto_region 4 with (first
    | ((with_reducible show wpList _ _ _ (Oper.mk _ (Op.store 55 _ _) _ _ _ _ :: _) _ _); refine wpList_store_rowTo rfl 55 _ _ rfl rfl w1.heap.size (taC s (.slice bs m ks) t).toArray rfl rfl 55 zerT.toArray (Bk.new w1 zerT 55) (by rw [List.size_toArray, taLen]; kernel_rfl) (by rw [List.size_toArray, List.size_toArray, taLen]; rfl) (all_oneCell_toArray (taOne _ _ _ rfl)) ?_)
    | fail)
  have g3 := ((HX.out.1.old (.cells zerT.toArray 55)).rowOther w1.heap.size (taC s (.slice bs m ks) t).toArray (by have := HX.out.1.lt; omega))
  have g6 := (Bk.new w1 zerT 55).setRow (taC s (.slice bs m ks) t)
  have hbv : Below w1.heap.size w1 ((w1.alloc (.cells zerT.toArray 55)).setRow w1.heap.size (taC s (.slice bs m ks) t).toArray) := bel_setRow ((Below.refl _ _).alloc (Nat.le_refl _) _) (Nat.le_refl _) _
  have HV := Lib.hid (And.intro g3 (And.intro g6 (And.intro hbv (HX.out.2.2.1.bel hbv))))
  have c22 : ((w1.alloc (.cells zerT.toArray 55)).setRow w1.heap.size (taC s (.slice bs m ks) t).toArray).cell? ⟨w1.heap.size, 22, none⟩ = some (.slice bs m ks) := (g6.cell 22).trans (taAt22 _ _ _)
  unfold zerT zerS at c22 HV g3 g6 hbv
  simp only [List.cons_append, List.nil_append] at c22 HV
  generalize (w1.alloc _).setRow w1.heap.size (taC s (.slice bs m ks) t).toArray = V at c22 HV ⊢
  clear g3 g6 hbv
  go_wp2_with fail
  go_loopw [7, 19] (fun u c wr => ∃ i : Nat, i ≤ m ∧ c = .int .i64 i ∧ Hid (MkG 60 8 evC V wr u (evs (l.take i)))) (fun _ c _ => m - (intOf c).toNat)
  case atStart => exact ⟨0, by omega, rfl, Lib.hid (MkG.nil V)⟩
  case round =>
    obtain ⟨i, him, rfl, HM7⟩ := hrel
    by_cases hlt : i < m
    · obtain ⟨x, hx⟩ : ∃ x, l[i]? = some x := ⟨l[i]'(by have := HM.out; omega), List.getElem?_eq_getElem _⟩
      obtain ⟨B, off, rfl, hB, hc⟩ := inw_row HV.out.2.2.2 hx
      have hc := hc _ HM7.out.bl
      have k0 : wr.cell? ⟨B, off + i * 13, none⟩ = some (.int .i64 x.what) := hc 0 _ rfl
      have k1 : wr.cell? ⟨B, off + i * 13 + 1, none⟩ = some (.string x.ev.src) := hc 1 _ rfl
      have k2 : wr.cell? ⟨B, off + i * 13 + 2, none⟩ = some (.int .i64 x.ev.num) := hc 2 _ rfl
      have k3 : wr.cell? ⟨B, off + i * 13 + 3, none⟩ = some (.int .i64 x.ev.at_) := hc 3 _ rfl
      have k4 : wr.cell? ⟨B, off + i * 13 + 4, none⟩ = some (.int .i64 x.ev.kind) := hc 4 _ rfl
      have k5 : wr.cell? ⟨B, off + i * 13 + 5, none⟩ = some (.string x.ev.per) := hc 5 _ rfl
      have k6 : wr.cell? ⟨B, off + i * 13 + 6, none⟩ = some (.string x.ev.item) := hc 6 _ rfl
      have k7 : wr.cell? ⟨B, off + i * 13 + 7, none⟩ = some (.int .i64 x.ev.val) := hc 7 _ rfl
      have k8 : wr.cell? ⟨B, off + i * 13 + 8, none⟩ = some (.string x.ev.txt) := hc 8 _ rfl
      have k9 : wr.cell? ⟨B, off + i * 13 + 9, none⟩ = some (.string x.per) := hc 9 _ rfl
      have k10 : wr.cell? ⟨B, off + i * 13 + 10, none⟩ = some (.int .i64 x.now) := hc 10 _ rfl
      have k11 : wr.cell? ⟨B, off + i * 13 + 11, none⟩ = some (.int .i64 x.keep) := hc 11 _ rfl
      have k12 : wr.cell? ⟨B, off + i * 13 + 12, none⟩ = some (.int .i64 x.of) := hc 12 _ rfl
      have HT := Lib.hid (evs_take hx)
      have hi0' : (0 : Int) ≤ (i : Int) := by omega
      have hi1 : (i : Int) < (m : Int) := by omega
      clear hc hx
      by_cases hw : x.what = 0
      · have HM2 := Lib.hid ((HM7.out.alloc (.cells (stC x).toArray 62)).alloc (.cells (evC x.ev).toArray 60))
        have HIN : Hid (InW ((wr.alloc (.cells (stC x).toArray 62)).alloc (.cells (evC x.ev).toArray 60)) (some ⟨wr.heap.size + 1, 0, none⟩) 8 ([x.ev].map evC)) := Lib.hid (inw_one (f := evC) (x := x.ev) (bk_at _ _ (by simp)))
        have HLN : Hid ((evs (l.take i)).length + [x.ev].length ≤ 1000000) := Lib.hid (by have := evs_len (l.take i); simp at this ⊢; omega)
        have hwd : (x.what == 0) = true := by simp [hw]
        have HW := Lib.hid hw
        clear hw
        go_wp2_with (at_builtin; refine wpList_append_m evLen evOne _ rfl _ _ _ rfl 60 iE _ 96 Tryz.underlying23 hiE hzE hsE hbE rfl (by decide) (by omega) u7 (evs (l.take i)) [x.ev] rfl HM2.out.tx (some ⟨wr.heap.size + 1, 0, none⟩) 1 1 rfl rfl HIN.out HLN.out ?_; intro v5 w5 o5 f5 h5)
        have HM5 := Lib.hid (HM2.out.more o5 f5 h5)
        clear o5 f5 h5 HM2 HIN HLN
        go_wp2_with fail
        go_roundw
        case rel => exact ⟨i + 1, by omega, by go_num, by rw [HT.out, if_pos HW.out]; exact HM5⟩
        case measure => simp [intOf]; omega
      · have hwd : (x.what == 0) = false := by simp [hw]
        have HW := Lib.hid hw
        clear hw
        go_wp2_with fail
        go_roundw
        case rel => exact ⟨i + 1, by omega, by go_num, Lib.hid (by rw [HT.out, if_neg HW.out]; exact HM7.out.alloc _)⟩
        case measure => simp [intOf]; omega
    · go_upto_region 11 with fail
      have g3 := HV.out.1.bel HM7.out.bl
      have g6 := HV.out.2.1.bel HM7.out.bl
      obtain ⟨S, hS⟩ : ∃ S : World → Prop, S = fun X => Bk X w1.heap.size (taC s (.slice bs m ks) t) 55 ∧ (∃ cs : List Value, cs.length = 22 ∧ Bk X w.heap.size cs 32) := ⟨_, rfl⟩
      have s0 : S wr := by rw [hS]; exact ⟨g6, _, by rfl, g3⟩
      have hlt0 := HX.out.1.lt
      have HS1 : Hid (∀ X, S X → X.rangeAt w1.heap.size 0 (sgC s)) := Lib.hid (fun X h => by
        rw [hS] at h
        exact h.1.range 0 _ (fun j v hj => by rw [Nat.zero_add]; unfold taC; rw [List.getElem?_append_left (List.getElem?_eq_some_iff.1 hj).1]; exact hj))
      have HS2 : Hid (∀ X, S X → X.cell? ⟨w1.heap.size, 23, none⟩ = some (.int .i64 t)) := Lib.hid (fun X h => by rw [hS] at h; exact (h.1.cell 23).trans (taAt23 _ _ _))
      have HS3 : Hid (∀ X, S X → S (X.setRow w.heap.size (sgC s).toArray)) := Lib.hid (fun X h => by rw [hS] at h ⊢; obtain ⟨h1, cs, h2, h3⟩ := h; exact ⟨h1.rowOther _ _ (by omega), sgC s, sgLen s, h3.setRow _⟩)
      have HS4 : Hid (∀ X, S X → S X.drew) := Lib.hid (fun X h => by rw [hS] at h ⊢; exact h)
      have HS6 : Hid (∀ X, S X → (∃ cs : List Value, cs.length = 22 ∧ Bk X w.heap.size cs 32)) := Lib.hid (fun X h => by rw [hS] at h; exact h.2)
      have HG3 := Lib.hid g3
      clear hS g3 g6
      refine wp_region_held_drew (S := S) (by kernel_rfl) (HS4.out _ s0) (fun hHeld => ?_)
      refine take_at (i := 0) (v := ?_) (some 32) rfl rfl (by kernel_rfl) (by kernel_rfl) (by kernel_rfl) (fun _ _ _ h => h) (by rfl) ?_ (by assumption) ?_
      rotate_left
      · intro w hSw
        (try dsimp only at hSw)
        go_simp
        try (with_reducible rfl)
      (try simp only [Act.put, List.setIfInBounds_toArray, List.set_cons_zero, List.set_cons_succ])
      refine take_at (i := 1) (v := ?_) (some 33) rfl rfl (by kernel_rfl) (by kernel_rfl) (by kernel_rfl) (fun _ _ _ h => h) (by rfl) ?_ (by assumption) ?_
      rotate_left
      · intro w hSw
        (try dsimp only at hSw)
        go_simp
        try (with_reducible rfl)
      (try simp only [Act.put, List.setIfInBounds_toArray, List.set_cons_zero, List.set_cons_succ])
      refine take_at (i := 2) (v := .agg (sgC s).toArray) (some 34) rfl rfl (by kernel_rfl) (by kernel_rfl) (by kernel_rfl) (fun _ _ _ h => h) (by rfl) (fun W hW => exec_load_row 32 _ rfl w1.heap.size 0 rfl (sgC s) _ W (HS1.out W hW) Tryz.underlying32 rfl (by rw [sgLen]; kernel_rfl)) (by assumption) ?_
      (try simp only [Act.put, List.setIfInBounds_toArray, List.set_cons_zero, List.set_cons_succ])
      refine take_at (i := 3) (v := ?_) (some 35) rfl rfl (by kernel_rfl) (by kernel_rfl) (by kernel_rfl) (fun _ _ _ h => h) (by rfl) ?_ (by assumption) ?_
      rotate_left
      · intro w hSw
        (try dsimp only at hSw)
        go_simp
        try (with_reducible rfl)
      (try simp only [Act.put, List.setIfInBounds_toArray, List.set_cons_zero, List.set_cons_succ])
      refine take_at (i := 4) (v := ?_) (some 36) rfl rfl (by kernel_rfl) (by kernel_rfl) (by kernel_rfl) (fun _ _ _ h => h) (by rfl) ?_ (by assumption) ?_
      rotate_left
      · intro w hSw
        (try dsimp only at hSw)
        have hq := HS2.out w hSw
        go_simp
        try (with_reducible rfl)
      (try simp only [Act.put, List.setIfInBounds_toArray, List.set_cons_zero, List.set_cons_succ])
      refine take_at (i := 5) (v := ?_) (some 2) rfl rfl (by kernel_rfl) (by kernel_rfl) (by kernel_rfl) (fun _ _ _ h => h) (by rfl) ?_ (by assumption) ?_
      rotate_left
      · intro w hSw
        (try dsimp only at hSw)
        go_simp
        try (with_reducible rfl)
      (try simp only [Act.put, List.setIfInBounds_toArray, List.set_cons_zero, List.set_cons_succ])
      refine call_at (i := 6) (by kernel_rfl) rfl (fun K hK => ?_)
      rw [if_pos (by rfl)]
      obtain ⟨cs, hcs, hb3⟩ := HS6.out _ hHeld
      refine wp_store_row 32 _ _ rfl w.heap.size (sgC s).toArray rfl rfl 32 cs.toArray hb3 (by rw [List.size_toArray, sgLen]; kernel_rfl) (by rw [List.size_toArray, List.size_toArray, sgLen, hcs]) (all_oneCell_toArray (wtsOne s 6)) ?_
      refine hK.out _ _ (HS3.out _ hHeld) (fun hHeld => ?_)
      clear hK K hb3 hcs
      (try simp only [Act.put, List.setIfInBounds_toArray, List.set_cons_zero, List.set_cons_succ])
      refine take_at (i := 7) (v := ?_) (some 4) rfl rfl (by kernel_rfl) (by kernel_rfl) (by kernel_rfl) (fun _ _ _ h => h) (by rfl) ?_ (by assumption) ?_
      rotate_left
      · intro w hSw
        (try dsimp only at hSw)
        go_simp
        try (with_reducible rfl)
      (try simp only [Act.put, List.setIfInBounds_toArray, List.set_cons_zero, List.set_cons_succ])
      refine take_at (i := 8) (v := ?_) (some 5) rfl rfl (by kernel_rfl) (by kernel_rfl) (by kernel_rfl) (fun _ _ _ h => h) (by rfl) ?_ (by assumption) ?_
      rotate_left
      · intro w hSw
        (try dsimp only at hSw)
        go_simp
        try (with_reducible rfl)
      (try simp only [Act.put, List.setIfInBounds_toArray, List.set_cons_zero, List.set_cons_succ])
      refine wpAnyH_done (by kernel_rfl) ?_ _
      go_wp2_with fail
      have e7 : l.take i = l := List.take_of_length_le (by have := HM.out; omega)
      have hmk := HM7.out
      rw [e7] at hmk
      have hf : Fr (fun b => b = w.heap.size) wr (wr.drew.setRow w.heap.size (sgC s).toArray) := ⟨rfl, rfl, rfl, by simp, fun k hk hs => setRow_other wr.drew w.heap.size k _ hs⟩
      have hsz := HV.out.2.2.1.size
      obtain ⟨b7, k7, rfl, h71, h72, h73, _⟩ := inw_of_rowm evLen (by decide) (hf.row hmk.tx (fun b hb e => by have := hmk.nw b hb; have e' : b = w.heap.size := e; omega))
      have hq := HX.out
      have hbl : Below w.heap.size w (wr.drew.setRow w.heap.size (sgC s).toArray) := bel_setRow ((hq.2.1.trans ((HV.out.2.2.1.mono hq.2.1.size).trans (hmk.bl.mono (Nat.le_trans hq.2.1.size hsz)))).drew) (Nat.le_refl _) _
      refine bodyPost_ret (finB (s := s) (g := w.heap.size) rfl rfl ?_) rfl ⟨b7, k7, s, t, (evs l).length, evs l, rfl, rfl, h71, h72, h73, Nat.le_trans (evs_len l) (by have := HM.out; omega), hq.2.2.2.1, hq.2.2.2.2.1, hbl⟩
      exact (show Bk wr.drew w.heap.size _ _ from HG3.out).setRow (sgC s)
end Tl
end Go.Proofs.YtkofcegdoilaeaaGreatDoor
namespace Go.Proofs.YtkofcegdoilaeaaGreatDoor
open Go.RowKit
set_option linter.unusedVariables false
def signB (c : UInt8) : Bool := (decide (97 ≤ c.toNat) && decide (c.toNat ≤ 122)) || (decide (48 ≤ c.toNat) && decide (c.toNat ≤ 57)) || decide (c.toNat = 45)
def nameB (s : ByteArray) : Bool := decide (1 ≤ s.size) && decide (s.size ≤ 24) && s.data.toList.all signB
theorem byte_at (s : ByteArray) (k : Nat) (h : k < s.size) : s.data.toList[k]? = some s[k] := by
  have h' : k < s.data.toList.length := by simpa using h
  rw [List.getElem?_eq_getElem h']
  rfl
theorem take_snoc (s : ByteArray) (k : Nat) (h : k < s.size) : s.data.toList.take (k + 1) = s.data.toList.take k ++ [s[k]] := by
  rw [List.take_add_one, byte_at s k h]; rfl
theorem mem_byte (s : ByteArray) (k : Nat) (h : k < s.size) : s[k] ∈ s.data.toList := List.mem_of_getElem? (byte_at s k h)
theorem nameB_size {s : ByteArray} (h : nameB s = true) : 1 ≤ s.size ∧ s.size ≤ 24 := by
  simp only [nameB, Bool.and_eq_true, decide_eq_true_eq] at h
  exact h.1
set_option maxHeartbeats 2000000 in
theorem ename_any (s : ByteArray) (w : World) (hs : s.size ≤ maxLen) :
    Calls Tryz.prog 21 #[.string s] w fun e w' => e = .returned (.bool (nameB s)) ∧ w = w' := by
  obtain ⟨r, hr⟩ : ∃ r, nameB s = r := ⟨_, rfl⟩
  rw [hr]
  have HR := Lib.hid hr
  clear hr
  by_cases h1 : s.size < 1
  · have e : r = false := by rw [← HR.out]; unfold nameB; rw [decide_eq_false (show ¬ 1 ≤ s.size by omega)]; rfl
    subst e
    have t1 : decide ((s.size : Int) < 1) = true := decide_eq_true (by omega)
    go_enter Tryz.func21, Tryz.ntmps21
    go_wp2_with fail
    go_ret
    exact ⟨rfl, rfl⟩
  have t1 : decide ((s.size : Int) < 1) = false := decide_eq_false (by omega)
  by_cases h2 : 24 < s.size
  · have e : r = false := by rw [← HR.out]; unfold nameB; rw [decide_eq_false (show ¬ s.size ≤ 24 by omega), Bool.and_false]; rfl
    subst e
    have t2 : decide ((24 : Int) < (s.size : Int)) = true := decide_eq_true (by omega)
    go_enter Tryz.func21, Tryz.ntmps21
    go_wp2_with fail
    go_ret
    exact ⟨rfl, rfl⟩
  have t2 : decide ((24 : Int) < (s.size : Int)) = false := decide_eq_false (by omega)
  have HN : Hid (s.data.toList.all signB = r) := Lib.hid (by rw [← HR.out]; unfold nameB; rw [decide_eq_true (show 1 ≤ s.size by omega), decide_eq_true (show s.size ≤ 24 by omega)]; rfl)
  go_enter Tryz.func21, Tryz.ntmps21
  go_wp2_with fail
  go_loop [15] (fun i => ∃ k : Nat, k ≤ s.size ∧ i = .int .i64 k ∧ Hid ((s.data.toList.take k).all signB = true)) (fun i => s.size - (intOf i).toNat)
  case atStart => exact ⟨0, Nat.zero_le _, rfl, Lib.hid (by simp)⟩
  case round =>
    obtain ⟨k, hk, rfl, HA⟩ := hrel
    by_cases hlt : k < s.size
    · obtain ⟨c, hc⟩ : ∃ c, s[k].toNat = c := ⟨_, rfl⟩
      have hi1 : (k : Int) < (s.size : Int) := by omega
      rcases (show c < 45 ∨ c = 45 ∨ (46 ≤ c ∧ c ≤ 47) ∨ (48 ≤ c ∧ c ≤ 57) ∨ (58 ≤ c ∧ c ≤ 96) ∨ (97 ≤ c ∧ c ≤ 122) ∨ 123 ≤ c by omega) with hr | hr | hr | hr | hr | hr | hr
      · have d0 : decide (97 ≤ (s[k].toNat : Int)) = false := decide_eq_false (by omega)
        have d2 : decide (48 ≤ (s[k].toNat : Int)) = false := decide_eq_false (by omega)
        have d5 : ((s[k].toNat : Int) == 45) = false := by simp; omega
        have hr : r = false := by
          rw [← HR.out]
          have h1 : signB s[k] = false := by unfold signB; simp; omega
          have h2 : s.data.toList.all signB = false := by
            rw [List.all_eq_false]
            exact ⟨s[k], mem_byte s k hlt, by simp [h1]⟩
          unfold nameB
          rw [h2, Bool.and_false]
        subst hr
        clear hc
        go_wp2_with fail
        go_ret
        exact ⟨rfl, rfl⟩
      · have d0 : decide (97 ≤ (s[k].toNat : Int)) = false := decide_eq_false (by omega)
        have d2 : decide (48 ≤ (s[k].toNat : Int)) = false := decide_eq_false (by omega)
        have d5 : ((s[k].toNat : Int) == 45) = true := by simp; omega
        have HS' : Hid ((s.data.toList.take (k + 1)).all signB = true) := Lib.hid (by rw [take_snoc s k hlt, List.all_append, HA.out, Bool.true_and, List.all_cons, List.all_nil, Bool.and_true]; unfold signB; simp; omega)
        clear hc
        go_wp2_with fail
        go_round
        case rel => exact ⟨k + 1, by omega, by go_num, HS'⟩
        case measure => simp [intOf]; omega
      · have d0 : decide (97 ≤ (s[k].toNat : Int)) = false := decide_eq_false (by omega)
        have d2 : decide (48 ≤ (s[k].toNat : Int)) = false := decide_eq_false (by omega)
        have d5 : ((s[k].toNat : Int) == 45) = false := by simp; omega
        have hr : r = false := by
          rw [← HR.out]
          have h1 : signB s[k] = false := by unfold signB; simp; omega
          have h2 : s.data.toList.all signB = false := by
            rw [List.all_eq_false]
            exact ⟨s[k], mem_byte s k hlt, by simp [h1]⟩
          unfold nameB
          rw [h2, Bool.and_false]
        subst hr
        clear hc
        go_wp2_with fail
        go_ret
        exact ⟨rfl, rfl⟩
      · have d0 : decide (97 ≤ (s[k].toNat : Int)) = false := decide_eq_false (by omega)
        have d2 : decide (48 ≤ (s[k].toNat : Int)) = true := decide_eq_true (by omega)
        have d3 : decide ((s[k].toNat : Int) ≤ 57) = true := decide_eq_true (by omega)
        have d5 : ((s[k].toNat : Int) == 45) = false := by simp; omega
        have HS' : Hid ((s.data.toList.take (k + 1)).all signB = true) := Lib.hid (by rw [take_snoc s k hlt, List.all_append, HA.out, Bool.true_and, List.all_cons, List.all_nil, Bool.and_true]; unfold signB; simp; omega)
        clear hc
        go_wp2_with fail
        go_round
        case rel => exact ⟨k + 1, by omega, by go_num, HS'⟩
        case measure => simp [intOf]; omega
      · have d0 : decide (97 ≤ (s[k].toNat : Int)) = false := decide_eq_false (by omega)
        have d2 : decide (48 ≤ (s[k].toNat : Int)) = true := decide_eq_true (by omega)
        have d3 : decide ((s[k].toNat : Int) ≤ 57) = false := decide_eq_false (by omega)
        have d5 : ((s[k].toNat : Int) == 45) = false := by simp; omega
        have hr : r = false := by
          rw [← HR.out]
          have h1 : signB s[k] = false := by unfold signB; simp; omega
          have h2 : s.data.toList.all signB = false := by
            rw [List.all_eq_false]
            exact ⟨s[k], mem_byte s k hlt, by simp [h1]⟩
          unfold nameB
          rw [h2, Bool.and_false]
        subst hr
        clear hc
        go_wp2_with fail
        go_ret
        exact ⟨rfl, rfl⟩
      · have d0 : decide (97 ≤ (s[k].toNat : Int)) = true := decide_eq_true (by omega)
        have d1 : decide ((s[k].toNat : Int) ≤ 122) = true := decide_eq_true (by omega)
        have HS' : Hid ((s.data.toList.take (k + 1)).all signB = true) := Lib.hid (by rw [take_snoc s k hlt, List.all_append, HA.out, Bool.true_and, List.all_cons, List.all_nil, Bool.and_true]; unfold signB; simp; omega)
        clear hc
        go_wp2_with fail
        go_round
        case rel => exact ⟨k + 1, by omega, by go_num, HS'⟩
        case measure => simp [intOf]; omega
      · have d0 : decide (97 ≤ (s[k].toNat : Int)) = true := decide_eq_true (by omega)
        have d1 : decide ((s[k].toNat : Int) ≤ 122) = false := decide_eq_false (by omega)
        have d2 : decide (48 ≤ (s[k].toNat : Int)) = true := decide_eq_true (by omega)
        have d3 : decide ((s[k].toNat : Int) ≤ 57) = false := decide_eq_false (by omega)
        have d5 : ((s[k].toNat : Int) == 45) = false := by simp; omega
        have hr : r = false := by
          rw [← HR.out]
          have h1 : signB s[k] = false := by unfold signB; simp; omega
          have h2 : s.data.toList.all signB = false := by
            rw [List.all_eq_false]
            exact ⟨s[k], mem_byte s k hlt, by simp [h1]⟩
          unfold nameB
          rw [h2, Bool.and_false]
        subst hr
        clear hc
        go_wp2_with fail
        go_ret
        exact ⟨rfl, rfl⟩
    · have hk2 : s.data.toList.take k = s.data.toList := List.take_of_length_le (by simp; omega)
      have e : r = true := by rw [← HN.out]; have h := HA.out; rw [hk2] at h; exact h
      subst e
      clear hk2
      go_wp2_with fail
      go_ret
      exact ⟨rfl, rfl⟩
end Go.Proofs.YtkofcegdoilaeaaGreatDoor
namespace Go.Proofs.YtkofcegdoilaeaaGreatDoor
open Go.RowKit
set_option linter.unusedVariables false
set_option linter.unusedSimpArgs false
namespace Tl
open Es
theorem index_word {c : UInt8} : ∀ (x : List UInt8) (r : List UInt8), c ∉ x → Lib.index (x ++ c :: r) [c] = x.length
  | [], r, _ => by simp [Lib.index]
  | b :: x, r, h => by
    have hb : b ≠ c := fun e => h (by simp [e])
    have ih := index_word x r (fun k => h (List.mem_cons_of_mem _ k))
    rw [List.cons_append, Lib.index, ih]
    have h1 : ([c] : List UInt8).isPrefixOf (b :: (x ++ c :: r)) = false := by simp [List.isPrefixOf, Ne.symm hb]
    rw [h1]
    have : ((x.length : Int) == -1) = false := by rw [beq_eq_false_iff_ne]; omega
    simp [this]
theorem index_no {c : UInt8} : ∀ (x : List UInt8), c ∉ x → Lib.index x [c] = -1
  | [], _ => by simp [Lib.index]
  | b :: x, h => by
    have hb : b ≠ c := fun e => h (by simp [e])
    have ih := index_no x (fun k => h (List.mem_cons_of_mem _ k))
    rw [Lib.index, ih]
    have h1 : ([c] : List UInt8).isPrefixOf (b :: x) = false := by simp [List.isPrefixOf, Ne.symm hb]
    rw [h1]
    simp
theorem cut_word {c : UInt8} (x r : List UInt8) (h : c ∉ x) : Lib.cut (x ++ c :: r) [c] = (x, r, true) := by
  unfold Lib.cut
  rw [index_word x r h, if_pos (by omega)]
  simp
theorem cut_no {c : UInt8} (x : List UInt8) (h : c ∉ x) : Lib.cut x [c] = (x, [], false) := by
  unfold Lib.cut
  rw [index_no x h, if_neg (by omega)]
theorem split_words {c : UInt8} : ∀ (r : List (List UInt8)) (x : List UInt8), c ∉ x → (∀ y ∈ r, c ∉ y) → Lib.splitK [c] 0 r.length (x ++ Lib.joinTail [c] r) = x :: r
  | [], x, h, _ => by simp [Lib.splitK, Lib.joinTail]
  | y :: r, x, h, hr => by
    have hy := hr y (by simp)
    have ih := split_words r y hy (fun z hz => hr z (by simp [hz]))
    have e : x ++ Lib.joinTail [c] (y :: r) = x ++ c :: (y ++ Lib.joinTail [c] r) := by simp [Lib.joinTail]
    rw [e, List.length_cons, Lib.splitK, index_word x _ h]
    have h1 : ((x.length : Int) == -1) = false := by rw [beq_eq_false_iff_ne]; omega
    rw [h1]
    simp only [Bool.false_eq_true, if_false, Int.toNat_natCast, Nat.add_zero, List.take_left', List.length_cons, List.length_nil, List.drop_append]
    congr 1
    have : List.drop (x.length + (0 + 1)) x = [] := List.drop_of_length_le (by omega)
    rw [this, show x.length + (0 + 1) - x.length = 1 by omega]
    simpa using ih
theorem count_words {c : UInt8} : ∀ (r : List (List UInt8)) (x : List UInt8), c ∉ x → (∀ y ∈ r, c ∉ y) → (x ++ Lib.joinTail [c] r).count c = r.length
  | [], x, h, _ => by simpa [Lib.joinTail] using List.count_eq_zero_of_not_mem h
  | y :: r, x, h, hr => by
    have ih := count_words r y (hr y (by simp)) (fun z hz => hr z (by simp [hz]))
    have e : x ++ Lib.joinTail [c] (y :: r) = x ++ c :: (y ++ Lib.joinTail [c] r) := by simp [Lib.joinTail]
    rw [e, List.count_append, List.count_cons_self, ih, List.count_eq_zero_of_not_mem h, List.length_cons]
    omega
theorem map_data_inj {xs ys : List ByteArray} (h : xs.map (·.data.toList) = ys.map (·.data.toList)) : xs = ys := by
  refine List.map_inj_right (fun a b e => byte_ext e) |>.1 h
/-- a joined text, split -/
theorem split_join {c : UInt8} {x : ByteArray} {r : List ByteArray} (h : ∀ y ∈ x :: r, c ∉ y.data.toList) :
    Lib.countB (joinT (x :: r) ⟨#[c]⟩) ⟨#[c]⟩ = r.length ∧ Lib.splitB ⟨#[c]⟩ 0 r.length (joinT (x :: r) ⟨#[c]⟩) = x :: r := by
  have e : (joinT (x :: r) ⟨#[c]⟩).data.toList = x.data.toList ++ Lib.joinTail [c] (r.map (·.data.toList)) := by
    unfold joinT
    simp only [List.map_cons, Lib.join_cons]
  have hx := h x (by simp)
  have hr : ∀ y ∈ r.map (·.data.toList), c ∉ y := fun y hy => by
    obtain ⟨z, hz, rfl⟩ := List.mem_map.1 hy
    exact h z (by simp [hz])
  refine ⟨?_, ?_⟩
  · unfold Lib.countB
    rw [e, show (⟨#[c]⟩ : ByteArray).data.toList = [c] from rfl, Lib.count_one, count_words _ _ hx hr, List.length_map]
  · refine map_data_inj ?_
    rw [Lib.splitB_data, e, show (⟨#[c]⟩ : ByteArray).data.toList = [c] from rfl]
    have := split_words _ _ hx hr
    rw [List.length_map] at this
    rw [this, List.map_cons]
/-- what a word is made of -/
def okW (s : ByteArray) : Bool := decide (0 < s.size) && decide (s.size ≤ 30) && s.data.toList.all (fun c => decide (33 ≤ c.toNat)) && decide (s.data.toList ≠ [46])
theorem okW.size {s : ByteArray} (h : okW s = true) : 0 < s.size ∧ s.size ≤ 30 := by simp [okW] at h; omega
theorem okW.no {s : ByteArray} (h : okW s = true) {c : UInt8} (hc : c.toNat < 33) : c ∉ s.data.toList := by
  simp only [okW, Bool.and_eq_true, List.all_eq_true, decide_eq_true_eq] at h
  intro k
  have := h.1.2 c k
  omega
theorem okW.dot {s : ByteArray} (h : okW s = true) : s ≠ ⟨#[46]⟩ := by
  simp only [okW, Bool.and_eq_true, decide_eq_true_eq] at h
  intro e
  subst e
  exact h.2 rfl
theorem ok_s : ∀ k : Fin 2, okW (numT ⟨#[115]⟩ k.val) = true ∧ nameB (numT ⟨#[115]⟩ k.val) = true := by decide +kernel
theorem ok_p : ∀ k : Fin 4, okW (numT ⟨#[112]⟩ k.val) = true ∧ nameB (numT ⟨#[112]⟩ k.val) = true := by decide +kernel
theorem ok_i : ∀ k : Fin 6, okW (numT ⟨#[105]⟩ k.val) = true ∧ nameB (numT ⟨#[105]⟩ k.val) = true := by decide +kernel
theorem ok_m : ∀ k : Fin 3, okW (numT ⟨#[109]⟩ k.val) = true ∧ nameB (numT ⟨#[109]⟩ k.val) = true := by decide +kernel
theorem ok_l : ∀ k : Fin 3, ∀ b0 b1 b2, okW (lstT (numT ⟨#[109]⟩ k.val) b0 b1 b2) = true := by decide +kernel
def kindT (k : Int) : ByteArray := (nameB15[k.toNat]?).getD emp
theorem ok_k : ∀ k : Fin 15, okW (kindT k.val) = true := by decide +kernel
def decT (z : Int) : ByteArray := ⟨(Lib.itoa z).toArray⟩
def dotE (s : ByteArray) : ByteArray := if s.size = 0 then ⟨#[46]⟩ else s
def rawE (e : Ev) : List ByteArray := [e.src, decT e.num, decT e.at_, kindT e.kind, e.per, e.item, decT e.val, e.txt]
def wordsE (e : Ev) : List ByteArray := (rawE e).map dotE
def fmtE (e : Ev) : ByteArray := joinT (wordsE e) ⟨#[32]⟩
theorem itoa_nat (n : Nat) : Lib.itoa (n : Int) = Lib.decDigits n := by
  unfold Lib.itoa
  rw [if_neg (by omega)]; rfl
/-- digits -/
theorem dec_all : ∀ n : Nat, ∀ c ∈ Lib.decDigits n, 48 ≤ c.toNat ∧ c.toNat ≤ 57 := by
  intro n
  induction n using Nat.strongRecOn with
  | _ n ih =>
    intro c hc
    rw [Lib.decDigits] at hc
    split at hc
    · have : c = UInt8.ofNat (48 + n) := by simpa using hc
      subst this
      rw [UInt8.toNat_ofNat']; omega
    · rcases List.mem_append.1 hc with hc | hc
      · exact ih _ (by omega) c hc
      · have : c = UInt8.ofNat (48 + n % 10) := by simpa using hc
        subst this
        rw [UInt8.toNat_ofNat']; omega
def valD (l : List UInt8) : Nat := l.foldl (fun n c => n * 10 + (c.toNat - 48)) 0
theorem valD_snoc (l : List UInt8) (c : UInt8) : valD (l ++ [c]) = valD l * 10 + (c.toNat - 48) := by simp [valD, List.foldl_append]
theorem dec_val : ∀ n : Nat, valD (Lib.decDigits n) = n := by
  intro n
  induction n using Nat.strongRecOn with
  | _ n ih =>
    rw [Lib.decDigits]
    split
    · unfold valD
      simp only [List.foldl_cons, List.foldl_nil, UInt8.toNat_ofNat']
      omega
    · rw [valD_snoc, ih _ (by omega), UInt8.toNat_ofNat']
      omega
theorem dec_len : ∀ k n : Nat, n < 10 ^ (k + 1) → (Lib.decDigits n).length ≤ k + 1
  | 0, n, h => by rw [Lib.decDigits, dif_pos (by simpa using h)]; simp
  | k + 1, n, h => by
    rw [Lib.decDigits]
    split
    · simp
    · have := dec_len k (n / 10) (by rw [Nat.pow_succ] at h; omega)
      simp; omega
theorem dec_ne (n : Nat) : Lib.decDigits n ≠ [] := by
  rw [Lib.decDigits]
  split <;> simp
theorem ok_d {z : Int} (h0 : 0 ≤ z) (h1 : z < 10000) : okW (decT z) = true ∧ (decT z).size ≤ 4 := by
  obtain ⟨n, rfl⟩ : ∃ n : Nat, z = (n : Int) := ⟨z.toNat, by omega⟩
  have h2 := dec_len 3 n (by omega)
  have h3 := dec_all n
  have h4 := dec_ne n
  have h5 : (decT (n : Int)).data.toList = Lib.decDigits n := by unfold decT; rw [itoa_nat]
  have h6 : (decT (n : Int)).size = (Lib.decDigits n).length := by rw [← h5]; rfl
  refine ⟨?_, by omega⟩
  simp only [okW, Bool.and_eq_true, List.all_eq_true, decide_eq_true_eq, h5, h6]
  refine ⟨⟨⟨List.length_pos_iff.2 h4, by omega⟩, fun c hc => by have := h3 c hc; omega⟩, fun e => ?_⟩
  have := h3 46 (by rw [e]; simp)
  simp at this
/-- each word is empty or a good one -/
theorem raw_ok {e : Ev} (h : TaleEv e) : ∀ s ∈ rawE e, s = emp ∨ okW s = true := by
  obtain ⟨k, hk, hs⟩ := h.src
  have hks := (ok_s ⟨k, hk⟩).1
  have hn := (ok_d (z := e.num) (by have := h.num; omega) (by have := h.num; omega)).1
  have ha := (ok_d (z := e.at_) (by have := h.at_; omega) (by have := h.at_; omega)).1
  have P : ∀ {s}, PerT s → okW s = true := fun ⟨k, hk, e⟩ => by rw [e]; exact (ok_p ⟨k, hk⟩).1
  have I : ∀ {s}, ItemT s → okW s = true := fun ⟨k, hk, e⟩ => by rw [e]; exact (ok_i ⟨k, hk⟩).1
  have M : ∀ {s}, MakT s → okW s = true := fun ⟨k, hk, e⟩ => by rw [e]; exact (ok_m ⟨k, hk⟩).1
  have K : ∀ k : Nat, k < 15 → e.kind = (k : Int) → okW (kindT e.kind) = true := fun k hk h => by rw [h]; exact ok_k ⟨k, hk⟩
  have all : (okW (kindT e.kind) = true) ∧ (e.per = emp ∨ okW e.per = true) ∧ (e.item = emp ∨ okW e.item = true) ∧ okW (decT e.val) = true ∧ (e.txt = emp ∨ okW e.txt = true) := by
    cases h.shp with
    | plain hk p i v t =>
      refine ⟨?_, .inr (P p), .inr (I i), (ok_d (by omega) (by omega)).1, .inl t⟩
      exact K e.kind.toNat (by omega) (by omega)
    | rated hk p i v t => exact ⟨K e.kind.toNat (by omega) (by omega), .inr (P p), .inr (I i), (ok_d (by omega) (by omega)).1, .inl t⟩
    | follow hk p i v t => exact ⟨K e.kind.toNat (by omega) (by omega), .inr (P p), .inl i, (ok_d (by omega) (by omega)).1, .inr (M t)⟩
    | listed hk p i v t =>
      obtain ⟨m, b0, b1, b2, ⟨k, hk', e1⟩, e2⟩ := t
      refine ⟨K e.kind.toNat (by omega) (by omega), .inl p, .inr (I i), (ok_d (by omega) (by omega)).1, .inr ?_⟩
      rw [e2, e1]; exact ok_l ⟨k, hk'⟩ b0 b1 b2
    | stocked hk p i v t => exact ⟨K e.kind.toNat (by omega) (by omega), .inl p, .inr (I i), (ok_d (by omega) (by omega)).1, .inl t⟩
    | delisted hk p i v t => exact ⟨K e.kind.toNat (by omega) (by omega), .inl p, .inr (I i), (ok_d (by omega) (by omega)).1, .inl t⟩
  intro s hs'
  simp only [rawE, List.mem_cons, List.not_mem_nil, or_false] at hs'
  rcases hs' with rfl | rfl | rfl | rfl | rfl | rfl | rfl | rfl
  · rw [hs]; exact .inr hks
  · exact .inr hn
  · exact .inr ha
  · exact .inr all.1
  · exact all.2.1
  · exact all.2.2.1
  · exact .inr all.2.2.2.1
  · exact all.2.2.2.2
theorem dot_emp : dotE emp = ⟨#[46]⟩ := by decide
theorem dot_ok {s : ByteArray} (h : okW s = true) : dotE s = s := by
  have := okW.size h
  unfold dotE
  rw [if_neg (show ¬ s.size = 0 by omega)]
theorem dotE_no {s : ByteArray} (h : s = emp ∨ okW s = true) {c : UInt8} (hc : c.toNat < 33) : c ∉ (dotE s).data.toList := by
  rcases h with rfl | h
  · rw [dot_emp]
    intro k
    have : c = 46 := by simpa using k
    subst this; simp at hc
  · rw [dot_ok h]
    exact okW.no h hc
theorem words_no {e : Ev} (h : TaleEv e) {c : UInt8} (hc : c.toNat < 33) : ∀ y ∈ wordsE e, c ∉ y.data.toList := fun y hy => by
  obtain ⟨s, hs, rfl⟩ := List.mem_map.1 hy
  exact dotE_no (raw_ok h s hs) hc
theorem fmt_no10 {e : Ev} (h : TaleEv e) : (10 : UInt8) ∉ (fmtE e).data.toList := by
  have h1 := words_no h (c := 10) (by decide)
  unfold fmtE joinT
  simp only [wordsE, rawE, List.map_cons, List.map_nil, Lib.join_cons, Lib.joinTail, List.flatten_cons, List.flatten_nil] at h1 ⊢
  intro k
  simp only [List.mem_append, List.append_nil, List.mem_flatten, List.mem_cons, List.not_mem_nil, or_false, List.cons_append, List.nil_append] at k
  simp only [List.forall_mem_cons] at h1
  obtain ⟨a0, a1, a2, a3, a4, a5, a6, a7, _⟩ := h1
  have d : ¬ ((10 : UInt8) = 32) := by decide
  simp only [a0, a1, a2, a3, a4, a5, a6, a7, d, or_self] at k
theorem undot {s : ByteArray} (h : s = emp ∨ okW s = true) : (if dotE s = ⟨#[46]⟩ then emp else dotE s) = s := by
  rcases h with rfl | h
  · rw [dot_emp, if_pos rfl]
  · rw [dot_ok h, if_neg (okW.dot h)]
theorem dot_len {s : ByteArray} (h : s = emp ∨ okW s = true) : (dotE s).size ≤ 30 ∧ 1 ≤ (dotE s).size := by
  rcases h with rfl | h
  · rw [dot_emp]; decide
  · rw [dot_ok h]
    have := okW.size h
    omega
theorem fmt_len {e : Ev} (h : TaleEv e) : (fmtE e).size ≤ 300 ∧ 0 < (fmtE e).size := by
  have h1 := raw_ok h
  unfold fmtE joinT
  simp only [wordsE, rawE, List.map_cons, List.map_nil] at h1 ⊢
  simp only [List.forall_mem_cons] at h1
  obtain ⟨a0, a1, a2, a3, a4, a5, a6, a7, _⟩ := h1
  have b0 := dot_len a0
  have b1 := dot_len a1
  have b2 := dot_len a2
  have b3 := dot_len a3
  have b4 := dot_len a4
  have b5 := dot_len a5
  have b6 := dot_len a6
  have b7 := dot_len a7
  have z : ∀ s : ByteArray, s.data.toList.length = s.size := fun s => rfl
  rw [ByteArray.size, List.size_toArray, Lib.join_length]
  simp only [Lib.lens, List.length_cons, List.length_nil, List.map_cons, List.map_nil, List.sum_cons, List.sum_nil, z]
  generalize (dotE e.src).size = y0 at *
  generalize (dotE (decT e.num)).size = y1 at *
  generalize (dotE (decT e.at_)).size = y2 at *
  generalize (dotE (kindT e.kind)).size = y3 at *
  generalize (dotE e.per).size = y4 at *
  generalize (dotE e.item).size = y5 at *
  generalize (dotE (decT e.val)).size = y6 at *
  generalize (dotE e.txt).size = y7 at *
  omega
/-- the text of events, line by line -/
def txtT (L : List Ev) : ByteArray := ⟨((L.map fun e => (fmtE e).data.toList ++ [10]).flatten).toArray⟩
theorem txt_nil : txtT [] = ⟨#[]⟩ := rfl
theorem txt_cons (e : Ev) (L : List Ev) : (txtT (e :: L)).data.toList = (fmtE e).data.toList ++ 10 :: (txtT L).data.toList := by simp [txtT]
theorem txt_cut {e : Ev} (h : TaleEv e) (L : List Ev) : Lib.cut (txtT (e :: L)).data.toList [10] = ((fmtE e).data.toList, (txtT L).data.toList, true) := by
  rw [txt_cons]; exact cut_word _ _ (fmt_no10 h)
theorem txt_len : ∀ (L : List Ev), (∀ e ∈ L, TaleEv e) → (txtT L).size ≤ 301 * L.length
  | [], _ => by decide
  | e :: L, h => by
    have ih := txt_len L (fun x hx => h x (by simp [hx]))
    have h1 := (fmt_len (h e (by simp))).1
    have h2 := congrArg List.length (txt_cons e L)
    simp only [List.length_append, List.length_cons, Array.length_toList] at h2
    simp only [ByteArray.size] at h1 ih ⊢
    rw [h2, List.length_cons]; omega
end Tl
end Go.Proofs.YtkofcegdoilaeaaGreatDoor
namespace Go.Proofs.YtkofcegdoilaeaaGreatDoor
open Go.RowKit Go.MapKept Go.Maps
set_option linter.unusedVariables false
set_option linter.unusedSimpArgs false
namespace Tl
open Es
theorem emptyB (s : ByteArray) : s.toList.isEmpty = decide (s = emp) := by
  rw [Go.ByteArray.toList_eq, Bool.eq_iff_iff, List.isEmpty_iff, decide_eq_true_eq]
  exact ⟨fun h => byte_ext h, fun h => by rw [h]; rfl⟩
theorem cut_any (s sep x r : ByteArray) (w : World) (hG : Glob w) (hs : s.size < 4294967281) (h : Lib.cut s.data.toList sep.data.toList = (x.data.toList, r.data.toList, true)) :
    Calls Tryz.prog 50 #[.string s, .string sep] w fun e w' => e = .returned (.tuple #[.string x, .string r, .bool true]) ∧ Below w.heap.size w w' := by
  obtain ⟨m, hm⟩ := hG.mx
  refine (Tryz.strings_Cut s sep m w hs hm).mono ?_
  rintro e w' ⟨he, n, rfl⟩
  rw [h] at he
  exact ⟨he, bdrewN (Below.refl _ _) n⟩
def restT (b0 b1 b2 : Bool) : ByteArray := if b0 || b1 || b2 then joinT (tagsT b0 b1 b2) ⟨#[44]⟩ else emp
theorem lst_cut : ∀ k : Fin 3, ∀ b0 b1 b2, Lib.cut (lstT (numT ⟨#[109]⟩ k.val) b0 b1 b2).data.toList [59] = ((numT ⟨#[109]⟩ k.val).data.toList, (restT b0 b1 b2).data.toList, true) := by decide +kernel
theorem lst_split : ∀ b0 b1 b2, (b0 || b1 || b2) = true → Lib.countB (restT b0 b1 b2) ⟨#[44]⟩ + 1 = (tagsT b0 b1 b2).length ∧ Lib.splitB ⟨#[44]⟩ 0 (Lib.countB (restT b0 b1 b2) ⟨#[44]⟩) (restT b0 b1 b2) = tagsT b0 b1 b2 ∧ (restT b0 b1 b2).size ≤ 30 ∧ restT b0 b1 b2 ≠ emp := by decide +kernel
theorem tags_ok : ∀ b0 b1 b2, (∀ x ∈ tagsT b0 b1 b2, nameB x = true) ∧ (tagsT b0 b1 b2).length ≤ 3 ∧ ∀ i : Fin 3, ∀ x y, (tagsT b0 b1 b2)[i.val]? = some x → (tagsT b0 b1 b2)[i.val + 1]? = some y → ltB x y := by
  intro b0 b1 b2
  have h : ∀ b0 b1 b2, (tagsT b0 b1 b2).all nameB = true ∧ (tagsT b0 b1 b2).length ≤ 3 := by decide +kernel
  have h2 : ltB (numT ⟨#[116]⟩ 0) (numT ⟨#[116]⟩ 1) ∧ ltB (numT ⟨#[116]⟩ 0) (numT ⟨#[116]⟩ 2) ∧ ltB (numT ⟨#[116]⟩ 1) (numT ⟨#[116]⟩ 2) := by decide +kernel
  refine ⟨fun x hx => List.all_eq_true.1 (h b0 b1 b2).1 x hx, (h b0 b1 b2).2, ?_⟩
  intro i x y hx hy
  obtain ⟨i, hi⟩ := i
  have h3 := h2.1
  have h4 := h2.2.1
  have h5 := h2.2.2
  simp only at hx hy
  rcases (by omega : i = 0 ∨ i = 1 ∨ i = 2) with rfl | rfl | rfl <;> cases b0 <;> cases b1 <;> cases b2 <;> simp [tagsT] at hx hy <;> (try subst hx) <;> (try subst hy) <;> assumption
theorem tags_any (k : Nat) (hk : k < 3) (b0 b1 b2 : Bool) (w : World) (hG : Glob w) :
    Calls Tryz.prog 51 #[.string (lstT (numT ⟨#[109]⟩ k) b0 b1 b2)] w fun e w' => ∃ b n, e = .returned (.slice b n n) ∧ n = (tagsT b0 b1 b2).length ∧ InW w' b 1 ((tagsT b0 b1 b2).map tC) ∧ Below w.heap.size w w' := by
  have HC := Lib.hid (cut_any (lstT (numT ⟨#[109]⟩ k) b0 b1 b2) ⟨#[59]⟩ (numT ⟨#[109]⟩ k) (restT b0 b1 b2) w hG (by have := (okW.size (ok_l ⟨k, hk⟩ b0 b1 b2)).2; simp only at this; omega) (lst_cut ⟨k, hk⟩ b0 b1 b2))
  have HS : Hid ((b0 || b1 || b2) = true → ∀ W, Below w.heap.size w W → Calls Tryz.prog 65 #[.string (restT b0 b1 b2), .string ⟨#[44]⟩] W fun e w' => ∃ b, e = .returned (.slice b (tagsT b0 b1 b2).length (tagsT b0 b1 b2).length) ∧ InW w' b 1 ((tagsT b0 b1 b2).map tC) ∧ Below W.heap.size W w') := Lib.hid (fun hb W hW => by
    obtain ⟨h1, h2, h3, h4⟩ := lst_split b0 b1 b2 hb
    obtain ⟨m, hm⟩ := (hG.bel hW).mx
    refine (Tryz.strings_Split (restT b0 b1 b2) ⟨#[44]⟩ m W (by omega) hm (by decide)).mono ?_
    rintro e w' ⟨he, rfl⟩
    rw [h1] at he
    rw [h2]
    refine ⟨_, he, ?_, (Below.refl _ _).alloc (Nat.le_refl _) _⟩
    have := Bk.new W ((tagsT b0 b1 b2).map Value.string) 9
    refine .inr ⟨_, _, rfl, by simp, fun i c hi j u hj => ?_⟩
    obtain ⟨x, hx, rfl⟩ : ∃ x, (tagsT b0 b1 b2)[i]? = some x ∧ c = tC x := by
      rw [List.getElem?_map] at hi
      obtain ⟨x, h1, h2⟩ := Option.map_eq_some_iff.1 hi
      exact ⟨x, h1, h2.symm⟩
    have hj0 : j = 0 ∧ u = .string x := by
      cases j with
      | zero => exact ⟨rfl, by simpa [tC] using hj.symm⟩
      | succ j => simp [tC] at hj
    obtain ⟨rfl, rfl⟩ := hj0
    have := this.cell i
    simp [hx] at this ⊢)
  have HN : Hid ((b0 || b1 || b2) = true → restT b0 b1 b2 ≠ emp) := Lib.hid (fun h => (lst_split b0 b1 b2 h).2.2.2)
  cases hb : (b0 || b1 || b2) with
  | false =>
    have e1 : restT b0 b1 b2 = ⟨#[]⟩ := by unfold restT; rw [hb]; rfl
    have e2 : tagsT b0 b1 b2 = [] := by cases b0 <;> cases b1 <;> cases b2 <;> first | rfl | (simp at hb)
    rw [e1] at HC
    rw [e2]
    clear hb HS HN e1 e2 hG
    go_enter Tryz.func51, Tryz.ntmps51
    go_wp2_with fail
    refine HC.out.mono ?_
    rintro e w1 ⟨rfl, b1⟩
    have HB := Lib.hid b1
    clear b1 HC
    go_wp2_with fail
    go_ret
    exact ⟨_, _, rfl, rfl, .inl rfl, HB.out⟩
  | true =>
    have HS2 := Lib.hid (HS.out hb)
    have hE : (restT b0 b1 b2).toList.isEmpty = false := by rw [emptyB, decide_eq_false (HN.out hb)]
    generalize restT b0 b1 b2 = r at *
    generalize hT : tagsT b0 b1 b2 = T at *
    clear hb HS HN hT hG
    obtain ⟨n, hn⟩ : ∃ n, T.length = n := ⟨_, rfl⟩
    rw [hn] at HS2
    have HN := Lib.hid hn
    clear hn
    go_enter Tryz.func51, Tryz.ntmps51
    go_wp2_with fail
    refine HC.out.mono ?_
    rintro e w1 ⟨rfl, b1⟩
    have HB := Lib.hid b1
    clear b1 HC
    go_wp2_with fail
    refine (HS2.out w1 HB.out).mono ?_
    rintro e w2 ⟨b2, rfl, hi, b3⟩
    have HI := Lib.hid (And.intro hi (HB.out.trans (b3.mono HB.out.size)))
    clear hi b3 HS2
    go_wp2_with fail
    go_ret
    exact ⟨_, _, rfl, HN.out.symm, HI.out.1, HI.out.2⟩
set_option maxHeartbeats 4000000 in
theorem listing_any (k : Nat) (hk : k < 3) (b0 b1 b2 : Bool) (w : World) (hG : Glob w) :
    Calls Tryz.prog 34 #[.string (lstT (numT ⟨#[109]⟩ k) b0 b1 b2)] w fun e w' => e = .returned (.bool true) ∧ Below w.heap.size w w' := by
  have HC := Lib.hid (cut_any (lstT (numT ⟨#[109]⟩ k) b0 b1 b2) ⟨#[59]⟩ (numT ⟨#[109]⟩ k) (restT b0 b1 b2) w hG (by have := (okW.size (ok_l ⟨k, hk⟩ b0 b1 b2)).2; simp only at this; omega) (lst_cut ⟨k, hk⟩ b0 b1 b2))
  have HT : Hid (∀ W, Below w.heap.size w W → Calls Tryz.prog 51 #[.string (lstT (numT ⟨#[109]⟩ k) b0 b1 b2)] W fun e w' => ∃ b n, e = .returned (.slice b n n) ∧ n = (tagsT b0 b1 b2).length ∧ InW w' b 1 ((tagsT b0 b1 b2).map tC) ∧ Below W.heap.size W w') := Lib.hid (fun W hW => tags_any k hk b0 b1 b2 W (hG.bel hW))
  have HM : Hid (∀ W, Calls Tryz.prog 21 #[.string (numT ⟨#[109]⟩ k)] W fun e w' => e = .returned (.bool true) ∧ W = w') := Lib.hid (fun W => by
    have h := ename_any (numT ⟨#[109]⟩ k) W (by have := (okW.size (ok_m ⟨k, hk⟩).1).2; simp only at this; unfold maxLen; omega)
    rw [(ok_m ⟨k, hk⟩).2] at h
    exact h.mono fun e w' h => ⟨h.1, h.2⟩)
  have HN : Hid (∀ x ∈ tagsT b0 b1 b2, ∀ W, Calls Tryz.prog 21 #[.string x] W fun e w' => e = .returned (.bool true) ∧ W = w') := Lib.hid (fun x hx W => by
    have h1 := (tags_ok b0 b1 b2).1 x hx
    have h := ename_any x W (by have := nameB_size h1; unfold maxLen; omega)
    rw [h1] at h
    exact h)
  have HO := Lib.hid (tags_ok b0 b1 b2).2
  generalize numT ⟨#[109]⟩ k = m at *
  generalize restT b0 b1 b2 = r at *
  generalize lstT m b0 b1 b2 = s at *
  generalize tagsT b0 b1 b2 = T at *
  clear hG
  go_enter Tryz.func34, Tryz.ntmps34
  go_wp2_with fail
  refine HC.out.mono ?_
  rintro e w1 ⟨rfl, b1⟩
  have HB := Lib.hid b1
  clear b1 HC
  go_wp2_with fail
  refine (HM.out _).mono ?_
  rintro e w1' ⟨rfl, rfl⟩
  go_wp2_with fail
  refine (HT.out w1 HB.out).mono ?_
  rintro e w2 ⟨b, n, rfl, hn, hi, b3⟩
  have hn3 : n ≤ 3 := by rw [hn]; exact HO.out.1
  have HI := Lib.hid (And.intro hn (And.intro hi (HB.out.trans (b3.mono HB.out.size))))
  clear hn hi b3 HT HM
  go_wp2_with fail
  go_loopw [29] (fun c wr => ∃ i : Nat, i ≤ n ∧ c = .int .i64 i ∧ w2 = wr) (fun c _ => n - (intOf c).toNat)
  case atStart => exact ⟨0, by omega, rfl, rfl⟩
  case round =>
    obtain ⟨i, him, rfl, rfl⟩ := hrel
    by_cases hlt : i < n
    · obtain ⟨x, hx⟩ : ∃ x, T[i]? = some x := ⟨T[i]'(by have := HI.out.1; omega), List.getElem?_eq_getElem _⟩
      obtain ⟨B, off, rfl, hB, hc⟩ := inw_row HI.out.2.1 hx
      have k0 : w2.cell? ⟨B, off + i, none⟩ = some (.string x) := by
        have := hc w2 (Below.refl _ _) 0 _ rfl
        simpa using this
      have HNX := Lib.hid (HN.out x (List.mem_of_getElem? hx))
      have hi0' : (0 : Int) ≤ (i : Int) := by omega
      have hi1 : (i : Int) < (n : Int) := by omega
      cases i with
      | zero =>
        rw [Nat.add_zero] at k0
        clear hc hx
        go_wp2_with fail
        refine (HNX.out _).mono ?_
        rintro e w3 ⟨rfl, rfl⟩
        go_wp2_with fail
        go_roundw
        case rel => exact ⟨1, by omega, rfl, trivial⟩
        case measure => simp [intOf]; omega
      | succ j =>
        obtain ⟨y, hy⟩ : ∃ y, T[j]? = some y := ⟨T[j]'(by have := HI.out.1; omega), List.getElem?_eq_getElem _⟩
        have k1 : w2.cell? ⟨B, off + j, none⟩ = some (.string y) := by
          obtain ⟨B', off', hBB, _, hc'⟩ := inw_row HI.out.2.1 hy
          cases hBB
          have := hc' w2 (Below.refl _ _) 0 _ rfl
          simpa using this
        have hlt2 : ltB y x := HO.out.2 ⟨j, by omega⟩ y x hy hx
        have hj0 : (0 : Int) ≤ (j : Int) := by omega
        have hj1 : (j : Int) < (n : Int) := by omega
        have hbl : Op.bytesLess y.toList x.toList = true := by rw [bytesLess_lt, decide_eq_true hlt2]
        clear hc hx hy hlt2
        go_wp2_with fail
        refine (HNX.out _).mono ?_
        rintro e w3 ⟨rfl, rfl⟩
        go_wp2_with fail
        go_roundw
        case rel => exact ⟨j + 2, by omega, by go_num, trivial⟩
        case measure => simp [intOf]; omega
    · go_wp2_with fail
      go_ret
      exact ⟨rfl, HI.out.2.2⟩
end Tl
end Go.Proofs.YtkofcegdoilaeaaGreatDoor

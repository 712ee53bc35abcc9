/- Contracts of Merge, each way, and of Add to a table that others have. -/
import Derived.Test.YtnpjihbaebbbcaaQOpen
import Derived.LaidEqlPtr
namespace Go.Proofs.Ytnpjihbaebbbcaa
open Go.RowKit Go.MapKept Go.Maps Go.ChangeShapes Go.WideShapes Go.Shelf Go.Sort
set_option linter.unusedVariables false
set_option linter.unusedSimpArgs false
def mix (C F : CF) (P : ByteArray → ByteArray → Bool) : CF := fun x y => C x y + if P x y = true then F x y else 0
def sumC (C F : CF) : CF := fun x y => C x y + F x y
theorem mix_step {C F : CF} {P P' : ByteArray → ByteArray → Bool} {a b : ByteArray} (h1 : P a b = false) (h2 : P' a b = true) (h3 : ∀ x y, ¬ (x = a ∧ y = b) → P' x y = P x y) : bump (mix C F P) a b (F a b) = mix C F P' := by
  funext x y
  unfold bump mix
  by_cases e : x = a ∧ y = b
  · obtain ⟨rfl, rfl⟩ := e
    rw [if_pos ⟨rfl, rfl⟩, h1, h2]
    simp
  · rw [if_neg e, h3 x y e]
theorem mix_same {C F : CF} {P P' : ByteArray → ByteArray → Bool} (h : ∀ x y, P x y ≠ P' x y → F x y = 0) : mix C F P = mix C F P' := by
  funext x y
  unfold mix
  by_cases e : P x y = P' x y
  · rw [e]
  · have h0 := h x y e
    rw [h0]
    simp
theorem mix_io {C F : CF} (hC : Small C) (hF : Small F) {P : ByteArray → ByteArray → Bool} {a b : ByteArray} (h : P a b = false) : I64 (mix C F P a b + F a b) := by
  unfold mix
  rw [h]
  have := hC a b
  have := hF a b
  unfold I64
  simp
  omega
theorem vI_mem {m : MC} {k : ByteArray} {u : Value} (h : (k, u) ∈ vals vI m) : ∃ x, u = .int .i64 x ∧ (k, x) ∈ m := by
  obtain ⟨x, hx, e⟩ := List.mem_map.1 h
  obtain ⟨rfl, rfl⟩ := Prod.mk.inj e
  exact ⟨x.2, rfl, hx⟩
theorem keys_snoc {α : Type} (l : List (α × Value)) (k : α) (u : Value) : mkeys (l ++ [(k, u)]) = mkeys l ++ [k] := by unfold mkeys; simp
theorem perm_key {l more done m : List (ByteArray × Value)} {k : ByteArray} {u : Value} (hp : l.Perm ((k, u) :: more)) (hd : (done ++ l).Perm m) : ((done ++ [(k, u)]) ++ more).Perm m := by
  refine List.Perm.trans ?_ hd
  rw [List.append_assoc]
  exact List.Perm.append_left done hp.symm
theorem perm_new {l more done m : List (ByteArray × Value)} {k : ByteArray} {u : Value} (hn : (mkeys m).Nodup) (hp : l.Perm ((k, u) :: more)) (hd : (done ++ l).Perm m) : k ∉ mkeys done := by
  have h1 := (perm_key hp hd).map Prod.fst
  have h2 : ((done ++ [(k, u)] ++ more).map Prod.fst).Nodup := h1.nodup_iff.2 hn
  rw [List.map_append, List.map_append, List.nodup_append] at h2
  have h3 := (List.nodup_append.1 h2.1).2.2
  intro hk
  exact h3 k hk k (by simp) rfl
/-- what stands while a table is gone through and another one grows -/
structure MgQ (w wr : World) (tt tf s r : Nat) (B Bf : List Nat) (ms : MC) (mr : MR) (mt : ByteArray → MC) (role : Nat → Option RoleQ) (C : CF) (its : List Nat) : Prop where
  se : ∃ B', TabAt wr tt B' C ∧ Sprd w B B' ∧ ∀ k ∈ its, k ∉ B'
  ot : TabR wr tf s r ms mr mt role Bf
  fr : Fr (fun b => b ∈ B) w wr
  il : ∀ k ∈ its, w.heap.size ≤ k ∧ k < wr.heap.size
  cl : ∀ b ∈ Bf, b < w.heap.size
  ap : Aprt B Bf
section
variable {w wr w' : World} {tt tf s r : Nat} {B Bf : List Nat} {ms : MC} {mr : MR} {mt : ByteArray → MC} {role : Nat → Option RoleQ} {C : CF} {its : List Nat}
theorem MgQ.bel (h : MgQ w wr tt tf s r B Bf ms mr mt role C its) (hb : Below wr.heap.size wr w') : MgQ w w' tt tf s r B Bf ms mr mt role C its := by
  obtain ⟨B', h1, h2, h3⟩ := h.se
  exact ⟨⟨B', h1.bel hb, h2, h3⟩, h.ot.bel hb, h.fr.bel hb, fun k hk => ⟨(h.il k hk).1, Nat.lt_of_lt_of_le (h.il k hk).2 hb.size⟩, h.cl, h.ap⟩
theorem MgQ.push (h : MgQ w wr tt tf s r B Bf ms mr mt role C its) (hb : Below wr.heap.size wr w') (hs : w'.heap.size = wr.heap.size + 1) : MgQ w w' tt tf s r B Bf ms mr mt role C (wr.heap.size :: its) := by
  have h' := h.bel hb
  obtain ⟨B', h1, h2, h3⟩ := h.se
  have hz := h.fr.size
  refine ⟨⟨B', h1.bel hb, h2, fun k hk => ?_⟩, h'.ot, h'.fr, fun k hk => ?_, h.cl, h.ap⟩
  · rcases List.mem_cons.1 hk with rfl | hk
    · intro hc
      have := h1.lt _ hc
      omega
    · exact h3 k hk
  · rcases List.mem_cons.1 hk with rfl | hk
    · exact ⟨hz, by omega⟩
    · exact h'.il k hk
theorem MgQ.pop {k : Nat} (h : MgQ w wr tt tf s r B Bf ms mr mt role C (k :: its)) : MgQ w wr tt tf s r B Bf ms mr mt role C its := by
  obtain ⟨B', h1, h2, h3⟩ := h.se
  exact ⟨⟨B', h1, h2, fun k hk => h3 k (by simp [hk])⟩, h.ot, h.fr, fun k hk => h.il k (by simp [hk]), h.cl, h.ap⟩
theorem MgQ.next (h : MgQ w wr tt tf s r B Bf ms mr mt role C its) {it : Nat} (hk : it ∈ its) (hf : Fr (fun b => b = it) wr w') : MgQ w w' tt tf s r B Bf ms mr mt role C its := by
  obtain ⟨B', h1, h2, h3⟩ := h.se
  have hi := (h.il it hk).1
  exact ⟨⟨B', h1.fr hf (fun b hb e => h3 it hk (e ▸ hb)), h2, h3⟩, h.ot.fr hf (fun b hb e => by have := h.cl b hb; omega), h.fr.trans hf (fun i hlt e => by omega), fun k hk => ⟨(h.il k hk).1, Nat.lt_of_lt_of_le (h.il k hk).2 hf.size⟩, h.cl, h.ap⟩
theorem MgQ.set (h : MgQ w wr tt tf s r B Bf ms mr mt role C its) {C' : CF} {B' B2 : List Nat} (h1 : TabAt wr tt B' C) (h2 : Sprd w B B') (h3 : ∀ k ∈ its, k ∉ B') (h4 : TabAt w' tt B2 C') (h5 : Sprd wr B' B2) (h6 : Fr (fun b => b ∈ B') wr w') :
    MgQ w w' tt tf s r B Bf ms mr mt role C' its ∧ ∃ T : Nat → Prop, Fr T wr w' ∧ (∀ k ∈ its, ¬ T k) ∧ ∀ b ∈ Bf, ¬ T b := by
  have hC : ∀ b ∈ Bf, b ∉ B' := fun b hb hc => by
    rcases h2 b hc with k | k
    · exact h.ap b k hb
    · have := h.cl b hb; omega
  have hz := h.fr.size
  refine ⟨⟨⟨B2, h4, fun b hb => ?_, fun k hk hc => ?_⟩, h.ot.fr h6 hC, h.fr.trans h6 (fun i hlt hi => ?_), fun k hk => ⟨(h.il k hk).1, Nat.lt_of_lt_of_le (h.il k hk).2 h6.size⟩, h.cl, h.ap⟩, _, h6, h3, hC⟩
  · rcases h5 b hb with k | k
    · exact h2 b k
    · exact .inr (by omega)
  · rcases h5 k hc with j | j
    · exact h3 k hk j
    · have := (h.il k hk).2; omega
  · rcases h2 i hi with k | k
    · exact k
    · omega
theorem MgQ.single (h : MgQ w wr tt tf s r B Bf ms mr mt role C its) (a : ByteArray) (n : Int) (ha : a.size ≤ maxLen) (hn : I64 (C a a + n)) :
    Calls Try.prog 34 #[.pointer (some ⟨tt, 0, none⟩), .string a, .int .i64 n] wr fun e w' => e = .returned (.tuple #[]) ∧ MgQ w w' tt tf s r B Bf ms mr mt role (bump C a a n) its ∧ ∃ T : Nat → Prop, Fr T wr w' ∧ (∀ k ∈ its, ¬ T k) ∧ ∀ b ∈ Bf, ¬ T b := by
  obtain ⟨B', h1, h2, h3⟩ := h.se
  refine (single_any h1 a n ha hn).mono ?_
  rintro e w' ⟨rfl, h4, h6⟩
  exact ⟨rfl, h.set h1 h2 h3 h4 (fun b hb => .inl hb) h6⟩
theorem MgQ.pair (h : MgQ w wr tt tf s r B Bf ms mr mt role C its) (a b : ByteArray) (n : Int) (ha : a.size ≤ maxLen) (hb : b.size ≤ maxLen) (hab : b ≠ a) (hn0 : n ≠ 0) (hn : I64 (C a b + n)) :
    Calls Try.prog 35 #[.pointer (some ⟨tt, 0, none⟩), .string a, .string b, .int .i64 n] wr fun e w' => e = .returned (.tuple #[]) ∧ MgQ w w' tt tf s r B Bf ms mr mt role (bump C a b n) its ∧ ∃ T : Nat → Prop, Fr T wr w' ∧ (∀ k ∈ its, ¬ T k) ∧ ∀ b ∈ Bf, ¬ T b := by
  obtain ⟨B', h1, h2, h3⟩ := h.se
  refine (pair_any h1 a b n ha hb hab hn0 hn).mono ?_
  rintro e w' ⟨rfl, ⟨B2, h4, h5⟩, h6⟩
  exact ⟨rfl, h.set h1 h2 h3 h4 h5 h6⟩
end
theorem infoPrs : ∃ j, Try.prog.info? 52 = some j ∧ j.size ≠ 0 := by
  have h : (Try.prog.info? 52).map (fun i => i.size) = some 2 := by kernel_rfl
  obtain ⟨j, hj, e⟩ := Option.map_eq_some_iff.1 h
  exact ⟨j, hj, by rw [e]; decide⟩
theorem infoTab : ∃ j, Try.prog.info? 58 = some j ∧ j.size ≠ 0 := by
  have h : (Try.prog.info? 58).map (fun i => i.size) = some 2 := by kernel_rfl
  obtain ⟨j, hj, e⟩ := Option.map_eq_some_iff.1 h
  exact ⟨j, hj, by rw [e]; decide⟩
theorem TabAt.tbk {w : World} {t : Nat} {B : List Nat} {C : CF} (h : TabAt w t B C) : ∃ s r, Bk w t [.map (some s), .map (some r)] 58 ∧ ∃ ms : MC, (∀ ty, (Builtin.len_ #[55] ty #[.map (some s)]).run Try.prog w = .ok (.int .i64 ms.length) w) ∧ (ms = [] ↔ ∀ x, C x x = 0) := by
  obtain ⟨s, r, ms, mr, mt, role, h1, h2⟩ := h.ex
  refine ⟨s, r, h1.bk, ms, fun ty => ?_, ?_⟩
  · have := h1.sg.len (P := Try.prog) Try.underlying55 ty
    rwa [vals_len] at this
  · constructor
    · intro e x
      have := h2.s0 x
      rw [e] at this
      unfold nz at this
      split at this
      · assumption
      · cases this
    · intro hz
      refine List.eq_nil_iff_forall_not_mem.2 fun p hp => ?_
      have hk : p.1 ∈ mkeys ms := List.mem_map.2 ⟨p, hp, rfl⟩
      obtain ⟨v, hv⟩ := (key_iff ms p.1).1 hk
      rw [h2.s0, hz] at hv
      cases hv
section
variable {w0 w : World} {os : List Ob17} {i j k l p q t tp tq : Nat} {C D : CF} {sh sh2 : Bool}
set_option maxRecDepth 20000 in
set_option maxHeartbeats 1000000 in
theorem q_merge_nil (w : World) (p : Nat) :
    Calls Try.prog 22 #[.pointer (some ⟨p, 0, none⟩), .pointer none] w fun e w' => e = .returned (.tuple #[]) ∧ w' = w := by
  go_enter Try.func22, Try.ntmps22
  go_wp2_with fail
  refine bodyPost_ret (results_none rfl _ _ _) rfl ?_
  exact ⟨rfl, rfl⟩
set_option maxRecDepth 20000 in
set_option maxHeartbeats 8000000 in
/-- Merge of another one's table, to one that holds something and that nobody else has -/
theorem q_merge_full {F : CF} (h : Here K17 w0 w os) (hi : os[i]? = some (.box p [.pointer (some ⟨tp, 0, none⟩), .bool false] 52)) (hj : os[j]? = some (.tab tp C)) (hk : os[k]? = some (.box q [.pointer (some ⟨tq, 0, none⟩), .bool sh2] 52)) (hl : os[l]? = some (.tab tq F)) (hik : k ≠ i) (hjl : l ≠ j) (hC : Small C) (hF : Small F) (hne : ¬ ∀ x, C x x = 0) :
    Calls Try.prog 22 #[.pointer (some ⟨p, 0, none⟩), .pointer (some ⟨q, 0, none⟩)] w fun e w' => e = .returned (.tuple #[]) ∧ Here K17 w0 w' (os.set j (.tab tp (sumC C F))) := by
  have hbp := q_boxAt h hi
  have hbq := q_boxAt h hk
  obtain ⟨Bp, hTp⟩ := q_tabAt h hj
  obtain ⟨Bq, hTq⟩ := q_tabAt h hl
  obtain ⟨s1, r1, hb1, m1, hlen, hemp⟩ := hTp.tbk
  obtain ⟨s2, r2, hb2, m2, _, _⟩ := hTq.tbk
  have hpq : p ≠ q := by
    obtain ⟨B, ⟨_, rfl⟩, _, _, h4⟩ := h.use hi
    obtain ⟨C', ⟨_, rfl⟩, h5⟩ := h4 k _ hik hk
    exact fun c => h5 p (by simp) (by rw [c]; simp)
  have htt : tp ≠ tq := by
    obtain ⟨B, hB, _, _, h4⟩ := h.use hj
    obtain ⟨C', hC', h5⟩ := h4 l _ hjl hl
    obtain ⟨s, r, ms, mr, mt, role, g1, _⟩ := TabAt.ex hB
    obtain ⟨s', r', ms', mr', mt', role', g1', _⟩ := TabAt.ex hC'
    exact fun c => h5 tp (g1.inB _ _ g1.rt) (by rw [c]; exact g1'.inB _ _ g1'.rt)
  have hm1 : ((m1.length : Int) == 0) = false := by
    rw [nil_of_len]
    exact decide_eq_false (fun e => hne (hemp.1 e))
  have c0 : w.cell? ⟨p, 0, none⟩ = some (.pointer (some ⟨tp, 0, none⟩)) := hbp.cell 0
  have c1 : w.cell? ⟨p, 1, none⟩ = some (.bool false) := hbp.cell 1
  have d0 : w.cell? ⟨q, 0, none⟩ = some (.pointer (some ⟨tq, 0, none⟩)) := hbq.cell 0
  have e0 : w.cell? ⟨tp, 0, none⟩ = some (.map (some s1)) := hb1.cell 0
  have HBK := Lib.hid (And.intro hbp (And.intro hbq (And.intro hb1 hb2)))
  have HPQ := Lib.hid hpq
  have HTT := Lib.hid htt
  have HH := Lib.hid h
  have HII := Lib.hid hi
  have HTO := Lib.hid hj
  have HFR := Lib.hid hl
  have HNE := Lib.hid hjl
  have HCS := Lib.hid hC
  have HFS := Lib.hid hF
  obtain ⟨j0, hj0, hj1⟩ := infoPrs
  obtain ⟨j2, hj2, hj3⟩ := infoTab
  have E1 : Hid (∀ n, (binOp BinOp.eql 25 (.pointer (some ⟨p, 0, none⟩)) (.pointer (some ⟨q, 0, none⟩))).run Try.prog (w.drewN n) = .ok (.bool false) (w.drewN n)) := Lib.hid (fun n => run_eql_ptr_other (P := Try.prog) (w.drewN n) (a := ⟨p, 0, none⟩) (b := ⟨q, 0, none⟩) Try.underlying25 hj0 hj1 (fun e => hpq (congrArg Addr.block e)) (hbp.fr ((Fr.refl none' w).drewN n) id) (hbq.fr ((Fr.refl none' w).drewN n) id))
  have E2 : Hid (∀ n, (binOp BinOp.eql 49 (.pointer (some ⟨tp, 0, none⟩)) (.pointer (some ⟨tq, 0, none⟩))).run Try.prog (w.drewN n) = .ok (.bool false) (w.drewN n)) := Lib.hid (fun n => run_eql_ptr_other (P := Try.prog) (w.drewN n) (a := ⟨tp, 0, none⟩) (b := ⟨tq, 0, none⟩) Try.underlying49 hj2 hj3 (fun e => htt (congrArg Addr.block e)) (hb1.fr ((Fr.refl none' w).drewN n) id) (hb2.fr ((Fr.refl none' w).drewN n) id))
  have q1 := E1.out
  have q2 := E2.out
  clear h hi hj hk hl hbp hbq hTp hTq hb1 hb2 hpq htt hC hF hne hjl hemp hj0 hj1 hj2 hj3
  go_enter Try.func22, Try.ntmps22
  go_wp2_with fail
  go_quiet (fail)
  have H := Lib.hid (HH.out.drewN nq)
  have hb9 := q_boxAt H.out HII.out
  have OW := Lib.hid (q_own_no H.out HII.out)
  clear q1 q2 E1 E2 c0 c1 d0 e0 hlen hm1 hb9 HBK
  generalize w.drewN nq = V at *
  go_wp2_with fail
  refine OW.out.mono ?_
  rintro e V ⟨rfl, rfl⟩
  clear OW
  obtain ⟨B, hT, _, hput, hap⟩ := H.out.use HTO.out
  obtain ⟨Bf, hF, hapf⟩ := hap _ _ HNE.out HFR.out
  have hBf := TabAt.lt hF
  obtain ⟨s, r, ms, mr, mt, role, hR, hrel⟩ := TabAt.ex hF
  have HPUT := Lib.hid hput
  have HREL := Lib.hid hrel
  have HNDS : Hid ((mkeys (vals vI ms)).Nodup) := Lib.hid hR.sg.nd
  have HNDR : Hid ((mkeys (vals vMap mr)).Nodup) := Lib.hid hR.mp.nd
  have HM0 : Hid (MgQ V V tp tq s r B Bf ms mr mt role (mix C F (fun x y => decide (x = y) && memB (mkeys ([] : List (ByteArray × Value))) x)) []) := Lib.hid ⟨⟨B, by
    have e : mix C F (fun x y => decide (x = y) && memB (mkeys ([] : List (ByteArray × Value))) x) = C := by
      funext x y
      unfold mix
      have : memB (mkeys ([] : List (ByteArray × Value))) x = false := memB_no (by simp [mkeys])
      show C x y + (if (decide (x = y) && memB (mkeys ([] : List (ByteArray × Value))) x) = true then F x y else 0) = C x y
      rw [this]; simp
    rw [e]; exact hT, fun x hx => .inl hx, by simp⟩, hR, Fr.refl _ _, by simp, hBf, hapf⟩
  have c1 : V.cell? ⟨tq, 0, none⟩ = some (.map (some s)) := hR.bk.cell 0
  have HMS := Lib.hid hR.sg
  clear hT hput hap hF hapf hBf hR hrel
  go_wp2_with (at_range; refine wpList_range rfl _ rfl Try.underlying55 HMS.out rfl ?_; intro w2 rg2 b2 z2)
  go_frame
  have HM1 := Lib.hid (HM0.out.push b2 z2)
  have HP0 : Hid (([] ++ vals vI ms).Perm (vals vI ms)) := Lib.hid (List.Perm.refl _)
  clear b2 z2 HM0 HMS c1
  generalize hit1 : V.heap.size = it1 at *
  clear hit1
  go_loopw [6, 7] (fun _ _ wr => ∃ done left, Rg encS okS wr s it1 (vals vI ms) left ∧ Hid ((done ++ left).Perm (vals vI ms)) ∧ Hid (MgQ V wr tp tq s r B Bf ms mr mt role (mix C F (fun x y => decide (x = y) && memB (mkeys done) x)) [it1])) (fun _ _ wr => wr.rangeLeft s it1)
  case atStart => exact ⟨[], vals vI ms, rg2, HP0, HM1⟩
  case round =>
    obtain ⟨done, left, hrg, HPm, HW⟩ := hrel
    clear rg2 HM1 HP0
    go_wp2_with (at_next; refine wpList_next' Value.string (fun _ => rfl) rfl _ rfl hrg rfl ?_ ?_)
    · intro hl0
      subst hl0
      have hpm := HPm.out
      rw [List.append_nil] at hpm
      have HMD : Hid (MgQ V wr tp tq s r B Bf ms mr mt role (mix C F (fun x y => decide (x = y) || memB (mkeys ([] : List (ByteArray × Value))) x)) []) := Lib.hid (by
        have h := HW.out.pop
        have e : mix C F (fun x y => decide (x = y) && memB (mkeys done) x) = mix C F (fun x y => decide (x = y) || memB (mkeys ([] : List (ByteArray × Value))) x) := mix_same (fun x y hne => by
          have h0 : memB (mkeys ([] : List (ByteArray × Value))) x = false := memB_no (by simp [mkeys])
          rw [h0] at hne
          by_cases exy : x = y
          · subst exy
            simp only [decide_true, Bool.true_and, Bool.true_or, ne_eq, Bool.not_eq_true] at hne
            have hk : x ∉ mkeys ms := fun hx => by
              have hx' : x ∈ mkeys done := by
                have := (hpm.map Prod.fst).mem_iff (a := x)
                have hms : x ∈ (vals vI ms).map Prod.fst := by have := vals_keys vI ms; unfold mkeys at this hx; rw [this]; exact hx
                exact this.2 hms
              rw [(memB_iff _ _).2 hx'] at hne
              cases hne
            have hs0 := HREL.out.s0 x
            cases hg : mget ms x with
            | some v => exact absurd ((key_iff ms x).2 ⟨v, hg⟩) hk
            | none =>
              rw [hg] at hs0
              unfold nz at hs0
              split at hs0
              · assumption
              · cases hs0
          · rw [decide_eq_false exy] at hne
            simp at hne)
        rw [e] at h
        exact h)
      have c2 : wr.cell? ⟨tq, 1, none⟩ = some (.map (some r)) := HMD.out.ot.bk.cell 1
      have HMP := Lib.hid HMD.out.ot.mp
      clear hpm hrg HPm HW
      go_wp2_with (at_range; refine wpList_range rfl _ rfl Try.underlying56 HMP.out rfl ?_; intro w3 rg3 b3 z3)
      go_frame
      have HM3 := Lib.hid (HMD.out.push b3 z3)
      have HP3 : Hid (([] ++ vals vMap mr).Perm (vals vMap mr)) := Lib.hid (List.Perm.refl _)
      clear b3 z3 HMD HMP c2
      generalize hit2 : wr.heap.size = it2 at *
      clear hit2
      go_loopw [8, 9, 10, 11] (fun _ _ _ _ wr => ∃ done left, Rg encS okS wr r it2 (vals vMap mr) left ∧ Hid ((done ++ left).Perm (vals vMap mr)) ∧ Hid (MgQ V wr tp tq s r B Bf ms mr mt role (mix C F (fun x y => decide (x = y) || memB (mkeys done) x)) [it2])) (fun _ _ _ _ wr => wr.rangeLeft r it2)
      case atStart => exact ⟨[], vals vMap mr, rg3, HP3, HM3⟩
      case round =>
        clear rg3 HM3 HP3
        obtain ⟨done, left, hrg, HPm, HW⟩ := hrel
        go_wp2_with (at_next; refine wpList_next' Value.string (fun _ => rfl) rfl _ rfl hrg rfl ?_ ?_)
        · intro hl0
          subst hl0
          have hpm := HPm.out
          rw [List.append_nil] at hpm
          have HE := Lib.hid (by
            have h := HW.out
            have e : mix C F (fun x y => decide (x = y) || memB (mkeys done) x) = sumC C F := by
              rw [mix_same (P' := fun _ _ => true) (fun x y hne => by
                by_cases exy : x = y
                · exact absurd (by simp [exy]) hne
                · rw [decide_eq_false exy, Bool.false_or] at hne
                  have hk : x ∉ mkeys mr := fun hx => by
                    have hx' : x ∈ mkeys done := by
                      have := (hpm.map Prod.fst).mem_iff (a := x)
                      have hms : x ∈ (vals vMap mr).map Prod.fst := by have := vals_keys vMap mr; unfold mkeys at this hx; rw [this]; exact hx
                      exact this.2 hms
                    exact hne ((memB_iff _ _).2 hx')
                  cases hg : mget mr x with
                  | some v => exact absurd ((key_iff mr x).2 ⟨v, hg⟩) hk
                  | none => exact HREL.out.r1 x hg y (fun e => exy e.symm))]
              funext x y
              unfold mix sumC
              simp
            rw [e] at h
            obtain ⟨B', q1, q2, _⟩ := h.se
            exact HPUT.out wr (.tab tp (sumC C F)) B' q1 h.fr q2)
          clear hpm hrg HPm HW
          go_wp2_with fail
          go_end0
          exact ⟨rfl, HE.out⟩
        · intro a u more w4 hp hok hm hrg4 hf4 hz4 hen4
          obtain ⟨bk, rfl, hbk⟩ := vMap_mem hm
          have hW4 := HW.out.next (it := it2) (by simp) hf4
          have hka : mget mr a = some bk := get_of_mem (by have := HNDR.out; rwa [vals_keys] at this) hbk
          have hrow := hW4.ot.rw' a bk hka
          have HPm4 := Lib.hid (perm_key hp HPm.out)
          have HNK := Lib.hid (perm_new HNDR.out hp HPm.out)
          have HML : Hid (wr.rangeLeft r it2 = more.length + 1) := Lib.hid (by rw [hrg.left_eq, hp.length_eq]; rfl)
          have HOK : Hid (a.size ≤ maxLen) := Lib.hid hok
          have HKA := Lib.hid hka
          have HROW := Lib.hid hrow
          have HND : Hid ((mkeys (vals vI (mt a))).Nodup) := Lib.hid hrow.nd
          have HW4 := Lib.hid hW4
          have HRG4 := Lib.hid hrg4
          have HI2 : Hid (it2 < w4.heap.size) := Lib.hid hrg4.lt
          clear hp hok hm hrg4 hf4 hz4 hbk hW4 hka hrow hrg HW HPm
          go_wp2_with (at_range; refine wpList_range rfl _ rfl Try.underlying55 HROW.out rfl ?_; intro w5 rg5 b5 z5)
          go_frame
          have HM5 : Hid (MgQ V w5 tp tq s r B Bf ms mr mt role (mix C F (fun x y => (decide (x = y) || memB (mkeys done) x) || (decide (x = a) && memB (mkeys ([] : List (ByteArray × Value))) y))) [w4.heap.size, it2]) := Lib.hid (by
            have h := HW4.out.push b5 z5
            have e : mix C F (fun x y => decide (x = y) || memB (mkeys done) x) = mix C F (fun x y => (decide (x = y) || memB (mkeys done) x) || (decide (x = a) && memB (mkeys ([] : List (ByteArray × Value))) y)) := mix_same (fun x y hne => by
              have h0 : memB (mkeys ([] : List (ByteArray × Value))) y = false := memB_no (by simp [mkeys])
              rw [h0] at hne
              simp at hne)
            rw [e] at h
            exact h)
          have HRG5 := Lib.hid (HRG4.out.bel b5)
          have HP5 : Hid (([] ++ vals vI (mt a)).Perm (vals vI (mt a))) := Lib.hid (List.Perm.refl _)
          clear b5 z5 HW4 HRG4 HROW
          generalize hit3 : w4.heap.size = it3 at *
          clear hit3
          go_loopw [10, 11] (fun _ _ wr => ∃ done2 left2, Rg encS okS wr bk it3 (vals vI (mt a)) left2 ∧ Hid ((done2 ++ left2).Perm (vals vI (mt a))) ∧ Hid (Rg encS okS wr r it2 (vals vMap mr) more) ∧ Hid (MgQ V wr tp tq s r B Bf ms mr mt role (mix C F (fun x y => (decide (x = y) || memB (mkeys done) x) || (decide (x = a) && memB (mkeys done2) y))) [it3, it2])) (fun _ _ wr => wr.rangeLeft bk it3)
          case atStart => exact ⟨[], vals vI (mt a), rg5, HP5, HRG5, HM5⟩
          case round =>
            clear rg5 HP5 HRG5 HM5
            obtain ⟨done2, left2, hrg, HPm2, HRG, HW⟩ := hrel
            go_wp2_with (at_next; refine wpList_next' Value.string (fun _ => rfl) rfl _ rfl hrg rfl ?_ ?_)
            · intro hl0
              subst hl0
              have hpm := HPm2.out
              rw [List.append_nil] at hpm
              have HW2 : Hid (MgQ V wr tp tq s r B Bf ms mr mt role (mix C F (fun x y => decide (x = y) || memB (mkeys (done ++ [(a, Value.map (some bk))])) x)) [it2]) := Lib.hid (by
                have h := HW.out.pop
                have e : mix C F (fun x y => (decide (x = y) || memB (mkeys done) x) || (decide (x = a) && memB (mkeys done2) y)) = mix C F (fun x y => decide (x = y) || memB (mkeys (done ++ [(a, Value.map (some bk))])) x) := mix_same (fun x y hne => by
                  by_cases exa : x = a
                  · subst exa
                    have h1 : memB (mkeys (done ++ [(x, Value.map (some bk))])) x = true := (memB_iff _ _).2 (by rw [keys_snoc]; simp)
                    rw [h1, Bool.or_true] at hne
                    simp only [decide_true, Bool.true_and, ne_eq, Bool.not_eq_true, Bool.or_eq_false_iff, decide_eq_false_iff_not] at hne
                    have hy : y ∉ mkeys (mt x) := fun hy => by
                      have hx' : y ∈ mkeys done2 := by
                        have := (hpm.map Prod.fst).mem_iff (a := y)
                        have hms : y ∈ (vals vI (mt x)).map Prod.fst := by have := vals_keys vI (mt x); unfold mkeys at this hy; rw [this]; exact hy
                        exact this.2 hms
                      have := hne.2
                      rw [(memB_iff _ _).2 hx'] at this
                      cases this
                    have hr := HREL.out.r0 x bk HKA.out y
                    rw [if_neg (fun e => hne.1.1 e.symm)] at hr
                    cases hg : mget (mt x) y with
                    | some v => exact absurd ((key_iff _ _).2 ⟨v, hg⟩) hy
                    | none =>
                      rw [hg] at hr
                      unfold nz at hr
                      split at hr
                      · assumption
                      · cases hr
                  · exfalso
                    apply hne
                    rw [decide_eq_false exa, Bool.false_and, Bool.or_false]
                    congr 1
                    rw [Bool.eq_iff_iff, memB_iff, memB_iff, keys_snoc]
                    simp [exa])
                rw [e] at h
                exact h)
              have HMES := Lib.hid HRG.out.left_eq
              clear hpm hrg HPm2 HW
              go_wp2_with fail
              exact ⟨⟨_, more, HRG.out, HPm4, HW2⟩, by rw [HMES.out, HML.out]; omega⟩
            · intro b u more2 w6 hp hok hm hrg6 hf6 hz6 hen6
              obtain ⟨v, rfl, hbv⟩ := vI_mem hm
              have hW6 := HW.out.next (it := it3) (by simp) hf6
              have hgb : mget (mt a) b = some v := get_of_mem (by have := HND.out; rwa [vals_keys] at this) hbv
              have hr0 := HREL.out.r0 a bk HKA.out b
              rw [hgb] at hr0
              have hab : b ≠ a := fun e => by rw [if_pos e] at hr0; cases hr0
              rw [if_neg hab] at hr0
              obtain ⟨hFv, hF0⟩ := nz_some hr0.symm
              subst hFv
              have HPm6 := Lib.hid (perm_key hp HPm2.out)
              have hnb := perm_new HND.out hp HPm2.out
              have HML2 : Hid (wr.rangeLeft bk it3 = more2.length + 1) := Lib.hid (by rw [hrg.left_eq, hp.length_eq]; rfl)
              have hi3 := (hW6.il it3 (by simp)).1
              have hrC : r ∈ Bf := hW6.ot.inB _ _ hW6.ot.rr
              have hbC : bk ∈ Bf := hW6.ot.inB _ _ (hW6.ot.rp a bk HKA.out)
              have HIC := Lib.hid (And.intro hrC hbC)
              have hP : (fun x y => (decide (x = y) || memB (mkeys done) x) || (decide (x = a) && memB (mkeys done2) y)) a b = false := by
                have n1 : memB (mkeys done) a = false := memB_no HNK.out
                have n2 : memB (mkeys done2) b = false := memB_no hnb
                simp only [n1, n2, decide_eq_false (fun e => hab (Eq.symm e) : ¬ a = b)]
                rfl
              have CP := Lib.hid (hW6.pair a b (F a b) HOK.out hok hab hF0 (mix_io HCS.out HFS.out hP))
              have HST : Hid (bump (mix C F (fun x y => (decide (x = y) || memB (mkeys done) x) || (decide (x = a) && memB (mkeys done2) y))) a b (F a b) = mix C F (fun x y => (decide (x = y) || memB (mkeys done) x) || (decide (x = a) && memB (mkeys (done2 ++ [(b, Value.int .i64 (F a b))])) y))) := Lib.hid (mix_step hP (by
                have : memB (mkeys (done2 ++ [(b, Value.int .i64 (F a b))])) b = true := (memB_iff _ _).2 (by rw [keys_snoc]; simp)
                simp [this]) (fun x y hne => by
                by_cases exa : x = a
                · subst exa
                  have eyb : y ≠ b := fun e => hne ⟨rfl, e⟩
                  have : memB (mkeys (done2 ++ [(b, Value.int .i64 (F x b))])) y = memB (mkeys done2) y := by
                    rw [Bool.eq_iff_iff, memB_iff, memB_iff, keys_snoc]
                    simp [eyb]
                  simp only [this]
                · simp only [decide_eq_false exa, Bool.false_and]))
              have HR1 := Lib.hid (HRG.out.fr hf6 (fun e => by have := hW6.cl r hrC; omega) (fun e => by have h1 := HI2.out; omega))
              have HR2 := Lib.hid hrg6
              clear hp hok hm hrg6 hf6 hz6 hbv hW6 hgb hr0 hab hF0 hnb hi3 hrC hbC hP hrg HW HPm2 HRG
              go_wp2_with fail
              refine CP.out.mono ?_
              rintro e w8 ⟨rfl, h8, T, f8, t1, t2⟩
              have HR1b := Lib.hid (HR1.out.fr f8 (t2 r HIC.out.1) (t1 it2 (by simp)))
              have HR2b := Lib.hid (HR2.out.fr f8 (t2 bk HIC.out.2) (t1 it3 (by simp)))
              have HW8 := Lib.hid h8
              rw [HST.out] at HW8
              have HMES := Lib.hid HR2b.out.left_eq
              clear h8 f8 t1 t2 CP HR1 HR2 HST
              go_wp2_with fail
              exact ⟨⟨done2 ++ [(b, Value.int .i64 (F a b))], more2, HR2b.out, HPm6, HR1b, HW8⟩, by rw [HMES.out, HML2.out]; omega⟩
    · intro a u more w4 hp hok hm hrg4 hf4 hz4 hen4
      obtain ⟨v, rfl, hbv⟩ := vI_mem hm
      have hW4 := HW.out.next (it := it1) (by simp) hf4
      have hgb : mget ms a = some v := get_of_mem (by have := HNDS.out; rwa [vals_keys] at this) hbv
      have hr0 := HREL.out.s0 a
      rw [hgb] at hr0
      obtain ⟨hFv, hF0⟩ := nz_some hr0.symm
      subst hFv
      have HPm4 := Lib.hid (perm_key hp HPm.out)
      have hnb := perm_new HNDS.out hp HPm.out
      have HML : Hid (wr.rangeLeft s it1 = more.length + 1) := Lib.hid (by rw [hrg.left_eq, hp.length_eq]; rfl)
      have hsC : s ∈ Bf := hW4.ot.inB _ _ hW4.ot.rs
      have HIC := Lib.hid hsC
      have hP : (fun x y => decide (x = y) && memB (mkeys done) x) a a = false := by
        have n2 : memB (mkeys done) a = false := memB_no hnb
        simp [n2]
      have CP := Lib.hid (hW4.single a (F a a) hok (mix_io HCS.out HFS.out hP))
      have HST : Hid (bump (mix C F (fun x y => decide (x = y) && memB (mkeys done) x)) a a (F a a) = mix C F (fun x y => decide (x = y) && memB (mkeys (done ++ [(a, Value.int .i64 (F a a))])) x)) := Lib.hid (mix_step hP (by
        have : memB (mkeys (done ++ [(a, Value.int .i64 (F a a))])) a = true := (memB_iff _ _).2 (by rw [keys_snoc]; simp)
        simp [this]) (fun x y hne => by
        by_cases exy : x = y
        · subst exy
          have exa : x ≠ a := fun e => hne ⟨e, e⟩
          have : memB (mkeys (done ++ [(a, Value.int .i64 (F a a))])) x = memB (mkeys done) x := by
            rw [Bool.eq_iff_iff, memB_iff, memB_iff, keys_snoc]
            simp [exa]
          simp only [this]
        · simp only [decide_eq_false exy, Bool.false_and]))
      have HR2 := Lib.hid hrg4
      clear hp hok hm hrg4 hf4 hz4 hbv hW4 hgb hr0 hF0 hnb hsC hP hrg HW HPm
      go_wp2_with fail
      refine CP.out.mono ?_
      rintro e w8 ⟨rfl, h8, T, f8, t1, t2⟩
      have HR2b := Lib.hid (HR2.out.fr f8 (t2 s HIC.out) (t1 it1 (by simp)))
      have HW8 := Lib.hid h8
      rw [HST.out] at HW8
      have HMES := Lib.hid HR2b.out.left_eq
      clear h8 f8 t1 t2 CP HR2 HST
      go_wp2_with fail
      exact ⟨⟨done ++ [(a, Value.int .i64 (F a a))], more, HR2b.out, HPm4, HW8⟩, by rw [HMES.out, HML.out]; omega⟩
set_option maxRecDepth 20000 in
set_option maxHeartbeats 8000000 in
/-- Merge with itself, of a table that nobody else has -/
theorem q_merge_self_no (h : Here K17 w0 w os) (hi : os[i]? = some (.box p [.pointer (some ⟨t, 0, none⟩), .bool false] 52)) (hj : os[j]? = some (.tab t C)) (hC : Small C) (hne : ¬ ∀ x, C x x = 0) :
    Calls Try.prog 22 #[.pointer (some ⟨p, 0, none⟩), .pointer (some ⟨p, 0, none⟩)] w fun e w' => e = .returned (.tuple #[]) ∧ ∃ os', Here K17 w0 w' os' ∧ PrAt w' p (sumC C C) := by
  have hbp := q_boxAt h hi
  obtain ⟨Bp, hTp⟩ := q_tabAt h hj
  obtain ⟨s1, r1, hb1, m1, hlen, hemp⟩ := hTp.tbk
  have hm1 : ((m1.length : Int) == 0) = false := by
    rw [nil_of_len]
    exact decide_eq_false (fun e => hne (hemp.1 e))
  have c0 : w.cell? ⟨p, 0, none⟩ = some (.pointer (some ⟨t, 0, none⟩)) := hbp.cell 0
  have c1 : w.cell? ⟨p, 1, none⟩ = some (.bool false) := hbp.cell 1
  have e0 : w.cell? ⟨t, 0, none⟩ = some (.map (some s1)) := hb1.cell 0
  have HH := Lib.hid h
  have HII := Lib.hid hi
  have HJJ := Lib.hid hj
  have HCS := Lib.hid hC
  have hij : i ≠ j := fun e => by rw [e, hj] at hi; cases hi
  have HIJ := Lib.hid hij
  have hli := (List.getElem?_eq_some_iff.1 hi).1
  have hlj := (List.getElem?_eq_some_iff.1 hj).1
  have HLI := Lib.hid hli
  have HLJ := Lib.hid hlj
  obtain ⟨j0, hj0, hj1⟩ := infoPrs
  have E1 : Hid (∀ n, (binOp BinOp.eql 25 (.pointer (some ⟨p, 0, none⟩)) (.pointer (some ⟨p, 0, none⟩))).run Try.prog (w.drewN n) = .ok (.bool true) (w.drewN n)) := Lib.hid (fun n => run_eql_ptr_same (P := Try.prog) (w.drewN n) ⟨p, 0, none⟩ Try.underlying25 hj0)
  have q1 := E1.out
  clear h hi hj hbp hTp hb1 hC hne hemp hj0 hj1 hij hli hlj
  go_enter Try.func22, Try.ntmps22
  go_wp2_with fail
  go_quiet (fail)
  have H0 := Lib.hid (HH.out.drewN nq)
  have CP := Lib.hid (q_copy H0.out HJJ.out)
  have hb9 := q_boxAt H0.out HII.out
  have c9 : (w.drewN nq).cell? ⟨p, 0, none⟩ = some (.pointer (some ⟨t, 0, none⟩)) := hb9.cell 0
  clear q1 E1 c0 c1 e0 hlen hm1 hb9
  generalize w.drewN nq = V0 at *
  go_wp2_with fail
  refine CP.out.mono ?_
  rintro e V ⟨t3, rfl, h3⟩
  have H3 := Lib.hid h3
  have hi3 : (os ++ [Ob17.tab t3 C])[i]? = some (.box p [.pointer (some ⟨t, 0, none⟩), .bool false] 52) := by rw [List.getElem?_append_left HLI.out]; exact HII.out
  have hj3 : (os ++ [Ob17.tab t3 C])[j]? = some (.tab t C) := by rw [List.getElem?_append_left HLJ.out]; exact HJJ.out
  have ht3 : (os ++ [Ob17.tab t3 C])[os.length]? = some (.tab t3 C) := by simp
  have OW := Lib.hid (q_own_no H3.out hi3)
  have H := H3
  have HTO := Lib.hid hj3
  have HFR := Lib.hid ht3
  have HBX := Lib.hid hi3
  have HNE : Hid (os.length ≠ j) := Lib.hid (by have := HLJ.out; omega)
  have HLT : Hid (j < (os ++ [Ob17.tab t3 C]).length) := Lib.hid (by simp; have := HLJ.out; omega)
  have HFS := Lib.hid HCS.out
  clear h3 CP c9 hi3 hj3 ht3
  go_wp2_with fail
  refine OW.out.mono ?_
  rintro e V ⟨rfl, rfl⟩
  clear OW H3
  obtain ⟨B, hT, _, hput, hap⟩ := H.out.use HTO.out
  obtain ⟨Bf, hF, hapf⟩ := hap _ _ HNE.out HFR.out
  have hBf := TabAt.lt hF
  obtain ⟨s, r, ms, mr, mt, role, hR, hrel⟩ := TabAt.ex hF
  have HPUT := Lib.hid hput
  have HREL := Lib.hid hrel
  have HNDS : Hid ((mkeys (vals vI ms)).Nodup) := Lib.hid hR.sg.nd
  have HNDR : Hid ((mkeys (vals vMap mr)).Nodup) := Lib.hid hR.mp.nd
  have HM0 : Hid (MgQ V V t t3 s r B Bf ms mr mt role (mix C C (fun x y => decide (x = y) && memB (mkeys ([] : List (ByteArray × Value))) x)) []) := Lib.hid ⟨⟨B, by
    have e : mix C C (fun x y => decide (x = y) && memB (mkeys ([] : List (ByteArray × Value))) x) = C := by
      funext x y
      unfold mix
      have : memB (mkeys ([] : List (ByteArray × Value))) x = false := memB_no (by simp [mkeys])
      show C x y + (if (decide (x = y) && memB (mkeys ([] : List (ByteArray × Value))) x) = true then C x y else 0) = C x y
      rw [this]; simp
    rw [e]; exact hT, fun x hx => .inl hx, by simp⟩, hR, Fr.refl _ _, by simp, hBf, hapf⟩
  have c1 : V.cell? ⟨t3, 0, none⟩ = some (.map (some s)) := hR.bk.cell 0
  have HMS := Lib.hid hR.sg
  clear hT hput hap hF hapf hBf hR hrel
  go_wp2_with (at_range; refine wpList_range rfl _ rfl Try.underlying55 HMS.out rfl ?_; intro w2 rg2 b2 z2)
  go_frame
  have HM1 := Lib.hid (HM0.out.push b2 z2)
  have HP0 : Hid (([] ++ vals vI ms).Perm (vals vI ms)) := Lib.hid (List.Perm.refl _)
  clear b2 z2 HM0 HMS c1
  generalize hit1 : V.heap.size = it1 at *
  clear hit1
  go_loopw [6, 7] (fun _ _ wr => ∃ done left, Rg encS okS wr s it1 (vals vI ms) left ∧ Hid ((done ++ left).Perm (vals vI ms)) ∧ Hid (MgQ V wr t t3 s r B Bf ms mr mt role (mix C C (fun x y => decide (x = y) && memB (mkeys done) x)) [it1])) (fun _ _ wr => wr.rangeLeft s it1)
  case atStart => exact ⟨[], vals vI ms, rg2, HP0, HM1⟩
  case round =>
    obtain ⟨done, left, hrg, HPm, HW⟩ := hrel
    clear rg2 HM1 HP0
    go_wp2_with (at_next; refine wpList_next' Value.string (fun _ => rfl) rfl _ rfl hrg rfl ?_ ?_)
    · intro hl0
      subst hl0
      have hpm := HPm.out
      rw [List.append_nil] at hpm
      have HMD : Hid (MgQ V wr t t3 s r B Bf ms mr mt role (mix C C (fun x y => decide (x = y) || memB (mkeys ([] : List (ByteArray × Value))) x)) []) := Lib.hid (by
        have h := HW.out.pop
        have e : mix C C (fun x y => decide (x = y) && memB (mkeys done) x) = mix C C (fun x y => decide (x = y) || memB (mkeys ([] : List (ByteArray × Value))) x) := mix_same (fun x y hne => by
          have h0 : memB (mkeys ([] : List (ByteArray × Value))) x = false := memB_no (by simp [mkeys])
          rw [h0] at hne
          by_cases exy : x = y
          · subst exy
            simp only [decide_true, Bool.true_and, Bool.true_or, ne_eq, Bool.not_eq_true] at hne
            have hk : x ∉ mkeys ms := fun hx => by
              have hx' : x ∈ mkeys done := by
                have := (hpm.map Prod.fst).mem_iff (a := x)
                have hms : x ∈ (vals vI ms).map Prod.fst := by have := vals_keys vI ms; unfold mkeys at this hx; rw [this]; exact hx
                exact this.2 hms
              rw [(memB_iff _ _).2 hx'] at hne
              cases hne
            have hs0 := HREL.out.s0 x
            cases hg : mget ms x with
            | some v => exact absurd ((key_iff ms x).2 ⟨v, hg⟩) hk
            | none =>
              rw [hg] at hs0
              unfold nz at hs0
              split at hs0
              · assumption
              · cases hs0
          · rw [decide_eq_false exy] at hne
            simp at hne)
        rw [e] at h
        exact h)
      have c2 : wr.cell? ⟨t3, 1, none⟩ = some (.map (some r)) := HMD.out.ot.bk.cell 1
      have HMP := Lib.hid HMD.out.ot.mp
      clear hpm hrg HPm HW
      go_wp2_with (at_range; refine wpList_range rfl _ rfl Try.underlying56 HMP.out rfl ?_; intro w3 rg3 b3 z3)
      go_frame
      have HM3 := Lib.hid (HMD.out.push b3 z3)
      have HP3 : Hid (([] ++ vals vMap mr).Perm (vals vMap mr)) := Lib.hid (List.Perm.refl _)
      clear b3 z3 HMD HMP c2
      generalize hit2 : wr.heap.size = it2 at *
      clear hit2
      go_loopw [8, 9, 10, 11] (fun _ _ _ _ wr => ∃ done left, Rg encS okS wr r it2 (vals vMap mr) left ∧ Hid ((done ++ left).Perm (vals vMap mr)) ∧ Hid (MgQ V wr t t3 s r B Bf ms mr mt role (mix C C (fun x y => decide (x = y) || memB (mkeys done) x)) [it2])) (fun _ _ _ _ wr => wr.rangeLeft r it2)
      case atStart => exact ⟨[], vals vMap mr, rg3, HP3, HM3⟩
      case round =>
        clear rg3 HM3 HP3
        obtain ⟨done, left, hrg, HPm, HW⟩ := hrel
        go_wp2_with (at_next; refine wpList_next' Value.string (fun _ => rfl) rfl _ rfl hrg rfl ?_ ?_)
        · intro hl0
          subst hl0
          have hpm := HPm.out
          rw [List.append_nil] at hpm
          have HE := Lib.hid (by
            have h := HW.out
            have e : mix C C (fun x y => decide (x = y) || memB (mkeys done) x) = sumC C C := by
              rw [mix_same (P' := fun _ _ => true) (fun x y hne => by
                by_cases exy : x = y
                · exact absurd (by simp [exy]) hne
                · rw [decide_eq_false exy, Bool.false_or] at hne
                  have hk : x ∉ mkeys mr := fun hx => by
                    have hx' : x ∈ mkeys done := by
                      have := (hpm.map Prod.fst).mem_iff (a := x)
                      have hms : x ∈ (vals vMap mr).map Prod.fst := by have := vals_keys vMap mr; unfold mkeys at this hx; rw [this]; exact hx
                      exact this.2 hms
                    exact hne ((memB_iff _ _).2 hx')
                  cases hg : mget mr x with
                  | some v => exact absurd ((key_iff mr x).2 ⟨v, hg⟩) hk
                  | none => exact HREL.out.r1 x hg y (fun e => exy e.symm))]
              funext x y
              unfold mix sumC
              simp
            rw [e] at h
            obtain ⟨B', q1, q2, _⟩ := h.se
            exact HPUT.out wr (.tab t (sumC C C)) B' q1 h.fr q2)
          clear hpm hrg HPm HW
          go_wp2_with fail
          go_end0
          refine ⟨rfl, _, HE.out, ?_⟩
          exact pr_here HE.out (i := i) (j := j) (by rw [List.getElem?_set_ne (fun e => HIJ.out e.symm)]; exact HBX.out) (List.getElem?_set_self HLT.out)
        · intro a u more w4 hp hok hm hrg4 hf4 hz4 hen4
          obtain ⟨bk, rfl, hbk⟩ := vMap_mem hm
          have hW4 := HW.out.next (it := it2) (by simp) hf4
          have hka : mget mr a = some bk := get_of_mem (by have := HNDR.out; rwa [vals_keys] at this) hbk
          have hrow := hW4.ot.rw' a bk hka
          have HPm4 := Lib.hid (perm_key hp HPm.out)
          have HNK := Lib.hid (perm_new HNDR.out hp HPm.out)
          have HML : Hid (wr.rangeLeft r it2 = more.length + 1) := Lib.hid (by rw [hrg.left_eq, hp.length_eq]; rfl)
          have HOK : Hid (a.size ≤ maxLen) := Lib.hid hok
          have HKA := Lib.hid hka
          have HROW := Lib.hid hrow
          have HND : Hid ((mkeys (vals vI (mt a))).Nodup) := Lib.hid hrow.nd
          have HW4 := Lib.hid hW4
          have HRG4 := Lib.hid hrg4
          have HI2 : Hid (it2 < w4.heap.size) := Lib.hid hrg4.lt
          clear hp hok hm hrg4 hf4 hz4 hbk hW4 hka hrow hrg HW HPm
          go_wp2_with (at_range; refine wpList_range rfl _ rfl Try.underlying55 HROW.out rfl ?_; intro w5 rg5 b5 z5)
          go_frame
          have HM5 : Hid (MgQ V w5 t t3 s r B Bf ms mr mt role (mix C C (fun x y => (decide (x = y) || memB (mkeys done) x) || (decide (x = a) && memB (mkeys ([] : List (ByteArray × Value))) y))) [w4.heap.size, it2]) := Lib.hid (by
            have h := HW4.out.push b5 z5
            have e : mix C C (fun x y => decide (x = y) || memB (mkeys done) x) = mix C C (fun x y => (decide (x = y) || memB (mkeys done) x) || (decide (x = a) && memB (mkeys ([] : List (ByteArray × Value))) y)) := mix_same (fun x y hne => by
              have h0 : memB (mkeys ([] : List (ByteArray × Value))) y = false := memB_no (by simp [mkeys])
              rw [h0] at hne
              simp at hne)
            rw [e] at h
            exact h)
          have HRG5 := Lib.hid (HRG4.out.bel b5)
          have HP5 : Hid (([] ++ vals vI (mt a)).Perm (vals vI (mt a))) := Lib.hid (List.Perm.refl _)
          clear b5 z5 HW4 HRG4 HROW
          generalize hit3 : w4.heap.size = it3 at *
          clear hit3
          go_loopw [10, 11] (fun _ _ wr => ∃ done2 left2, Rg encS okS wr bk it3 (vals vI (mt a)) left2 ∧ Hid ((done2 ++ left2).Perm (vals vI (mt a))) ∧ Hid (Rg encS okS wr r it2 (vals vMap mr) more) ∧ Hid (MgQ V wr t t3 s r B Bf ms mr mt role (mix C C (fun x y => (decide (x = y) || memB (mkeys done) x) || (decide (x = a) && memB (mkeys done2) y))) [it3, it2])) (fun _ _ wr => wr.rangeLeft bk it3)
          case atStart => exact ⟨[], vals vI (mt a), rg5, HP5, HRG5, HM5⟩
          case round =>
            clear rg5 HP5 HRG5 HM5
            obtain ⟨done2, left2, hrg, HPm2, HRG, HW⟩ := hrel
            go_wp2_with (at_next; refine wpList_next' Value.string (fun _ => rfl) rfl _ rfl hrg rfl ?_ ?_)
            · intro hl0
              subst hl0
              have hpm := HPm2.out
              rw [List.append_nil] at hpm
              have HW2 : Hid (MgQ V wr t t3 s r B Bf ms mr mt role (mix C C (fun x y => decide (x = y) || memB (mkeys (done ++ [(a, Value.map (some bk))])) x)) [it2]) := Lib.hid (by
                have h := HW.out.pop
                have e : mix C C (fun x y => (decide (x = y) || memB (mkeys done) x) || (decide (x = a) && memB (mkeys done2) y)) = mix C C (fun x y => decide (x = y) || memB (mkeys (done ++ [(a, Value.map (some bk))])) x) := mix_same (fun x y hne => by
                  by_cases exa : x = a
                  · subst exa
                    have h1 : memB (mkeys (done ++ [(x, Value.map (some bk))])) x = true := (memB_iff _ _).2 (by rw [keys_snoc]; simp)
                    rw [h1, Bool.or_true] at hne
                    simp only [decide_true, Bool.true_and, ne_eq, Bool.not_eq_true, Bool.or_eq_false_iff, decide_eq_false_iff_not] at hne
                    have hy : y ∉ mkeys (mt x) := fun hy => by
                      have hx' : y ∈ mkeys done2 := by
                        have := (hpm.map Prod.fst).mem_iff (a := y)
                        have hms : y ∈ (vals vI (mt x)).map Prod.fst := by have := vals_keys vI (mt x); unfold mkeys at this hy; rw [this]; exact hy
                        exact this.2 hms
                      have := hne.2
                      rw [(memB_iff _ _).2 hx'] at this
                      cases this
                    have hr := HREL.out.r0 x bk HKA.out y
                    rw [if_neg (fun e => hne.1.1 e.symm)] at hr
                    cases hg : mget (mt x) y with
                    | some v => exact absurd ((key_iff _ _).2 ⟨v, hg⟩) hy
                    | none =>
                      rw [hg] at hr
                      unfold nz at hr
                      split at hr
                      · assumption
                      · cases hr
                  · exfalso
                    apply hne
                    rw [decide_eq_false exa, Bool.false_and, Bool.or_false]
                    congr 1
                    rw [Bool.eq_iff_iff, memB_iff, memB_iff, keys_snoc]
                    simp [exa])
                rw [e] at h
                exact h)
              have HMES := Lib.hid HRG.out.left_eq
              clear hpm hrg HPm2 HW
              go_wp2_with fail
              exact ⟨⟨_, more, HRG.out, HPm4, HW2⟩, by rw [HMES.out, HML.out]; omega⟩
            · intro b u more2 w6 hp hok hm hrg6 hf6 hz6 hen6
              obtain ⟨v, rfl, hbv⟩ := vI_mem hm
              have hW6 := HW.out.next (it := it3) (by simp) hf6
              have hgb : mget (mt a) b = some v := get_of_mem (by have := HND.out; rwa [vals_keys] at this) hbv
              have hr0 := HREL.out.r0 a bk HKA.out b
              rw [hgb] at hr0
              have hab : b ≠ a := fun e => by rw [if_pos e] at hr0; cases hr0
              rw [if_neg hab] at hr0
              obtain ⟨hFv, hF0⟩ := nz_some hr0.symm
              subst hFv
              have HPm6 := Lib.hid (perm_key hp HPm2.out)
              have hnb := perm_new HND.out hp HPm2.out
              have HML2 : Hid (wr.rangeLeft bk it3 = more2.length + 1) := Lib.hid (by rw [hrg.left_eq, hp.length_eq]; rfl)
              have hi3 := (hW6.il it3 (by simp)).1
              have hrC : r ∈ Bf := hW6.ot.inB _ _ hW6.ot.rr
              have hbC : bk ∈ Bf := hW6.ot.inB _ _ (hW6.ot.rp a bk HKA.out)
              have HIC := Lib.hid (And.intro hrC hbC)
              have hP : (fun x y => (decide (x = y) || memB (mkeys done) x) || (decide (x = a) && memB (mkeys done2) y)) a b = false := by
                have n1 : memB (mkeys done) a = false := memB_no HNK.out
                have n2 : memB (mkeys done2) b = false := memB_no hnb
                simp only [n1, n2, decide_eq_false (fun e => hab (Eq.symm e) : ¬ a = b)]
                rfl
              have CP := Lib.hid (hW6.pair a b (C a b) HOK.out hok hab hF0 (mix_io HCS.out HFS.out hP))
              have HST : Hid (bump (mix C C (fun x y => (decide (x = y) || memB (mkeys done) x) || (decide (x = a) && memB (mkeys done2) y))) a b (C a b) = mix C C (fun x y => (decide (x = y) || memB (mkeys done) x) || (decide (x = a) && memB (mkeys (done2 ++ [(b, Value.int .i64 (C a b))])) y))) := Lib.hid (mix_step hP (by
                have : memB (mkeys (done2 ++ [(b, Value.int .i64 (C a b))])) b = true := (memB_iff _ _).2 (by rw [keys_snoc]; simp)
                simp [this]) (fun x y hne => by
                by_cases exa : x = a
                · subst exa
                  have eyb : y ≠ b := fun e => hne ⟨rfl, e⟩
                  have : memB (mkeys (done2 ++ [(b, Value.int .i64 (C x b))])) y = memB (mkeys done2) y := by
                    rw [Bool.eq_iff_iff, memB_iff, memB_iff, keys_snoc]
                    simp [eyb]
                  simp only [this]
                · simp only [decide_eq_false exa, Bool.false_and]))
              have HR1 := Lib.hid (HRG.out.fr hf6 (fun e => by have := hW6.cl r hrC; omega) (fun e => by have h1 := HI2.out; omega))
              have HR2 := Lib.hid hrg6
              clear hp hok hm hrg6 hf6 hz6 hbv hW6 hgb hr0 hab hF0 hnb hi3 hrC hbC hP hrg HW HPm2 HRG
              go_wp2_with fail
              refine CP.out.mono ?_
              rintro e w8 ⟨rfl, h8, T, f8, t1, t2⟩
              have HR1b := Lib.hid (HR1.out.fr f8 (t2 r HIC.out.1) (t1 it2 (by simp)))
              have HR2b := Lib.hid (HR2.out.fr f8 (t2 bk HIC.out.2) (t1 it3 (by simp)))
              have HW8 := Lib.hid h8
              rw [HST.out] at HW8
              have HMES := Lib.hid HR2b.out.left_eq
              clear h8 f8 t1 t2 CP HR1 HR2 HST
              go_wp2_with fail
              exact ⟨⟨done2 ++ [(b, Value.int .i64 (C a b))], more2, HR2b.out, HPm6, HR1b, HW8⟩, by rw [HMES.out, HML2.out]; omega⟩
    · intro a u more w4 hp hok hm hrg4 hf4 hz4 hen4
      obtain ⟨v, rfl, hbv⟩ := vI_mem hm
      have hW4 := HW.out.next (it := it1) (by simp) hf4
      have hgb : mget ms a = some v := get_of_mem (by have := HNDS.out; rwa [vals_keys] at this) hbv
      have hr0 := HREL.out.s0 a
      rw [hgb] at hr0
      obtain ⟨hFv, hF0⟩ := nz_some hr0.symm
      subst hFv
      have HPm4 := Lib.hid (perm_key hp HPm.out)
      have hnb := perm_new HNDS.out hp HPm.out
      have HML : Hid (wr.rangeLeft s it1 = more.length + 1) := Lib.hid (by rw [hrg.left_eq, hp.length_eq]; rfl)
      have hsC : s ∈ Bf := hW4.ot.inB _ _ hW4.ot.rs
      have HIC := Lib.hid hsC
      have hP : (fun x y => decide (x = y) && memB (mkeys done) x) a a = false := by
        have n2 : memB (mkeys done) a = false := memB_no hnb
        simp [n2]
      have CP := Lib.hid (hW4.single a (C a a) hok (mix_io HCS.out HFS.out hP))
      have HST : Hid (bump (mix C C (fun x y => decide (x = y) && memB (mkeys done) x)) a a (C a a) = mix C C (fun x y => decide (x = y) && memB (mkeys (done ++ [(a, Value.int .i64 (C a a))])) x)) := Lib.hid (mix_step hP (by
        have : memB (mkeys (done ++ [(a, Value.int .i64 (C a a))])) a = true := (memB_iff _ _).2 (by rw [keys_snoc]; simp)
        simp [this]) (fun x y hne => by
        by_cases exy : x = y
        · subst exy
          have exa : x ≠ a := fun e => hne ⟨e, e⟩
          have : memB (mkeys (done ++ [(a, Value.int .i64 (C a a))])) x = memB (mkeys done) x := by
            rw [Bool.eq_iff_iff, memB_iff, memB_iff, keys_snoc]
            simp [exa]
          simp only [this]
        · simp only [decide_eq_false exy, Bool.false_and]))
      have HR2 := Lib.hid hrg4
      clear hp hok hm hrg4 hf4 hz4 hbv hW4 hgb hr0 hF0 hnb hsC hP hrg HW HPm
      go_wp2_with fail
      refine CP.out.mono ?_
      rintro e w8 ⟨rfl, h8, T, f8, t1, t2⟩
      have HR2b := Lib.hid (HR2.out.fr f8 (t2 s HIC.out) (t1 it1 (by simp)))
      have HW8 := Lib.hid h8
      rw [HST.out] at HW8
      have HMES := Lib.hid HR2b.out.left_eq
      clear h8 f8 t1 t2 CP HR2 HST
      go_wp2_with fail
      exact ⟨⟨done ++ [(a, Value.int .i64 (C a a))], more, HR2b.out, HPm4, HW8⟩, by rw [HMES.out, HML.out]; omega⟩
set_option maxRecDepth 20000 in
set_option maxHeartbeats 8000000 in
/-- Merge with itself, of a table that others may have -/
theorem q_merge_self_yes (h : Here K17 w0 w os) (hi : os[i]? = some (.box p [.pointer (some ⟨t, 0, none⟩), .bool true] 52)) (hj : os[j]? = some (.tab t C)) (hC : Small C) (hne : ¬ ∀ x, C x x = 0) :
    Calls Try.prog 22 #[.pointer (some ⟨p, 0, none⟩), .pointer (some ⟨p, 0, none⟩)] w fun e w' => e = .returned (.tuple #[]) ∧ ∃ os', Here K17 w0 w' os' ∧ PrAt w' p (sumC C C) := by
  have hbp := q_boxAt h hi
  obtain ⟨Bp, hTp⟩ := q_tabAt h hj
  obtain ⟨s1, r1, hb1, m1, hlen, hemp⟩ := hTp.tbk
  have hm1 : ((m1.length : Int) == 0) = false := by
    rw [nil_of_len]
    exact decide_eq_false (fun e => hne (hemp.1 e))
  have c0 : w.cell? ⟨p, 0, none⟩ = some (.pointer (some ⟨t, 0, none⟩)) := hbp.cell 0
  have c1 : w.cell? ⟨p, 1, none⟩ = some (.bool true) := hbp.cell 1
  have e0 : w.cell? ⟨t, 0, none⟩ = some (.map (some s1)) := hb1.cell 0
  have HH := Lib.hid h
  have HII := Lib.hid hi
  have HJJ := Lib.hid hj
  have HCS := Lib.hid hC
  have hij : i ≠ j := fun e => by rw [e, hj] at hi; cases hi
  have HIJ := Lib.hid hij
  have hli := (List.getElem?_eq_some_iff.1 hi).1
  have hlj := (List.getElem?_eq_some_iff.1 hj).1
  have HLI := Lib.hid hli
  have HLJ := Lib.hid hlj
  obtain ⟨j0, hj0, hj1⟩ := infoPrs
  have E1 : Hid (∀ n, (binOp BinOp.eql 25 (.pointer (some ⟨p, 0, none⟩)) (.pointer (some ⟨p, 0, none⟩))).run Try.prog (w.drewN n) = .ok (.bool true) (w.drewN n)) := Lib.hid (fun n => run_eql_ptr_same (P := Try.prog) (w.drewN n) ⟨p, 0, none⟩ Try.underlying25 hj0)
  have q1 := E1.out
  clear h hi hj hbp hTp hb1 hC hne hemp hj0 hj1 hij hli hlj
  go_enter Try.func22, Try.ntmps22
  go_wp2_with fail
  go_quiet (fail)
  have H0 := Lib.hid (HH.out.drewN nq)
  have CP := Lib.hid (q_copy H0.out HJJ.out)
  have hb9 := q_boxAt H0.out HII.out
  have c9 : (w.drewN nq).cell? ⟨p, 0, none⟩ = some (.pointer (some ⟨t, 0, none⟩)) := hb9.cell 0
  clear q1 E1 c0 c1 e0 hlen hm1 hb9
  generalize w.drewN nq = V0 at *
  go_wp2_with fail
  refine CP.out.mono ?_
  rintro e V ⟨t3, rfl, h3⟩
  have H3 := Lib.hid h3
  have hi3 : (os ++ [Ob17.tab t3 C])[i]? = some (.box p [.pointer (some ⟨t, 0, none⟩), .bool true] 52) := by rw [List.getElem?_append_left HLI.out]; exact HII.out
  have hj3 : (os ++ [Ob17.tab t3 C])[j]? = some (.tab t C) := by rw [List.getElem?_append_left HLJ.out]; exact HJJ.out
  have ht3 : (os ++ [Ob17.tab t3 C])[os.length]? = some (.tab t3 C) := by simp
  have OW := Lib.hid (q_own_yes H3.out hi3 hj3)
  have HT3 := Lib.hid ht3
  clear h3 CP c9 hi3 hj3 ht3 H3
  go_wp2_with fail
  refine OW.out.mono ?_
  rintro e V ⟨t4, rfl, h4⟩
  have H := Lib.hid h4
  have hl2 : (os ++ [Ob17.tab t3 C]).length = os.length + 1 := by simp
  have HTO : Hid (((os ++ [Ob17.tab t3 C]).set i (.box p [.pointer (some ⟨t4, 0, none⟩), .bool false] 52) ++ [Ob17.tab t4 C])[os.length + 1]? = some (.tab t4 C)) := Lib.hid (by
    rw [List.getElem?_append_right (by simp)]; simp)
  have HFR : Hid (((os ++ [Ob17.tab t3 C]).set i (.box p [.pointer (some ⟨t4, 0, none⟩), .bool false] 52) ++ [Ob17.tab t4 C])[os.length]? = some (.tab t3 C)) := Lib.hid (by
    rw [List.getElem?_append_left (by simp), List.getElem?_set_ne (by have := HLI.out; omega)]; exact HT3.out)
  have HBX : Hid (((os ++ [Ob17.tab t3 C]).set i (.box p [.pointer (some ⟨t4, 0, none⟩), .bool false] 52) ++ [Ob17.tab t4 C])[i]? = some (.box p [.pointer (some ⟨t4, 0, none⟩), .bool false] 52)) := Lib.hid (by
    rw [List.getElem?_append_left (by simp; have := HLI.out; omega), List.getElem?_set_self (by simp; have := HLI.out; omega)])
  have HNE : Hid (os.length ≠ os.length + 1) := Lib.hid (by omega)
  have HLT : Hid (os.length + 1 < ((os ++ [Ob17.tab t3 C]).set i (.box p [.pointer (some ⟨t4, 0, none⟩), .bool false] 52) ++ [Ob17.tab t4 C]).length) := Lib.hid (by simp)
  have HNI : Hid (os.length + 1 ≠ i) := Lib.hid (by have := HLI.out; omega)
  have HFS := Lib.hid HCS.out
  clear h4 OW hl2
  obtain ⟨B, hT, _, hput, hap⟩ := H.out.use HTO.out
  obtain ⟨Bf, hF, hapf⟩ := hap _ _ HNE.out HFR.out
  have hBf := TabAt.lt hF
  obtain ⟨s, r, ms, mr, mt, role, hR, hrel⟩ := TabAt.ex hF
  have HPUT := Lib.hid hput
  have HREL := Lib.hid hrel
  have HNDS : Hid ((mkeys (vals vI ms)).Nodup) := Lib.hid hR.sg.nd
  have HNDR : Hid ((mkeys (vals vMap mr)).Nodup) := Lib.hid hR.mp.nd
  have HM0 : Hid (MgQ V V t4 t3 s r B Bf ms mr mt role (mix C C (fun x y => decide (x = y) && memB (mkeys ([] : List (ByteArray × Value))) x)) []) := Lib.hid ⟨⟨B, by
    have e : mix C C (fun x y => decide (x = y) && memB (mkeys ([] : List (ByteArray × Value))) x) = C := by
      funext x y
      unfold mix
      have : memB (mkeys ([] : List (ByteArray × Value))) x = false := memB_no (by simp [mkeys])
      show C x y + (if (decide (x = y) && memB (mkeys ([] : List (ByteArray × Value))) x) = true then C x y else 0) = C x y
      rw [this]; simp
    rw [e]; exact hT, fun x hx => .inl hx, by simp⟩, hR, Fr.refl _ _, by simp, hBf, hapf⟩
  have c1 : V.cell? ⟨t3, 0, none⟩ = some (.map (some s)) := hR.bk.cell 0
  have HMS := Lib.hid hR.sg
  clear hT hput hap hF hapf hBf hR hrel
  go_wp2_with (at_range; refine wpList_range rfl _ rfl Try.underlying55 HMS.out rfl ?_; intro w2 rg2 b2 z2)
  go_frame
  have HM1 := Lib.hid (HM0.out.push b2 z2)
  have HP0 : Hid (([] ++ vals vI ms).Perm (vals vI ms)) := Lib.hid (List.Perm.refl _)
  clear b2 z2 HM0 HMS c1
  generalize hit1 : V.heap.size = it1 at *
  clear hit1
  go_loopw [6, 7] (fun _ _ wr => ∃ done left, Rg encS okS wr s it1 (vals vI ms) left ∧ Hid ((done ++ left).Perm (vals vI ms)) ∧ Hid (MgQ V wr t4 t3 s r B Bf ms mr mt role (mix C C (fun x y => decide (x = y) && memB (mkeys done) x)) [it1])) (fun _ _ wr => wr.rangeLeft s it1)
  case atStart => exact ⟨[], vals vI ms, rg2, HP0, HM1⟩
  case round =>
    obtain ⟨done, left, hrg, HPm, HW⟩ := hrel
    clear rg2 HM1 HP0
    go_wp2_with (at_next; refine wpList_next' Value.string (fun _ => rfl) rfl _ rfl hrg rfl ?_ ?_)
    · intro hl0
      subst hl0
      have hpm := HPm.out
      rw [List.append_nil] at hpm
      have HMD : Hid (MgQ V wr t4 t3 s r B Bf ms mr mt role (mix C C (fun x y => decide (x = y) || memB (mkeys ([] : List (ByteArray × Value))) x)) []) := Lib.hid (by
        have h := HW.out.pop
        have e : mix C C (fun x y => decide (x = y) && memB (mkeys done) x) = mix C C (fun x y => decide (x = y) || memB (mkeys ([] : List (ByteArray × Value))) x) := mix_same (fun x y hne => by
          have h0 : memB (mkeys ([] : List (ByteArray × Value))) x = false := memB_no (by simp [mkeys])
          rw [h0] at hne
          by_cases exy : x = y
          · subst exy
            simp only [decide_true, Bool.true_and, Bool.true_or, ne_eq, Bool.not_eq_true] at hne
            have hk : x ∉ mkeys ms := fun hx => by
              have hx' : x ∈ mkeys done := by
                have := (hpm.map Prod.fst).mem_iff (a := x)
                have hms : x ∈ (vals vI ms).map Prod.fst := by have := vals_keys vI ms; unfold mkeys at this hx; rw [this]; exact hx
                exact this.2 hms
              rw [(memB_iff _ _).2 hx'] at hne
              cases hne
            have hs0 := HREL.out.s0 x
            cases hg : mget ms x with
            | some v => exact absurd ((key_iff ms x).2 ⟨v, hg⟩) hk
            | none =>
              rw [hg] at hs0
              unfold nz at hs0
              split at hs0
              · assumption
              · cases hs0
          · rw [decide_eq_false exy] at hne
            simp at hne)
        rw [e] at h
        exact h)
      have c2 : wr.cell? ⟨t3, 1, none⟩ = some (.map (some r)) := HMD.out.ot.bk.cell 1
      have HMP := Lib.hid HMD.out.ot.mp
      clear hpm hrg HPm HW
      go_wp2_with (at_range; refine wpList_range rfl _ rfl Try.underlying56 HMP.out rfl ?_; intro w3 rg3 b3 z3)
      go_frame
      have HM3 := Lib.hid (HMD.out.push b3 z3)
      have HP3 : Hid (([] ++ vals vMap mr).Perm (vals vMap mr)) := Lib.hid (List.Perm.refl _)
      clear b3 z3 HMD HMP c2
      generalize hit2 : wr.heap.size = it2 at *
      clear hit2
      go_loopw [8, 9, 10, 11] (fun _ _ _ _ wr => ∃ done left, Rg encS okS wr r it2 (vals vMap mr) left ∧ Hid ((done ++ left).Perm (vals vMap mr)) ∧ Hid (MgQ V wr t4 t3 s r B Bf ms mr mt role (mix C C (fun x y => decide (x = y) || memB (mkeys done) x)) [it2])) (fun _ _ _ _ wr => wr.rangeLeft r it2)
      case atStart => exact ⟨[], vals vMap mr, rg3, HP3, HM3⟩
      case round =>
        clear rg3 HM3 HP3
        obtain ⟨done, left, hrg, HPm, HW⟩ := hrel
        go_wp2_with (at_next; refine wpList_next' Value.string (fun _ => rfl) rfl _ rfl hrg rfl ?_ ?_)
        · intro hl0
          subst hl0
          have hpm := HPm.out
          rw [List.append_nil] at hpm
          have HE := Lib.hid (by
            have h := HW.out
            have e : mix C C (fun x y => decide (x = y) || memB (mkeys done) x) = sumC C C := by
              rw [mix_same (P' := fun _ _ => true) (fun x y hne => by
                by_cases exy : x = y
                · exact absurd (by simp [exy]) hne
                · rw [decide_eq_false exy, Bool.false_or] at hne
                  have hk : x ∉ mkeys mr := fun hx => by
                    have hx' : x ∈ mkeys done := by
                      have := (hpm.map Prod.fst).mem_iff (a := x)
                      have hms : x ∈ (vals vMap mr).map Prod.fst := by have := vals_keys vMap mr; unfold mkeys at this hx; rw [this]; exact hx
                      exact this.2 hms
                    exact hne ((memB_iff _ _).2 hx')
                  cases hg : mget mr x with
                  | some v => exact absurd ((key_iff mr x).2 ⟨v, hg⟩) hk
                  | none => exact HREL.out.r1 x hg y (fun e => exy e.symm))]
              funext x y
              unfold mix sumC
              simp
            rw [e] at h
            obtain ⟨B', q1, q2, _⟩ := h.se
            exact HPUT.out wr (.tab t4 (sumC C C)) B' q1 h.fr q2)
          clear hpm hrg HPm HW
          go_wp2_with fail
          go_end0
          refine ⟨rfl, _, HE.out, ?_⟩
          exact pr_here HE.out (i := i) (j := os.length + 1) (by rw [List.getElem?_set_ne HNI.out]; exact HBX.out) (List.getElem?_set_self HLT.out)
        · intro a u more w4 hp hok hm hrg4 hf4 hz4 hen4
          obtain ⟨bk, rfl, hbk⟩ := vMap_mem hm
          have hW4 := HW.out.next (it := it2) (by simp) hf4
          have hka : mget mr a = some bk := get_of_mem (by have := HNDR.out; rwa [vals_keys] at this) hbk
          have hrow := hW4.ot.rw' a bk hka
          have HPm4 := Lib.hid (perm_key hp HPm.out)
          have HNK := Lib.hid (perm_new HNDR.out hp HPm.out)
          have HML : Hid (wr.rangeLeft r it2 = more.length + 1) := Lib.hid (by rw [hrg.left_eq, hp.length_eq]; rfl)
          have HOK : Hid (a.size ≤ maxLen) := Lib.hid hok
          have HKA := Lib.hid hka
          have HROW := Lib.hid hrow
          have HND : Hid ((mkeys (vals vI (mt a))).Nodup) := Lib.hid hrow.nd
          have HW4 := Lib.hid hW4
          have HRG4 := Lib.hid hrg4
          have HI2 : Hid (it2 < w4.heap.size) := Lib.hid hrg4.lt
          clear hp hok hm hrg4 hf4 hz4 hbk hW4 hka hrow hrg HW HPm
          go_wp2_with (at_range; refine wpList_range rfl _ rfl Try.underlying55 HROW.out rfl ?_; intro w5 rg5 b5 z5)
          go_frame
          have HM5 : Hid (MgQ V w5 t4 t3 s r B Bf ms mr mt role (mix C C (fun x y => (decide (x = y) || memB (mkeys done) x) || (decide (x = a) && memB (mkeys ([] : List (ByteArray × Value))) y))) [w4.heap.size, it2]) := Lib.hid (by
            have h := HW4.out.push b5 z5
            have e : mix C C (fun x y => decide (x = y) || memB (mkeys done) x) = mix C C (fun x y => (decide (x = y) || memB (mkeys done) x) || (decide (x = a) && memB (mkeys ([] : List (ByteArray × Value))) y)) := mix_same (fun x y hne => by
              have h0 : memB (mkeys ([] : List (ByteArray × Value))) y = false := memB_no (by simp [mkeys])
              rw [h0] at hne
              simp at hne)
            rw [e] at h
            exact h)
          have HRG5 := Lib.hid (HRG4.out.bel b5)
          have HP5 : Hid (([] ++ vals vI (mt a)).Perm (vals vI (mt a))) := Lib.hid (List.Perm.refl _)
          clear b5 z5 HW4 HRG4 HROW
          generalize hit3 : w4.heap.size = it3 at *
          clear hit3
          go_loopw [10, 11] (fun _ _ wr => ∃ done2 left2, Rg encS okS wr bk it3 (vals vI (mt a)) left2 ∧ Hid ((done2 ++ left2).Perm (vals vI (mt a))) ∧ Hid (Rg encS okS wr r it2 (vals vMap mr) more) ∧ Hid (MgQ V wr t4 t3 s r B Bf ms mr mt role (mix C C (fun x y => (decide (x = y) || memB (mkeys done) x) || (decide (x = a) && memB (mkeys done2) y))) [it3, it2])) (fun _ _ wr => wr.rangeLeft bk it3)
          case atStart => exact ⟨[], vals vI (mt a), rg5, HP5, HRG5, HM5⟩
          case round =>
            clear rg5 HP5 HRG5 HM5
            obtain ⟨done2, left2, hrg, HPm2, HRG, HW⟩ := hrel
            go_wp2_with (at_next; refine wpList_next' Value.string (fun _ => rfl) rfl _ rfl hrg rfl ?_ ?_)
            · intro hl0
              subst hl0
              have hpm := HPm2.out
              rw [List.append_nil] at hpm
              have HW2 : Hid (MgQ V wr t4 t3 s r B Bf ms mr mt role (mix C C (fun x y => decide (x = y) || memB (mkeys (done ++ [(a, Value.map (some bk))])) x)) [it2]) := Lib.hid (by
                have h := HW.out.pop
                have e : mix C C (fun x y => (decide (x = y) || memB (mkeys done) x) || (decide (x = a) && memB (mkeys done2) y)) = mix C C (fun x y => decide (x = y) || memB (mkeys (done ++ [(a, Value.map (some bk))])) x) := mix_same (fun x y hne => by
                  by_cases exa : x = a
                  · subst exa
                    have h1 : memB (mkeys (done ++ [(x, Value.map (some bk))])) x = true := (memB_iff _ _).2 (by rw [keys_snoc]; simp)
                    rw [h1, Bool.or_true] at hne
                    simp only [decide_true, Bool.true_and, ne_eq, Bool.not_eq_true, Bool.or_eq_false_iff, decide_eq_false_iff_not] at hne
                    have hy : y ∉ mkeys (mt x) := fun hy => by
                      have hx' : y ∈ mkeys done2 := by
                        have := (hpm.map Prod.fst).mem_iff (a := y)
                        have hms : y ∈ (vals vI (mt x)).map Prod.fst := by have := vals_keys vI (mt x); unfold mkeys at this hy; rw [this]; exact hy
                        exact this.2 hms
                      have := hne.2
                      rw [(memB_iff _ _).2 hx'] at this
                      cases this
                    have hr := HREL.out.r0 x bk HKA.out y
                    rw [if_neg (fun e => hne.1.1 e.symm)] at hr
                    cases hg : mget (mt x) y with
                    | some v => exact absurd ((key_iff _ _).2 ⟨v, hg⟩) hy
                    | none =>
                      rw [hg] at hr
                      unfold nz at hr
                      split at hr
                      · assumption
                      · cases hr
                  · exfalso
                    apply hne
                    rw [decide_eq_false exa, Bool.false_and, Bool.or_false]
                    congr 1
                    rw [Bool.eq_iff_iff, memB_iff, memB_iff, keys_snoc]
                    simp [exa])
                rw [e] at h
                exact h)
              have HMES := Lib.hid HRG.out.left_eq
              clear hpm hrg HPm2 HW
              go_wp2_with fail
              exact ⟨⟨_, more, HRG.out, HPm4, HW2⟩, by rw [HMES.out, HML.out]; omega⟩
            · intro b u more2 w6 hp hok hm hrg6 hf6 hz6 hen6
              obtain ⟨v, rfl, hbv⟩ := vI_mem hm
              have hW6 := HW.out.next (it := it3) (by simp) hf6
              have hgb : mget (mt a) b = some v := get_of_mem (by have := HND.out; rwa [vals_keys] at this) hbv
              have hr0 := HREL.out.r0 a bk HKA.out b
              rw [hgb] at hr0
              have hab : b ≠ a := fun e => by rw [if_pos e] at hr0; cases hr0
              rw [if_neg hab] at hr0
              obtain ⟨hFv, hF0⟩ := nz_some hr0.symm
              subst hFv
              have HPm6 := Lib.hid (perm_key hp HPm2.out)
              have hnb := perm_new HND.out hp HPm2.out
              have HML2 : Hid (wr.rangeLeft bk it3 = more2.length + 1) := Lib.hid (by rw [hrg.left_eq, hp.length_eq]; rfl)
              have hi3 := (hW6.il it3 (by simp)).1
              have hrC : r ∈ Bf := hW6.ot.inB _ _ hW6.ot.rr
              have hbC : bk ∈ Bf := hW6.ot.inB _ _ (hW6.ot.rp a bk HKA.out)
              have HIC := Lib.hid (And.intro hrC hbC)
              have hP : (fun x y => (decide (x = y) || memB (mkeys done) x) || (decide (x = a) && memB (mkeys done2) y)) a b = false := by
                have n1 : memB (mkeys done) a = false := memB_no HNK.out
                have n2 : memB (mkeys done2) b = false := memB_no hnb
                simp only [n1, n2, decide_eq_false (fun e => hab (Eq.symm e) : ¬ a = b)]
                rfl
              have CP := Lib.hid (hW6.pair a b (C a b) HOK.out hok hab hF0 (mix_io HCS.out HFS.out hP))
              have HST : Hid (bump (mix C C (fun x y => (decide (x = y) || memB (mkeys done) x) || (decide (x = a) && memB (mkeys done2) y))) a b (C a b) = mix C C (fun x y => (decide (x = y) || memB (mkeys done) x) || (decide (x = a) && memB (mkeys (done2 ++ [(b, Value.int .i64 (C a b))])) y))) := Lib.hid (mix_step hP (by
                have : memB (mkeys (done2 ++ [(b, Value.int .i64 (C a b))])) b = true := (memB_iff _ _).2 (by rw [keys_snoc]; simp)
                simp [this]) (fun x y hne => by
                by_cases exa : x = a
                · subst exa
                  have eyb : y ≠ b := fun e => hne ⟨rfl, e⟩
                  have : memB (mkeys (done2 ++ [(b, Value.int .i64 (C x b))])) y = memB (mkeys done2) y := by
                    rw [Bool.eq_iff_iff, memB_iff, memB_iff, keys_snoc]
                    simp [eyb]
                  simp only [this]
                · simp only [decide_eq_false exa, Bool.false_and]))
              have HR1 := Lib.hid (HRG.out.fr hf6 (fun e => by have := hW6.cl r hrC; omega) (fun e => by have h1 := HI2.out; omega))
              have HR2 := Lib.hid hrg6
              clear hp hok hm hrg6 hf6 hz6 hbv hW6 hgb hr0 hab hF0 hnb hi3 hrC hbC hP hrg HW HPm2 HRG
              go_wp2_with fail
              refine CP.out.mono ?_
              rintro e w8 ⟨rfl, h8, T, f8, t1, t2⟩
              have HR1b := Lib.hid (HR1.out.fr f8 (t2 r HIC.out.1) (t1 it2 (by simp)))
              have HR2b := Lib.hid (HR2.out.fr f8 (t2 bk HIC.out.2) (t1 it3 (by simp)))
              have HW8 := Lib.hid h8
              rw [HST.out] at HW8
              have HMES := Lib.hid HR2b.out.left_eq
              clear h8 f8 t1 t2 CP HR1 HR2 HST
              go_wp2_with fail
              exact ⟨⟨done2 ++ [(b, Value.int .i64 (C a b))], more2, HR2b.out, HPm6, HR1b, HW8⟩, by rw [HMES.out, HML2.out]; omega⟩
    · intro a u more w4 hp hok hm hrg4 hf4 hz4 hen4
      obtain ⟨v, rfl, hbv⟩ := vI_mem hm
      have hW4 := HW.out.next (it := it1) (by simp) hf4
      have hgb : mget ms a = some v := get_of_mem (by have := HNDS.out; rwa [vals_keys] at this) hbv
      have hr0 := HREL.out.s0 a
      rw [hgb] at hr0
      obtain ⟨hFv, hF0⟩ := nz_some hr0.symm
      subst hFv
      have HPm4 := Lib.hid (perm_key hp HPm.out)
      have hnb := perm_new HNDS.out hp HPm.out
      have HML : Hid (wr.rangeLeft s it1 = more.length + 1) := Lib.hid (by rw [hrg.left_eq, hp.length_eq]; rfl)
      have hsC : s ∈ Bf := hW4.ot.inB _ _ hW4.ot.rs
      have HIC := Lib.hid hsC
      have hP : (fun x y => decide (x = y) && memB (mkeys done) x) a a = false := by
        have n2 : memB (mkeys done) a = false := memB_no hnb
        simp [n2]
      have CP := Lib.hid (hW4.single a (C a a) hok (mix_io HCS.out HFS.out hP))
      have HST : Hid (bump (mix C C (fun x y => decide (x = y) && memB (mkeys done) x)) a a (C a a) = mix C C (fun x y => decide (x = y) && memB (mkeys (done ++ [(a, Value.int .i64 (C a a))])) x)) := Lib.hid (mix_step hP (by
        have : memB (mkeys (done ++ [(a, Value.int .i64 (C a a))])) a = true := (memB_iff _ _).2 (by rw [keys_snoc]; simp)
        simp [this]) (fun x y hne => by
        by_cases exy : x = y
        · subst exy
          have exa : x ≠ a := fun e => hne ⟨e, e⟩
          have : memB (mkeys (done ++ [(a, Value.int .i64 (C a a))])) x = memB (mkeys done) x := by
            rw [Bool.eq_iff_iff, memB_iff, memB_iff, keys_snoc]
            simp [exa]
          simp only [this]
        · simp only [decide_eq_false exy, Bool.false_and]))
      have HR2 := Lib.hid hrg4
      clear hp hok hm hrg4 hf4 hz4 hbv hW4 hgb hr0 hF0 hnb hsC hP hrg HW HPm
      go_wp2_with fail
      refine CP.out.mono ?_
      rintro e w8 ⟨rfl, h8, T, f8, t1, t2⟩
      have HR2b := Lib.hid (HR2.out.fr f8 (t2 s HIC.out) (t1 it1 (by simp)))
      have HW8 := Lib.hid h8
      rw [HST.out] at HW8
      have HMES := Lib.hid HR2b.out.left_eq
      clear h8 f8 t1 t2 CP HR2 HST
      go_wp2_with fail
      exact ⟨⟨done ++ [(a, Value.int .i64 (C a a))], more, HR2b.out, HPm4, HW8⟩, by rw [HMES.out, HML.out]; omega⟩
set_option maxRecDepth 20000 in
set_option maxHeartbeats 4000000 in
/-- Merge with itself, of nothing -/
theorem q_merge_empty_self (h : Here K17 w0 w os) (hi : os[i]? = some (.box p [.pointer (some ⟨t, 0, none⟩), .bool sh] 52)) (hj : os[j]? = some (.tab t C)) (hz : ∀ x, C x x = 0) :
    Calls Try.prog 22 #[.pointer (some ⟨p, 0, none⟩), .pointer (some ⟨p, 0, none⟩)] w fun e w' => e = .returned (.tuple #[]) ∧ Here K17 w0 w' (os.set i (.box p [.pointer (some ⟨t, 0, none⟩), .bool true] 52)) := by
  have hbp := q_boxAt h hi
  obtain ⟨Bp, hTp⟩ := q_tabAt h hj
  obtain ⟨s1, r1, hb1, m1, hlen, hemp⟩ := hTp.tbk
  have hm1 : ((m1.length : Int) == 0) = true := by
    rw [nil_of_len]
    exact decide_eq_true (hemp.2 hz)
  have c0 : w.cell? ⟨p, 0, none⟩ = some (.pointer (some ⟨t, 0, none⟩)) := hbp.cell 0
  have c1 : w.cell? ⟨p, 1, none⟩ = some (.bool sh) := hbp.cell 1
  have e0 : w.cell? ⟨t, 0, none⟩ = some (.map (some s1)) := hb1.cell 0
  have hli := (List.getElem?_eq_some_iff.1 hi).1
  have z0 := hbp.free 0
  have z1 := hbp.free 1
  have h3 := q_set h hi 0 (.pointer (some ⟨t, 0, none⟩))
  have hi3 : (os.set i (.box p [.pointer (some ⟨t, 0, none⟩), .bool sh] 52))[i]? = some (.box p [.pointer (some ⟨t, 0, none⟩), .bool sh] 52) := List.getElem?_set_self hli
  have hb3 := q_boxAt h3 hi3
  have d3 : (w.setCell ⟨p, 0, none⟩ (.pointer (some ⟨t, 0, none⟩))).cell? ⟨p, 1, none⟩ = some (.bool sh) := hb3.cell 1
  have z3 := hb3.free 1
  have h4 := q_set h3 hi3 1 (.bool true)
  have hi4 : ((os.set i (.box p [.pointer (some ⟨t, 0, none⟩), .bool sh] 52)).set i (.box p [.pointer (some ⟨t, 0, none⟩), .bool true] 52))[i]? = some (.box p [.pointer (some ⟨t, 0, none⟩), .bool true] 52) := List.getElem?_set_self (by rw [List.length_set]; exact hli)
  have hb4 := q_boxAt h4 hi4
  have d4 : ((w.setCell ⟨p, 0, none⟩ (.pointer (some ⟨t, 0, none⟩))).setCell ⟨p, 1, none⟩ (.bool true)).cell? ⟨p, 1, none⟩ = some (.bool true) := hb4.cell 1
  have z4 := hb4.free 1
  have h5 := q_set h4 hi4 1 (.bool true)
  have HH : Hid (Here K17 w0 (((w.setCell ⟨p, 0, none⟩ (.pointer (some ⟨t, 0, none⟩))).setCell ⟨p, 1, none⟩ (.bool true)).setCell ⟨p, 1, none⟩ (.bool true)) (os.set i (.box p [.pointer (some ⟨t, 0, none⟩), .bool true] 52))) := Lib.hid (by
    have := h5
    rw [List.set_set, List.set_set] at this
    exact this)
  clear h hi hj hbp hTp hb1 hemp h3 h4 h5 hb3 hb4 hi3 hi4 hli hz
  go_enter Try.func22, Try.ntmps22
  go_wp2_with fail
  refine bodyPost_ret (results_none rfl _ _ _) rfl ?_
  exact ⟨rfl, HH.out⟩
set_option maxRecDepth 20000 in
set_option maxHeartbeats 4000000 in
/-- Merge, of nothing with another one: both have the same table -/
theorem q_merge_empty (h : Here K17 w0 w os) (hi : os[i]? = some (.box p [.pointer (some ⟨t, 0, none⟩), .bool sh] 52)) (hj : os[j]? = some (.tab t C)) (hk : os[k]? = some (.box q [.pointer (some ⟨tq, 0, none⟩), .bool sh2] 52)) (hik : k ≠ i) (hz : ∀ x, C x x = 0) :
    Calls Try.prog 22 #[.pointer (some ⟨p, 0, none⟩), .pointer (some ⟨q, 0, none⟩)] w fun e w' => e = .returned (.tuple #[]) ∧ Here K17 w0 w' ((os.set i (.box p [.pointer (some ⟨tq, 0, none⟩), .bool true] 52)).set k (.box q [.pointer (some ⟨tq, 0, none⟩), .bool true] 52)) := by
  have hbp := q_boxAt h hi
  obtain ⟨Bp, hTp⟩ := q_tabAt h hj
  obtain ⟨s1, r1, hb1, m1, hlen, hemp⟩ := hTp.tbk
  have hm1 : ((m1.length : Int) == 0) = true := by
    rw [nil_of_len]
    exact decide_eq_true (hemp.2 hz)
  have c0 : w.cell? ⟨p, 0, none⟩ = some (.pointer (some ⟨t, 0, none⟩)) := hbp.cell 0
  have c1 : w.cell? ⟨p, 1, none⟩ = some (.bool sh) := hbp.cell 1
  have e0 : w.cell? ⟨t, 0, none⟩ = some (.map (some s1)) := hb1.cell 0
  have hbq := q_boxAt h hk
  have d0 : w.cell? ⟨q, 0, none⟩ = some (.pointer (some ⟨tq, 0, none⟩)) := hbq.cell 0
  have hpq : p ≠ q := by
    obtain ⟨B, ⟨_, rfl⟩, _, _, h4⟩ := h.use hi
    obtain ⟨C', ⟨_, rfl⟩, h5⟩ := h4 k _ hik hk
    exact fun c => h5 p (by simp) (by rw [c]; simp)
  have hqp : q ≠ p := fun e => hpq e.symm
  have hli := (List.getElem?_eq_some_iff.1 hi).1
  have z0 := hbp.free 0
  have z1 := hbp.free 1
  have h3 := q_set h hi 0 (.pointer (some ⟨tq, 0, none⟩))
  have hi3 : (os.set i (.box p [.pointer (some ⟨tq, 0, none⟩), .bool sh] 52))[i]? = some (.box p [.pointer (some ⟨tq, 0, none⟩), .bool sh] 52) := List.getElem?_set_self hli
  have hb3 := q_boxAt h3 hi3
  have d3 : (w.setCell ⟨p, 0, none⟩ (.pointer (some ⟨tq, 0, none⟩))).cell? ⟨p, 1, none⟩ = some (.bool sh) := hb3.cell 1
  have z3 := hb3.free 1
  have h4 := q_set h3 hi3 1 (.bool true)
  have hk4 : ((os.set i (.box p [.pointer (some ⟨tq, 0, none⟩), .bool sh] 52)).set i (.box p [.pointer (some ⟨tq, 0, none⟩), .bool true] 52))[k]? = some (.box q [.pointer (some ⟨tq, 0, none⟩), .bool sh2] 52) := by
    rw [List.getElem?_set_ne (fun e => hik e.symm), List.getElem?_set_ne (fun e => hik e.symm)]; exact hk
  have hb4 := q_boxAt h4 hk4
  have d4 : ((w.setCell ⟨p, 0, none⟩ (.pointer (some ⟨tq, 0, none⟩))).setCell ⟨p, 1, none⟩ (.bool true)).cell? ⟨q, 1, none⟩ = some (.bool sh2) := hb4.cell 1
  have z4 := hb4.free 1
  have h5 := q_set h4 hk4 1 (.bool true)
  have HH : Hid (Here K17 w0 (((w.setCell ⟨p, 0, none⟩ (.pointer (some ⟨tq, 0, none⟩))).setCell ⟨p, 1, none⟩ (.bool true)).setCell ⟨q, 1, none⟩ (.bool true)) ((os.set i (.box p [.pointer (some ⟨tq, 0, none⟩), .bool true] 52)).set k (.box q [.pointer (some ⟨tq, 0, none⟩), .bool true] 52))) := Lib.hid (by
    have := h5
    rw [List.set_set] at this
    exact this)
  clear h hi hj hk hbp hbq hTp hb1 hemp h3 h4 h5 hb3 hb4 hi3 hk4 hli hz hik
  go_enter Try.func22, Try.ntmps22
  go_wp2_with fail
  refine bodyPost_ret (results_none rfl _ _ _) rfl ?_
  exact ⟨rfl, HH.out⟩
end
end Go.Proofs.Ytnpjihbaebbbcaa

/- Contracts of Copy and Merge of aliases. -/
import Derived.Test.YtgflfjmlhapplaaAHere
import Derived.Test.YtgflfjmlhapplaaMapClone
import Derived.Test.YtgflfjmlhapplaaIter
import Derived.LaidEqlPtr
namespace Go.Proofs.Ytgflfjmlhapplaa
open Go.RowKit Go.MapKept Go.Maps Go.Shelf
set_option linter.unusedVariables false
theorem clone_al (r : Nat) (m : List (ByteArray × Value)) (w : World) (h : Mp encS okS w r m) :
    Calls Try.prog 34 #[.map (some r)] w fun e w' => e = .returned (.map (some w.heap.size)) ∧ Mp encS okS w' w.heap.size m ∧ Below w.heap.size w w' ∧ w'.heap.size = w.heap.size + 1 := by
  obtain ⟨es, clock, hb, hc⟩ := h.cloned
  refine (AnyW.maps_Clone Try.cloneM r es clock w hb).mono ?_
  rintro e w' ⟨rfl, rfl⟩
  exact ⟨rfl, hc, (Below.refl _ _).alloc (Nat.le_refl _) _, by simp⟩
set_option maxHeartbeats 1000000 in
theorem copy_at {p : Nat} {B : List Nat} {l : List Two} {w : World} (h : AlAt w p B l) :
    Calls Try.prog 23 #[.pointer (some ⟨p, 0, none⟩)] w fun e w' => ∃ q C, e = .returned (.pointer (some ⟨q, 0, none⟩)) ∧ AlAt w' q C l ∧ (∀ c ∈ C, w.heap.size ≤ c) ∧ Below w.heap.size w w' := by
  obtain ⟨m, M, r, rfl, h1, h2, h3⟩ := h
  have CL := Lib.hid (clone_al m _ w h1.mp)
  have c0 := h1.bk.cell 0
  have HI := Lib.hid h2
  have HO := Lib.hid h3
  clear h1 h2 h3
  go_enter Try.func23, Try.ntmps23
  go_wp2_with fail
  refine CL.out.mono ?_
  rintro e w1 ⟨rfl, m1, b1, z1⟩
  have HA : Hid (AlR (w1.alloc (.cells #[.map (some w.heap.size)] 52)) w1.heap.size w.heap.size M) := Lib.hid ⟨Bk.new w1 [.map (some w.heap.size)] _, m1.bel ((Below.refl _ _).alloc (Nat.le_refl _) _), by omega⟩
  have HB := Lib.hid (b1.alloc b1.size (.cells #[.map (some w.heap.size)] 52))
  have hz := b1.size
  clear m1 b1 CL c0 z1
  go_wp2_with fail
  go_ret
  exact ⟨_, [w1.heap.size, w.heap.size], rfl, ⟨_, M, r, rfl, HA.out, HI.out, HO.out⟩, fun c hc => by simp at hc; omega, HB.out⟩
set_option maxHeartbeats 1000000 in
theorem merge_none (P : Addr) (w : World) :
    Calls Try.prog 24 #[.pointer (some P), .pointer none] w fun e w' => e = .returned (.tuple #[]) ∧ w = w' := by
  go_enter Try.func24, Try.ntmps24
  go_wp2_with fail
  refine bodyPost_ret (results_none rfl _ _ _) rfl ?_
  exact ⟨rfl, rfl⟩
theorem infoAl : ∃ j, Try.prog.info? 52 = some j ∧ j.size ≠ 0 := by
  have h : (Try.prog.info? 52).map (fun i => i.size) = some 1 := by kernel_rfl
  obtain ⟨j, hj, e⟩ := Option.map_eq_some_iff.1 h
  exact ⟨j, hj, by rw [e]; decide⟩
set_option maxHeartbeats 1000000 in
theorem merge_self (p : Nat) (w : World) :
    Calls Try.prog 24 #[.pointer (some ⟨p, 0, none⟩), .pointer (some ⟨p, 0, none⟩)] w fun e w' => e = .returned (.tuple #[]) ∧ w = w' := by
  obtain ⟨j0, hj0, hj1⟩ := infoAl
  have heq := run_eql_ptr_same (P := Try.prog) w (tp := 25) (te := 52) ⟨p, 0, none⟩ Try.underlying25 hj0
  go_enter Try.func24, Try.ntmps24
  go_wp2_with fail
  refine bodyPost_ret (results_none rfl _ _ _) rfl ?_
  exact ⟨rfl, rfl⟩
theorem strM_app (d : List Two) (p : Two) : strM (d ++ [p]) = strM d ++ [(p.1, .string p.2)] := by simp [strM]
theorem strM_mem {M : List (ByteArray × ByteArray)} {k : ByteArray} {u : Value} (h : (k, u) ∈ strM M) : ∃ y, u = .string y ∧ (k, y) ∈ M := by
  unfold strM at h
  obtain ⟨p, hp, e⟩ := List.mem_map.1 h
  cases e
  exact ⟨p.2, rfl, hp⟩
theorem strM_perm {d M : List Two} (h : (strM d).Perm (strM M)) (f : ByteArray → Prop) : Compat d f ↔ Compat M f := by
  have key : ∀ p : Two, p ∈ d ↔ p ∈ M := fun p => by
    have h1 : ∀ (L : List Two), p ∈ L ↔ (p.1, Value.string p.2) ∈ strM L := fun L => by
      constructor
      · intro h; exact List.mem_map.2 ⟨p, h, rfl⟩
      · intro h
        obtain ⟨y, e, hy⟩ := strM_mem h
        cases e
        exact hy
    rw [h1 d, h1 M, h.mem_iff]
  unfold Compat
  exact forall_congr' fun p => by rw [key p]
/-- Merge's loop: what is there -/
structure MrgW (w wr : World) (p q mo it : Nat) (B : List Nat) (M : List Two) (la d : List Two) : Prop where
  al : AlAt wr p B (la ++ d)
  other : AlR wr q mo M
  fr : Fr (fun b => b ∈ B) w wr
  nq : q ∉ B
  nm : mo ∉ B
  li : w.heap.size ≤ it
  lb : ∀ b ∈ B, b < w.heap.size
  lq : q < w.heap.size
  lm : mo < w.heap.size
set_option maxRecDepth 100000 in
set_option maxHeartbeats 4000000 in
theorem merge_at {p q : Nat} {B C : List Nat} {la lo : List Two} {w : World} (ha : AlAt w p B la) (ho : AlAt w q C lo) (hap : Aprt C B) :
    Calls Try.prog 24 #[.pointer (some ⟨p, 0, none⟩), .pointer (some ⟨q, 0, none⟩)] w fun e w' => e = .returned (.tuple #[]) ∧ AlAt w' p B (la ++ lo) ∧ Fr (fun b => b ∈ B) w w' := by
  have hB := ha.lt
  have hpB : p ∈ B := by obtain ⟨m, M, r, rfl, _⟩ := ha; simp
  obtain ⟨mo, M, r, rfl, h1, h2, h3⟩ := ho
  have hq := hap q (by simp)
  have hmo := hap mo (by simp)
  have hne : q ≠ p := fun e => hq (by rw [e]; exact hpB)
  have c0 := h1.bk.cell 0
  have HI := Lib.hid h2
  have HMP : Hid (Mp encS okS w mo (strM M)) := Lib.hid h1.mp
  have HA := Lib.hid ha
  have H1 := Lib.hid h1
  have HFIN : Hid (∀ d : List Two, (strM d).Perm (strM M) → ∀ f, Compat (la ++ d) f ↔ Compat (la ++ lo) f) := Lib.hid (fun d hd f => by rw [Compat.append, Compat.append, strM_perm hd, h2.compat h3])
  have HH := Lib.hid (And.intro hB (And.intro hq hmo))
  have LP := Lib.hid (And.intro h1.bk.lt h1.mp.lt)
  obtain ⟨j0, hj0, hj1⟩ := infoAl
  have hpk : ∃ cs, Bk w p cs 52 := by obtain ⟨m, M, r, _, k, _⟩ := ha; exact ⟨_, k.bk⟩
  obtain ⟨pcs, hpk⟩ := hpk
  have heq := run_eql_ptr_other (P := Try.prog) w (tp := 25) (te := 52) (a := ⟨q, 0, none⟩) (b := ⟨p, 0, none⟩) Try.underlying25 hj0 hj1 (fun e => hne (congrArg Addr.block e)) h1.bk hpk
  clear ha h1 h2 h3 hap hpB hB hq hmo hpk hj0 hj1
  go_enter Try.func24, Try.ntmps24
  go_wp2_with (at_range; refine wpList_range rfl _ rfl Try.underlying50 HMP.out rfl ?_; intro w2 rg2 b2 z2)
  go_frame
  have hM0 : MrgW w w2 p q mo w.heap.size B M la [] :=
    ⟨by rw [List.append_nil]; exact HA.out.bel b2, H1.out.bel b2, Fr.of_bel b2, HH.out.2.1, HH.out.2.2, Nat.le_refl _, HH.out.1, LP.out.1, LP.out.2⟩
  have HP0 : Hid ((strM [] ++ strM M).Perm (strM M)) := Lib.hid (List.Perm.refl _)
  clear b2 z2 HMP HA H1 c0 hne heq HH LP
  generalize w.heap.size = it at rg2 hM0 ⊢
  go_loopw [4, 5] (fun _ _ wr => ∃ d left, Rg encS okS wr mo it (strM M) left ∧ Hid ((strM d ++ left).Perm (strM M)) ∧ MrgW w wr p q mo it B M la d) (fun _ _ wr => wr.rangeLeft mo it)
  case atStart => exact ⟨[], strM M, rg2, HP0, hM0⟩
  case round =>
    obtain ⟨d, left, hrg, HPm, hmw⟩ := hrel
    clear rg2 hM0 HP0
    go_wp2_with (at_next; refine wpList_next' Value.string (fun _ => rfl) rfl _ rfl hrg rfl ?_ ?_)
    · intro hl0
      subst hl0
      have hpm := HPm.out
      rw [List.append_nil] at hpm
      have HF := Lib.hid (HFIN.out d hpm)
      have HM := Lib.hid hmw
      clear hpm hmw hrg HPm
      go_wp2_with fail
      go_end0
      exact ⟨rfl, HM.out.al.congr HF.out, HM.out.fr⟩
    · intro k u more w3 hp hok hm hrg3 hf3 hz3 hen
      obtain ⟨y, rfl, hky⟩ := strM_mem hm
      have hit : it ∉ B := fun c => by have := hmw.lb it c; have := hmw.li; omega
      have hm3 : MrgW w w3 p q mo it B M la d := by
        have l1 := hmw.lq; have l2 := hmw.lm; have l3 := hmw.li
        refine ⟨hmw.al.fr hf3 (fun b hb e => hit (e ▸ hb)), hmw.other.fr hf3 (by omega) (by omega), ?_, hmw.nq, hmw.nm, l3, hmw.lb, l1, l2⟩
        exact hmw.fr.trans hf3 (fun i hi e => by omega)
      have hgk := get_of_mem HI.out.nd hky
      have hkn := HI.out.ok k y hgk
      have hks := name_size hkn.1
      have hys := name_size hkn.2
      have JN := Lib.hid (join_at hm3.al k y (by omega) (by omega))
      have HPm3 : Hid ((strM (d ++ [(k, y)]) ++ more).Perm (strM M)) := Lib.hid ((by
        rw [strM_app, List.append_assoc]
        exact List.Perm.append_left _ hp.symm : (strM (d ++ [(k, y)]) ++ more).Perm (strM d ++ left)).trans HPm.out)
      have hmes : w3.rangeLeft mo it < wr.rangeLeft mo it := by
        rw [hrg3.left_eq, hrg.left_eq, hp.length_eq]; simp
      have HM := Lib.hid hmes
      have HRG3 := Lib.hid hrg3
      have HW3 := Lib.hid hm3
      have HIT := Lib.hid hit
      clear hmes hrg hmw HPm hp hok hm hrg3 hf3 hz3 hm3 hky hgk hkn hit
      generalize canB (la ++ d) k y = cb at *
      go_wp2_with fail
      refine JN.out.mono ?_
      rintro e w5 ⟨rfl, a5, f5⟩
      have HW5 : Hid (MrgW w w5 p q mo it B M la (d ++ [(k, y)])) := Lib.hid ⟨by rw [← List.append_assoc]; exact a5, HW3.out.other.fr f5 HW3.out.nq HW3.out.nm, HW3.out.fr.trans f5 (fun _ _ e => e), HW3.out.nq, HW3.out.nm, HW3.out.li, HW3.out.lb, HW3.out.lq, HW3.out.lm⟩
      have HRG5 := Lib.hid (HRG3.out.fr f5 HW3.out.nm HIT.out)
      have HM5 : Hid (w5.rangeLeft mo it < wr.rangeLeft mo it) := Lib.hid (by rw [HRG5.out.left_eq, ← HRG3.out.left_eq]; exact HM.out)
      clear a5 f5 JN HW3 HRG3 HM
      go_wp2_with fail
      go_roundw
      case rel => exact ⟨_, more, HRG5.out, HPm3, HW5.out⟩
      case measure => exact HM5.out
section
variable {w0 w : World} {os : List Ob}
theorem h_copy (h : Here K45 w0 w os) {i p : Nat} {l : List Two} (hi : os[i]? = some (.alias p l)) :
    Calls Try.prog 23 #[.pointer (some ⟨p, 0, none⟩)] w fun e w' => ∃ q, e = .returned (.pointer (some ⟨q, 0, none⟩)) ∧ Here K45 w0 w' (os ++ [.alias q l]) := by
  obtain ⟨B, h1⟩ := h_at h hi
  refine (copy_at h1).mono ?_
  rintro e w' ⟨q, C, rfl, g1, g2, g3⟩
  exact ⟨q, rfl, h.push g3 (o := .alias q l) g1 g2⟩
theorem h_merge (h : Here K45 w0 w os) {i j p q : Nat} {la lo : List Two} (hi : os[i]? = some (.alias p la)) (hj : os[j]? = some (.alias q lo)) (hij : j ≠ i) :
    Calls Try.prog 24 #[.pointer (some ⟨p, 0, none⟩), .pointer (some ⟨q, 0, none⟩)] w fun e w' => e = .returned (.tuple #[]) ∧ Here K45 w0 w' (os.set i (.alias p (la ++ lo))) := by
  obtain ⟨B, h1, _, h3, h4⟩ := h.use hi
  obtain ⟨C, g1, g2⟩ := h4 j (.alias q lo) hij hj
  refine (merge_at h1 g1 (fun b hb hc => g2 b hc hb)).mono ?_
  rintro e w' ⟨rfl, k1, k2⟩
  exact ⟨rfl, h3 w' (.alias _ _) B k1 k2 (fun b hb => .inl hb)⟩
end
end Go.Proofs.Ytgflfjmlhapplaa

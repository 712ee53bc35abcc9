/- For every input ciceronetop.TopPanes returns true, and its arguments read behind the call as before. No conditions. -/
import Derived.Test.YtkjcgeaoiabkjaaTop1
import Derived.Test.YtkjcgeaoiabkjaaRise
import Derived.Test.YtkjcgeaoiabkjaaRows
import Derived.ProofKit
import Derived.OpenShut
import Derived.ShutString
import Derived.ChangeOld
import Derived.Below
import Derived.Lib.SmallJoins
namespace Go.Proofs.Ytkjcgeaoiabkjaa.topPanes
open Go.ChangeShapes Go.WideShapes Go.ChangeAt Go.RowKit Go.Joins
open Go.ChangeMaps (open_string shut_string)
set_option linter.unusedVariables false

theorem u8_wf {q : Int} (h : (Lit.int .u8 q).wf = true) : 0 ≤ q ∧ q ≤ 255 := by
  simp only [Lit.wf, Bool.and_eq_true, decide_eq_true_eq] at h
  exact h
def addsT (wd : Int) (l : List AddT) : List Ad := (l.filter fun a => decide (1 ≤ a.1.size)).map fun a => (a.1, (a.2.1 : Int) / wd, (a.2.2 : Int))
theorem addsT_len (wd : Int) (l : List AddT) : (addsT wd l).length ≤ l.length := by unfold addsT; rw [List.length_map]; exact List.length_filter_le _ _
theorem addsT_snoc (wd : Int) (l : List AddT) (a : AddT) : addsT wd (l ++ [a]) = if 1 ≤ a.1.size then addsT wd l ++ [(a.1, (a.2.1 : Int) / wd, (a.2.2 : Int))] else addsT wd l := by
  unfold addsT
  rw [List.filter_append]
  by_cases e : 1 ≤ a.1.size <;> simp [e]
theorem may_T {a : AddT} {k : Nat} (hk : a.1.size ≤ 24) (ho : atOk a) (hc : k ≤ 1000) : mayAdd a.1 (a.2.1 : Int) (a.2.2 : Int) (k : Int) = decide (1 ≤ a.1.size) := by
  obtain ⟨_, h1, h2⟩ := ho
  unfold mayAdd
  rw [decide_eq_true hk, decide_eq_true (by omega : (0 : Int) ≤ (a.2.1 : Int)), decide_eq_true (by omega : (a.2.1 : Int) ≤ 1099511627776), decide_eq_true (by omega : (0 : Int) ≤ (a.2.2 : Int)), decide_eq_true (by omega : (a.2.2 : Int) ≤ 1048576), decide_eq_true (by omega : (k : Int) < 1048576)]
  simp
theorem addTo_T {wd : Int} {l : List AddT} {a : AddT} (hk : a.1.size ≤ 24) (ho : atOk a) (hl : l.length ≤ 1000) : addTo wd (addsT wd l).length (addsT wd l) a.1 (a.2.1 : Int) (a.2.2 : Int) = (((addsT wd (l ++ [a])).length : Int), addsT wd (l ++ [a])) := by
  have h1 := addsT_len wd l
  unfold addTo
  rw [may_T hk ho (by omega), addsT_snoc]
  by_cases e : 1 ≤ a.1.size
  · simp [e]
  · simp [e]
/-- one by one -/
def sumT (key : ByteArray) (e sz : Int) : List AddT → Int
  | [] => 0
  | a :: l => (if a.1 = key ∧ e - sz ≤ (a.2.1 : Int) ∧ (a.2.1 : Int) < e then (a.2.2 : Int) else 0) + sumT key e sz l
theorem sumT_app (key : ByteArray) (e sz : Int) (l m : List AddT) : sumT key e sz (l ++ m) = sumT key e sz l + sumT key e sz m := by
  induction l with
  | nil => simp [sumT]
  | cons a l ih => rw [List.cons_append, sumT, sumT, ih]; omega
theorem sumT_take {key : ByteArray} {e sz : Int} {l : List AddT} {i : Nat} {a : AddT} (h : l[i]? = some a) : sumT key e sz (l.take (i + 1)) = sumT key e sz (l.take i) + (if a.1 = key ∧ e - sz ≤ (a.2.1 : Int) ∧ (a.2.1 : Int) < e then (a.2.2 : Int) else 0) := by
  rw [List.take_add_one, h, sumT_app]
  simp [sumT]
theorem sumT_in {key : ByteArray} {e sz : Int} : ∀ {l : List AddT}, (∀ a ∈ l, atOk a) → 0 ≤ sumT key e sz l ∧ sumT key e sz l ≤ l.length * 65535
  | [], _ => by simp [sumT]
  | a :: l, h => by
    have ih := sumT_in (key := key) (e := e) (sz := sz) (l := l) (fun b hb => h b (by simp [hb]))
    have ha := (h a (by simp)).2.2
    rw [sumT, List.length_cons]
    split <;> omega
theorem psum_T {wd : Int} (hw : 1 ≤ wd) (key : ByteArray) {e sz : Int} (he : e % wd = 0) (hs : sz % wd = 0) : ∀ (l : List AddT), (∀ a ∈ l, 1 ≤ a.1.size) → psum (addsT wd l) key ((e - sz) / wd) (e / wd) = sumT key e sz l
  | [], _ => rfl
  | a :: l, h => by
    have ih := psum_T hw key he hs l (fun b hb => h b (by simp [hb]))
    have ha := h a (by simp)
    have e1 : addsT wd (a :: l) = (a.1, (a.2.1 : Int) / wd, (a.2.2 : Int)) :: addsT wd l := by
      unfold addsT
      rw [List.filter_cons_of_pos (by simpa using ha)]; rfl
    rw [e1, psum, sumT, ih]
    have d1 : (e - sz) / wd ≤ (a.2.1 : Int) / wd ↔ e - sz ≤ (a.2.1 : Int) := by
      rw [Int.le_ediv_iff_mul_le (by omega), Int.ediv_mul_cancel_of_emod_eq_zero (by rw [Int.sub_emod, he, hs]; simp)]
    have d2 : (a.2.1 : Int) / wd < e / wd ↔ (a.2.1 : Int) < e := by
      rw [Int.ediv_lt_iff_lt_mul (by omega), Int.ediv_mul_cancel_of_emod_eq_zero he]
    simp only [d1, d2]
theorem sumT_none {key : ByteArray} {e sz : Int} (h : e ≤ 0) : ∀ (l : List AddT), sumT key e sz l = 0
  | [] => rfl
  | a :: l => by rw [sumT, sumT_none h l, if_neg (by omega)]; rfl
theorem psum_rev (wd : Int) (l : List AddT) (key : ByteArray) (lo hi : Int) : psum (addsT wd l.reverse) key lo hi = psum (addsT wd l) key lo hi :=
  psum_perm (((List.reverse_perm l).filter _).map _) key lo hi
/-- an end that holds a tick is told -/
theorem ends_mem {hp at_ sz e : Int} {k : Nat} (h1 : 1 ≤ hp) (ha : 0 ≤ at_) (he : e % hp = 0) (h2 : at_ < e) (h3 : e - sz ≤ at_) (h4 : at_ + sz < (at_.tdiv hp + 1) * hp + k * hp) : e ∈ endsF ((at_.tdiv hp + 1) * hp) hp k := by
  have d1 : at_.tdiv hp = at_ / hp := Int.tdiv_eq_ediv_of_nonneg ha
  rw [d1] at h4 ⊢
  have d2 := Int.mul_ediv_add_emod at_ hp
  have d3 := Int.emod_nonneg at_ (b := hp) (by omega)
  have d5 := Int.mul_ediv_add_emod e hp
  rw [he] at d5
  have lt1 : at_ / hp < e / hp := by
    have : hp * (at_ / hp) < hp * (e / hp) := by omega
    exact Int.lt_of_mul_lt_mul_left this (by omega)
  have e1 : (at_ / hp + 1) * hp + (k : Int) * hp = hp * (at_ / hp + 1 + k) := by
    rw [← Int.add_mul, Int.mul_comm]
  have lt2 : e / hp < at_ / hp + 1 + k := by
    have : hp * (e / hp) < hp * (at_ / hp + 1 + k) := by rw [← e1]; omega
    exact Int.lt_of_mul_lt_mul_left this (by omega)
  refine List.mem_map.2 ⟨(e / hp - at_ / hp - 1).toNat, List.mem_range.2 (by omega), ?_⟩
  have e2 : (((e / hp - at_ / hp - 1).toNat : Nat) : Int) = e / hp - at_ / hp - 1 := by omega
  rw [e2, ← Int.add_mul, show at_ / hp + 1 + (e / hp - at_ / hp - 1) = e / hp by omega, Int.mul_comm]
  omega
theorem dec_mem_true {a : Int} {T : List Int} {j : Nat} {x : Int} (h : decide (a ∈ T.take j) = true) (hx : T[j]? = some x) : decide (a ∈ T.take (j + 1)) = true := by
  rw [List.take_add_one, hx]
  have := of_decide_eq_true h
  simp [this]
theorem dec_mem_false {a : Int} {T : List Int} {j : Nat} {x : Int} (h : decide (a ∈ T.take j) = false) (hx : T[j]? = some x) : decide (a ∈ T.take (j + 1)) = decide (a = x) := by
  rw [List.take_add_one, hx]
  have := of_decide_eq_false h
  simp [this]
theorem int_at {w : World} {b : Option Addr} {xs : List Int} (h : InW w b 1 (xs.map iC)) {i : Nat} {a : Int} (hi : xs[i]? = some a) :
    ∃ B off, b = some ⟨B, off, none⟩ ∧ B < w.heap.size ∧ w.cell? ⟨B, off + i, none⟩ = some (.int .i64 a) := by
  rcases h with h | ⟨B, off, hb, hl, hc⟩
  · rw [List.map_eq_nil_iff.1 h] at hi; cases hi
  · have hm : (xs.map iC)[i]? = some (iC a) := by rw [List.getElem?_map, hi]; rfl
    have := hc i _ hm 0 _ rfl
    rw [Nat.mul_one] at this
    exact ⟨B, off, hb, hl, this⟩
set_option maxRecDepth 100000 in
set_option maxHeartbeats 4000000 in
theorem walk (w : World) (b : Option Addr) (cap : Nat) (l : List AddT) (hlc : l.length ≤ cap) (hm : cap ≤ maxLen) (hi : InW w b 3 (l.map atC)) (ho : ∀ a ∈ l, atOk a)
    (wi : Int) (w1 : (Lit.int .u8 wi).wf = true) (si : Int) (w2 : (Lit.int .u8 si).wf = true) (hi_ : Int) (w3 : (Lit.int .u8 hi_).wf = true) (key : ByteArray) (hkey : key.size ≤ maxLen) (en : Int) (w4 : (Lit.int .u16 en).wf = true) :
    Calls Try.prog 3 #[.slice b l.length cap, .int .u8 wi, .int .u8 si, .int .u8 hi_, .string key, .int .u16 en] w fun e w' => e = .returned (.bool true) ∧ Below w.heap.size w w' := by
  have CN := Lib.hid (fun W => counts_any W)
  have HF : Hid (∀ W, Below w.heap.size w W → Calls Try.prog 6 #[.slice b l.length cap] W fun e w' => e = .returned (.bool (fewT l)) ∧ Below W.heap.size W w') := Lib.hid (fun W hb => few_any b cap l W (InW.bel hi hb) hm hlc ho)
  have b1 := u8_wf w1
  have b2 := u8_wf w2
  have b3 := u8_wf w3
  have b4 := u16_wf w4
  unfold maxLen at hm hkey
  have HIW := Lib.hid hi
  have HO := Lib.hid ho
  clear hi ho w1 w2 w3 w4
  generalize hln : l.length = n at *
  have Hn := Lib.hid hln
  clear hln
  cases hfw : fewT l with
  | false =>
    rw [hfw] at HF
    go_enter Try.func3, Try.ntmps3
    go_wp2_with fail
    refine (CN.out _).mono ?_
    rintro e w1 ⟨rfl, c1⟩
    have HF1 := Lib.hid (HF.out w1 c1)
    have B1 := Lib.hid c1
    clear c1 HF
    go_wp2_with fail
    refine HF1.out.mono ?_
    rintro e w2 ⟨rfl, c2⟩
    have B2 := Lib.hid (B1.out.trans (c2.mono B1.out.size))
    clear c2 HF1
    go_wp2_with fail
    refine (CN.out _).mono ?_
    rintro e w3 ⟨rfl, c3⟩
    have B3 := Lib.hid (B2.out.trans (c3.mono B2.out.size))
    clear c3
    go_wp2_with fail
    go_ret
    exact ⟨rfl, B3.out⟩
  | true =>
    rw [hfw] at HF
    obtain ⟨hn60, hks⟩ := few_of hfw
    rw [Hn.out] at hn60
    have HKS := Lib.hid hks
    clear hks
    by_cases hk24 : key.size ≤ 24
    · have t1 : decide ((24 : Int) < (key.size : Int)) = false := decide_eq_false (by omega)
      go_enter Try.func3, Try.ntmps3
      go_wp2_with fail
      refine (CN.out _).mono ?_
      rintro e w1 ⟨rfl, c1⟩
      have HF1 := Lib.hid (HF.out w1 c1)
      have B1 := Lib.hid c1
      clear c1 HF
      go_wp2_with fail
      refine HF1.out.mono ?_
      rintro e w2 ⟨rfl, c2⟩
      have B2 := Lib.hid (B1.out.trans (c2.mono B1.out.size))
      clear c2 HF1 B1
      obtain ⟨wd, hwd⟩ : ∃ x, 1 + wi % 20 = x := ⟨_, rfl⟩
      obtain ⟨us, hus⟩ : ∃ x, 1 + si % 6 = x := ⟨_, rfl⟩
      obtain ⟨uh, huh⟩ : ∃ x, 1 + hi_ % 6 = x := ⟨_, rfl⟩
      obtain ⟨sz, hsz⟩ : ∃ x, wd * us = x := ⟨_, rfl⟩
      obtain ⟨hp, hhp⟩ : ∃ x, wd * uh = x := ⟨_, rfl⟩
      have hwr : 1 ≤ wd ∧ wd ≤ 20 := by omega
      have hur : 1 ≤ us ∧ us ≤ 6 ∧ 1 ≤ uh ∧ uh ≤ 6 := by omega
      have hsr : 1 ≤ sz ∧ sz ≤ 120 := by
        rw [← hsz]
        have h1 : 1 * 1 ≤ wd * us := Int.mul_le_mul hwr.1 hur.1 (by omega) (by omega)
        have h2 : wd * us ≤ 20 * 6 := Int.mul_le_mul hwr.2 hur.2.1 (by omega) (by omega)
        omega
      have hhr : 1 ≤ hp ∧ hp ≤ 120 := by
        rw [← hhp]
        have h1 : 1 * 1 ≤ wd * uh := Int.mul_le_mul hwr.1 hur.2.2.1 (by omega) (by omega)
        have h2 : wd * uh ≤ 20 * 6 := Int.mul_le_mul hwr.2 hur.2.2.2 (by omega) (by omega)
        omega
      have HSP : Hid (SpecOk sz hp wd) := Lib.hid ⟨hwr.1, by omega, hsr.1, by omega, hhr.1, by omega, by rw [← hsz]; exact Int.mul_tmod_right _ _, by rw [← hhp]; exact Int.mul_tmod_right _ _⟩
      have HDV : Hid (sz % wd = 0 ∧ hp % wd = 0) := Lib.hid ⟨by rw [← hsz]; exact Int.mul_emod_right _ _, by rw [← hhp]; exact Int.mul_emod_right _ _⟩
      have q1 : IntKind.i64.wrap (wd * us) = sz := by rw [hsz]; exact IntWalk.i64_in _ (by omega)
      have q2 : IntKind.i64.wrap (wd * uh) = hp := by rw [hhp]; exact IntWalk.i64_in _ (by omega)
      have HB0 := Lib.hid (h_box (Here.nil (K := KT) (Below.refl w2.heap.size w2)) [.int .i64 sz, .int .i64 hp] 27)
      have HMY := Lib.hid (may_top sz hp wd (w2.alloc (.cells #[.int .i64 sz, .int .i64 hp] 27)) HSP.out)
      have hwo : wdOf wd = wd := by unfold wdOf; omega
      clear hsz hhp
      go_wp2_with fail
      refine HMY.out.mono ?_
      rintro e w3 ⟨rfl, b3⟩
      have hn := h_new (HB0.out.step_bel b3) wd (by unfold I64; omega)
      rw [hwo] at hn
      have HN := Lib.hid hn
      clear hn b3 HMY HB0 hwd hus huh q1 q2
      go_wp2_with fail
      refine HN.out.mono ?_
      rintro e w4 ⟨rfl, h4⟩
      have hn := h_new h4 wd (by unfold I64; omega)
      rw [hwo] at hn
      have HN2 := Lib.hid hn
      clear hn h4 HN hwo
      go_wp2_with fail
      refine HN2.out.mono ?_
      rintro e w5 ⟨rfl, h5⟩
      have H5 : Hid (Here KT w2 w5 [.box w2.heap.size [.int .i64 sz, .int .i64 hp] 27, .pane (w3.heap.size + 2) wd (addsT wd []).length (addsT wd []), .pane (w4.heap.size + 2) wd (addsT wd []).length (addsT wd [])]) := Lib.hid h5
      clear h5 HN2
      go_wp2_with fail
      go_loopw [66] (fun c wr => ∃ i : Nat, i ≤ n ∧ c = .int .i64 i ∧ Hid (∀ a ∈ l.take i, 1 ≤ a.1.size) ∧ Here KT w2 wr [.box w2.heap.size [.int .i64 sz, .int .i64 hp] 27, .pane (w3.heap.size + 2) wd (addsT wd (l.take i)).length (addsT wd (l.take i)), .pane (w4.heap.size + 2) wd (addsT wd (l.reverse.take i)).length (addsT wd (l.reverse.take i))]) (fun c _ => n - (intOf c).toNat)
      case atStart => exact ⟨0, by omega, rfl, Lib.hid (by simp), H5.out⟩
      case round =>
        obtain ⟨i, hi, rfl, HNE, hH⟩ := hrel
        have HH := Lib.hid hH
        clear H5
        by_cases hlt : i < n
        · clear hH
          obtain ⟨a, ha⟩ : ∃ p, l[i]? = some p := ⟨l[i]'(by rw [Hn.out]; exact hlt), List.getElem?_eq_getElem _⟩
          obtain ⟨x, hx⟩ : ∃ p, l[n - 1 - i]? = some p := ⟨l[n - 1 - i]'(by rw [Hn.out]; omega), List.getElem?_eq_getElem _⟩
          have hak := HKS.out a (List.mem_of_getElem? ha)
          have hxk := HKS.out x (List.mem_of_getElem? hx)
          have hao := HO.out a (List.mem_of_getElem? ha)
          have hxo := HO.out x (List.mem_of_getElem? hx)
          obtain ⟨B, off, rfl, hB, d0, d1, d2⟩ := ats_at HIW.out ha
          obtain ⟨B', off', hbe, hB', y0, y1, y2⟩ := ats_at HIW.out hx
          simp only [Option.some.injEq, Addr.mk.injEq] at hbe
          obtain ⟨rfl, rfl, -⟩ := hbe
          obtain ⟨j, hj⟩ : ∃ j, n - 1 - i = j := ⟨_, rfl⟩
          rw [hj] at y0 y1 y2
          have HCW : Hid (∀ W, Below w2.heap.size w2 W → W.cell? ⟨B, off + i * 3, none⟩ = some (.string a.1) ∧ W.cell? ⟨B, off + i * 3 + 1, none⟩ = some (.int .u16 (a.2.1 : Int)) ∧ W.cell? ⟨B, off + i * 3 + 2, none⟩ = some (.int .u16 (a.2.2 : Int)) ∧ W.cell? ⟨B, off + j * 3, none⟩ = some (.string x.1) ∧ W.cell? ⟨B, off + j * 3 + 1, none⟩ = some (.int .u16 (x.2.1 : Int)) ∧ W.cell? ⟨B, off + j * 3 + 2, none⟩ = some (.int .u16 (x.2.2 : Int))) := Lib.hid (fun W hW => by
            have hb := B2.out.trans (hW.mono B2.out.size)
            exact ⟨(hb.cell (p := ⟨B, off + i * 3, none⟩) hB).trans d0, (hb.cell (p := ⟨B, off + i * 3 + 1, none⟩) hB).trans d1, (hb.cell (p := ⟨B, off + i * 3 + 2, none⟩) hB).trans d2, (hb.cell (p := ⟨B, off + j * 3, none⟩) hB).trans y0, (hb.cell (p := ⟨B, off + j * 3 + 1, none⟩) hB).trans y1, (hb.cell (p := ⟨B, off + j * 3 + 2, none⟩) hB).trans y2⟩)
          obtain ⟨k0, k1, k2, k3, k4, k5⟩ := HCW.out wr HH.out.bel
          have hi0 : (0 : Int) ≤ (i : Int) := by omega
          have hi1 : (i : Int) < (n : Int) := by omega
          have qa1 : IntKind.i64.wrap (a.2.1 : Int) = (a.2.1 : Int) := IntWalk.i64_in _ (by have := hao; unfold atOk at this; omega)
          have qa2 : IntKind.i64.wrap (a.2.2 : Int) = (a.2.2 : Int) := IntWalk.i64_in _ (by have := hao; unfold atOk at this; omega)
          have qx1 : IntKind.i64.wrap (x.2.1 : Int) = (x.2.1 : Int) := IntWalk.i64_in _ (by have := hxo; unfold atOk at this; omega)
          have qx2 : IntKind.i64.wrap (x.2.2 : Int) = (x.2.2 : Int) := IntWalk.i64_in _ (by have := hxo; unfold atOk at this; omega)
          have HTA : Hid (addsT wd (l.take (i + 1)) = addsT wd (l.take i ++ [a])) := Lib.hid (by rw [List.take_add_one, ha]; rfl)
          have HTX : Hid (addsT wd (l.reverse.take (i + 1)) = addsT wd (l.reverse.take i ++ [x])) := Lib.hid (by
            have h1 : l.reverse[i]? = some x := by
              rw [List.getElem?_reverse (by rw [Hn.out]; exact hlt), Hn.out]; exact hx
            rw [List.take_add_one, h1]; rfl)
          have HL1 : Hid ((l.take i).length ≤ 1000 ∧ (l.reverse.take i).length ≤ 1000) := Lib.hid (by simp only [List.length_take]; omega)
          have HAA := Lib.hid ha
          clear ha hx d0 d1 d2 y0 y1 y2
          unfold atOk at hao hxo
          by_cases hz : a.1.size = 0
          · have t2 : (a.1.toList == []) = true := by rw [Go.ByteArray.toList_eq]; simp; exact Array.eq_empty_of_size_eq_zero hz
            go_wp2_with fail
            go_quiet (fail)
            go_wp2_with fail
            go_ret
            exact ⟨rfl, B2.out.trans ((HH.out.drewN nq).bel.mono B2.out.size)⟩
          · have t2 : (a.1.toList == []) = false := by
              rw [Go.ByteArray.toList_eq]
              simp only [beq_eq_false_iff_ne, ne_eq]
              intro c
              have : a.1.data.toList.length = 0 := by rw [c]; rfl
              simp at this
              exact hz (by show a.1.data.size = 0; rw [this]; rfl)
            have hadd := h_add HH.out.drew (i := 1) rfl a.1 (a.2.1 : Int) (a.2.2 : Int) (by omega) (by unfold I64; omega) (by unfold I64; omega)
            rw [may_T hak hao (by have := addsT_len wd (l.take i); have := HL1.out.1; omega), addTo_T hak hao HL1.out.1, decide_eq_true (by omega : 1 ≤ a.1.size), ← HTA.out] at hadd
            have HA := Lib.hid hadd
            have kk : wr.drew.cell? ⟨B, off + i * 3, none⟩ = some (.string a.1) ∧ wr.drew.cell? ⟨B, off + i * 3 + 1, none⟩ = some (.int .u16 (a.2.1 : Int)) ∧ wr.drew.cell? ⟨B, off + i * 3 + 2, none⟩ = some (.int .u16 (a.2.2 : Int)) := ⟨k0, k1, k2⟩
            clear hadd
            go_wp2_with fail
            go_region_held3 (fun X => X.cell? ⟨B, off + i * 3, none⟩ = some (.string a.1) ∧ X.cell? ⟨B, off + i * 3 + 1, none⟩ = some (.int .u16 (a.2.1 : Int)) ∧ X.cell? ⟨B, off + i * 3 + 2, none⟩ = some (.int .u16 (a.2.2 : Int))) (first | assumption | go_keep)
              (first
                | (go_at_call 9
                   (with_reducible refine HA.out.mono ?_)
                   rintro e w6 ⟨rfl, h6⟩
                   have H6 := Lib.hid h6
                   have k6 : w6.cell? ⟨B, off + i * 3, none⟩ = some (.string a.1) ∧ w6.cell? ⟨B, off + i * 3 + 1, none⟩ = some (.int .u16 (a.2.1 : Int)) ∧ w6.cell? ⟨B, off + i * 3 + 2, none⟩ = some (.int .u16 (a.2.2 : Int)) := ⟨(HCW.out w6 h6.bel).1, (HCW.out w6 h6.bel).2.1, (HCW.out w6 h6.bel).2.2.1⟩
                   clear h6)
                | fail)
            have H7 : Hid (Here KT w2 w6 [.box w2.heap.size [.int .i64 sz, .int .i64 hp] 27, .pane (w3.heap.size + 2) wd (addsT wd (l.take (i + 1))).length (addsT wd (l.take (i + 1))), .pane (w4.heap.size + 2) wd (addsT wd (l.reverse.take i)).length (addsT wd (l.reverse.take i))]) := Lib.hid H6.out
            clear k0 k1 k2 k3 k4 k5 kk k6
            obtain ⟨k0, k1, k2, k3, k4, k5⟩ := HCW.out w6 H7.out.bel
            have q3 : IntKind.i64.wrap ((n : Int) - 1) = (n : Int) - 1 := IntWalk.i64_in _ (by omega)
            have q4 : IntKind.i64.wrap ((n : Int) - 1 - (i : Int)) = (j : Int) := by rw [show (n : Int) - 1 - (i : Int) = (j : Int) by omega]; exact IntWalk.i64_in _ (by omega)
            have hj0 : (0 : Int) ≤ (j : Int) := by omega
            have hj1 : (j : Int) < (n : Int) := by omega
            have H8 := Lib.hid (h_box H7.out [.string x.1, .int .u16 (x.2.1 : Int), .int .u16 (x.2.2 : Int)] 32)
            have hadd := h_add H8.out (i := 2) rfl x.1 (x.2.1 : Int) (x.2.2 : Int) (by omega) (by unfold I64; omega) (by unfold I64; omega)
            rw [addTo_T hxk hxo HL1.out.2, ← HTX.out] at hadd
            generalize mayAdd x.1 (x.2.1 : Int) (x.2.2 : Int) ((addsT wd (l.reverse.take i)).length : Int) = mb at hadd
            have HA2 := Lib.hid hadd
            clear hadd HA H6 H8 hj
            go_wp2_with fail
            refine HA2.out.mono ?_
            rintro e w9 ⟨rfl, h9⟩
            have H9 : Hid (Here KT w2 w9 [.box w2.heap.size [.int .i64 sz, .int .i64 hp] 27, .pane (w3.heap.size + 2) wd (addsT wd (l.take (i + 1))).length (addsT wd (l.take (i + 1))), .pane (w4.heap.size + 2) wd (addsT wd (l.reverse.take (i + 1))).length (addsT wd (l.reverse.take (i + 1)))]) := Lib.hid (Here.init (os := [Ob.box _ _ _, Ob.pane _ _ _ _, Ob.pane _ _ _ _]) (us := [Ob.box _ _ _]) h9)
            have HNE2 : Hid (∀ a ∈ l.take (i + 1), 1 ≤ a.1.size) := Lib.hid (by
              rw [List.take_add_one, HAA.out]
              intro z hz'
              rcases List.mem_append.1 hz' with h' | h'
              · exact HNE.out z h'
              · simp at h'; subst h'; omega)
            clear h9 HA2 H7 k0 k1 k2 k3 k4 k5 HH
            go_wp2_with fail
            go_roundw
            case rel => exact ⟨i + 1, by omega, by go_num, HNE2, H9.out⟩
            case measure => simp [intOf]; omega
        · obtain rfl : i = n := by omega
          --MARK1
          have HNA : Hid (∀ a ∈ l, 1 ≤ a.1.size) := Lib.hid (fun a ha => HNE.out a (by rw [List.take_of_length_le (by have := Hn.out; omega)]; exact ha))
          have HH2 : Hid (Here KT w2 wr [.box w2.heap.size [.int .i64 sz, .int .i64 hp] 27, .pane (w3.heap.size + 2) wd (addsT wd l).length (addsT wd l), .pane (w4.heap.size + 2) wd (addsT wd l.reverse).length (addsT wd l.reverse)]) := Lib.hid (by
            have h := HH.out
            rw [List.take_of_length_le (by have := Hn.out; omega), List.take_of_length_le (by have := Hn.out; simp only [List.length_reverse]; omega)] at h
            exact h)
          clear hH HH HNE
          have hbx := h_boxAt HH2.out (i := 0) rfl
          have x0 : wr.cell? ⟨w2.heap.size, 0, none⟩ = some (.int .i64 sz) := hbx.cell 0
          have x1 : wr.cell? ⟨w2.heap.size, 1, none⟩ = some (.int .i64 hp) := hbx.cell 1
          clear hbx
          have hde : en.tdiv hp = en / hp := Int.tdiv_eq_ediv_of_nonneg b4.1
          have g0 : 0 ≤ en / hp := Int.ediv_nonneg b4.1 (by omega)
          have g1 : en / hp ≤ en := Int.ediv_le_self _ b4.1
          have g2 := Int.mul_ediv_add_emod en hp
          have g3 := Int.emod_nonneg en (b := hp) (by omega)
          obtain ⟨e, he⟩ : ∃ x, en.tdiv hp * hp = x := ⟨_, rfl⟩
          have hem : e = hp * (en / hp) := by rw [← he, hde, Int.mul_comm]
          have he0 : 0 ≤ e ∧ e ≤ 65535 := ⟨by rw [hem]; exact Int.mul_nonneg (by omega) g0, by rw [hem]; omega⟩
          have HEM : Hid (e % hp = 0 ∧ e.tmod hp = 0 ∧ e % wd = 0) := Lib.hid ⟨by rw [hem]; exact Int.mul_emod_right _ _, by rw [hem]; exact Int.mul_tmod_right _ _, by rw [hem, Int.mul_emod, HDV.out.2]; simp⟩
          have qe0 : IntKind.i64.wrap en = en := IntWalk.i64_in _ (by omega)
          have qe1 : IntKind.i64.wrap (en.tdiv hp) = en.tdiv hp := IntWalk.i64_in _ (by rw [hde]; omega)
          have qe2 : IntKind.i64.wrap (en.tdiv hp * hp) = e := by rw [he]; exact IntWalk.i64_in _ (by omega)
          have t3 : (hp == 0) = false := by simp; omega
          have hz' : hp ≠ 0 := by omega
          clear hde g0 g1 g2 g3 he hem
          go_wp2_with fail
          go_quiet (fail)
          have HQ := Lib.hid (HH2.out.drewN nq)
          clear HH2
          go_wp2_with fail
          go_loopw [20, 126] (fun u c wi => ∃ m : Nat, m ≤ i ∧ c = .int .i64 m ∧ u = .int .i64 (sumT key e sz (l.take m)) ∧ Here KT w2 wi [.box w2.heap.size [.int .i64 sz, .int .i64 hp] 27, .pane (w3.heap.size + 2) wd (addsT wd l).length (addsT wd l), .pane (w4.heap.size + 2) wd (addsT wd l.reverse).length (addsT wd l.reverse)]) (fun _ c _ => i - (intOf c).toNat)
          case atStart => exact ⟨0, by omega, rfl, rfl, HQ.out⟩
          case round =>
            obtain ⟨k, hk, rfl, rfl, hH⟩ := hrel
            have HH := Lib.hid hH
            clear hH HQ x0 x1 qe0 qe1 qe2 t3
            by_cases hlt2 : k < i
            · obtain ⟨a, ha⟩ : ∃ p, l[k]? = some p := ⟨l[k]'(by rw [Hn.out]; exact hlt2), List.getElem?_eq_getElem _⟩
              have hao := HO.out a (List.mem_of_getElem? ha)
              obtain ⟨B, off, rfl, hB, d0, d1, d2⟩ := ats_at HIW.out ha
              have HCW : Hid (∀ W, Below w2.heap.size w2 W → W.cell? ⟨B, off + k * 3, none⟩ = some (.string a.1) ∧ W.cell? ⟨B, off + k * 3 + 1, none⟩ = some (.int .u16 (a.2.1 : Int)) ∧ W.cell? ⟨B, off + k * 3 + 2, none⟩ = some (.int .u16 (a.2.2 : Int))) := Lib.hid (fun W hW => by
                  have hb := B2.out.trans (hW.mono B2.out.size)
                  exact ⟨(hb.cell (p := ⟨B, off + k * 3, none⟩) hB).trans d0, (hb.cell (p := ⟨B, off + k * 3 + 1, none⟩) hB).trans d1, (hb.cell (p := ⟨B, off + k * 3 + 2, none⟩) hB).trans d2⟩)
              obtain ⟨k0, k1, k2⟩ := HCW.out wr HH.out.bel
              have HH4 := Lib.hid (h_box HH.out [.string a.1, .int .u16 (a.2.1 : Int), .int .u16 (a.2.2 : Int)] 32)
              have hbx := h_boxAt HH4.out (i := 0) rfl
              have x0 : (wr.alloc (.cells #[.string a.1, .int .u16 (a.2.1 : Int), .int .u16 (a.2.2 : Int)] 32)).cell? ⟨w2.heap.size, 0, none⟩ = some (.int .i64 sz) := hbx.cell 0
              have x1 : (wr.alloc (.cells #[.string a.1, .int .u16 (a.2.1 : Int), .int .u16 (a.2.2 : Int)] 32)).cell? ⟨w2.heap.size, 1, none⟩ = some (.int .i64 hp) := hbx.cell 1
              have hi0 : (0 : Int) ≤ (k : Int) := by omega
              have hi1 : (k : Int) < (i : Int) := by omega
              have HST := Lib.hid (sumT_take (key := key) (e := e) (sz := sz) ha)
              have hsb := sumT_in (key := key) (e := e) (sz := sz) (l := l.take k) (fun z hz => HO.out z (List.mem_of_mem_take hz))
              have hsl : (l.take k).length ≤ 60 := by rw [List.length_take, Hn.out]; omega
              unfold atOk at hao
              have qa1 : IntKind.i64.wrap (a.2.1 : Int) = (a.2.1 : Int) := IntWalk.i64_in _ (by omega)
              have qa2 : IntKind.i64.wrap (a.2.2 : Int) = (a.2.2 : Int) := IntWalk.i64_in _ (by omega)
              have qes : IntKind.i64.wrap (e - sz) = e - sz := IntWalk.i64_in _ (by omega)
              clear ha d0 d1 d2 hbx
              generalize sumT key e sz (l.take k) = s at *
              have qsum : IntKind.i64.wrap (s + (a.2.2 : Int)) = s + (a.2.2 : Int) := IntWalk.i64_in _ (by omega)
              by_cases c1 : a.1 = key
              · have t4 : (a.1.toList == key.toList) = true := by rw [bytesEq]; exact decide_eq_true c1
                by_cases c2 : (a.2.1 : Int) < e - sz
                · have t5 : decide ((a.2.1 : Int) < e - sz) = true := decide_eq_true c2
                  have HS1 : Hid (sumT key e sz (l.take (k + 1)) = s) := Lib.hid (by rw [HST.out, if_neg (by omega)]; omega)
                  clear c1 c2 HST
                  go_wp2_with fail
                  go_roundw
                  case rel => exact ⟨k + 1, by omega, by go_num, by rw [HS1.out], Here.init (os := [Ob.box _ _ _, Ob.pane _ _ _ _, Ob.pane _ _ _ _]) (us := [Ob.box _ _ _]) HH4.out⟩
                  case measure => simp [intOf]; omega
                · have t5 : decide ((a.2.1 : Int) < e - sz) = false := decide_eq_false c2
                  by_cases c3 : e ≤ (a.2.1 : Int)
                  · have t6 : decide (e ≤ (a.2.1 : Int)) = true := decide_eq_true c3
                    have HS1 : Hid (sumT key e sz (l.take (k + 1)) = s) := Lib.hid (by rw [HST.out, if_neg (by omega)]; omega)
                    clear c1 c2 c3 HST
                    go_wp2_with fail
                    go_roundw
                    case rel => exact ⟨k + 1, by omega, by go_num, by rw [HS1.out], Here.init (os := [Ob.box _ _ _, Ob.pane _ _ _ _, Ob.pane _ _ _ _]) (us := [Ob.box _ _ _]) HH4.out⟩
                    case measure => simp [intOf]; omega
                  · have t6 : decide (e ≤ (a.2.1 : Int)) = false := decide_eq_false c3
                    have HS1 : Hid (sumT key e sz (l.take (k + 1)) = s + (a.2.2 : Int)) := Lib.hid (by rw [HST.out, if_pos ⟨c1, by omega, by omega⟩])
                    have HIE : Hid (e - sz ≤ (a.2.1 : Int) ∧ (a.2.1 : Int) < e) := Lib.hid (by omega)
                    have HHo := Lib.hid (holds_top sz hp wd (a.2.1 : Int) (wr.alloc (.cells #[.string a.1, .int .u16 (a.2.1 : Int), .int .u16 (a.2.2 : Int)] 32)) HSP.out (by omega) (by omega))
                    clear c1 c2 c3 HST
                    go_wp2_with fail
                    refine HHo.out.mono ?_
                    rintro ee w7 ⟨u, kk, rfl, m, m1, m2⟩
                    obtain ⟨ub, uc, hu, huc, hum, hin⟩ := m.read iLen (by omega)
                    subst hu
                    unfold maxLen at hum
                    have hem := ends_mem hhr.1 (by omega) HEM.out.1 HIE.out.2 HIE.out.1 m1
                    have H7 := Lib.hid (Here.init (os := [Ob.box _ _ _, Ob.pane _ _ _ _, Ob.pane _ _ _ _]) (us := [Ob.box _ _ _]) (HH4.out.step_bel m.bl))
                    clear m m1 m2 HHo HH4 x0 x1 k0 k1 k2 HCW HH
                    generalize endsF (((a.2.1 : Int).tdiv hp + 1) * hp) hp kk = L at *
                    generalize hLn : L.length = nl at *
                    have HLn := Lib.hid hLn
                    have HEL := Lib.hid hem
                    have HIN := Lib.hid hin
                    clear hLn hem hin
                    go_wp2_with fail
                    go_loop [23, 162] (fun c d => ∃ (j : Nat) (f : Bool), j ≤ nl ∧ d = .int .i64 j ∧ c = .bool f ∧ f = decide (e ∈ L.take j)) (fun _ d => nl - (intOf d).toNat)
                    case atStart => exact ⟨0, false, by omega, rfl, rfl, by simp⟩
                    case round =>
                      obtain ⟨j, f, hj, rfl, rfl, hf⟩ := hrel
                      have Hf := Lib.hid hf
                      clear hf
                      by_cases hjl : j < nl
                      · obtain ⟨x, hx⟩ : ∃ x, L[j]? = some x := ⟨L[j]'(by have := HLn.out; omega), List.getElem?_eq_getElem _⟩
                        obtain ⟨B', o', rfl, lb, cx⟩ := int_at HIN.out hx
                        have HXx := Lib.hid hx
                        have hj0 : (0 : Int) ≤ (j : Int) := by omega
                        have hj1 : (j : Int) < (nl : Int) := by omega
                        clear hx
                        cases f
                        · have hne := dec_mem_false Hf.out.symm HXx.out
                          by_cases hxh : x = e
                          · have HK : Hid (true = decide (e ∈ L.take (j + 1))) := by show true = _; rw [hne, hxh]; simp
                            have t7 : (x == e) = true := by simp [hxh]
                            clear hne hxh
                            go_wp2_with fail
                            go_round
                            case rel => exact ⟨j + 1, true, by omega, by go_num, rfl, HK.out⟩
                            case measure => simp [intOf]; omega
                          · have HK : Hid (false = decide (e ∈ L.take (j + 1))) := by show false = _; rw [hne, decide_eq_false (fun e => hxh e.symm)]
                            have t7 : (x == e) = false := by simp [hxh]
                            clear hne hxh
                            go_wp2_with fail
                            go_round
                            case rel => exact ⟨j + 1, false, by omega, by go_num, rfl, HK.out⟩
                            case measure => simp [intOf]; omega
                        · have HK : Hid (true = decide (e ∈ L.take (j + 1))) := (dec_mem_true Hf.out.symm HXx.out).symm
                          go_wp2_with fail
                          go_round
                          case rel => exact ⟨j + 1, true, by omega, by go_num, rfl, HK.out⟩
                          case measure => simp [intOf]; omega
                      · have hft : f = true := by
                          have h1 := Hf.out
                          rw [List.take_of_length_le (by have := HLn.out; omega)] at h1
                          rw [h1]; exact decide_eq_true HEL.out
                        subst hft
                        clear Hf
                        go_wp2_with fail
                        go_roundw
                        case rel => exact ⟨k + 1, by omega, by go_num, by rw [HS1.out], H7.out⟩
                        case measure => simp [intOf]; omega
              · have t4 : (a.1.toList == key.toList) = false := by rw [bytesEq]; exact decide_eq_false c1
                have HS1 : Hid (sumT key e sz (l.take (k + 1)) = s) := Lib.hid (by rw [HST.out, if_neg (fun h => c1 h.1)]; omega)
                clear c1 HST
                go_wp2_with fail
                go_roundw
                case rel => exact ⟨k + 1, by omega, by go_num, by rw [HS1.out], Here.init (os := [Ob.box _ _ _, Ob.pane _ _ _ _, Ob.pane _ _ _ _]) (us := [Ob.box _ _ _]) HH4.out⟩
                case measure => simp [intOf]; omega
            · have htk : l.take k = l := List.take_of_length_le (by have := Hn.out; omega)
              obtain ⟨C1, hC1, _⟩ := HH.out.use (i := 1) rfl
              obtain ⟨C2, hC2, _⟩ := HH.out.use (i := 2) rfl
              have hP1 : PaneAt wr (w3.heap.size + 2) C1 wd (addsT wd l).length (addsT wd l) := hC1
              have hP2 : PaneAt wr (w4.heap.size + 2) C2 wd (addsT wd l.reverse).length (addsT wd l.reverse) := hC2
              have hv : (if hp ≤ e then psum (addsT wd l) key ((e - sz) / wd) (e / wd) else 0) = sumT key e sz (l.take k) := by
                rw [htk]
                split
                · exact psum_T hwr.1 key HEM.out.2.2 HDV.out.1 l HNA.out
                · have h1 := Int.emod_eq_of_lt he0.1 (by omega : e < hp)
                  have h2 := HEM.out.1
                  exact (sumT_none (by omega) l).symm
              have hA1 := at_top (w3.heap.size + 2) C1 wd _ _ key sz hp e wr hP1 (by omega) HSP.out he0.1 (by omega) HEM.out.2.1
              rw [hv] at hA1
              have hA2 : ∀ W, Below wr.heap.size wr W → _ := fun W hb => at_top (w4.heap.size + 2) C2 wd _ _ key sz hp e W (hP2.bel hb) (by omega) HSP.out he0.1 (by omega) HEM.out.2.1
              simp only [psum_rev, hv] at hA2
              have HA1 := Lib.hid hA1
              have HA2 := Lib.hid hA2
              have HBX := Lib.hid (h_boxAt HH.out (i := 0) rfl)
              have x0 : wr.cell? ⟨w2.heap.size, 0, none⟩ = some (.int .i64 sz) := HBX.out.cell 0
              have x1 : wr.cell? ⟨w2.heap.size, 1, none⟩ = some (.int .i64 hp) := HBX.out.cell 1
              clear hv htk hA1 hA2 hC1 hC2 hP1 hP2
              generalize sumT key e sz (l.take k) = R at *
              have tR : (R == R) = true := by simp
              go_wp2_with fail
              refine HA1.out.mono ?_
              rintro ee w7 ⟨rfl, b7⟩
              have HA3 := Lib.hid (HA2.out w7 b7)
              have HB7 := Lib.hid b7
              have hbx := HBX.out.bel b7
              clear x0 x1
              have x0 : w7.cell? ⟨w2.heap.size, 0, none⟩ = some (.int .i64 sz) := hbx.cell 0
              have x1 : w7.cell? ⟨w2.heap.size, 1, none⟩ = some (.int .i64 hp) := hbx.cell 1
              clear b7 HA1 HA2 hbx HBX
              go_wp2_with fail
              refine HA3.out.mono ?_
              rintro ee w8 ⟨rfl, b8⟩
              have HB8 := Lib.hid b8
              clear b8 HA3
              go_wp2_with fail
              go_ret
              exact ⟨rfl, B2.out.trans ((HH.out.bel.trans ((HB7.out.trans (HB8.out.mono HB7.out.size)).mono HH.out.bel.size)).mono B2.out.size)⟩
    · have t1 : decide ((24 : Int) < (key.size : Int)) = true := decide_eq_true (by omega)
      go_enter Try.func3, Try.ntmps3
      go_wp2_with fail
      refine (CN.out _).mono ?_
      rintro e w1 ⟨rfl, c1⟩
      have HF1 := Lib.hid (HF.out w1 c1)
      have B1 := Lib.hid c1
      clear c1 HF
      go_wp2_with fail
      refine HF1.out.mono ?_
      rintro e w2 ⟨rfl, c2⟩
      have B2 := Lib.hid (B1.out.trans (c2.mono B1.out.size))
      clear c2 HF1
      go_wp2_with fail
      refine (CN.out _).mono ?_
      rintro e w3 ⟨rfl, c3⟩
      have B3 := Lib.hid (B2.out.trans (c3.mono B2.out.size))
      clear c3
      go_wp2_with fail
      go_ret
      exact ⟨rfl, B3.out⟩

theorem own : ownKnob Try.prog.godebug = none := by kernel_rfl
theorem laidOut : laidOutB Try.prog = true := by kernel_rfl

set_option maxRecDepth 100000 in
theorem lifted (os : Os) (started : os.Started) (H : Type) (enc : TypeId × Value → H) :
    ReturnsInHanded {} Try.checked os 3 .any (Rows.topPanesSpec.pre6 enc Try.prog Try.f3 Rows.topPanesRow.domain false) (Rows.topPanesSpec.post enc Try.prog Try.f3 false true false false) := by
  refine returnsInHanded_of_change (C := Try.checked) own started (by kernel_rfl) Try.func3
    (ChangeSpec.witness6 (enc := enc) (C := Try.checked) false ⟨#[], #[.slice none 0 0, .int .u8 0, .int .u8 0, .int .u8 0, .string ⟨#[]⟩, .int .u16 0], []⟩ 8 (by kernel_rfl) (by kernel_rfl) (by kernel_rfl) (by kernel_rfl)) ?_
  intro W base args ds gs before hval0 hW hcnd _
  have hval : ∀ (j : Nat) t v, Try.f3.params[j]? = some t → args[j]? = some v → Value.okWide Try.prog W .any base t v := hval0
  have hW' := hW
  obtain ⟨p, q, hA0, hV, rfl, hfz, hnd⟩ := hW
  have hA : DataW.TrodAll enc Try.prog W 0 (fun _ => true) true Try.f3.params.toList args.toList ds p := hA0
  rw [Try.params3] at hA hval
  obtain ⟨v0, vs0, d0, ds0, p0, q0, hargs, rfl, rfl, h0, r0⟩ := trodAll_cons hA
  obtain ⟨v1, vs1, d1, ds1, p1, q1, rfl, rfl, rfl, h1, r1⟩ := trodAll_cons r0
  obtain ⟨v2, vs2, d2, ds2, p2, q2, rfl, rfl, rfl, h2, r2⟩ := trodAll_cons r1
  obtain ⟨v3, vs3, d3, ds3, p3, q3, rfl, rfl, rfl, h3, r3⟩ := trodAll_cons r2
  obtain ⟨v4, vs4, d4, ds4, p4, q4, rfl, rfl, rfl, h4, r4⟩ := trodAll_cons r3
  obtain ⟨v5, vs5, d5, ds5, p5, q5, rfl, rfl, rfl, h5, r5⟩ := trodAll_cons r4
  obtain ⟨rfl, rfl, rfl⟩ := trodAll_nil r5
  obtain rfl : args = #[v0, v1, v2, v3, v4, v5] := by cases args; simp_all
  obtain ⟨rfl, rfl⟩ := trodVars_none hV
  have k0 := h0
  have lt0 : ∀ x ∈ p0, x.block < W.heap.size := by obtain ⟨m, hm⟩ := k0; exact DataW.trod_lt m _ _ _ hm
  obtain ⟨b0, c0, x0, rfl, l0, m0, i0, o0⟩ := open_ats (hval 0 22 v0 rfl rfl) h0
  have k1 := h1
  have lt1 : ∀ x ∈ p1, x.block < W.heap.size := by obtain ⟨m, hm⟩ := k1; exact DataW.trod_lt m _ _ _ hm
  obtain ⟨a1, rfl, rfl, rfl, w1⟩ := open_int Try.underlying5 (hval 1 5 v1 rfl rfl) h1
  have k2 := h2
  have lt2 : ∀ x ∈ p2, x.block < W.heap.size := by obtain ⟨m, hm⟩ := k2; exact DataW.trod_lt m _ _ _ hm
  obtain ⟨a2, rfl, rfl, rfl, w2⟩ := open_int Try.underlying5 (hval 2 5 v2 rfl rfl) h2
  have k3 := h3
  have lt3 : ∀ x ∈ p3, x.block < W.heap.size := by obtain ⟨m, hm⟩ := k3; exact DataW.trod_lt m _ _ _ hm
  obtain ⟨a3, rfl, rfl, rfl, w3⟩ := open_int Try.underlying5 (hval 3 5 v3 rfl rfl) h3
  have k4 := h4
  have lt4 : ∀ x ∈ p4, x.block < W.heap.size := by obtain ⟨m, hm⟩ := k4; exact DataW.trod_lt m _ _ _ hm
  obtain ⟨a4, rfl, rfl, rfl, w4⟩ := open_string Try.underlying9 (hval 4 9 v4 rfl rfl) h4
  have k5 := h5
  have lt5 : ∀ x ∈ p5, x.block < W.heap.size := by obtain ⟨m, hm⟩ := k5; exact DataW.trod_lt m _ _ _ hm
  obtain ⟨a5, rfl, rfl, rfl, w5⟩ := open_int Try.underlying23 (hval 5 23 v5 rfl rfl) h5
  clear hA0 hval0
  refine (walk W b0 c0 x0 l0 m0 i0 o0 a1 w1 a2 w2 a3 w3 a4 w4 a5 w5).mono fun e W' ⟨he, bel⟩ => ?_
  subst he
  exact ⟨_, rfl, _, _, _, [], _, [], hW', trodAll_mk1 (shut_bool Try.underlying4 _), (trodAll_cons_mk (Below.trod laidOut (by kernel_rfl) (of_decide_eq_true (by kernel_rfl)) k0 bel lt0) (trodAll_cons_mk (Below.trod laidOut (by kernel_rfl) (of_decide_eq_true (by kernel_rfl)) k1 bel lt1) (trodAll_cons_mk (Below.trod laidOut (by kernel_rfl) (of_decide_eq_true (by kernel_rfl)) k2 bel lt2) (trodAll_cons_mk (Below.trod laidOut (by kernel_rfl) (of_decide_eq_true (by kernel_rfl)) k3 bel lt3) (trodAll_cons_mk (Below.trod laidOut (by kernel_rfl) (of_decide_eq_true (by kernel_rfl)) k4 bel lt4) (trodAll_cons_mk (Below.trod laidOut (by kernel_rfl) (of_decide_eq_true (by kernel_rfl)) k5 bel lt5) trodAll_mk0)))))), rfl, bel.frame _, fun h => by cases h⟩

theorem over : Rows.topPanesRow.holds Try.pinned (OpenSpec.ofChange Rows.topPanesSpec) :=
  OpenClaim.holds_of_wide 3 Try.f3 rfl rfl rfl rfl rfl rfl rfl ⟨rfl, rfl, rfl, rfl, rfl⟩ rfl rfl rfl rfl rfl (by kernel_rfl) Try.func3 (by kernel_rfl)
    (of_decide_eq_true (by kernel_rfl)) (by unfold Func.isWrapper; first | (rw [if_pos (by decide +kernel)]; kernel_rfl) | (rw [if_neg (by decide +kernel)]; exact ⟨rfl, rfl⟩))
    (fun os started H enc _ => lifted os started H enc)

theorem proved : Rows.TopPanesSaid := over
#print axioms proved
end Go.Proofs.Ytkjcgeaoiabkjaa.topPanes

/- Contracts of package window (May, Ends, Holds) of windows that may be. -/
import Derived.Test.YtkjcgeaoiabkjaaPSum
import Derived.Test.YtkjcgeaoiabkjaaHere
import Derived.Test.YtkjcgeaoiabkjaaMk
namespace Go.Proofs.Ytkjcgeaoiabkjaa
open Go.RowKit Go.MapKept Go.Maps
set_option linter.unusedVariables false
/-- windows that the law asks about -/
structure SpecOk (sz hp wd : Int) : Prop where
  w1 : 1 ≤ wd
  w2 : wd ≤ 1000
  s1 : 1 ≤ sz
  s2 : sz ≤ 1000
  h1 : 1 ≤ hp
  h2 : hp ≤ 1000
  sm : sz.tmod wd = 0
  hm : hp.tmod wd = 0
set_option maxHeartbeats 400000 in
theorem fits_top (x wd : Int) (g : Nat) (w : World) (hc : w.cell? ⟨g, 0, none⟩ = some (.int .i64 wd)) (h1 : 1 ≤ x) (h2 : x ≤ 1000) (w1 : 1 ≤ wd) (w2 : wd ≤ 1000) (hm : x.tmod wd = 0) :
    Calls Try.prog 20 #[.int .i64 x, .pointer (some ⟨g, 0, none⟩)] w fun e w' => e = .returned (.bool true) ∧ w = w' := by
  have t1 : decide (1 ≤ x) = true := decide_eq_true h1
  have t2 : decide (x ≤ 1099511627776) = true := decide_eq_true (by omega)
  have t3 : (wd == 0) = false := by simp; omega
  go_enter Try.func20, Try.ntmps20
  go_wp2_with fail
  go_ret
  exact ⟨rfl, rfl⟩
set_option maxHeartbeats 1000000 in
theorem may_top (sz hp wd : Int) (w : World) (h : SpecOk sz hp wd) :
    Calls Try.prog 7 #[.agg #[.int .i64 sz, .int .i64 hp], .int .i64 wd] w fun e w' => e = .returned (.bool true) ∧ Below w.heap.size w w' := by
  obtain ⟨a1, a2, a3, a4, a5, a6, a7, a8⟩ := h
  have HB : Hid (Below w.heap.size w ((w.alloc (.cells #[.int .i64 sz, .int .i64 hp] 27)).alloc (.cells #[.int .i64 wd] 3))) := Lib.hid (((Below.refl _ _).alloc (Nat.le_refl _) _).alloc (by simp) _)
  have hc : ((w.alloc (.cells #[.int .i64 sz, .int .i64 hp] 27)).alloc (.cells #[.int .i64 wd] 3)).cell? ⟨w.heap.size + 1, 0, none⟩ = some (.int .i64 wd) := by
    simp
  have HF1 := Lib.hid (fits_top sz wd (w.heap.size + 1) _ hc a3 a4 a1 a2 a7)
  have HF2 := Lib.hid (fits_top hp wd (w.heap.size + 1) _ hc a5 a6 a1 a2 a8)
  have t1 : decide (wd < 1) = false := decide_eq_false (by omega)
  have t2 : decide (sz ≤ 4096 * hp) = true := decide_eq_true (by omega)
  have q1 : IntKind.i64.wrap (4096 * hp) = 4096 * hp := IntWalk.i64_in _ (by omega)
  clear hc a7 a8
  go_enter Try.func7, Try.ntmps7
  go_wp2_with fail
  refine HF1.out.mono ?_
  rintro e wx ⟨rfl, rfl⟩
  go_wp2_with fail
  refine HF2.out.mono ?_
  rintro e wx ⟨rfl, rfl⟩
  go_wp2_with fail
  go_ret
  exact ⟨rfl, HB.out⟩
def iC (x : Int) : List Value := [.int .i64 x]
theorem iLen (a : Int) : (iC a).length = 1 := rfl
theorem iOne (a : Int) : ∀ u ∈ iC a, u.oneCell' = true := fun u hu => by
  simp only [iC, List.mem_cons, List.not_mem_nil, or_false] at hu
  subst hu; rfl
/-- ends from one on, so many -/
def endsF (e0 hp : Int) (k : Nat) : List Int := (List.range k).map fun j : Nat => e0 + j * hp
theorem endsF_len (e0 hp : Int) (k : Nat) : (endsF e0 hp k).length = k := by simp [endsF]
theorem endsF_snoc (e0 hp : Int) (k : Nat) : endsF e0 hp (k + 1) = endsF e0 hp k ++ [e0 + k * hp] := by simp [endsF, List.range_succ]
set_option maxRecDepth 100000 in
set_option maxHeartbeats 2000000 in
theorem ends_top (sz hp wd at_ : Int) (w : World) (h : SpecOk sz hp 1) (ha : 0 ≤ at_) (hb : at_ ≤ 100000) :
    Calls Try.prog 23 #[.agg #[.int .i64 sz, .int .i64 hp], .int .i64 at_, .int .i64 (at_ + sz)] w fun e w' => ∃ u k, e = .returned u ∧ MkG 3 1 iC w w' u (endsF ((at_.tdiv hp + 1) * hp) hp k) ∧ at_ + sz < (at_.tdiv hp + 1) * hp + k * hp ∧ k ≤ 1002 := by
  obtain ⟨i0, hi0T, hz0, hz1, hz2⟩ := info_parts infoInt
  have HM := Lib.hid (may_top sz hp 1 (w.alloc (.cells #[.int .i64 sz, .int .i64 hp] 27)) h)
  have HB1 : Hid (Below w.heap.size w (w.alloc (.cells #[.int .i64 sz, .int .i64 hp] 27))) := Lib.hid ((Below.refl _ _).alloc (Nat.le_refl _) _)
  have HX0 := Lib.hid (Bk.new w [.int .i64 sz, .int .i64 hp] 27)
  obtain ⟨a1, a2, a3, a4, a5, a6, a7, a8⟩ := h
  have hd1 : at_.tdiv hp = at_ / hp := Int.tdiv_eq_ediv_of_nonneg ha
  have hd2 : 0 ≤ at_ / hp := Int.ediv_nonneg ha (by omega)
  have hd3 : at_ / hp ≤ at_ := Int.ediv_le_self _ ha
  have hd4 := Int.mul_ediv_add_emod at_ hp
  have hd5 := Int.emod_nonneg at_ (b := hp) (by omega)
  have hd6 := Int.emod_lt_of_pos at_ (b := hp) (by omega)
  have hd7 : (at_ / hp + 1) * hp = hp * (at_ / hp) + hp := by rw [Int.add_mul, Int.one_mul, Int.mul_comm]
  obtain ⟨e0, he0⟩ : ∃ e0, (at_.tdiv hp + 1) * hp = e0 := ⟨_, rfl⟩
  have he1 : at_ < e0 ∧ e0 ≤ at_ + hp := by rw [← he0, hd1, hd7]; omega
  have t1 : decide ((2199023255552 : Int) ≤ at_) = false := decide_eq_false (by omega)
  have hmn : min (at_ + sz) (2199023255552 : Int) = at_ + sz := by omega
  have hmx : max at_ (0 : Int) = at_ := by omega
  have q1 : IntKind.i64.wrap (at_.tdiv hp) = at_.tdiv hp := IntWalk.i64_in _ (by omega)
  have q2 : IntKind.i64.wrap (at_.tdiv hp + 1) = at_.tdiv hp + 1 := IntWalk.i64_in _ (by omega)
  have q3 : IntKind.i64.wrap ((at_.tdiv hp + 1) * hp) = e0 := by rw [he0]; exact IntWalk.i64_in _ (by omega)
  have t0 : (hp == 0) = false := by simp; omega
  rw [he0]
  clear hd1 hd2 hd3 hd4 hd5 hd6 hd7 a7 a8
  have HE0 := Lib.hid he0
  clear he0
  go_enter Try.func23, Try.ntmps23
  go_wp2_with fail
  refine HM.out.mono ?_
  rintro e w1 ⟨rfl, b1⟩
  have HX1 := Lib.hid (HX0.out.bel b1)
  have BW1 := Lib.hid b1
  have x0 : w1.cell? ⟨w.heap.size, 0, none⟩ = some (.int .i64 sz) := HX1.out.cell 0
  have x1 : w1.cell? ⟨w.heap.size, 1, none⟩ = some (.int .i64 hp) := HX1.out.cell 1
  clear b1 HM HX0
  go_wp2_with fail
  go_region
  have HR0 : Hid (MkG 3 1 iC (w.alloc (.cells #[.int .i64 sz, .int .i64 hp] 27)) w1.drew (.slice none 0 0) (endsF e0 hp 0)) := Lib.hid ⟨⟨by simp [endsF], .inl ⟨rfl, rfl⟩⟩, by simp [Value.ownBlock], BW1.out.drew⟩
  have HXD := Lib.hid (HX1.out.bel (Below.refl _ _).drew)
  clear x0 x1 HX1 BW1 q1 q2 q3 hmx
  go_wp2_with fail
  go_loopw [7, 8] (fun u c wr => ∃ k : Nat, c = .int .i64 (e0 + k * hp) ∧ MkG 3 1 iC (w.alloc (.cells #[.int .i64 sz, .int .i64 hp] 27)) wr u (endsF e0 hp k) ∧ Bk wr w.heap.size [.int .i64 sz, .int .i64 hp] 27 ∧ (k = 0 ∨ e0 + (k - 1) * hp ≤ at_ + sz) ∧ k ≤ 1002) (fun _ c _ => (at_ + sz + hp + 1 - intOf c).toNat)
  case atStart => exact ⟨0, by simp, HR0.out, HXD.out, .inl rfl, by omega⟩
  case round =>
    obtain ⟨k, rfl, hmk, hbx, hk1, hk2⟩ := hrel
    clear HR0 HXD
    have hkh : (0 : Int) ≤ (k : Int) * hp := Int.mul_nonneg (by omega) (by omega)
    have hkh2 : (k : Int) * 1 ≤ (k : Int) * hp := Int.mul_le_mul_of_nonneg_left (by omega) (by omega)
    have hkh3 : (k : Int) * hp ≤ 1002 * 1000 := Int.mul_le_mul (by omega) (by omega) (by omega) (by omega)
    have HM := Lib.hid hmk
    have HX := Lib.hid hbx
    obtain ⟨ub, uc, hu, _, _, _⟩ := hmk.read iLen (by omega)
    rw [endsF_len] at hu
    subst hu
    have x1 : wr.cell? ⟨w.heap.size, 1, none⟩ = some (.int .i64 hp) := hbx.cell 1
    have hxl := hbx.lt
    clear hmk hbx
    obtain ⟨c, hc⟩ : ∃ c, e0 + (k : Int) * hp = c := ⟨_, rfl⟩
    have HC := Lib.hid hc
    rw [hc]
    by_cases hlt : c ≤ at_ + sz
    · have t2 : decide (c ≤ at_ + sz) = true := decide_eq_true hlt
      have hk3 : k < 1002 := by omega
      have t3 : decide ((k : Int) < 4096) = true := decide_eq_true (by omega)
      have HA := Lib.hid ((Below.refl wr.heap.size wr).alloc (Nat.le_refl _) (.cells #[.int .i64 c] 3))
      have HIN2 : Hid (InW (wr.alloc (.cells #[.int .i64 c] 3)) (some ⟨wr.heap.size, 0, none⟩) 1 ([c].map iC)) := Lib.hid (.inr ⟨wr.heap.size, 0, rfl, by simp, fun i' c' hc' j u hj => by
        have hb := (Bk.new wr [.int .i64 c] 3).cell j
        match i', hc' with
        | 0, hc' => cases hc'; rw [Nat.zero_mul, Nat.zero_add]; simpa using hb.trans hj⟩)
      have HRW := Lib.hid ((HM.out.bel HA.out).tx)
      have HLN2 : Hid ((endsF e0 hp k).length + [c].length ≤ 1000000) := Lib.hid (by rw [endsF_len]; simp; omega)
      have q4 : IntKind.i64.wrap (c + hp) = c + hp := IntWalk.i64_in _ (by omega)
      clear hc hkh hkh2 hkh3
      go_wp2_with (at_builtin; refine wpList_append_m iLen iOne _ rfl _ _ _ rfl 3 i0 _ 8 Try.underlying34 hi0T hz0 hz1 hz2 rfl (by decide) (by omega) (.slice ub k uc) (endsF e0 hp k) [c] rfl HRW.out (some ⟨wr.heap.size, 0, none⟩) 1 1 rfl rfl HIN2.out HLN2.out ?_; intro v5 w5 o5 f5 h5; have hm5 := (HM.out.bel HA.out).more o5 f5 h5; have hx5 : Bk w5 w.heap.size [.int .i64 sz, .int .i64 hp] 27 := (HX.out.bel HA.out).fr f5 (fun e => by have := HM.out.nw _ e; simp at this; omega); have y1 : w5.cell? ⟨w.heap.size, 1, none⟩ = some (.int .i64 hp) := hx5.cell 1; have HM5 := Lib.hid hm5; have HX5 := Lib.hid hx5; clear hm5 hx5 o5 f5 h5)
      all_goals
        go_wp2_with fail
        go_roundw
        case rel => exact ⟨k + 1, by rw [← HC.out]; have : ((k + 1 : Nat) : Int) * hp = k * hp + hp := by rw [Int.natCast_add, Int.add_mul]; simp
                                     rw [this]; congr 1; omega, by rw [endsF_snoc, HC.out]; exact HM5.out, HX5.out, .inr (by have := HC.out; simp; omega), by omega⟩
        case measure => simp [intOf]; omega
    · have t2 : decide (c ≤ at_ + sz) = false := decide_eq_false hlt
      have HLT := Lib.hid hlt
      clear hc hkh hkh2 hkh3
      go_wp2_with fail
      go_ret
      exact ⟨_, rfl, k, HM.out.from HB1.out, by have := HC.out; have := HLT.out; omega, hk2⟩
end Go.Proofs.Ytkjcgeaoiabkjaa

/- For every input ciceronelaw04.DiskArms returns true, and its arguments read behind the call as before. No conditions. -/
import Derived.Test.YtemfnchiedepoaaDkRep
import Derived.Test.YtemfnchiedepoaaRows
import Derived.ProofKit
import Derived.OpenShut
import Derived.ShutString
import Derived.ChangeOld
import Derived.Below
import Derived.Lib.SmallJoins
namespace Go.Proofs.Ytemfnchiedepoaa.diskArms
open Go.ChangeShapes Go.WideShapes Go.ChangeAt Go.RowKit Go.Joins
open Go.ChangeMaps (open_string shut_string)
set_option linter.unusedVariables false

theorem u8_wf {q : Int} (h : (Lit.int .u8 q).wf = true) : 0 ≤ q ∧ q ≤ 255 := by
  simp only [Lit.wf, Bool.and_eq_true, decide_eq_true_eq] at h
  exact h
theorem i8_wf {q : Int} (h : (Lit.int .i8 q).wf = true) : -128 ≤ q ∧ q ≤ 127 := by
  simp only [Lit.wf, Bool.and_eq_true, decide_eq_true_eq] at h
  exact h
def nG : ByteArray := ⟨#[103]⟩
def fileOf (s : ByteArray) : Fs := if s.size = 0 then [] else [(nF, ⟨s, 0, false⟩)]
/-- behind so many appends -/
def ArmI (f : Int) (i : Nat) (X : Dk) : Prop := ∃ s : ByteArray, X.L = fileOf s ∧ s.size ≤ i ∧ ((f < 0 ∧ X.fuse = -1 ∧ X.down = false ∧ s.size = i) ∨ (0 ≤ f ∧ (i : Int) ≤ f ∧ X.fuse = f - i ∧ X.down = false ∧ s.size = i) ∨ (0 ≤ f ∧ f < i ∧ X.down = true ∧ (s.size : Int) = f + 1))
theorem nf_ok : nameD nF = true := by decide
theorem empty_of {s : ByteArray} (h : s.size = 0) : s = ⟨#[]⟩ := by
  have : s.data.size = 0 := h
  have := Array.eq_empty_of_size_eq_zero this
  cases s; simp_all
theorem get_file (s : ByteArray) : getF (fileOf s) nF = ⟨s, 0, false⟩ := by
  unfold fileOf
  split
  · rename_i h; rw [empty_of h]; rfl
  · unfold getF; rw [get_one]; rfl
theorem put_file (s b : ByteArray) (hb : b.size = 1) : fput (fileOf s) nF { getF (fileOf s) nF with s := catB (getF (fileOf s) nF).s b } = fileOf (catB s b) := by
  rw [get_file]
  have hc : (catB s b).size ≠ 0 := by rw [size_cat]; omega
  rw [show fileOf (catB s b) = [(nF, ⟨catB s b, 0, false⟩)] from if_neg hc]
  unfold fileOf
  split
  · rw [fput_nil]
  · rw [fput_one]
theorem sum_file (s : ByteArray) : fsum (fileOf s) = s.size := by
  unfold fileOf
  split
  · rename_i h; rw [h]; rfl
  · simp [fsum]
theorem len_file (s : ByteArray) : (fileOf s).length ≤ 1 := by unfold fileOf; split <;> simp
theorem full_file {X : Dk} {s : ByteArray} (h : X.L = fileOf s) (hs : s.size ≤ 1000) (b : ByteArray) (hb : b.size = 1) : fullB X nF (fsum X.L + b.size) = false := by
  unfold fullB
  rw [h, sum_file]
  have := len_file s
  rw [decide_eq_false (by omega : ¬ 4194304 < s.size + b.size), decide_eq_false (by omega : ¬ 4096 ≤ (fileOf s).length)]
  simp
theorem arm_step {f : Int} {i : Nat} {X : Dk} (h : ArmI f i X) (hi : i ≤ 300) (b : ByteArray) (hb : b.size = 1) :
    ArmI f (i + 1) (stepA X nF b).1 ∧ (stepA X nF b).2 = (if f < 0 ∨ (i : Int) < f then 0 else 8) := by
  obtain ⟨s, hL, hsi, h⟩ := h
  have hf := full_file hL (by omega) b hb
  have hsz : (catB s b).size = s.size + 1 := by rw [size_cat]; omega
  rcases h with ⟨h1, h2, h3, h4⟩ | ⟨h1, h2, h3, h4, h5⟩ | ⟨h1, h2, h3, h4⟩
  · have e : stepA X nF b = ({ burn X with L := fput X.L nF { getF X.L nF with s := catB (getF X.L nF).s b } }, 0) := by
      unfold stepA
      rw [if_neg (by simp [h3]), if_neg (by simp [nf_ok]), if_neg (by simp [hf]), if_neg (by omega)]
    rw [e, if_pos (.inl h1)]
    refine ⟨⟨catB s b, ?_, by omega, .inl ⟨h1, ?_, ?_, by omega⟩⟩, rfl⟩
    · show fput X.L nF _ = _
      rw [hL]; exact put_file s b hb
    · show (burn X).fuse = -1
      unfold burn; rw [if_neg (by omega)]; exact h2
    · show (burn X).down = false
      unfold burn; rw [if_neg (by omega)]; exact h3
  · by_cases h0 : X.fuse = 0
    · have e : stepA X nF b = ({ X with L := fput X.L nF { getF X.L nF with s := catB (getF X.L nF).s b }, down := true }, 8) := by
        unfold stepA
        rw [if_neg (by simp [h4]), if_neg (by simp [nf_ok]), if_neg (by simp [hf]), if_pos h0]
      rw [e, if_neg (by omega)]
      refine ⟨⟨catB s b, ?_, by omega, .inr (.inr ⟨h1, by omega, rfl, by omega⟩)⟩, rfl⟩
      show fput X.L nF _ = _
      rw [hL]; exact put_file s b hb
    · have e : stepA X nF b = ({ burn X with L := fput X.L nF { getF X.L nF with s := catB (getF X.L nF).s b } }, 0) := by
        unfold stepA
        rw [if_neg (by simp [h4]), if_neg (by simp [nf_ok]), if_neg (by simp [hf]), if_neg h0]
      rw [e, if_pos (.inr (by omega))]
      refine ⟨⟨catB s b, ?_, by omega, .inr (.inl ⟨h1, by omega, ?_, ?_, by omega⟩)⟩, rfl⟩
      · show fput X.L nF _ = _
        rw [hL]; exact put_file s b hb
      · show (burn X).fuse = _
        unfold burn; rw [if_pos (by omega)]; show X.fuse - 1 = _; omega
      · show (burn X).down = false
        unfold burn; rw [if_pos (by omega)]; exact h4
  · have e : stepA X nF b = (X, 8) := by unfold stepA; rw [if_pos h3]
    rw [e, if_neg (by omega)]
    exact ⟨⟨s, hL, by omega, .inr (.inr ⟨h1, by omega, h3, h4⟩)⟩, rfl⟩
theorem arm_first (f : Int) : ArmI f 0 (armD newD f) := by
  refine ⟨⟨#[]⟩, rfl, Nat.le_refl _, ?_⟩
  by_cases h : f < 0
  · exact .inl ⟨h, by show (if f < 0 then -1 else f) = -1; rw [if_pos h], rfl, rfl⟩
  · exact .inr (.inl ⟨by omega, by omega, by show (if f < 0 then -1 else f) = _; rw [if_neg h]; omega, rfl, rfl⟩)
theorem arm_down {f : Int} {i : Nat} {X : Dk} (h : ArmI f i X) : X.down = (decide (0 ≤ f) && decide (f < i)) := by
  obtain ⟨s, hL, hsi, h⟩ := h
  rcases h with ⟨h1, h2, h3, h4⟩ | ⟨h1, h2, h3, h4, h5⟩ | ⟨h1, h2, h3, h4⟩
  · rw [h3, decide_eq_false (by omega : ¬ 0 ≤ f)]; rfl
  · rw [h4, decide_eq_false (by omega : ¬ f < i)]; simp
  · rw [h3, decide_eq_true h1, decide_eq_true h2]; rfl
theorem arm_read {X : Dk} (h : X.down = true) (n : ByteArray) : readD X n = (⟨#[]⟩, 8) := by unfold readD; rw [if_pos h]
theorem crash_file {s : ByteArray} (hs : s.size ≤ 1000) : crashL [1000] 0 (fileOf s) = if s.size = 0 then [] else [(nF, ⟨s, s.size, true⟩)] := by
  unfold fileOf
  split
  · rfl
  · rename_i h
    have e : keepN ⟨s, 0, false⟩ [1000] 0 = s.size := by
      unfold keepN
      simp; omega
    simp only [crashL, e, crashF, Nat.zero_add, cut_all]
    simp [h]
theorem arm_crash {f : Int} {i : Nat} {X : Dk} (h : ArmI f i X) (hi : i ≤ 300) : ∃ s : ByteArray, ((s.size : Int) = if 0 ≤ f ∧ f < i then f + 1 else i) ∧ (crashD X [1000]).down = false ∧ (stepS (crashD X [1000]) nG) = (crashD X [1000], 6) ∧ (readD (crashD X [1000]) nF).1 = s := by
  obtain ⟨s, hL, hsi, h⟩ := h
  refine ⟨s, ?_, rfl, ?_, ?_⟩
  · rcases h with ⟨h1, h2, h3, h4⟩ | ⟨h1, h2, h3, h4, h5⟩ | ⟨h1, h2, h3, h4⟩
    · rw [if_neg (by omega), h4]
    · rw [if_neg (by omega), h5]
    · rw [if_pos (by omega), h4]
  all_goals
    have e : crashD X [1000] = ⟨if s.size = 0 then [] else [(nF, ⟨s, s.size, true⟩)], -1, false⟩ := by
      unfold crashD; rw [hL, crash_file (by omega)]
    rw [e]
  · have hg : mget (if s.size = 0 then [] else [(nF, (⟨s, s.size, true⟩ : Fl))]) nG = none := by
      split
      · rfl
      · simp only [mget]; rw [if_neg (by decide)]
    unfold stepS
    rw [if_neg (by simp), if_neg (by rw [show nameD nG = true by decide]; simp)]
    exact if_pos (congrArg Option.isNone hg)
  · unfold readD
    rw [if_neg (by simp), if_neg (by simp [nf_ok])]
    by_cases h0 : s.size = 0
    · simp only [h0, if_true, mget]; exact (empty_of h0).symm
    · simp only [h0, if_false, get_one]
theorem in_one {w : World} {i : Nat} (hi : i < 256) {e : TypeId} : ByIn (w.alloc (.cells #[.int .u8 (i : Int)] e)) (some ⟨w.heap.size, 0, none⟩) ⟨#[UInt8.ofNat i]⟩ := by
  refine in_mark (fr := (0, 0)) ?_
  show [Value.int .u8 (i : Int)] = [byV (UInt8.ofNat i)]
  unfold byV
  rw [UInt8.toNat_ofNat_of_lt' (by simpa using hi)]
set_option maxRecDepth 100000 in
set_option maxHeartbeats 1000000 in
theorem walk (f : Int) (wf : (Lit.int .i8 f).wf = true) (n : Int) (wn : (Lit.int .u8 n).wf = true) (w : World) :
    Calls Try.prog 3 #[.int .i8 f, .int .u8 n] w fun e w' => e = .returned (.bool true) ∧ Below w.heap.size w w' := by
  have hf := i8_wf wf
  have hn := u8_wf wn
  have AW := Lib.hid (fun W => awake_any W)
  have HN := Lib.hid (new_own w w (Below.refl _ _))
  obtain ⟨m, rfl⟩ : ∃ m : Nat, n = m := ⟨n.toNat, by omega⟩
  clear wf wn
  go_enter Try.func3, Try.ntmps3
  go_wp2_with fail
  refine HN.out.mono ?_
  rintro e w1 ⟨d, rfl, hd1⟩
  have HAR := Lib.hid (arm_own hd1 f (by unfold I64; omega))
  clear hd1 HN
  go_wp2_with fail
  refine HAR.out.mono ?_
  rintro e w2 ⟨rfl, hd2⟩
  have H2 : Hid (∃ X, DkOwn w w2 d X ∧ ArmI f 0 X) := Lib.hid ⟨_, hd2, arm_first f⟩
  clear hd2 HAR
  go_wp2_with fail
  go_loopw [23] (fun c wr => ∃ i : Nat, i ≤ m ∧ c = .int .i64 i ∧ ∃ X, DkOwn w wr d X ∧ ArmI f i X) (fun c _ => m - (intOf c).toNat)
  case atStart => exact ⟨0, by omega, rfl, H2.out⟩
  case round =>
    obtain ⟨i, hi, rfl, X, hd, ha⟩ := hrel
    clear H2
    by_cases hlt : i < m
    · have hin : ByIn (wr.alloc (.cells #[.int .u8 (i : Int)] 5)) (some ⟨wr.heap.size, 0, none⟩) ⟨#[UInt8.ofNat i]⟩ := in_one (by omega)
      obtain ⟨k1, k2⟩ := arm_step ha (by omega) ⟨#[UInt8.ofNat i]⟩ rfl
      have hA := append_own hd ((Below.refl _ _).alloc (Nat.le_refl _) (.cells #[.int .u8 (i : Int)] 5)) nF ⟨#[UInt8.ofNat i]⟩ (some ⟨wr.heap.size, 0, none⟩) 1 (by decide) hin (fun k o hk => since hk) (by show 1 ≤ 5000000; omega) 1 rfl
      rw [k2] at hA
      have HK := Lib.hid k1
      clear hin k1 k2 hd ha
      have hi0 : (0 : Int) ≤ (i : Int) := by omega
      have hi1 : (i : Int) < (m : Int) := by omega
      by_cases c : f < 0
      · rw [if_pos (.inl c)] at hA
        have HA := Lib.hid hA
        clear hA
        have t1 : decide (f < 0) = true := decide_eq_true c
        go_wp2_with fail
        refine HA.out.mono ?_
        rintro e w3 ⟨rfl, hd3⟩
        have H3 := Lib.hid hd3
        clear hd3 HA
        go_wp2_with fail
        go_roundw
        case rel => exact ⟨i + 1, by omega, by go_num, _, H3.out, HK.out⟩
        case measure => simp [intOf]; omega
      · have t1 : decide (f < 0) = false := decide_eq_false c
        by_cases c2 : (i : Int) < f
        · rw [if_pos (.inr c2)] at hA
          have HA := Lib.hid hA
          clear hA
          have t2 : decide ((i : Int) < f) = true := decide_eq_true c2
          go_wp2_with fail
          refine HA.out.mono ?_
          rintro e w3 ⟨rfl, hd3⟩
          have H3 := Lib.hid hd3
          clear hd3 HA
          go_wp2_with fail
          go_roundw
          case rel => exact ⟨i + 1, by omega, by go_num, _, H3.out, HK.out⟩
          case measure => simp [intOf]; omega
        · rw [if_neg (by omega)] at hA
          have HA := Lib.hid hA
          clear hA
          have t2 : decide ((i : Int) < f) = false := decide_eq_false c2
          go_wp2_with fail
          refine HA.out.mono ?_
          rintro e w3 ⟨rfl, hd3⟩
          have H3 := Lib.hid hd3
          clear hd3 HA
          go_wp2_with fail
          go_roundw
          case rel => exact ⟨i + 1, by omega, by go_num, _, H3.out, HK.out⟩
          case measure => simp [intOf]; omega
    · obtain rfl : i = m := by omega
      have hdw := arm_down ha
      obtain ⟨s, hs1, hs2, hs3, hs4⟩ := arm_crash ha (by omega)
      have HDW := Lib.hid (down_own hd)
      have HRD := Lib.hid (read_own hd nF (by decide))
      rw [hdw] at HDW
      have HS1 := Lib.hid hs1
      have HS2 := Lib.hid hs2
      have HS3 := Lib.hid hs3
      have HS4 := Lib.hid hs4
      have HDN := Lib.hid hdw
      clear ha hdw hs1 hs2 hs3 hs4 hd
      have tail : True := trivial
      by_cases c : 0 ≤ f ∧ f < (i : Int)
      · obtain ⟨c1, c2⟩ := c
        have t1 : decide (0 ≤ f) = true := decide_eq_true c1
        have t2 : decide (f < (i : Int)) = true := decide_eq_true c2
        rw [t1, t2] at HDW HDN
        have hR := HRD.out
        rw [arm_read HDN.out] at hR
        have HR := Lib.hid hR
        rw [if_pos ⟨c1, c2⟩] at HS1
        have hs1 := HS1.out
        clear hR HRD
        go_wp2_with fail
        refine HDW.out.mono ?_
        rintro e wx ⟨rfl, rfl⟩
        clear HDW
        go_wp2_with fail
        refine HR.out.mono ?_
        rintro e w4 ⟨u4, rfl, m4, hd4⟩
        have hin : IntIn (w4.alloc (.cells #[.int .i64 1000] 3)) (some ⟨w4.heap.size, 0, none⟩) [1000] := .inr ⟨w4.heap.size, 0, rfl, by simp, fun i c hi j u hj => by
          have hb := Bk.new w4 [.int .i64 1000] 3
          match i, hi with
          | 0, hi => cases hi; match j, hj with
                     | 0, hj => cases hj; exact hb.cell 0⟩
        have HC := Lib.hid (crash_own hd4 ((Below.refl _ _).alloc (Nat.le_refl _) (.cells #[.int .i64 1000] 3)) [1000] (by intro x hx; simp at hx; subst hx; unfold I64; omega) (by decide) (some ⟨w4.heap.size, 0, none⟩) 1 hin (.inr fun k o hk => .inr (since hk)) 1 rfl)
        clear hd4 hin m4 HR
        go_wp2_with fail
        refine HC.out.mono ?_
        rintro e w5 ⟨rfl, hd5⟩
        have HD5 := Lib.hid (down_own hd5)
        have HSY := Lib.hid (sync_own hd5 nG (by decide))
        rw [HS2.out] at HD5
        rw [HS3.out] at HSY
        clear hd5 HC
        go_wp2_with fail
        refine HD5.out.mono ?_
        rintro e wx ⟨rfl, rfl⟩
        clear HD5
        go_wp2_with fail
        refine HSY.out.mono ?_
        rintro e w6 ⟨rfl, hd6⟩
        have HR6 := Lib.hid (read_own hd6 nF (by decide))
        rw [HS4.out] at HR6
        clear hd6 HSY
        go_wp2_with fail
        refine HR6.out.mono ?_
        rintro e w7 ⟨u7, rfl, m7, hd7⟩
        obtain ⟨b7, c7, rfl, z7, z7', _⟩ := m7.sl
        unfold maxLen at z7'
        have HB7 := Lib.hid hd7
        clear hd7 HR6 m7
        have e7 : ((s.size : Int) == f + 1) = true := by simpa using hs1
        go_wp2_with fail
        refine (AW.out _).mono ?_
        rintro e w8 ⟨rfl, b8⟩
        have HB := Lib.hid (HB7.out.bel b8).bl
        clear b8
        go_wp2_with fail
        go_ret
        exact ⟨rfl, HB.out⟩
      · have HD0 : Hid ((decide (0 ≤ f) && decide (f < (i : Int))) = false) := Lib.hid (by
          by_cases c1 : 0 ≤ f
          · rw [decide_eq_false (fun h => c ⟨c1, h⟩ : ¬ f < (i : Int))]; simp
          · rw [decide_eq_false c1]; rfl)
        rw [HD0.out] at HDW
        rw [if_neg c] at HS1
        have hs1 := HS1.out
        have t12 : decide (0 ≤ f) = false ∨ (decide (0 ≤ f) = true ∧ decide (f < (i : Int)) = false) := by
          by_cases c1 : 0 ≤ f
          · exact .inr ⟨decide_eq_true c1, decide_eq_false (fun h => c ⟨c1, h⟩)⟩
          · exact .inl (decide_eq_false c1)
        rcases t12 with t1 | ⟨t1, t2⟩
        all_goals
          go_wp2_with fail
          refine HDW.out.mono ?_
          rintro e wx ⟨rfl, rfl⟩
          clear HDW
          go_wp2_with fail
          refine HRD.out.mono ?_
          rintro e w4 ⟨u4, rfl, m4, hd4⟩
          have hin : IntIn (w4.alloc (.cells #[.int .i64 1000] 3)) (some ⟨w4.heap.size, 0, none⟩) [1000] := .inr ⟨w4.heap.size, 0, rfl, by simp, fun i c hi j u hj => by
            have hb := Bk.new w4 [.int .i64 1000] 3
            match i, hi with
            | 0, hi => cases hi; match j, hj with
                       | 0, hj => cases hj; exact hb.cell 0⟩
          have HC := Lib.hid (crash_own hd4 ((Below.refl _ _).alloc (Nat.le_refl _) (.cells #[.int .i64 1000] 3)) [1000] (by intro x hx; simp at hx; subst hx; unfold I64; omega) (by decide) (some ⟨w4.heap.size, 0, none⟩) 1 hin (.inr fun k o hk => .inr (since hk)) 1 rfl)
          clear hd4 hin m4 HRD
          generalize (readD X nF).2 = rr
          go_wp2_with fail
          refine HC.out.mono ?_
          rintro e w5 ⟨rfl, hd5⟩
          have HD5 := Lib.hid (down_own hd5)
          have HSY := Lib.hid (sync_own hd5 nG (by decide))
          rw [HS2.out] at HD5
          rw [HS3.out] at HSY
          clear hd5 HC
          go_wp2_with fail
          refine HD5.out.mono ?_
          rintro e wx ⟨rfl, rfl⟩
          clear HD5
          go_wp2_with fail
          refine HSY.out.mono ?_
          rintro e w6 ⟨rfl, hd6⟩
          have HR6 := Lib.hid (read_own hd6 nF (by decide))
          rw [HS4.out] at HR6
          clear hd6 HSY
          go_wp2_with fail
          refine HR6.out.mono ?_
          rintro e w7 ⟨u7, rfl, m7, hd7⟩
          obtain ⟨b7, c7, rfl, z7, z7', _⟩ := m7.sl
          unfold maxLen at z7'
          have HB7 := Lib.hid hd7
          clear hd7 HR6 m7
          have e7 : ((s.size : Int) == (i : Int)) = true := by simpa using hs1
          have e8 : s.size = i := by omega
          go_wp2_with fail
          refine (AW.out _).mono ?_
          rintro e w8 ⟨rfl, b8⟩
          have HB := Lib.hid (HB7.out.bel b8).bl
          clear b8
          go_wp2_with fail
          go_ret
          exact ⟨rfl, HB.out⟩

theorem own : ownKnob Try.prog.godebug = none := by kernel_rfl
theorem laidOut : laidOutB Try.prog = true := by kernel_rfl

set_option maxRecDepth 100000 in
theorem lifted (os : Os) (started : os.Started) (H : Type) (enc : TypeId × Value → H) :
    ReturnsInHanded {} Try.checked os 3 .any (Rows.diskArmsSpec.pre6 enc Try.prog Try.f3 Rows.diskArmsRow.domain false) (Rows.diskArmsSpec.post enc Try.prog Try.f3 false true false false) := by
  refine returnsInHanded_of_change (C := Try.checked) own started (by kernel_rfl) Try.func3
    (ChangeSpec.witness6 (enc := enc) (C := Try.checked) false ⟨#[], #[.int .i8 0, .int .u8 0], []⟩ 8 (by kernel_rfl) (by kernel_rfl) (by kernel_rfl) (by kernel_rfl)) ?_
  intro W base args ds gs before hval0 hW hcnd _
  have hval : ∀ (j : Nat) t v, Try.f3.params[j]? = some t → args[j]? = some v → Value.okWide Try.prog W .any base t v := hval0
  have hW' := hW
  obtain ⟨p, q, hA0, hV, rfl, hfz, hnd⟩ := hW
  have hA : DataW.TrodAll enc Try.prog W 0 (fun _ => true) true Try.f3.params.toList args.toList ds p := hA0
  rw [Try.params3] at hA hval
  obtain ⟨v0, vs0, d0, ds0, p0, q0, hargs, rfl, rfl, h0, r0⟩ := trodAll_cons hA
  obtain ⟨v1, vs1, d1, ds1, p1, q1, rfl, rfl, rfl, h1, r1⟩ := trodAll_cons r0
  obtain ⟨rfl, rfl, rfl⟩ := trodAll_nil r1
  obtain rfl : args = #[v0, v1] := by cases args; simp_all
  obtain ⟨rfl, rfl⟩ := trodVars_none hV
  have k0 := h0
  have lt0 : ∀ x ∈ p0, x.block < W.heap.size := by obtain ⟨m, hm⟩ := k0; exact DataW.trod_lt m _ _ _ hm
  obtain ⟨a0, rfl, rfl, rfl, w0⟩ := open_int Try.underlying22 (hval 0 22 v0 rfl rfl) h0
  have k1 := h1
  have lt1 : ∀ x ∈ p1, x.block < W.heap.size := by obtain ⟨m, hm⟩ := k1; exact DataW.trod_lt m _ _ _ hm
  obtain ⟨a1, rfl, rfl, rfl, w1⟩ := open_int Try.underlying5 (hval 1 5 v1 rfl rfl) h1
  clear hA0 hval0
  refine (walk a0 w0 a1 w1 W).mono fun e W' ⟨he, bel⟩ => ?_
  subst he
  exact ⟨_, rfl, _, _, _, [], _, [], hW', trodAll_mk1 (shut_bool Try.underlying4 _), (trodAll_cons_mk (Below.trod laidOut (by kernel_rfl) (of_decide_eq_true (by kernel_rfl)) k0 bel lt0) (trodAll_cons_mk (Below.trod laidOut (by kernel_rfl) (of_decide_eq_true (by kernel_rfl)) k1 bel lt1) trodAll_mk0)), rfl, bel.frame _, fun h => by cases h⟩

theorem over : Rows.diskArmsRow.holds Try.pinned (OpenSpec.ofChange Rows.diskArmsSpec) :=
  OpenClaim.holds_of_wide 3 Try.f3 rfl rfl rfl rfl rfl rfl rfl ⟨rfl, rfl, rfl, rfl, rfl⟩ rfl rfl rfl rfl rfl (by kernel_rfl) Try.func3 (by kernel_rfl)
    (of_decide_eq_true (by kernel_rfl)) (by unfold Func.isWrapper; first | (rw [if_pos (by decide +kernel)]; kernel_rfl) | (rw [if_neg (by decide +kernel)]; exact ⟨rfl, rfl⟩))
    (fun os started H enc _ => lifted os started H enc)

theorem proved : Rows.DiskArmsSaid := over
#print axioms proved
end Go.Proofs.Ytemfnchiedepoaa.diskArms

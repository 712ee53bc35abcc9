/- symMerge: the split, and the two halves. -/
import Derived.Test.YthkdcbmcknndnaaVSym1
namespace Go.Proofs.Ythkdcbmcknndnaa
open Go.RowKit Go.ChangeShapes Go.WideShapes
set_option linter.unusedVariables false
set_option linter.unusedSimpArgs false
namespace Rk
/-- the search for the split: u stands at a, v behind it at m -/
structure Mid (u v : List Rw) (a m mid st r : Nat) : Prop where
  ast : a ≤ st
  sr : st ≤ r
  rm : r ≤ m
  rmid : r ≤ mid
  vm : mid ≤ st + v.length
  lo : ∀ q e q' e', u[q]? = some e → v[q']? = some e' → a + q < st → mid ≤ q' + st → ltRw e' e = false
  hi : ∀ q e q' e', u[q]? = some e → v[q']? = some e' → r ≤ a + q → q' + r < mid → ltRw e e' = false
theorem Mid.up {u v : List Rw} {a m mid st r c q q' : Nat} {e e' : Rw} (H : Mid u v a m mid st r) (hu : Srt ltRw u) (hv : Srt ltRw v) (h1 : st ≤ c) (h2 : c < r) (hq : a + q = c) (hq' : q' + c + 1 = mid) (he : u[q]? = some e) (he' : v[q']? = some e') (hl : ltRw e' e = false) : Mid u v a m mid (c + 1) r :=
  ⟨by have := H.ast; omega, h2, H.rm, H.rmid, by have := H.vm; omega, fun p f p' f' hf hf' k1 k2 => pre.tr f e f' (hu.le (by omega) hf he) (pre.tr e e' f' hl (hv.le (by omega) he' hf')), H.hi⟩
theorem Mid.down {u v : List Rw} {a m mid st r c q q' : Nat} {e e' : Rw} (H : Mid u v a m mid st r) (hu : Srt ltRw u) (hv : Srt ltRw v) (h1 : st ≤ c) (h2 : c < r) (hq : a + q = c) (hq' : q' + c + 1 = mid) (he : u[q]? = some e) (he' : v[q']? = some e') (hl : ltRw e' e = true) : Mid u v a m mid st c :=
  ⟨H.ast, h1, by have := H.rm; omega, by have := H.rmid; omega, H.vm, H.lo, fun p f p' f' hf hf' k1 k2 => pre.tr f' e f (pre.tr f' e' e (hv.le (by omega) hf' he') (pre.as _ _ hl)) (hu.le (by omega) he hf)⟩
theorem Mid.split {u v : List Rw} {a m mid s : Nat} (H : Mid u v a m mid s s) {z1 z2 : List Rw} (hu : Srt ltRw u) (hv : Srt ltRw v) (p1 : z1.Perm (u.take (s - a) ++ v.take (mid - s))) (p2 : z2.Perm (u.drop (s - a) ++ v.drop (mid - s))) (s1 : Srt ltRw z1) (s2 : Srt ltRw z2) :
    Srt ltRw (z1 ++ z2) ∧ (z1 ++ z2).Perm (u ++ v) := by
  have h := merge_step (hu.part (s - a)) (hv.part (mid - s)) (fun x hx y hy => by
    obtain ⟨q, k1, k2⟩ := mem_take_get hx
    obtain ⟨q', k3, k4⟩ := mem_drop_get hy
    exact H.lo q x q' y k2 k4 (by omega) (by omega)) (fun y hy x hx => by
    obtain ⟨q', k1, k2⟩ := mem_take_get hy
    obtain ⟨q, k3, k4⟩ := mem_drop_get hx
    exact H.hi q x q' y k4 k2 (by omega) (by omega)) p1 p2 s1 s2
  rw [List.take_append_drop, List.take_append_drop] at h
  exact h
/-- the contract of symMerge, for parts of d elements together at most -/
def SymC (d : Nat) : Prop := ∀ (w : World) (b : Nat) (sp : List Value) (x u v y : List Rw) (n cap a m bb : Nat), Bk w b ((x ++ (u ++ (v ++ y))).flatMap rwC ++ sp) 24 → n = x.length + u.length + v.length + y.length →
    a = x.length → m = x.length + u.length → bb = x.length + u.length + v.length → 1 ≤ u.length → 1 ≤ v.length → u.length + v.length ≤ d → (∀ e ∈ u ++ v, Ok e) → Srt ltRw u → Srt ltRw v → n ≤ 1000 → n ≤ cap → cap ≤ maxLen →
    Calls Try.prog 30 #[.slice (some ⟨b, 0, none⟩) n cap, .int .i64 a, .int .i64 m, .int .i64 bb, .func (.func 14) #[] #[]] w fun e w' => e = .returned (.tuple #[]) ∧ Sorted w b sp x (u ++ v) y w'
theorem SymC.use {d : Nat} (h : SymC d) (w : World) (b : Nat) (sp : List Value) (x u v y : List Rw) (n cap a m bb : Nat) (h1 : Bk w b ((x ++ (u ++ (v ++ y))).flatMap rwC ++ sp) 24) (h2 : n = x.length + u.length + v.length + y.length)
    (h3 : a = x.length) (h4 : m = x.length + u.length) (h5 : bb = x.length + u.length + v.length) (h6 : 1 ≤ u.length) (h7 : 1 ≤ v.length) (h8 : u.length + v.length ≤ d) (h9 : ∀ e ∈ u ++ v, Ok e) (h10 : Srt ltRw u) (h11 : Srt ltRw v) (h12 : n ≤ 1000) (h13 : n ≤ cap) (h14 : cap ≤ maxLen) :
    Calls Try.prog 30 #[.slice (some ⟨b, 0, none⟩) n cap, .int .i64 a, .int .i64 m, .int .i64 bb, .func (.func 14) #[] #[]] w fun e w' => e = .returned (.tuple #[]) ∧ Sorted w b sp x (u ++ v) y w' :=
  h w b sp x u v y n cap a m bb h1 h2 h3 h4 h5 h6 h7 h8 h9 h10 h11 h12 h13 h14
set_option maxHeartbeats 16000000 in
set_option maxRecDepth 100000 in
theorem sym_mid (d : Nat) (IH : SymC d) (w : World) (b : Nat) (sp : List Value) (x u v y : List Rw) (n cap a m bb : Nat) (h : Bk w b ((x ++ (u ++ (v ++ y))).flatMap rwC ++ sp) 24) (hn : n = x.length + u.length + v.length + y.length) (hu2 : 2 ≤ u.length) (hv2 : 2 ≤ v.length) (hd : u.length + v.length ≤ d + 1)
    (ha : a = x.length) (hm : m = x.length + u.length) (hb : bb = x.length + u.length + v.length) (hok : ∀ e ∈ u ++ v, Ok e) (hu : Srt ltRw u) (hv : Srt ltRw v) (h1000 : n ≤ 1000) (hcap : n ≤ cap) (hmax : cap ≤ maxLen) :
    Calls Try.prog 30 #[.slice (some ⟨b, 0, none⟩) n cap, .int .i64 a, .int .i64 m, .int .i64 bb, .func (.func 14) #[] #[]] w fun e w' => e = .returned (.tuple #[]) ∧ Sorted w b sp x (u ++ v) y w' := by
  have HIH := Lib.hid IH
  have H0 := Lib.hid (SW.start h)
  have HOK := Lib.hid hok
  have HU := Lib.hid hu
  have HV := Lib.hid hv
  have HMX := Lib.hid hmax
  obtain ⟨mid, hmid⟩ : ∃ mid, mid = (a + bb) / 2 := ⟨_, rfl⟩
  obtain ⟨N, hN⟩ : ∃ N, N = mid + m := ⟨_, rfl⟩
  have HQ := Lib.hid (And.intro hn (And.intro ha (And.intro hm (And.intro hb (And.intro hmid (And.intro hN hd))))))
  unfold maxLen at hmax
  have q1 : a + 2 ≤ m := by omega
  have q2 : m + 2 ≤ bb := by omega
  have q3 : bb ≤ n := by omega
  have q4 : (((m : Int) - a) == 1) = false := by simp; omega
  have q5 : (((bb : Int) - m) == 1) = false := by simp; omega
  have q6 : ((a : Int) + (bb : Int)) / 2 = (mid : Int) := by omega
  have q7 : (mid : Int) + (m : Int) = (N : Int) := by omega
  have HGU : Hid (∀ q e, u[q]? = some e → (x ++ (u ++ (v ++ y)))[a + q]? = some e) := Lib.hid (fun q e he => by
    rw [ha, List.getElem?_append_right (by omega), Nat.add_sub_cancel_left, List.getElem?_append_left (List.getElem?_eq_some_iff.1 he).1]; exact he)
  have HGV : Hid (∀ q e, v[q]? = some e → (x ++ (u ++ (v ++ y)))[m + q]? = some e) := Lib.hid (fun q e he => by
    rw [hm, List.getElem?_append_right (by omega), show x.length + u.length + q - x.length = u.length + q by omega, List.getElem?_append_right (by omega), Nat.add_sub_cancel_left, List.getElem?_append_left (List.getElem?_eq_some_iff.1 he).1]; exact he)
  have HUL := Lib.hid (And.intro hu2 hv2)
  have r1 : a ≤ mid := by omega
  have r2 : mid ≤ bb := by omega
  have r3 : N ≤ 2000 := by omega
  have r4 : m ≤ N := by omega
  have r5 : mid ≤ N := by omega
  have r6 : a + 2 ≤ mid := by omega
  have r7 : mid + 2 ≤ bb := by omega
  clear IH h hn ha hm hb hok hu hv hu2 hv2 hd hmid hN
  go_enter Try.func30, Try.ntmps30
  go_upto_if 140 with fail
  go_cut [20, 21] (fun s20 s21 wx => ∃ st r : Nat, s20 = .int .i64 st ∧ s21 = .int .i64 r ∧ w = wx ∧ Hid (Mid u v a m mid st r))
  case first =>
    by_cases hmm : mid < m
    · obtain ⟨st, hst⟩ : ∃ st, st = N - bb := ⟨_, rfl⟩
      have k1 : (N : Int) - (bb : Int) = (st : Int) := by have := HQ.out.2; omega
      have k2 : (mid : Int) < (m : Int) := by omega
      have k3 : decide ((mid : Int) < (m : Int)) = true := decide_eq_true k2
      have HM : Hid (Mid u v a m mid st mid) := Lib.hid (by
        have hq := HQ.out.2
        refine ⟨by omega, by omega, by omega, Nat.le_refl _, by omega, fun q e q' e' he he' c1 c2 => ?_, fun q e q' e' he he' c1 c2 => ?_⟩
        · have := (List.getElem?_eq_some_iff.1 he').1; omega
        · omega)
      clear hst hmm
      go_wp2_with fail
      go_meet
      exact ⟨st, mid, rfl, rfl, rfl, HM⟩
    · have k2 : ¬ (mid : Int) < (m : Int) := by omega
      have k3 : decide ((mid : Int) < (m : Int)) = false := decide_eq_false k2
      have HM : Hid (Mid u v a m mid a m) := Lib.hid (by
        have hq := HQ.out.2
        refine ⟨Nat.le_refl _, by omega, Nat.le_refl _, by omega, by omega, fun q e q' e' he he' c1 c2 => ?_, fun q e q' e' he he' c1 c2 => ?_⟩
        · omega
        · have := (List.getElem?_eq_some_iff.1 he).1; omega)
      clear hmm
      go_wp2_with fail
      go_meet
      exact ⟨a, m, rfl, rfl, rfl, HM⟩
  case rest =>
    obtain ⟨st0, r0, rfl, rfl, rfl, HM0⟩ := hcut
    obtain ⟨P, hP⟩ : ∃ P, P + 1 = N := ⟨N - 1, by omega⟩
    have q8 : (N : Int) - 1 = (P : Int) := by omega
    have HPN := Lib.hid hP
    clear hP q4 q5 q6 q7
    go_wp2_with fail
    go_loopg [20, 21] (r0 - st0) (fun g si sj wr => ∃ (st r : Nat), si = .int .i64 st ∧ sj = .int .i64 r ∧ r - st ≤ g ∧ Hid (SW w b sp (x ++ (u ++ (v ++ y))) wr ∧ Mid u v a m mid st r))
    case atStart => exact ⟨st0, r0, rfl, rfl, Nat.le_refl _, Lib.hid ⟨H0.out, HM0.out⟩⟩
    case round =>
      obtain ⟨st, r, rfl, rfl, hg, H⟩ := hrel
      clear HM0 H0
      have b1 := H.out.2.ast
      have b2 := H.out.2.sr
      have b3 := H.out.2.rm
      have b4 := H.out.2.rmid
      by_cases hlt : st < r
      · obtain ⟨c, hc⟩ : ∃ c, c = (st + r) / 2 := ⟨_, rfl⟩
        have hh1 : st ≤ c := by omega
        have hh2 : c < r := by omega
        have hhi : ((st : Int) + (r : Int)) / 2 = (c : Int) := by omega
        clear hc
        obtain ⟨q, hq⟩ : ∃ q, a + q = c := ⟨c - a, by omega⟩
        obtain ⟨q', hq'⟩ : ∃ q', q' + c + 1 = mid := ⟨mid - 1 - c, by omega⟩
        obtain ⟨dd, hdd⟩ : ∃ dd, m + q' = dd := ⟨_, rfl⟩
        have hpc : (P : Int) - (c : Int) = (dd : Int) := by have := HPN.out; have := HQ.out.2; omega
        obtain ⟨e, he⟩ : ∃ e, u[q]? = some e := ⟨u[q]'(by have := HQ.out.2; omega), List.getElem?_eq_getElem _⟩
        obtain ⟨f, hf⟩ : ∃ f, v[q']? = some f := ⟨v[q']'(by have := HQ.out.2; have := H.out.2.vm; omega), List.getElem?_eq_getElem _⟩
        have hxe := HGU.out q e he
        have hxf := HGV.out q' f hf
        rw [hq] at hxe
        rw [hdd] at hxf
        have HC : Hid (∀ W, Calls Try.prog 14 #[.agg #[.string f.arm, .int .i64 f.pe, .int .i64 f.bo, .int .i64 f.wo], .agg #[.string e.arm, .int .i64 e.pe, .int .i64 e.bo, .int .i64 e.wo]] W fun e' w' => e' = .returned (.int .i64 (cRw f e)) ∧ Below W.heap.size W w') := Lib.hid (fun W => clo_any (HOK.out _ (by simp [List.mem_of_getElem? hf])) (HOK.out _ (by simp [List.mem_of_getElem? he])) W)
        have hsw := H.out.1
        have HB : Hid (∀ X, Below wr.heap.size wr X → _) := Lib.hid (fun X hX => SW.bels hsw hxf hxe hX)
        have HW : Hid (∀ W, Below wr.heap.size wr W → SW w b sp (x ++ (u ++ (v ++ y))) W) := Lib.hid (fun W hW => hsw.bel hW)
        obtain ⟨cv, hcv⟩ : ∃ cv, cRw f e = cv := ⟨_, rfl⟩
        rw [hcv] at HC
        have HCV := Lib.hid hcv
        have HE := Lib.hid (And.intro he (And.intro hf (And.intro hq hq')))
        have hvl := H.out.2.vm
        have z0 : (0 : Int) ≤ (c : Int) := by omega
        have z1 : (c : Int) < n := by omega
        have z2 : (dd : Int) < n := by have := HQ.out.2; omega
        have z3 : IntKind.i64.wrap (dd : Int) = (dd : Int) := by rw [IntKind.wrap_i64]; omega
        have z4 : IntKind.i64.wrap ((P : Int) - (c : Int)) = (dd : Int) := by rw [hpc]; exact z3
        clear hcv hsw hxe hxf he hf hq hq' hdd hvl q8
        by_cases hneg : cv < 0
        · have t1 : decide (cv < 0) = true := decide_eq_true hneg
          go_wp2_with fail
          go_region_held3 (fun X => X.cell? ⟨b, dd * 4, none⟩ = some (.string f.arm) ∧ X.cell? ⟨b, dd * 4 + 1, none⟩ = some (.int .i64 f.pe) ∧ X.cell? ⟨b, dd * 4 + 2, none⟩ = some (.int .i64 f.bo) ∧ X.cell? ⟨b, dd * 4 + 3, none⟩ = some (.int .i64 f.wo) ∧ X.cell? ⟨b, c * 4, none⟩ = some (.string e.arm) ∧ X.cell? ⟨b, c * 4 + 1, none⟩ = some (.int .i64 e.pe) ∧ X.cell? ⟨b, c * 4 + 2, none⟩ = some (.int .i64 e.bo) ∧ X.cell? ⟨b, c * 4 + 3, none⟩ = some (.int .i64 e.wo))
            ((refine HB.out _ ?_; repeat (first | assumption | exact Below.refl _ _ | refine Below.drew ?_ | refine bel_alloc ?_ _)))
            (first
              | (go_at_call 14
                 (with_reducible refine (HC.out _).mono ?_); rintro e wx ⟨rfl, bx⟩; have bv := bel_trans (V := wr) (by repeat (first | assumption | exact Below.refl _ _ | refine Below.drew ?_)) bx)
              | fail)
          have HWX := Lib.hid (HW.out wx bv)
          clear HB HC bx bv
          clear hhi hpc z4
          go_wp2_with fail
          go_roundg (c - st)
          case measure => omega
          case rel => exact ⟨st, c, rfl, rfl, Nat.le_refl _, Lib.hid ⟨HWX.out, H.out.2.down HU.out HV.out hh1 hh2 HE.out.2.2.1 HE.out.2.2.2 HE.out.1 HE.out.2.1 (cRw_yes.2 (by rw [HCV.out]; omega))⟩⟩
        · have t1 : decide (cv < 0) = false := decide_eq_false hneg
          go_wp2_with fail
          go_region_held3 (fun X => X.cell? ⟨b, dd * 4, none⟩ = some (.string f.arm) ∧ X.cell? ⟨b, dd * 4 + 1, none⟩ = some (.int .i64 f.pe) ∧ X.cell? ⟨b, dd * 4 + 2, none⟩ = some (.int .i64 f.bo) ∧ X.cell? ⟨b, dd * 4 + 3, none⟩ = some (.int .i64 f.wo) ∧ X.cell? ⟨b, c * 4, none⟩ = some (.string e.arm) ∧ X.cell? ⟨b, c * 4 + 1, none⟩ = some (.int .i64 e.pe) ∧ X.cell? ⟨b, c * 4 + 2, none⟩ = some (.int .i64 e.bo) ∧ X.cell? ⟨b, c * 4 + 3, none⟩ = some (.int .i64 e.wo))
            ((refine HB.out _ ?_; repeat (first | assumption | exact Below.refl _ _ | refine Below.drew ?_ | refine bel_alloc ?_ _)))
            (first
              | (go_at_call 14
                 (with_reducible refine (HC.out _).mono ?_); rintro e wx ⟨rfl, bx⟩; have bv := bel_trans (V := wr) (by repeat (first | assumption | exact Below.refl _ _ | refine Below.drew ?_)) bx)
              | fail)
          have HWX := Lib.hid (HW.out wx bv)
          clear HB HC bx bv
          clear hhi hpc z4
          go_wp2_with fail
          go_roundg (r - (c + 1))
          case measure => omega
          case rel => exact ⟨c + 1, r, by go_num, rfl, Nat.le_refl _, Lib.hid ⟨HWX.out, H.out.2.up HU.out HV.out hh1 hh2 HE.out.2.2.1 HE.out.2.2.2 HE.out.1 HE.out.2.1 (cRw_no.2 (by rw [HCV.out]; omega))⟩⟩
      · obtain rfl : st = r := by omega
        obtain ⟨E, hE⟩ : ∃ E, E + st = N := ⟨N - st, by omega⟩
        have hE2 : (N : Int) - (st : Int) = (E : Int) := by omega
        have HEE := Lib.hid hE
        have hvl := H.out.2.vm
        have e1 : m ≤ E := by have := HQ.out.2; omega
        have e2 : E ≤ bb := by have := HQ.out.2; omega
        have e3 : mid ≤ E := by have := HQ.out.2; omega
        obtain ⟨u1, hu1⟩ : ∃ u1, u.take (st - a) = u1 := ⟨_, rfl⟩
        obtain ⟨u2, hu2⟩ : ∃ u2, u.drop (st - a) = u2 := ⟨_, rfl⟩
        obtain ⟨v1, hv1⟩ : ∃ v1, v.take (mid - st) = v1 := ⟨_, rfl⟩
        obtain ⟨v2, hv2⟩ : ∃ v2, v.drop (mid - st) = v2 := ⟨_, rfl⟩
        have lu1 : u1.length = st - a := by rw [← hu1, List.length_take]; have := HQ.out.2; omega
        have lu2 : u2.length = m - st := by rw [← hu2, List.length_drop]; have := HQ.out.2; omega
        have lv1 : v1.length = mid - st := by rw [← hv1, List.length_take]; have := HQ.out.2; omega
        have lv2 : v2.length = bb - E := by rw [← hv2, List.length_drop]; have := HQ.out.2; omega
        have huu : u = u1 ++ u2 := by rw [← hu1, ← hu2, List.take_append_drop]
        have hvv : v = v1 ++ v2 := by rw [← hv1, ← hv2, List.take_append_drop]
        have sw0 := H.out.1
        rw [huu, hvv] at sw0
        have HSP : Hid (∀ z1 z2, z1.Perm (u1 ++ v1) → z2.Perm (u2 ++ v2) → Srt ltRw z1 → Srt ltRw z2 → Srt ltRw (z1 ++ z2) ∧ (z1 ++ z2).Perm (u ++ v)) := Lib.hid (fun z1 z2 p1 p2 s1 s2 => H.out.2.split HU.out HV.out (by rw [hu1, hv1]; exact p1) (by rw [hu2, hv2]; exact p2) s1 s2)
        have hus := HU.out
        have hvs := HV.out
        rw [huu] at hus
        rw [hvv] at hvs
        have HSS : Hid (Srt ltRw u1 ∧ Srt ltRw u2 ∧ Srt ltRw v1 ∧ Srt ltRw v2) := Lib.hid (And.intro (List.pairwise_append.1 hus).1 (And.intro (List.pairwise_append.1 hus).2.1 (And.intro (List.pairwise_append.1 hvs).1 (List.pairwise_append.1 hvs).2.1)))
        have HOK1 : Hid (∀ e ∈ u1 ++ v1, Ok e) := Lib.hid (fun e he => HOK.out e (by rw [huu, hvv]; rcases List.mem_append.1 he with k | k <;> simp [k]))
        have HOK2 : Hid (∀ e ∈ u2 ++ v2, Ok e) := Lib.hid (fun e he => HOK.out e (by rw [huu, hvv]; rcases List.mem_append.1 he with k | k <;> simp [k]))
        have HL := Lib.hid (And.intro lu1 (And.intro lu2 (And.intro lv1 (And.intro lv2 (And.intro (show u.length = u1.length + u2.length by rw [huu, List.length_append]) (show v.length = v1.length + v2.length by rw [hvv, List.length_append]))))))
        have HSW := Lib.hid sw0
        clear hE hu1 hu2 hv1 hv2 lu1 lu2 lv1 lv2 huu hvv sw0 hus hvs hlt hg q8 hvl
        have c4 : decide ((st : Int) < (m : Int)) = decide (st < m) := by simp
        by_cases hA : st < m ∧ m < E
        · obtain ⟨g1, g2⟩ := hA
          have t1 : decide ((st : Int) < (m : Int)) = true := decide_eq_true (by omega)
          have t2 : decide ((m : Int) < (E : Int)) = true := decide_eq_true (by omega)
          clear c4
          go_wp2_with fail
          with_reducible refine (rot_parts _ b sp (x ++ u1) u2 v1 (v2 ++ y) n cap _ _ _ _ (by have := HSW.out.row; simpa [List.append_assoc] using this) (by have k1 := HL.out; have k2 := HQ.out; simp at k1 k2 ⊢; omega) (by have := HL.out; omega) (by have := HL.out; have := HEE.out; have := HQ.out.2; omega) (by have k1 := HL.out; have k2 := HQ.out.2; simp at k1 k2 ⊢; omega) (by have k1 := HL.out; have k2 := HQ.out.2; simp at k1 k2 ⊢; omega) (by have k1 := HL.out; have k2 := HQ.out.2; have k3 := HEE.out; simp at k1 k2 ⊢; omega) h1000 hcap HMX.out).mono ?_
          rintro e w2 ⟨rfl, k2⟩
          have SW2 : Hid (SW w b sp (x ++ (u1 ++ (v1 ++ (u2 ++ (v2 ++ y))))) w2) := Lib.hid (by have := HSW.out.on k2; simpa [List.append_assoc] using this)
          clear k2 g1 g2
          by_cases hB : a < st ∧ st < mid
          · obtain ⟨g1, g2⟩ := hB
            have t3 : decide ((a : Int) < (st : Int)) = true := decide_eq_true (by omega)
            have t4 : decide ((st : Int) < (mid : Int)) = true := decide_eq_true (by omega)
            go_wp2_with fail
            with_reducible refine (SymC.use HIH.out _ b sp x u1 v1 (u2 ++ (v2 ++ y)) n cap a st mid (by have := SW2.out.row; simpa [List.append_assoc] using this) (by have := HL.out; have := HQ.out; simp at *; omega) HQ.out.2.1 (by have := HL.out; have := HQ.out.2; omega) (by have := HL.out; have := HQ.out.2; omega) (by have := HL.out; omega) (by have := HL.out; omega) (by have := HL.out; have := HQ.out.2; omega) HOK1.out HSS.out.1 HSS.out.2.2.1 h1000 hcap HMX.out).mono ?_
            rintro e w3 ⟨rfl, z1, pz1, sz1, k3⟩
            have HZ := Lib.hid (And.intro pz1 (And.intro sz1 (And.intro (show n = (x ++ z1).length + u2.length + v2.length + y.length by have k1 := HL.out; have k2 := HQ.out; have k3 := HEE.out; have k4 := pz1.length_eq; simp at k1 k2 k4 ⊢; omega) (And.intro (show mid = (x ++ z1).length by have k1 := HL.out; have k2 := HQ.out; have k3 := HEE.out; have k4 := pz1.length_eq; simp at k1 k2 k4 ⊢; omega) (And.intro (show E = (x ++ z1).length + u2.length by have k1 := HL.out; have k2 := HQ.out; have k3 := HEE.out; have k4 := pz1.length_eq; simp at k1 k2 k4 ⊢; omega) (show bb = (x ++ z1).length + u2.length + v2.length by have k1 := HL.out; have k2 := HQ.out; have k3 := HEE.out; have k4 := pz1.length_eq; simp at k1 k2 k4 ⊢; omega))))))
            have SW3 := Lib.hid (SW2.out.on k3)
            clear pz1 sz1 k3
            by_cases hC : mid < E ∧ E < bb
            · obtain ⟨g1, g2⟩ := hC
              have t5 : decide ((mid : Int) < (E : Int)) = true := decide_eq_true (by omega)
              have t6 : decide ((E : Int) < (bb : Int)) = true := decide_eq_true (by omega)
              go_wp2_with fail
              with_reducible refine (SymC.use HIH.out _ b sp (x ++ z1) u2 v2 y n cap mid E bb (by have := SW3.out.row; simpa [List.append_assoc] using this) HZ.out.2.2.1 HZ.out.2.2.2.1 HZ.out.2.2.2.2.1 HZ.out.2.2.2.2.2 (by have := HL.out; have := HEE.out; have := HQ.out.2; omega) (by have := HL.out; have := HEE.out; have := HQ.out.2; omega) (by have := HL.out; have := HEE.out; have := HQ.out.2; omega) HOK2.out HSS.out.2.1 HSS.out.2.2.2 h1000 hcap HMX.out).mono ?_
              rintro e w4 ⟨rfl, z2, pz2, sz2, k4⟩
              have SW4 := Lib.hid (And.intro pz2 (And.intro sz2 (SW3.out.on k4)))
              clear pz2 sz2 k4
              go_wp2_with fail
              go_end0
              have fin := HSP.out z1 z2 HZ.out.1 SW4.out.1 HZ.out.2.1 SW4.out.2.1
              exact ⟨rfl, z1 ++ z2, fin.2, fin.1, by have := SW4.out.2.2; simpa [List.append_assoc] using this⟩
            · have HCC := Lib.hid hC
              clear hC
              have HE2 : Hid (u2 = [] ∨ v2 = []) := Lib.hid (by
                have k1 := HCC.out
                have k2 := HL.out
                have k3 := HQ.out.2
                have k4 := HEE.out
                rcases (by omega : u2.length = 0 ∨ v2.length = 0) with k | k
                · exact .inl (List.eq_nil_of_length_eq_zero k)
                · exact .inr (List.eq_nil_of_length_eq_zero k))
              by_cases g1 : mid < E
              all_goals
                first
                | (have t5 : decide ((mid : Int) < (E : Int)) = true := decide_eq_true (by omega))
                | (have t5 : decide ((mid : Int) < (E : Int)) = false := decide_eq_false (by omega); have t5n : decide (mid < E) = false := decide_eq_false (by omega); have t5m : ¬ mid < E := by omega)
                first
                | (have t6 : decide ((E : Int) < (bb : Int)) = false := decide_eq_false (by have := HCC.out; omega); have t6n : decide (E < bb) = false := decide_eq_false (by have := HCC.out; omega); have t6m : ¬ E < bb := by have := HCC.out; omega)
                | skip
                go_wp2_with fail
                go_end0
                have s2 : Srt ltRw (u2 ++ v2) := by
                  rcases HE2.out with k | k
                  · rw [k]; exact HSS.out.2.2.2
                  · rw [k, List.append_nil]; exact HSS.out.2.1
                have fin := HSP.out z1 (u2 ++ v2) HZ.out.1 (List.Perm.refl _) HZ.out.2.1 s2
                exact ⟨rfl, z1 ++ (u2 ++ v2), fin.2, fin.1, by have := SW3.out; simpa [List.append_assoc] using this⟩
          · have HBB := Lib.hid hB
            clear hB
            obtain ⟨z1, hz1⟩ : ∃ z1, u1 ++ v1 = z1 := ⟨_, rfl⟩
            have s1 : Srt ltRw z1 := by
              have k1 := HBB.out
              have k2 := HL.out
              rw [← hz1]
              rcases (by omega : u1.length = 0 ∨ v1.length = 0) with k | k
              · rw [List.eq_nil_of_length_eq_zero k]; exact HSS.out.2.2.1
              · rw [List.eq_nil_of_length_eq_zero k, List.append_nil]; exact HSS.out.1
            have HZ := Lib.hid (And.intro (show z1.Perm (u1 ++ v1) from hz1 ▸ List.Perm.refl _) (And.intro s1 (And.intro (show n = (x ++ z1).length + u2.length + v2.length + y.length by have k1 := HL.out; have k2 := HQ.out; have k3 := HEE.out; have k4 := congrArg List.length hz1; simp at k1 k2 k4 ⊢; omega) (And.intro (show mid = (x ++ z1).length by have k1 := HL.out; have k2 := HQ.out; have k3 := HEE.out; have k4 := congrArg List.length hz1; simp at k1 k2 k4 ⊢; omega) (And.intro (show E = (x ++ z1).length + u2.length by have k1 := HL.out; have k2 := HQ.out; have k3 := HEE.out; have k4 := congrArg List.length hz1; simp at k1 k2 k4 ⊢; omega) (show bb = (x ++ z1).length + u2.length + v2.length by have k1 := HL.out; have k2 := HQ.out; have k3 := HEE.out; have k4 := congrArg List.length hz1; simp at k1 k2 k4 ⊢; omega))))))
            have SW3 := Lib.hid (show SW w b sp (x ++ (z1 ++ (u2 ++ (v2 ++ y)))) _ from by have := SW2.out; rw [← hz1]; simpa [List.append_assoc] using this)
            clear s1 hz1
            by_cases g0 : a < st
            all_goals
              first
              | (have t3 : decide ((a : Int) < (st : Int)) = true := decide_eq_true (by omega))
              | (have t3 : decide ((a : Int) < (st : Int)) = false := decide_eq_false (by omega); have t3n : decide (a < st) = false := decide_eq_false (by omega); have t3m : ¬ a < st := by omega)
              first
              | (have t4 : decide ((st : Int) < (mid : Int)) = false := decide_eq_false (by have := HBB.out; omega); have t4n : decide (st < mid) = false := decide_eq_false (by have := HBB.out; omega); have t4m : ¬ st < mid := by have := HBB.out; omega)
              | skip
              by_cases hC : mid < E ∧ E < bb
              · obtain ⟨g1, g2⟩ := hC
                have t5 : decide ((mid : Int) < (E : Int)) = true := decide_eq_true (by omega)
                have t6 : decide ((E : Int) < (bb : Int)) = true := decide_eq_true (by omega)
                go_wp2_with fail
                with_reducible refine (SymC.use HIH.out _ b sp (x ++ z1) u2 v2 y n cap mid E bb (by have := SW3.out.row; simpa [List.append_assoc] using this) HZ.out.2.2.1 HZ.out.2.2.2.1 HZ.out.2.2.2.2.1 HZ.out.2.2.2.2.2 (by have := HL.out; have := HEE.out; have := HQ.out.2; omega) (by have := HL.out; have := HEE.out; have := HQ.out.2; omega) (by have := HL.out; have := HEE.out; have := HQ.out.2; omega) HOK2.out HSS.out.2.1 HSS.out.2.2.2 h1000 hcap HMX.out).mono ?_
                rintro e w4 ⟨rfl, z2, pz2, sz2, k4⟩
                have SW4 := Lib.hid (And.intro pz2 (And.intro sz2 (SW3.out.on k4)))
                clear pz2 sz2 k4
                go_wp2_with fail
                go_end0
                have fin := HSP.out z1 z2 HZ.out.1 SW4.out.1 HZ.out.2.1 SW4.out.2.1
                exact ⟨rfl, z1 ++ z2, fin.2, fin.1, by have := SW4.out.2.2; simpa [List.append_assoc] using this⟩
              · have HCC := Lib.hid hC
                clear hC
                have HE2 : Hid (u2 = [] ∨ v2 = []) := Lib.hid (by
                  have k1 := HCC.out
                  have k2 := HL.out
                  have k3 := HQ.out.2
                  have k4 := HEE.out
                  rcases (by omega : u2.length = 0 ∨ v2.length = 0) with k | k
                  · exact .inl (List.eq_nil_of_length_eq_zero k)
                  · exact .inr (List.eq_nil_of_length_eq_zero k))
                by_cases g1 : mid < E
                all_goals
                  first
                  | (have t5 : decide ((mid : Int) < (E : Int)) = true := decide_eq_true (by omega))
                  | (have t5 : decide ((mid : Int) < (E : Int)) = false := decide_eq_false (by omega); have t5n : decide (mid < E) = false := decide_eq_false (by omega); have t5m : ¬ mid < E := by omega)
                  first
                  | (have t6 : decide ((E : Int) < (bb : Int)) = false := decide_eq_false (by have := HCC.out; omega); have t6n : decide (E < bb) = false := decide_eq_false (by have := HCC.out; omega); have t6m : ¬ E < bb := by have := HCC.out; omega)
                  | skip
                  go_wp2_with fail
                  go_end0
                  have s2 : Srt ltRw (u2 ++ v2) := by
                    rcases HE2.out with k | k
                    · rw [k]; exact HSS.out.2.2.2
                    · rw [k, List.append_nil]; exact HSS.out.2.1
                  have fin := HSP.out z1 (u2 ++ v2) HZ.out.1 (List.Perm.refl _) HZ.out.2.1 s2
                  exact ⟨rfl, z1 ++ (u2 ++ v2), fin.2, fin.1, by have := SW3.out; simpa [List.append_assoc] using this⟩
        · have HAA := Lib.hid hA
          clear hA
          have SW2 : Hid (SW w b sp (x ++ (u1 ++ (v1 ++ (u2 ++ (v2 ++ y))))) wr) := Lib.hid (by
            have k0 := HSW.out
            have k1 := HAA.out
            have k2 := HL.out
            have k3 := HEE.out
            have k4 := HQ.out.2
            rcases (by omega : u2.length = 0 ∨ v1.length = 0) with k | k
            all_goals
              have e := List.eq_nil_of_length_eq_zero k
              rw [e] at k0 ⊢
              simpa [List.append_assoc] using k0)
          by_cases g0 : st < m
          all_goals
            clear c4
            first
            | (have t1 : decide ((st : Int) < (m : Int)) = true := decide_eq_true (by omega))
            | (have t1 : decide ((st : Int) < (m : Int)) = false := decide_eq_false (by omega); have t1n : decide (st < m) = false := decide_eq_false (by omega); have t1m : ¬ st < m := by omega)
            first
            | (have t2 : decide ((m : Int) < (E : Int)) = false := decide_eq_false (by have := HAA.out; omega); have t2n : decide (m < E) = false := decide_eq_false (by have := HAA.out; omega); have t2m : ¬ m < E := by have := HAA.out; omega)
            | skip
            by_cases hB : a < st ∧ st < mid
            · obtain ⟨g1, g2⟩ := hB
              have t3 : decide ((a : Int) < (st : Int)) = true := decide_eq_true (by omega)
              have t4 : decide ((st : Int) < (mid : Int)) = true := decide_eq_true (by omega)
              go_wp2_with fail
              with_reducible refine (SymC.use HIH.out _ b sp x u1 v1 (u2 ++ (v2 ++ y)) n cap a st mid (by have := SW2.out.row; simpa [List.append_assoc] using this) (by have := HL.out; have := HQ.out; simp at *; omega) HQ.out.2.1 (by have := HL.out; have := HQ.out.2; omega) (by have := HL.out; have := HQ.out.2; omega) (by have := HL.out; omega) (by have := HL.out; omega) (by have := HL.out; have := HQ.out.2; omega) HOK1.out HSS.out.1 HSS.out.2.2.1 h1000 hcap HMX.out).mono ?_
              rintro e w3 ⟨rfl, z1, pz1, sz1, k3⟩
              have HZ := Lib.hid (And.intro pz1 (And.intro sz1 (And.intro (show n = (x ++ z1).length + u2.length + v2.length + y.length by have k1 := HL.out; have k2 := HQ.out; have k3 := HEE.out; have k4 := pz1.length_eq; simp at k1 k2 k4 ⊢; omega) (And.intro (show mid = (x ++ z1).length by have k1 := HL.out; have k2 := HQ.out; have k3 := HEE.out; have k4 := pz1.length_eq; simp at k1 k2 k4 ⊢; omega) (And.intro (show E = (x ++ z1).length + u2.length by have k1 := HL.out; have k2 := HQ.out; have k3 := HEE.out; have k4 := pz1.length_eq; simp at k1 k2 k4 ⊢; omega) (show bb = (x ++ z1).length + u2.length + v2.length by have k1 := HL.out; have k2 := HQ.out; have k3 := HEE.out; have k4 := pz1.length_eq; simp at k1 k2 k4 ⊢; omega))))))
              have SW3 := Lib.hid (SW2.out.on k3)
              clear pz1 sz1 k3
              by_cases hC : mid < E ∧ E < bb
              · obtain ⟨g1, g2⟩ := hC
                have t5 : decide ((mid : Int) < (E : Int)) = true := decide_eq_true (by omega)
                have t6 : decide ((E : Int) < (bb : Int)) = true := decide_eq_true (by omega)
                go_wp2_with fail
                with_reducible refine (SymC.use HIH.out _ b sp (x ++ z1) u2 v2 y n cap mid E bb (by have := SW3.out.row; simpa [List.append_assoc] using this) HZ.out.2.2.1 HZ.out.2.2.2.1 HZ.out.2.2.2.2.1 HZ.out.2.2.2.2.2 (by have := HL.out; have := HEE.out; have := HQ.out.2; omega) (by have := HL.out; have := HEE.out; have := HQ.out.2; omega) (by have := HL.out; have := HEE.out; have := HQ.out.2; omega) HOK2.out HSS.out.2.1 HSS.out.2.2.2 h1000 hcap HMX.out).mono ?_
                rintro e w4 ⟨rfl, z2, pz2, sz2, k4⟩
                have SW4 := Lib.hid (And.intro pz2 (And.intro sz2 (SW3.out.on k4)))
                clear pz2 sz2 k4
                go_wp2_with fail
                go_end0
                have fin := HSP.out z1 z2 HZ.out.1 SW4.out.1 HZ.out.2.1 SW4.out.2.1
                exact ⟨rfl, z1 ++ z2, fin.2, fin.1, by have := SW4.out.2.2; simpa [List.append_assoc] using this⟩
              · have HCC := Lib.hid hC
                clear hC
                have HE2 : Hid (u2 = [] ∨ v2 = []) := Lib.hid (by
                  have k1 := HCC.out
                  have k2 := HL.out
                  have k3 := HQ.out.2
                  have k4 := HEE.out
                  rcases (by omega : u2.length = 0 ∨ v2.length = 0) with k | k
                  · exact .inl (List.eq_nil_of_length_eq_zero k)
                  · exact .inr (List.eq_nil_of_length_eq_zero k))
                by_cases g1 : mid < E
                all_goals
                  first
                  | (have t5 : decide ((mid : Int) < (E : Int)) = true := decide_eq_true (by omega))
                  | (have t5 : decide ((mid : Int) < (E : Int)) = false := decide_eq_false (by omega); have t5n : decide (mid < E) = false := decide_eq_false (by omega); have t5m : ¬ mid < E := by omega)
                  first
                  | (have t6 : decide ((E : Int) < (bb : Int)) = false := decide_eq_false (by have := HCC.out; omega); have t6n : decide (E < bb) = false := decide_eq_false (by have := HCC.out; omega); have t6m : ¬ E < bb := by have := HCC.out; omega)
                  | skip
                  go_wp2_with fail
                  go_end0
                  have s2 : Srt ltRw (u2 ++ v2) := by
                    rcases HE2.out with k | k
                    · rw [k]; exact HSS.out.2.2.2
                    · rw [k, List.append_nil]; exact HSS.out.2.1
                  have fin := HSP.out z1 (u2 ++ v2) HZ.out.1 (List.Perm.refl _) HZ.out.2.1 s2
                  exact ⟨rfl, z1 ++ (u2 ++ v2), fin.2, fin.1, by have := SW3.out; simpa [List.append_assoc] using this⟩
            · have HBB := Lib.hid hB
              clear hB
              obtain ⟨z1, hz1⟩ : ∃ z1, u1 ++ v1 = z1 := ⟨_, rfl⟩
              have s1 : Srt ltRw z1 := by
                have k1 := HBB.out
                have k2 := HL.out
                rw [← hz1]
                rcases (by omega : u1.length = 0 ∨ v1.length = 0) with k | k
                · rw [List.eq_nil_of_length_eq_zero k]; exact HSS.out.2.2.1
                · rw [List.eq_nil_of_length_eq_zero k, List.append_nil]; exact HSS.out.1
              have HZ := Lib.hid (And.intro (show z1.Perm (u1 ++ v1) from hz1 ▸ List.Perm.refl _) (And.intro s1 (And.intro (show n = (x ++ z1).length + u2.length + v2.length + y.length by have k1 := HL.out; have k2 := HQ.out; have k3 := HEE.out; have k4 := congrArg List.length hz1; simp at k1 k2 k4 ⊢; omega) (And.intro (show mid = (x ++ z1).length by have k1 := HL.out; have k2 := HQ.out; have k3 := HEE.out; have k4 := congrArg List.length hz1; simp at k1 k2 k4 ⊢; omega) (And.intro (show E = (x ++ z1).length + u2.length by have k1 := HL.out; have k2 := HQ.out; have k3 := HEE.out; have k4 := congrArg List.length hz1; simp at k1 k2 k4 ⊢; omega) (show bb = (x ++ z1).length + u2.length + v2.length by have k1 := HL.out; have k2 := HQ.out; have k3 := HEE.out; have k4 := congrArg List.length hz1; simp at k1 k2 k4 ⊢; omega))))))
              have SW3 := Lib.hid (show SW w b sp (x ++ (z1 ++ (u2 ++ (v2 ++ y)))) _ from by have := SW2.out; rw [← hz1]; simpa [List.append_assoc] using this)
              clear s1 hz1
              by_cases g0 : a < st
              all_goals
                first
                | (have t3 : decide ((a : Int) < (st : Int)) = true := decide_eq_true (by omega))
                | (have t3 : decide ((a : Int) < (st : Int)) = false := decide_eq_false (by omega); have t3n : decide (a < st) = false := decide_eq_false (by omega); have t3m : ¬ a < st := by omega)
                first
                | (have t4 : decide ((st : Int) < (mid : Int)) = false := decide_eq_false (by have := HBB.out; omega); have t4n : decide (st < mid) = false := decide_eq_false (by have := HBB.out; omega); have t4m : ¬ st < mid := by have := HBB.out; omega)
                | skip
                by_cases hC : mid < E ∧ E < bb
                · obtain ⟨g1, g2⟩ := hC
                  have t5 : decide ((mid : Int) < (E : Int)) = true := decide_eq_true (by omega)
                  have t6 : decide ((E : Int) < (bb : Int)) = true := decide_eq_true (by omega)
                  go_wp2_with fail
                  with_reducible refine (SymC.use HIH.out _ b sp (x ++ z1) u2 v2 y n cap mid E bb (by have := SW3.out.row; simpa [List.append_assoc] using this) HZ.out.2.2.1 HZ.out.2.2.2.1 HZ.out.2.2.2.2.1 HZ.out.2.2.2.2.2 (by have := HL.out; have := HEE.out; have := HQ.out.2; omega) (by have := HL.out; have := HEE.out; have := HQ.out.2; omega) (by have := HL.out; have := HEE.out; have := HQ.out.2; omega) HOK2.out HSS.out.2.1 HSS.out.2.2.2 h1000 hcap HMX.out).mono ?_
                  rintro e w4 ⟨rfl, z2, pz2, sz2, k4⟩
                  have SW4 := Lib.hid (And.intro pz2 (And.intro sz2 (SW3.out.on k4)))
                  clear pz2 sz2 k4
                  go_wp2_with fail
                  go_end0
                  have fin := HSP.out z1 z2 HZ.out.1 SW4.out.1 HZ.out.2.1 SW4.out.2.1
                  exact ⟨rfl, z1 ++ z2, fin.2, fin.1, by have := SW4.out.2.2; simpa [List.append_assoc] using this⟩
                · have HCC := Lib.hid hC
                  clear hC
                  have HE2 : Hid (u2 = [] ∨ v2 = []) := Lib.hid (by
                    have k1 := HCC.out
                    have k2 := HL.out
                    have k3 := HQ.out.2
                    have k4 := HEE.out
                    rcases (by omega : u2.length = 0 ∨ v2.length = 0) with k | k
                    · exact .inl (List.eq_nil_of_length_eq_zero k)
                    · exact .inr (List.eq_nil_of_length_eq_zero k))
                  by_cases g1 : mid < E
                  all_goals
                    first
                    | (have t5 : decide ((mid : Int) < (E : Int)) = true := decide_eq_true (by omega))
                    | (have t5 : decide ((mid : Int) < (E : Int)) = false := decide_eq_false (by omega); have t5n : decide (mid < E) = false := decide_eq_false (by omega); have t5m : ¬ mid < E := by omega)
                    first
                    | (have t6 : decide ((E : Int) < (bb : Int)) = false := decide_eq_false (by have := HCC.out; omega); have t6n : decide (E < bb) = false := decide_eq_false (by have := HCC.out; omega); have t6m : ¬ E < bb := by have := HCC.out; omega)
                    | skip
                    go_wp2_with fail
                    go_end0
                    have s2 : Srt ltRw (u2 ++ v2) := by
                      rcases HE2.out with k | k
                      · rw [k]; exact HSS.out.2.2.2
                      · rw [k, List.append_nil]; exact HSS.out.2.1
                    have fin := HSP.out z1 (u2 ++ v2) HZ.out.1 (List.Perm.refl _) HZ.out.2.1 s2
                    exact ⟨rfl, z1 ++ (u2 ++ v2), fin.2, fin.1, by have := SW3.out; simpa [List.append_assoc] using this⟩
end Rk
end Go.Proofs.Ythkdcbmcknndnaa

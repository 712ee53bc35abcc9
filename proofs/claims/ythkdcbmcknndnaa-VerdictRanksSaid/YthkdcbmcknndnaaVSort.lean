/- symMerge by induction; the stable sort of at most 39 rows. -/
import Derived.Test.YthkdcbmcknndnaaVSym2
namespace Go.Proofs.Ythkdcbmcknndnaa
open Go.RowKit Go.ChangeShapes Go.WideShapes
set_option linter.unusedVariables false
set_option linter.unusedSimpArgs false
namespace Rk
theorem sym_parts : ∀ d, SymC d
  | 0 => fun w b sp x u v y n cap a m bb h hn ha hm hb hu hv hd hok su sv h1000 hcap hmax => by omega
  | d + 1 => fun w b sp x u v y n cap a m bb h hn ha hm hb hu hv hd hok su sv h1000 hcap hmax => by
    by_cases h1 : u.length = 1
    · obtain ⟨c, rfl⟩ := List.length_eq_one_iff.1 h1
      exact sym_one w b sp x c v y n cap a m bb h (by simpa using hn) ha (by simpa using hm) (by simpa using hb) (fun e he => hok e (by simpa using he)) sv h1000 hcap hmax
    · by_cases h2 : v.length = 1
      · obtain ⟨c, rfl⟩ := List.length_eq_one_iff.1 h2
        exact sym_last w b sp x u c y n cap a m bb h (by simpa using hn) (by omega) ha hm (by simpa using hb) hok su h1000 hcap hmax
      · exact sym_mid d (sym_parts d) w b sp x u v y n cap a m bb h hn (by omega) (by omega) hd ha hm hb hok su sv h1000 hcap hmax
theorem isort_nil (w : World) (b n cap a : Nat) (fv : Value) (hb : a ≤ 1000) :
    Calls Try.prog 29 #[.slice (some ⟨b, 0, none⟩) n cap, .int .i64 a, .int .i64 a, fv] w fun e w' => e = .returned (.tuple #[]) ∧ w = w' := by
  go_enter Try.func29, Try.ntmps29
  go_wp2_with fail
  go_loopg [8] 0 (fun g1 vi wr => vi = .int .i64 ((a : Int) + 1) ∧ w = wr)
  case atStart => exact ⟨by first | rfl | go_num, rfl⟩
  case round =>
    obtain ⟨rfl, rfl⟩ := hrel
    have t : ¬ (a : Int) + 1 < (a : Int) := by omega
    go_wp2_with fail
    go_end0
    exact ⟨rfl, rfl⟩
theorem isort_any (w : World) (b : Nat) (sp : List Value) (x u y : List Rw) (n cap : Nat) (ai bi : Int) (h : Bk w b ((x ++ (u ++ y)).flatMap rwC ++ sp) 24) (hn : n = x.length + u.length + y.length)
    (ha : ai = x.length) (hb : bi = x.length + u.length) (hok : ∀ e ∈ u, Ok e) (h1000 : n ≤ 1000) (hcap : n ≤ cap) (hmax : cap ≤ maxLen) :
    Calls Try.prog 29 #[.slice (some ⟨b, 0, none⟩) n cap, .int .i64 ai, .int .i64 bi, .func (.func 14) #[] #[]] w fun e w' => e = .returned (.tuple #[]) ∧ Sorted w b sp x u y w' := by
  cases u with
  | nil =>
    obtain rfl : bi = ai := by simp at hb; omega
    subst ha
    refine (isort_nil w b n cap x.length _ (by omega)).mono ?_
    rintro e w' ⟨rfl, rfl⟩
    exact ⟨rfl, [], List.Perm.refl _, List.Pairwise.nil, SW.start h⟩
  | cons u0 u => exact isort_parts w b sp x u0 u y n cap ai bi h (by simpa [Nat.add_assoc] using hn) ha (by simpa using hb) hok h1000 hcap hmax
def AllSorted (w : World) (b : Nat) (sp : List Value) (l : List Rw) (w' : World) : Prop := ∃ z, z.Perm l ∧ Srt ltRw z ∧ SW w b sp z w'
set_option maxHeartbeats 2000000 in
theorem stable_small (w : World) (b : Nat) (sp : List Value) (l : List Rw) (n cap : Nat) (h : Bk w b (l.flatMap rwC ++ sp) 24) (hn : l.length = n) (hs : n < 20) (hok : ∀ e ∈ l, Ok e) (hcap : n ≤ cap) (hmax : cap ≤ maxLen) :
    Calls Try.prog 22 #[.slice (some ⟨b, 0, none⟩) n cap, .int .i64 n, .func (.func 14) #[] #[]] w fun e w' => e = .returned (.tuple #[]) ∧ AllSorted w b sp l w' := by
  have HI := Lib.hid (isort_any w b sp [] l [] n cap 0 n (by simpa using h) (by simp [hn]) (by simp) (by simp [hn]) hok (by omega) hcap hmax)
  clear h hn hok hmax
  have t1 : ¬ (20 : Int) ≤ (n : Int) := by omega
  have t2 : ¬ (20 : Int) < (n : Int) := by omega
  go_enter Try.func22, Try.ntmps22
  go_wp2_with fail
  go_loopg [7, 8] 0 (fun g s7 s8 wr => s7 = .int .i64 0 ∧ s8 = .int .i64 20 ∧ w = wr)
  case atStart => exact ⟨rfl, rfl, rfl⟩
  case round =>
    obtain ⟨rfl, rfl, rfl⟩ := hrel
    go_wp2_with fail
    refine HI.out.mono ?_
    rintro e w1 ⟨rfl, k⟩
    have K := Lib.hid k
    clear k HI
    go_wp2_with fail
    go_loopg [6, 7, 8, 9] 0 (fun g s6 s7 s8 s9 wr => s6 = .int .i64 20 ∧ w1 = wr)
    case atStart => exact ⟨rfl, rfl⟩
    case round =>
      obtain ⟨rfl, rfl⟩ := hrel
      go_wp2_with fail
      go_end0
      obtain ⟨z, p, s, q⟩ := K.out
      exact ⟨rfl, z, p, s, by simpa using q⟩
def Blk1 (w : World) (b : Nat) (sp : List Value) (l1 l2 : List Rw) (g : Nat) (s7 s8 : Value) (wr : World) : Prop :=
  (s7 = .int .i64 0 ∧ s8 = .int .i64 20 ∧ w = wr ∧ 1 ≤ g) ∨ (s7 = .int .i64 20 ∧ s8 = .int .i64 40 ∧ Sorted w b sp [] l1 l2 wr)
def Blk2 (w : World) (b : Nat) (sp : List Value) (l : List Rw) (w2 : World) (g : Nat) (s6 : Value) (wr : World) : Prop :=
  (s6 = .int .i64 20 ∧ w2 = wr ∧ 1 ≤ g) ∨ (s6 = .int .i64 40 ∧ AllSorted w b sp l wr)
set_option maxHeartbeats 4000000 in
theorem stable_big (w : World) (b : Nat) (sp : List Value) (l1 l2 : List Rw) (n cap : Nat) (h : Bk w b ((l1 ++ l2).flatMap rwC ++ sp) 24) (h1 : l1.length = 20) (hn : n = 20 + l2.length) (hs : n < 40) (hok : ∀ e ∈ l1 ++ l2, Ok e) (hcap : n ≤ cap) (hmax : cap ≤ maxLen) :
    Calls Try.prog 22 #[.slice (some ⟨b, 0, none⟩) n cap, .int .i64 n, .func (.func 14) #[] #[]] w fun e w' => e = .returned (.tuple #[]) ∧ AllSorted w b sp (l1 ++ l2) w' := by
  have HI := Lib.hid (isort_any w b sp [] l1 l2 n cap 0 20 (by simpa using h) (by simp [h1]; omega) (by simp) (by simp [h1]) (fun e he => hok e (by simp [he])) (by omega) hcap hmax)
  have HOK := Lib.hid hok
  have HQ := Lib.hid (And.intro h1 (And.intro hn hmax))
  have hn2 : 20 ≤ n := by omega
  clear h h1 hn hok hmax
  have t1 : (20 : Int) ≤ (n : Int) := by omega
  have t2 : ¬ (40 : Int) ≤ (n : Int) := by omega
  have t3 : ¬ (40 : Int) < (n : Int) := by omega
  go_enter Try.func22, Try.ntmps22
  go_wp2_with fail
  go_loopg [7, 8] 1 (fun g s7 s8 wr => Blk1 w b sp l1 l2 g s7 s8 wr)
  case atStart => exact .inl ⟨rfl, rfl, rfl, Nat.le_refl _⟩
  case round =>
    rcases hrel with ⟨rfl, rfl, rfl, hg⟩ | ⟨rfl, rfl, k⟩
    · go_wp2_with fail
      refine HI.out.mono ?_
      rintro e w1 ⟨rfl, k⟩
      have K := Lib.hid k
      clear k HI
      go_wp2_with fail
      go_roundg 0
      case measure => omega
      case rel => exact .inr ⟨rfl, rfl, K.out⟩
    · obtain ⟨z1, p1, s1, k1⟩ := k
      have K1 := Lib.hid (And.intro p1 (And.intro s1 (And.intro k1 p1.length_eq)))
      have HI2 := Lib.hid (isort_any wr b sp z1 l2 [] n cap 20 n (by simpa using k1.row) (by have := HQ.out; have := p1.length_eq; simp; omega) (by have := HQ.out; have := p1.length_eq; omega) (by have := HQ.out; have := p1.length_eq; omega) (fun e he => HOK.out e (by simp [he])) (by omega) hcap HQ.out.2.2)
      clear p1 s1 k1 HI
      go_wp2_with fail
      refine HI2.out.mono ?_
      rintro e w2 ⟨rfl, z2, p2, s2, k2⟩
      have K2 := Lib.hid (And.intro p2 (And.intro s2 (And.intro (show SW w b sp (z1 ++ z2) w2 by simpa using K1.out.2.2.1.on k2) p2.length_eq)))
      clear p2 s2 k2 HI2
      go_wp2_with fail
      go_loopg [6, 7, 8, 9] 1 (fun g s6 s7 s8 s9 wx => Blk2 w b sp (l1 ++ l2) w2 g s6 wx)
      case atStart => exact .inl ⟨rfl, rfl, Nat.le_refl _⟩
      case round =>
        rcases hrel with ⟨rfl, rfl, hg⟩ | ⟨rfl, k⟩
        · by_cases hlt : 20 < n
          · have t4 : (20 : Int) < (n : Int) := by omega
            have HM := Lib.hid (sym_parts n w2 b sp [] z1 z2 [] n cap 0 20 n (by simpa using K2.out.2.2.1.row) (by have := HQ.out; have := K1.out.2.2.2; have := K2.out.2.2.2; simp; omega) rfl (by have := HQ.out; have := K1.out.2.2.2; simp; omega) (by have := HQ.out; have := K1.out.2.2.2; have := K2.out.2.2.2; simp; omega) (by have := HQ.out; have := K1.out.2.2.2; omega) (by have := HQ.out; have := K2.out.2.2.2; omega) (by have := HQ.out; have := K1.out.2.2.2; have := K2.out.2.2.2; omega)
              (fun e he => HOK.out e (by
                rcases List.mem_append.1 he with k | k
                · exact List.mem_append.2 (.inl (K1.out.1.mem_iff.1 k))
                · exact List.mem_append.2 (.inr (K2.out.1.mem_iff.1 k)))) K1.out.2.1 K2.out.2.1 (by omega) hcap HQ.out.2.2)
            go_wp2_with fail
            go_loopg [7, 8] 0 (fun g s7 s8 wx => s7 = .int .i64 0 ∧ s8 = .int .i64 40 ∧ w2 = wx)
            case atStart => exact ⟨rfl, rfl, rfl⟩
            case round =>
              obtain ⟨rfl, rfl, rfl⟩ := hrel
              go_wp2_with fail
              refine HM.out.mono ?_
              rintro e w3 ⟨rfl, z, p, s, k⟩
              have K3 : Hid (AllSorted w b sp (l1 ++ l2) w3) := Lib.hid ⟨z, p.trans (K1.out.1.append K2.out.1), s, by simpa using K2.out.2.2.1.on k⟩
              clear p s k HM
              go_wp2_with fail
              go_roundg 0
              case measure => omega
              case rel => exact .inr ⟨rfl, K3.out⟩
          · have t4 : ¬ (20 : Int) < (n : Int) := by omega
            go_wp2_with fail
            go_end0
            have e2 : z2 = [] := List.eq_nil_of_length_eq_zero (by have := HQ.out; have := K2.out.2.2.2; omega)
            refine ⟨rfl, z1 ++ z2, K1.out.1.append K2.out.1, ?_, K2.out.2.2.1⟩
            rw [e2, List.append_nil]; exact K1.out.2.1
        · have K := Lib.hid k
          clear k
          go_wp2_with fail
          go_end0
          exact ⟨rfl, K.out⟩
theorem stable_any (w : World) (b : Nat) (sp : List Value) (l : List Rw) (n cap : Nat) (h : Bk w b (l.flatMap rwC ++ sp) 24) (hn : l.length = n) (hs : n < 40) (hok : ∀ e ∈ l, Ok e) (hcap : n ≤ cap) (hmax : cap ≤ maxLen) :
    Calls Try.prog 22 #[.slice (some ⟨b, 0, none⟩) n cap, .int .i64 n, .func (.func 14) #[] #[]] w fun e w' => e = .returned (.tuple #[]) ∧ AllSorted w b sp l w' := by
  by_cases h20 : n < 20
  · exact stable_small w b sp l n cap h hn h20 hok hcap hmax
  · obtain ⟨l1, l2, rfl, h1⟩ : ∃ l1 l2, l = l1 ++ l2 ∧ l1.length = 20 := ⟨l.take 20, l.drop 20, (List.take_append_drop 20 l).symm, by simp; omega⟩
    exact stable_big w b sp l1 l2 n cap h h1 (by simp at hn; omega) hs hok hcap hmax
end Rk
end Go.Proofs.Ythkdcbmcknndnaa

/- Clone, SortStableFunc and Rank of the program. -/
import Derived.Test.YthkdcbmcknndnaaVSort
import Derived.Test.YthkdcbmcknndnaaMk
import Derived.Test.YthkdcbmcknndnaaBase
namespace Go.Proofs.Ythkdcbmcknndnaa
open Go.RowKit Go.ChangeShapes Go.WideShapes
set_option linter.unusedVariables false
set_option linter.unusedSimpArgs false
namespace Rk
theorem infoRow : (Try.prog.info? 24).map (fun i => (i.zero, i.size, i.bytes)) = some (some (.agg #[.string ⟨#[]⟩, .int .i64 0, .int .i64 0, .int .i64 0]), 4, 40) := by kernel_rfl
theorem info_parts {t : TypeId} {z : Option Value} {s b : Nat} (h : (Try.prog.info? t).map (fun i => (i.zero, i.size, i.bytes)) = some (z, s, b)) : ∃ i, Try.prog.info? t = some i ∧ i.zero = z ∧ i.size = s ∧ i.bytes = b := by
  obtain ⟨i, h1, h2⟩ := Option.map_eq_some_iff.1 h
  simp only [Prod.mk.injEq] at h2
  exact ⟨i, h1, h2.1, h2.2.1, h2.2.2⟩
abbrev MkR (w0 wr : World) (u : Value) (xs : List Rw) : Prop := MkG 24 4 rwC w0 wr u xs
theorem clone_any (b : Option Addr) (n cap : Nat) (l : List Rw) (w : World) (hi : InW w b 4 (l.map rwC)) (hn : n = l.length) (h1000 : n ≤ 1000) :
    Calls Try.prog 12 #[.slice b n cap] w fun e w' => ∃ v, e = .returned v ∧ MkR w w' v l := by
  obtain ⟨i0, hi0, hz0, hz1, hz2⟩ := info_parts infoRow
  cases b with
  | none =>
    have hl : l = [] := by
      rcases hi with h | ⟨B, off, h, _⟩
      · exact List.map_eq_nil_iff.1 h
      · cases h
    subst hl
    obtain rfl : n = 0 := hn
    clear hi0 hz0 hz1 hz2
    have hq : Sem.run Try.prog (binOp BinOp.eql 22 (.slice none 0 cap) (.slice none 0 0)) w = .ok (.bool true) w := by kernel_rfl
    go_enter Try.func12, Try.ntmps12
    go_wp2_with fail
    go_ret
    exact ⟨_, rfl, MkG.nil w⟩
  | some a =>
    have ME := Lib.hid (MkG.empty (t := 24) (sz := 4) (f := rwC) w)
    have HI := Lib.hid (InW.bel hi ME.out.bl)
    have HN := Lib.hid hn
    have HL : Hid (([] : List Rw).length + l.length ≤ 1000000) := Lib.hid (by simp; omega)
    clear hi hn
    have hq : Sem.run Try.prog (binOp BinOp.eql 22 (.slice (some a) n cap) (.slice none 0 0)) w = .ok (.bool false) w := by kernel_rfl
    go_enter Try.func12, Try.ntmps12
    go_wp2_with (at_builtin; refine wpList_append_m rwC_len rwC_one _ rfl _ _ _ rfl 24 i0 _ 40 Try.underlying22 hi0 hz0 hz1 hz2 rfl (by decide) (by omega) _ [] l rfl ME.out.tx (some a) n cap rfl HN.out HI.out HL.out ?_; intro v4 w4 o4 f4 h4)
    have M4 := Lib.hid (ME.out.more o4 f4 h4)
    clear o4 f4 h4 ME HI
    go_wp2_with fail
    go_ret
    exact ⟨_, rfl, M4.out⟩
/-- a row, whole -/
theorem row_whole {w0 w : World} {v : Value} {l : List Rw} (h : MkR w0 w v l) : (v = .slice none 0 0 ∧ l = []) ∨ ∃ g cap sp, v = .slice (some ⟨g, 0, none⟩) l.length cap ∧ w0.heap.size ≤ g ∧ l.length ≤ cap ∧ cap ≤ maxLen ∧ Bk w g (l.flatMap rwC ++ sp) 24 := by
  rcases h.tx.2 with ⟨h1, h2⟩ | ⟨g, cap, cur, rfl, _, h3, h4, h5, h6, h7⟩
  · exact .inl ⟨h1, List.eq_nil_of_length_eq_zero h2⟩
  · refine .inr ⟨g, cap, cur.toList.drop (l.length * 4), rfl, h.nw g rfl, h4, h5, ?_⟩
    rw [← h7, List.take_append_drop]
    simpa [Bk] using h3
theorem isort_none (w : World) (n cap a : Nat) (fv : Value) (hb : a ≤ 1000) :
    Calls Try.prog 29 #[.slice none n cap, .int .i64 a, .int .i64 a, fv] w fun e w' => e = .returned (.tuple #[]) ∧ w = w' := by
  go_enter Try.func29, Try.ntmps29
  go_wp2_with fail
  go_loopg [8] 0 (fun g1 vi wr => vi = .int .i64 ((a : Int) + 1) ∧ w = wr)
  case atStart => exact ⟨by first | rfl | go_num, rfl⟩
  case round =>
    obtain ⟨rfl, rfl⟩ := hrel
    have t : ¬ (a : Int) + 1 < (a : Int) := by omega
    go_wp2_with fail
    go_end0
    exact ⟨rfl, rfl⟩
theorem stable_none (w : World) :
    Calls Try.prog 22 #[.slice none 0 0, .int .i64 0, .func (.func 14) #[] #[]] w fun e w' => e = .returned (.tuple #[]) ∧ w = w' := by
  have HI := Lib.hid (isort_none w 0 0 0 (.func (.func 14) #[] #[]) (by omega))
  rw [Int.natCast_zero] at HI
  go_enter Try.func22, Try.ntmps22
  go_wp2_with fail
  go_loopg [7, 8] 0 (fun g s7 s8 wr => s7 = .int .i64 0 ∧ s8 = .int .i64 20 ∧ w = wr)
  case atStart => exact ⟨rfl, rfl, rfl⟩
  case round =>
    obtain ⟨rfl, rfl, rfl⟩ := hrel
    go_wp2_with fail
    refine HI.out.mono ?_
    rintro e w1 ⟨rfl, rfl⟩
    clear HI
    go_wp2_with fail
    go_loopg [6, 7, 8, 9] 0 (fun g s6 s7 s8 s9 wr => s6 = .int .i64 20 ∧ w = wr)
    case atStart => exact ⟨rfl, rfl⟩
    case round =>
      obtain ⟨rfl, rfl⟩ := hrel
      go_wp2_with fail
      go_end0
      exact ⟨rfl, rfl⟩
/-- a slice of the call's own, sorted in place -/
def SortedAt (w0 : World) (v : Value) (l : List Rw) (w' : World) : Prop := ∃ z, z.Perm l ∧ Srt ltRw z ∧ MkR w0 w' v z
theorem sort_any (w0 w : World) (v : Value) (l : List Rw) (h : MkR w0 w v l) (hs : l.length < 40) (hok : ∀ e ∈ l, Ok e) :
    Calls Try.prog 13 #[v, .func (.func 14) #[] #[]] w fun e w' => e = .returned (.tuple #[]) ∧ SortedAt w0 v l w' := by
  rcases row_whole h with ⟨rfl, rfl⟩ | ⟨g, cap, sp, rfl, h1, h2, h3, h4⟩
  · have HS := Lib.hid (stable_none w)
    have H := Lib.hid h
    clear h hok hs
    go_enter Try.func13, Try.ntmps13
    go_wp2_with fail
    refine HS.out.mono ?_
    rintro e w1 ⟨rfl, rfl⟩
    go_wp2_with fail
    go_end0
    exact ⟨rfl, [], List.Perm.refl _, List.Pairwise.nil, H.out⟩
  · obtain ⟨n, hn⟩ : ∃ n, l.length = n := ⟨_, rfl⟩
    have HS := Lib.hid (stable_any w g sp l n cap h4 hn (by omega) hok (by omega) h3)
    have HQ := Lib.hid (And.intro h (And.intro h1 (And.intro h2 (And.intro h3 (And.intro h4 hn)))))
    rw [hn]
    rw [hn] at hs
    have h1000 : n ≤ cap := by omega
    unfold maxLen at h3
    clear h h1 h2 h4 hok hn
    go_enter Try.func13, Try.ntmps13
    go_wp2_with fail
    refine HS.out.mono ?_
    rintro e w1 ⟨rfl, z, p, s, k⟩
    have K := Lib.hid (And.intro p (And.intro s k))
    clear p s k HS
    go_wp2_with fail
    go_end0
    obtain ⟨q1, q2, q3, q4, q5, q6⟩ := HQ.out
    obtain ⟨p, s, k⟩ := K.out
    have hzl := p.length_eq
    refine ⟨rfl, z, p, s, ?_, ?_, ?_⟩
    · refine ⟨by rw [flat_len rwC_len], .inr ⟨g, cap, ((z.flatMap rwC) ++ sp).toArray, by rw [hzl, q6], Nat.zero_le _, k.row, by omega, q4, ?_, ?_⟩⟩
      · rcases row_whole q1 with ⟨c, _⟩ | ⟨g', cap', sp', e1, _, _, _, e2⟩
        · cases c
        · rcases q1.tx.2 with ⟨c, _⟩ | ⟨g2, cap2, cur, e3, _, h3', h4', h5', h6', h7'⟩
          · cases c
          · cases e3
            have e4 : cur = (l.flatMap rwC ++ sp).toArray := by
              have := q5
              unfold Bk at this
              rw [h3'] at this
              injection this with this
              injection this
            rw [e4] at h6'
            simp only [List.size_toArray, List.length_append, flat_len rwC_len] at h6' ⊢
            omega
      · simp [flat_len rwC_len, List.take_left' (flat_len rwC_len z)]
    · intro b hb
      exact q1.nw b hb
    · exact q1.bl.trans (k.fr.below q1.bl.size (fun b e => by subst e; exact q2))
/-- the document's arms -/
def rankB (l : List Rw) : List ByteArray := (insAll ltRw l).map Rw.arm
theorem rows_at {W : World} {b : Option Addr} {z : List Rw} (h : InW W b 4 (z.map rwC)) {i : Nat} {x : Rw} (hx : z[i]? = some x) : ∃ B off, b = some ⟨B, off, none⟩ ∧ B < W.heap.size ∧ (∀ X, Below W.heap.size W X → X.cell? ⟨B, off + i * 4, none⟩ = some (.string x.arm) ∧ X.cell? ⟨B, off + i * 4 + 1, none⟩ = some (.int .i64 x.pe) ∧ X.cell? ⟨B, off + i * 4 + 2, none⟩ = some (.int .i64 x.bo) ∧ X.cell? ⟨B, off + i * 4 + 3, none⟩ = some (.int .i64 x.wo)) := by
  rcases h with h | ⟨B, off, hb, hl, hc⟩
  · rw [List.map_eq_nil_iff.1 h] at hx; cases hx
  · refine ⟨B, off, hb, hl, fun X hX => ?_⟩
    have k := fun j u hj => (hX.cell (p := ⟨B, off + i * 4 + j, none⟩) hl).trans (hc i (rwC x) (by rw [List.getElem?_map, hx]; rfl) j u hj)
    exact ⟨k 0 _ rfl, k 1 _ rfl, k 2 _ rfl, k 3 _ rfl⟩
set_option maxHeartbeats 4000000 in
theorem rank_any (b : Option Addr) (n cap : Nat) (l : List Rw) (w : World) (hi : InW w b 4 (l.map rwC)) (hn : n = l.length) (hs : n < 40) (hok : ∀ e ∈ l, Ok e) :
    Calls Try.prog 6 #[.slice b n cap] w fun e w' => ∃ v, e = .returned v ∧ MkT w w' v (rankB l) := by
  obtain ⟨i0, hi0, hz0, hz1, hz2⟩ := info_parts infoText
  have HCL := Lib.hid (clone_any b n cap l w hi hn (by omega))
  have HSO : Hid (∀ w1 v, MkR w w1 v l → Calls Try.prog 13 #[v, .func (.func 14) #[] #[]] w1 fun e w' => e = .returned (.tuple #[]) ∧ SortedAt w v l w') := Lib.hid (fun w1 v h => sort_any w w1 v l h (by omega) hok)
  have HN := Lib.hid hn
  clear hi hn hok
  go_enter Try.func6, Try.ntmps6
  go_wp2_with fail
  refine HCL.out.mono ?_
  rintro e w1 ⟨v, rfl, k1⟩
  have S1 := Lib.hid (HSO.out w1 v k1)
  clear k1 HCL HSO
  go_wp2_with fail
  refine S1.out.mono ?_
  rintro e w2 ⟨rfl, z, pz, sz, k2⟩
  obtain ⟨vb, vc, hv, hvl, hvm, hvi⟩ := k2.read rwC_len (by omega)
  obtain ⟨m, hm⟩ : ∃ m, z.length = m := ⟨_, rfl⟩
  rw [hm] at hv
  subst hv
  have HZ := Lib.hid (And.intro pz (And.intro sz (And.intro k2.bl (And.intro hvi (And.intro hm pz.length_eq)))))
  have hmn : m ≤ 40 := by have := HN.out; have := pz.length_eq; omega
  clear pz sz k2 hvi hm S1 hvl hvm
  go_wp2_with fail
  go_loopw [4, 13] (fun u c wr => ∃ i : Nat, i ≤ m ∧ c = .int .i64 i ∧ Hid (MkT w2 wr u ((z.take i).map Rw.arm))) (fun _ c _ => m - (intOf c).toNat)
  case atStart => exact ⟨0, by omega, rfl, Lib.hid (MkT.nil w2)⟩
  case round =>
    obtain ⟨i, him, rfl, HM⟩ := hrel
    by_cases hlt : i < m
    · obtain ⟨x, hx⟩ : ∃ x, z[i]? = some x := ⟨z[i]'(by have := HZ.out.2.2.2.2.1; omega), List.getElem?_eq_getElem _⟩
      obtain ⟨B, off, rfl, hB, hc⟩ := rows_at HZ.out.2.2.2.1 hx
      obtain ⟨c0, c1, c2, c3⟩ := hc _ HM.out.bl
      have HX := Lib.hid hx
      have hi0' : (0 : Int) ≤ (i : Int) := by omega
      have hi1 : (i : Int) < (m : Int) := by omega
      have HM2 := Lib.hid ((HM.out.alloc (.cells #[.string x.arm, .int .i64 x.pe, .int .i64 x.bo, .int .i64 x.wo] 24)).alloc (.cells #[.string x.arm] 9))
      have HIN : Hid (InW ((wr.alloc (.cells #[.string x.arm, .int .i64 x.pe, .int .i64 x.bo, .int .i64 x.wo] 24)).alloc (.cells #[.string x.arm] 9)) (some ⟨wr.heap.size + 1, 0, none⟩) 1 ([x.arm].map tC)) := Lib.hid (inw_one (f := tC) (x := x.arm) (bk_at _ _ (by simp)))
      have HLN : Hid (((z.take i).map Rw.arm).length + [x.arm].length ≤ 1000000) := Lib.hid (by simp; omega)
      clear hc hx
      go_wp2_with (at_builtin; refine wpList_append_m tLen tOne _ rfl _ _ _ rfl 9 i0 _ 16 Try.underlying27 hi0 hz0 hz1 hz2 rfl (by decide) (by omega) u4 ((z.take i).map Rw.arm) [x.arm] rfl HM2.out.tx.flat (some ⟨wr.heap.size + 1, 0, none⟩) 1 1 rfl rfl HIN.out HLN.out ?_; intro v5 w5 o5 f5 h5)
      have HM5 := Lib.hid (HM2.out.more o5 f5 h5)
      clear o5 f5 h5 HM2 HIN HLN
      go_wp2_with fail
      go_roundw
      case rel => exact ⟨i + 1, by omega, by go_num, by rw [List.take_add_one, HX.out, List.map_append]; exact HM5⟩
      case measure => simp [intOf]; omega
    · have hfin := HM.out
      rw [List.take_of_length_le (by have := HZ.out.2.2.2.2.1; omega), rank_arms HZ.out.1 HZ.out.2.1] at hfin
      have HF := Lib.hid hfin
      clear hfin HM
      go_wp2_with fail
      go_ret
      have k := HF.out
      have bl := HZ.out.2.2.1
      exact ⟨_, rfl, k.tx, fun b hb => Nat.le_trans bl.size (k.nw b hb), bl.trans (k.bl.mono bl.size)⟩
end Rk
end Go.Proofs.Ythkdcbmcknndnaa

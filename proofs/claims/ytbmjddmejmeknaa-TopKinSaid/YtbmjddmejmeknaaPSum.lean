/- Contract of (*pane.Panes).Sum. -/
import Derived.Test.YtbmjddmejmeknaaPAdd
import Derived.LoopTactic
namespace Go.Proofs.Ytbmjddmejmeknaa.Pn
open Go.RowKit Go.MapKept Go.Maps
set_option linter.unusedVariables false
theorem ret_int' {k : IntKind} {a b : Int} (h : a = b) : Ending.returned (.int k a) = .returned (.int k b) := by rw [h]
theorem PInv.at {A : List Ad} {sm : List (CK × Int)} {rw : List (ByteArray × (Value × List Int))} (h : PInv A sm rw) (k : ByteArray) (n : Int) : (mget sm (k, n)).getD 0 = sget A k n := by
  rw [h.sums]; split
  · rename_i e; rw [e]; rfl
  · rfl
theorem rowsum_take (S : Int → Int) (l : List Int) (lo hi : Int) (j : Nat) (hj : j < l.length) : rowsum S (l.take (j + 1)) lo hi = rowsum S (l.take j) lo hi + if lo ≤ l.getD j 0 ∧ l.getD j 0 < hi then S (l.getD j 0) else 0 := by
  rw [List.take_succ_eq_append_getElem hj, rowsum_append]
  simp [rowsum, hj]
theorem rowsum_bound {S : Int → Int} (h0 : ∀ n, 0 ≤ S n) : ∀ (l : List Int) (lo hi : Int), 0 ≤ rowsum S l lo hi
  | [], _, _ => by simp [rowsum]
  | n :: l, lo, hi => by
    have := rowsum_bound h0 l lo hi
    have := h0 n
    simp only [rowsum]; split <;> omega
theorem rowsum_mono {S : Int → Int} (h0 : ∀ n, 0 ≤ S n) (l : List Int) (lo hi : Int) (j : Nat) : rowsum S (l.take j) lo hi ≤ rowsum S l lo hi := by
  have h := rowsum_append S (l.take j) (l.drop j) lo hi
  rw [List.take_append_drop] at h
  have := rowsum_bound h0 (l.drop j) lo hi
  omega
theorem row_cells {w : World} {n : Nat} {l : List Int} {g cap : Nat} {e : TypeId} (h : w.ownsRow 0 e 1 (.slice (some ⟨g, 0, none⟩) n cap) l.length (l.map (Value.int .i64))) : n = l.length ∧ ∀ j, j < l.length → w.cell? ⟨g, j, none⟩ = some (.int .i64 (l.getD j 0)) := by
  have h2 := h.2
  have hc := h.cells (g := g) rfl
  rcases h2 with ⟨h2, _⟩ | ⟨g', cap', cur, h2, _⟩
  · cases h2
  · cases h2
    refine ⟨rfl, fun j hj => ?_⟩
    have := hc j (.int .i64 (l.getD j 0)) (by rw [List.getElem?_map, List.getElem?_eq_getElem hj]; simp [hj])
    rw [Addr.add_lit, Nat.zero_add] at this
    exact this
/-- what Sum needs of its memory -/
structure SumW (w : World) (p s r : Nat) (wd : Int) (A : List Ad) (k : ByteArray) (b : Option Addr) (l : List Int) (cap : Nat) : Prop where
  c0 : w.cell? ⟨p, 0, none⟩ = some (.int .i64 wd)
  c2 : w.cell? ⟨p, 2, none⟩ = some (.map (some s))
  c3 : w.cell? ⟨p, 3, none⟩ = some (.map (some r))
  row : (Instr.lookup 75 (.map (some r)) (.string k) false).run Try.prog w = .ok (.slice b l.length cap) w
  cell : ∀ j, j < l.length → ∃ g, b = some ⟨g, 0, none⟩ ∧ w.cell? ⟨g, j, none⟩ = some (.int .i64 (l.getD j 0))
  sum : ∀ n, I64 n → (Instr.lookup 74 (.map (some s)) (.agg #[.string k, .int .i64 n]) false).run Try.prog w = .ok (.int .i64 (sget A k n)) w
  psum : ∀ lo hi, psum A k lo hi = rowsum (sget A k) l lo hi
  i64 : ∀ j, j < l.length → I64 (l.getD j 0)
  len : l.length ≤ 1048576
theorem PaneAt.sumW {w : World} {p : Nat} {B : List Nat} {wd ad : Int} {A : List Ad} (h : PaneAt w p B wd ad A) (k : ByteArray) (hk : k.size ≤ 100) : ∃ s r b l cap, SumW w p s r wd A k b l cap := by
  obtain ⟨s, r, sm, rw, rfl, h1, h2⟩ := h.ex
  have a1 := h.a1
  have a2 := h.a2
  have hl := h2.len k
  have hr := h1.rowOwn k
  have g1 := h1.lookRow k hk
  have hi : ∀ j, j < (rowL rw k).length → I64 ((rowL rw k).getD j 0) := fun j hj => by
    have hm : (rowL rw k).getD j 0 ∈ rowL rw k := by simp [hj]
    obtain ⟨x, hx, _, e, _⟩ := mem_of_sget (((h2.row k).2 _).1 hm)
    have := h.ok x hx
    unfold AdOk at this
    unfold I64; omega
  have hs : ∀ n, I64 n → (Instr.lookup 74 (.map (some s)) (.agg #[.string k, .int .i64 n]) false).run Try.prog w = .ok (.int .i64 (sget A k n)) w := fun n hn => by
    have := h1.look k n hk (wf64 hn)
    rw [h2.at] at this; exact this
  obtain ⟨c0, c1, c2, c3⟩ := h1.cells
  have hps := h2.psum h.ok k
  obtain ⟨_, hb⟩ := bk_of_row hr
  rcases hb with ⟨hv, _, hx⟩ | ⟨g, cap, cs, hv, _⟩
  · have hx' : rowL rw k = [] := List.map_eq_nil_iff.1 hx
    rw [hv] at g1
    refine ⟨s, r, none, rowL rw k, 0, c0, c2, c3, by rw [hx']; exact g1, fun j hj => by rw [hx'] at hj; simp at hj, hs, hps, hi, by omega⟩
  · rw [hv] at hr g1
    obtain ⟨_, hc⟩ := row_cells hr
    exact ⟨s, r, some ⟨g, 0, none⟩, rowL rw k, cap, c0, c2, c3, g1, fun j hj => ⟨g, rfl, hc j hj⟩, hs, hps, hi, by omega⟩
set_option maxRecDepth 100000 in
set_option maxHeartbeats 2000000 in
theorem sum_any (p : Nat) (B : List Nat) (wd ad : Int) (A : List Ad) (k : ByteArray) (f t : Int) (w : World) (h : PaneAt w p B wd ad A) (hk : k.size ≤ 100) (hf : I64 f) (ht : I64 t) :
    Calls Try.prog 17 #[.pointer (some ⟨p, 0, none⟩), .string k, .int .i64 f, .int .i64 t] w fun e w' => e = .returned (.int .i64 (psum A k (f / wd) (t / wd))) ∧ w = w' := by
  obtain ⟨s, r, b, l, cap, c0, c2, c3, g1, hcell, hsum, hps, hi64, hlen⟩ := h.sumW k hk
  have a1 := h.a1
  have a2 := h.a2
  have hok := h.ok
  have ho1 := Lib.hid (of_any p wd f w c0 h.w1 hf)
  have ho2 := Lib.hid (of_any p wd t w c0 h.w1 ht)
  have b1 := floor_le f wd h.w1 hf
  have b2 := floor_le t wd h.w1 ht
  have HP := Lib.hid (psum_step A k (f / wd))
  have HN := Lib.hid (psum_nonneg hok k (f / wd))
  have HLe := Lib.hid (psum_le hok k (f / wd))
  have HZ := Lib.hid (fun hi => psum_empty A k (lo := f / wd) (hi := hi))
  have HS := Lib.hid (fun n => sget_nonneg hok k n)
  have HS2 := Lib.hid (fun n => sget_le hok k n)
  have HC := Lib.hid hcell
  have HU := Lib.hid hsum
  have HR := Lib.hid (hps (f / wd))
  have HI := Lib.hid hi64
  clear h hok hcell hsum hps hi64
  generalize f / wd = lo at *
  generalize t / wd = hi at *
  unfold I64 at b1 b2
  have HT := Lib.hid (rowsum_take (sget A k) l lo hi)
  have HB := Lib.hid (rowsum_bound HS.out)
  have HM := Lib.hid (rowsum_mono HS.out l lo hi)
  have HE : Hid (rowsum (sget A k) (l.take 0) lo hi = 0) := Lib.hid rfl
  have HF : Hid (rowsum (sget A k) (l.take l.length) lo hi = psum A k lo hi) := Lib.hid (by rw [List.take_length]; exact (HR.out hi).symm)
  have hle2 : psum A k lo hi ≤ 1099511627776 := by have := HLe.out hi; omega
  generalize hn : l.length = n at *
  clear hn
  go_enter Try.func17, Try.ntmps17
  go_wp2_with fail
  refine ho1.out.mono ?_
  rintro e w1 ⟨rfl, rfl⟩
  go_wp2_with fail
  refine ho2.out.mono ?_
  rintro e w1 ⟨rfl, rfl⟩
  go_wp2_with fail
  · go_loop [11, 12] (fun u i => ∃ j : Int, lo ≤ j ∧ (j ≤ hi ∨ j = lo) ∧ i = .int .i64 j ∧ u = .int .i64 (psum A k lo j)) (fun _ i => (hi - intOf i).toNat)
    case atStart => exact ⟨lo, Int.le_refl _, .inr rfl, rfl, by rw [HZ.out lo (Int.le_refl _)]⟩
    case round =>
      obtain ⟨j, hj1, hj2, rfl, rfl⟩ := hrel
      have n1 := HN.out j
      have n2 := HLe.out j
      have n3 := HS.out j
      have n4 := HS2.out j
      by_cases hlt : j < hi
      · have u1 := HU.out j (by unfold I64; omega)
        go_wp2_with fail
        go_round
        case rel => exact ⟨j + 1, by omega, by omega, by go_num, by rw [HP.out j hj1]⟩
        case measure => simp [intOf]; omega
      · go_wp2_with fail
        go_ret
        refine ⟨?_, rfl⟩
        rcases hj2 with h | rfl
        · obtain rfl : j = hi := by omega
          rfl
        · exact ret_int' ((HZ.out j (Int.le_refl _)).trans (HZ.out hi (by omega)).symm)
  all_goals
    go_loop [11, 60] (fun u i => ∃ j : Nat, j ≤ n ∧ i = .int .i64 j ∧ u = .int .i64 (rowsum (sget A k) (l.take j) lo hi)) (fun _ i => n - (intOf i).toNat)
    case atStart => exact ⟨0, Nat.zero_le _, rfl, by rw [HE.out]⟩
    case round =>
      obtain ⟨j, hj, rfl, rfl⟩ := hrel
      have n1 := HB.out (l.take j) lo hi
      have n2 := HM.out j
      by_cases hlt : j < n
      · obtain ⟨g, rfl, hcc⟩ := HC.out j hlt
        have i1 := HI.out j hlt
        have u1 := HU.out (l.getD j 0) i1
        have t1 := Lib.hid (HT.out j hlt)
        have n3 := HS.out (l.getD j 0)
        have n4 := HS2.out (l.getD j 0)
        unfold I64 at i1
        rw [HR.out hi] at hle2
        generalize l.getD j 0 = m at *
        have hj0 : (0 : Int) ≤ (j : Int) := by omega
        have hj1 : (j : Int) < (n : Int) := by omega
        go_wp2_with fail
        all_goals
          go_round
          case rel => exact ⟨j + 1, by omega, by go_num, by rw [t1.out]; first | rw [if_pos ⟨‹_›, ‹_›⟩] | (rw [if_neg (by omega)]; go_num)⟩
          case measure => simp [intOf]; omega
      · obtain rfl : j = n := by omega
        go_wp2_with fail
        go_ret
        exact ⟨ret_int' HF.out, rfl⟩
end Go.Proofs.Ytbmjddmejmeknaa.Pn

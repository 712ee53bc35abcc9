/- Contract of the document's Merge (chapter 12). -/
import Derived.Test.YtcnddbcdkpdkbaaEDOf
import Derived.Test.YtcnddbcdkpdkbaaESMerge
namespace Go.Proofs.Ytcnddbcdkpdkbaa
open Go.RowKit Go.MapKept Go.Maps Go.ChangeShapes Go.WideShapes
set_option linter.unusedVariables false
set_option linter.unusedSimpArgs false
section
variable {w0 w : World} {os : List Ob12} {i j p q : Nat} {gap : Int} {L M : List Tri}
theorem doc_row {C : List Nat} (h : DocAt w q C gap M) : ∃ (vb : Option Addr) (vc : Nat), w.cell? ⟨q, 0, none⟩ = some (.int .i64 gap) ∧ w.cell? ⟨q, 1, none⟩ = some (.slice vb M.length vc) ∧ InW w vb 3 (M.map aC) := by
  obtain ⟨v, hd, hrow, -, -⟩ := h.ex
  obtain ⟨vb, vc, rfl, _, _, hin, _⟩ := inw_of_rowm aLen (by omega) hrow
  exact ⟨vb, vc, hd.cell 0, hd.cell 1, hin⟩
set_option maxRecDepth 20000 in
set_option maxHeartbeats 1000000 in
theorem h_dmerge_no {gap2 : Int} (h : Here K12 w0 w os) (hi : os[i]? = some (.doc p gap L)) (hj : os[j]? = some (.doc q gap2 M)) (hg : gap2 ≠ gap) :
    Calls Try.prog 29 #[.pointer (some ⟨p, 0, none⟩), .pointer (some ⟨q, 0, none⟩)] w fun e w' => e = .returned (.bool false) ∧ Here K12 w0 w' os := by
  obtain ⟨B, h1⟩ := h_doc h hi
  obtain ⟨C, h2⟩ := h_doc h hj
  obtain ⟨b1, v1, c1, -⟩ := doc_row h1
  obtain ⟨b2, v2, c2, -⟩ := doc_row h2
  have u1 : (gap == gap2) = false := by simp; exact fun e => hg e.symm
  have u2 : (gap != gap2) = true := by simp [bne, u1]
  have H := Lib.hid h
  clear h h1 h2 hi hj hg
  go_enter Try.func29, Try.ntmps29
  go_wp2_with fail
  go_quiet (fail)
  go_wp2_with fail
  go_ret
  exact ⟨rfl, H.out.drewN nq⟩
set_option maxRecDepth 20000 in
set_option maxHeartbeats 1000000 in
theorem h_dmerge (h : Here K12 w0 w os) (hi : os[i]? = some (.doc p gap L)) (hj : os[j]? = some (.doc q gap M)) (hij : j ≠ i) (hlen : L.length + M.length + 1 ≤ 100000) :
    Calls Try.prog 29 #[.pointer (some ⟨p, 0, none⟩), .pointer (some ⟨q, 0, none⟩)] w fun e w' => e = .returned (.bool true) ∧ Here K12 w0 w' (os.set i (.doc p gap (addsT L M))) := by
  obtain ⟨B, h1⟩ := h_doc h hi
  obtain ⟨C, h2⟩ := h_doc h hj
  obtain ⟨b1, v1, c1, -⟩ := doc_row h1
  obtain ⟨b2, v2, c2, -⟩ := doc_row h2
  have u2 : (gap != gap) = false := by simp
  have H := Lib.hid h
  have hset : os.set i (.doc p gap (addsT L (M.take 0))) = os := by
    have : addsT L (M.take 0) = L := rfl
    rw [this]
    exact List.ext_getElem? (fun k => by
      rw [List.getElem?_set]
      split
      · rename_i e; subst e
        split
        · exact hi.symm
        · rename_i hh; rw [List.getElem?_eq_none (by omega)]
      · rfl)
  have HST := Lib.hid hset
  have HIJ := Lib.hid hij
  have HI := Lib.hid hi
  have HJ := Lib.hid hj
  have hil : i < os.length := (List.getElem?_eq_some_iff.1 hi).1
  have HIL := Lib.hid hil
  have HMO := Lib.hid h2.ok
  obtain ⟨n, hn⟩ : ∃ n, M.length = n := ⟨_, rfl⟩
  have HN := Lib.hid hn
  rw [hn] at hlen
  clear h h1 h2 hi hj hset hij hn hil c2
  obtain ⟨b2, v2, c2, -⟩ : ∃ (vb : Option Addr) (vc : Nat), w.cell? ⟨q, 0, none⟩ = some (.int .i64 gap) ∧ True := by
    obtain ⟨C, h2⟩ := h_doc H.out HJ.out
    obtain ⟨b2, v2, c2, -⟩ := doc_row h2
    exact ⟨b2, v2, c2, trivial⟩
  go_enter Try.func29, Try.ntmps29
  go_wp2_with fail
  go_quiet (fail)
  have H1 : Hid (Here K12 w0 (w.drewN nq) (os.set i (.doc p gap (addsT L (M.take 0))))) := Lib.hid (by rw [HST.out]; exact H.out.drewN nq)
  clear H c1 c2 u2 HST
  generalize w.drewN nq = V at *
  go_wp2_with fail
  go_loopw [5] (fun c wr => ∃ k : Nat, k ≤ n ∧ c = .int .i64 k ∧ Hid (Here K12 w0 wr (os.set i (.doc p gap (addsT L (M.take k)))))) (fun c _ => n - (intOf c).toNat)
  case atStart => exact ⟨0, Nat.zero_le _, rfl, H1⟩
  case round =>
    clear H1
    obtain ⟨k, hk, rfl, HH⟩ := hrel
    have hjj : (os.set i (.doc p gap (addsT L (M.take k))))[j]? = some (.doc q gap M) := by rw [List.getElem?_set_ne (fun e => HIJ.out e.symm)]; exact HJ.out
    obtain ⟨C, h2⟩ := h_doc HH.out hjj
    obtain ⟨vb, vc, c2, c3, hin⟩ := doc_row h2
    rw [HN.out] at c3
    clear h2 hjj c2
    by_cases hlt : k < n
    · obtain ⟨a, ha⟩ : ∃ a, M[k]? = some a := ⟨M[k]'(by rw [HN.out]; exact hlt), List.getElem?_eq_getElem _⟩
      obtain ⟨Bz, off, rfl, hBz, d0, d1, d2⟩ := aAt hin ha
      have hk0 : (0 : Int) ≤ (k : Int) := by omega
      have hk1 : (k : Int) < (n : Int) := by omega
      have hmo := HMO.out.ok a (List.mem_of_getElem? ha)
      have HT : Hid (addsT L (M.take (k + 1)) = addT (addsT L (M.take k)) a) := Lib.hid (by rw [List.take_add_one, ha]; exact addsT_snoc _ _ _)
      have CC := Lib.hid (h_dadd HH.out (i := i) (List.getElem?_set_self HIL.out) a (ok_aOk hmo) (by have := adds_len (M.take k) L; rw [List.length_take, HN.out] at this; omega))
      clear ha hin hmo
      go_wp2_with fail
      refine CC.out.mono ?_
      rintro e w5 ⟨rfl, h5⟩
      rw [List.set_set, ← HT.out] at h5
      have H5 := Lib.hid h5
      clear h5 CC
      go_wp2_with fail
      go_roundw
      case rel => exact ⟨k + 1, by omega, by go_num, H5⟩
      case measure => simp [intOf]; omega
    · obtain rfl : k = n := by omega
      have htk : M.take k = M := List.take_of_length_le (by rw [HN.out]; exact Nat.le_refl _)
      rw [htk] at HH
      clear hin htk
      go_wp2_with fail
      go_ret
      exact ⟨rfl, HH.out⟩
end
end Go.Proofs.Ytcnddbcdkpdkbaa

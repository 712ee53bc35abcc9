/- Contracts of Of and Remove. -/
import Derived.Test.YtbmjddmejmeknaaQDoc
namespace Go.Proofs.Ytbmjddmejmeknaa.Pr
open Go.RowKit Go.MapKept Go.Maps Go.ChangeShapes Go.WideShapes Go.Shelf Go.Sort
set_option linter.unusedVariables false
set_option linter.unusedSimpArgs false
def cntF (l : List Sv) : CF := l.foldl (fun C x => bumpAll C x.its 1) zC
theorem cntF_snoc (l : List Sv) (x : Sv) : cntF (l ++ [x]) = bumpAll (cntF l) x.its 1 := by unfold cntF; rw [List.foldl_append]; rfl
theorem cntF_take {l : List Sv} {k : Nat} {x : Sv} (h : l[k]? = some x) : cntF (l.take (k + 1)) = bumpAll (cntF (l.take k)) x.its 1 := by rw [List.take_add_one, h, Option.toList_some, cntF_snoc]
theorem bumpAll_is (C : CF) (x : Sv) (n : Int) (a b : ByteArray) : bumpAll C x.its n a b = C a b + if hasB x a b then n else 0 := by
  unfold bumpAll hasB
  by_cases h : a ∈ x.its ∧ b ∈ x.its
  · rw [if_pos h, if_pos (by rw [Bool.and_eq_true]; exact ⟨(memB_iff _ _).2 h.1, (memB_iff _ _).2 h.2⟩)]
  · rw [if_neg h, if_neg (fun c => h (by rw [Bool.and_eq_true] at c; exact ⟨(memB_iff _ _).1 c.1, (memB_iff _ _).1 c.2⟩))]; omega
theorem cntF_foldl (a b : ByteArray) : ∀ (l : List Sv) (C : CF), (l.foldl (fun C x => bumpAll C x.its 1) C) a b = C a b + (cntB l a b : Nat)
  | [], C => by simp [cntB]
  | x :: l, C => by
    rw [List.foldl_cons, cntF_foldl a b l, bumpAll_is]
    unfold cntB
    rw [List.countP_cons]
    by_cases h : hasB x a b
    · simp [h]; omega
    · simp [h]
theorem cntF_is (l : List Sv) (a b : ByteArray) : cntF l a b = (cntB l a b : Nat) := by
  unfold cntF
  rw [cntF_foldl]
  unfold zC; omega
theorem cntF_small {l : List Sv} (h : l.length ≤ 1000) : Small (cntF l) := fun a b => by
  rw [cntF_is]
  have := cntB_le l a b
  omega
theorem sv_info : (Try.prog.info? 31).map (fun i => (i.zero, i.size, i.bytes)) = some (some (.agg #[.string ⟨#[]⟩, .int .i64 0, .int .i64 0, .slice none 0 0]), 4, 56) := by kernel_rfl
section
variable {w0 w : World} {os : List Ob17} {i j k p t : Nat} {C : CF}
set_option maxRecDepth 20000 in
set_option maxHeartbeats 4000000 in
/-- Of -/
theorem of_any (b : Option Addr) (cap : Nat) (l : List Sv) (w : World) (h : SvIn w b l) (hl : Light l) (hc : cap ≤ maxLen) (hlc : l.length ≤ cap) :
    Calls Try.prog 10 #[.slice b l.length cap] w fun e w' => ∃ p t, e = .returned (.pointer (some ⟨p, 0, none⟩)) ∧ Here K17 w w' [.tab t (cntF l), .box p [.pointer (some ⟨t, 0, none⟩), .bool false] 69] := by
  have H := Lib.hid h
  have HL := Lib.hid hl
  have hl1 := hl.1
  have HN0 := Lib.hid (q_new (Here.nil (K := K17) (Below.refl w.heap.size w)))
  unfold maxLen at hc
  generalize hn : l.length = n at *
  have HN := Lib.hid hn
  clear h hl hn
  go_enter Try.func10, Try.ntmps10
  go_wp2_with fail
  refine HN0.out.mono ?_
  rintro e w1 ⟨p, t, rfl, h1⟩
  have H1 : Hid (Here K17 w w1 [.tab t (cntF (l.take 0)), .box p [.pointer (some ⟨t, 0, none⟩), .bool false] 69]) := Lib.hid h1
  clear h1 HN0
  go_wp2_with fail
  go_loopw [9] (fun c wr => ∃ k : Nat, k ≤ n ∧ c = .int .i64 k ∧ Hid (Here K17 w wr [.tab t (cntF (l.take k)), .box p [.pointer (some ⟨t, 0, none⟩), .bool false] 69])) (fun c _ => n - (intOf c).toNat)
  case atStart => exact ⟨0, by omega, rfl, H1⟩
  case round =>
    obtain ⟨k, hk, rfl, HR⟩ := hrel
    clear H1
    by_cases hlt : k < n
    · obtain ⟨x, hx⟩ : ∃ x, l[k]? = some x := ⟨l[k]'(by have := HN.out; omega), List.getElem?_eq_getElem _⟩
      have hS := H.out.bel HR.out.bel
      obtain ⟨B, off, rfl, hB, d0, d1, d2, d3⟩ := svAt hS hx
      have hxm := List.mem_of_getElem? hx
      have HO := Lib.hid (hS.o x hxm)
      have HX := Lib.hid (cntF_take hx)
      have hil := HL.out.2 x hxm
      have hk0 : (0 : Int) ≤ (k : Int) := by omega
      have hk1 : (k : Int) < (n : Int) := by omega
      have hsm : Small (cntF (l.take k)) := cntF_small (by rw [List.length_take]; omega)
      have hbw : Below wr.heap.size wr (wr.alloc (.cells #[.string x.p, .int .i64 x.f, .int .i64 x.t, .slice x.ib x.its.length x.ic] 31)) := (Below.refl _ _).alloc (Nat.le_refl _) _
      have HA := Lib.hid (q_add_no (i := 1) (j := 0) (HR.out.step_bel hbw) rfl rfl hsm x (HO.out.bel hbw).st HO.out.sz (by omega))
      clear hx hxm hS hsm hil hB hbw
      go_wp2_with fail
      refine HA.out.mono ?_
      rintro e w2 ⟨rfl, h2⟩
      have HR2 : Hid (Here K17 w w2 [.tab t (cntF (l.take (k + 1))), .box p [.pointer (some ⟨t, 0, none⟩), .bool false] 69]) := Lib.hid (by rw [HX.out]; exact h2)
      clear h2 HA HR HX d0 d1 d2 d3
      go_wp2_with fail
      go_roundw
      case rel => exact ⟨k + 1, by omega, by go_num, HR2⟩
      case measure => simp [intOf]; omega
    · have HE : Hid (Here K17 w wr [.tab t (cntF l), .box p [.pointer (some ⟨t, 0, none⟩), .bool false] 69]) := Lib.hid (by
        have h := HR.out
        rw [List.take_of_length_le (by have := HN.out; omega)] at h
        exact h)
      clear HR
      go_wp2_with fail
      go_ret
      exact ⟨p, t, rfl, HE.out⟩
end
end Go.Proofs.Ytbmjddmejmeknaa.Pr
